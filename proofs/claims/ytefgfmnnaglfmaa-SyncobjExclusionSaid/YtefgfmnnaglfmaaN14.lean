/- The walk of SyncobjExclusion. No condition. -/
import Derived.Test.YtefgfmnnaglfmaaN13
namespace Go.Proofs.Ytefgfmnnaglfmaa
open Go.RowKit
theorem two_h1f {w : World} {Kp : Nat → Prop} {L X n m : Nat} {s r : LK} {t : Int} (h : TW w Kp L X n m s r) (hI : SI s) (ht : InI t) : Calls Try.prog 26 #[ptr L, .int .i64 t] w fun e w' => ∃ v E, e = .returned v ∧ HS s t E ∧ QR w' noG v E ∧ (∀ g, v.ownBlock = some g → w.heap.size ≤ g) ∧ Below w.heap.size w w' := by
  obtain ⟨F, D, y, a, b, c, d⟩ := h
  refine (held_any a ht (by have := hI.hl t; omega)).mono ?_
  rintro e w' ⟨v, E, he, hp, hs, hq, hfr, hb⟩
  refine ⟨v, E, he, ⟨?_, fun id => hp.mem_iff⟩, hq, hfr, hb⟩
  have nd : E.Nodup := hp.symm.nodup (hI.hn t)
  exact (hs.and nd).imp fun h => by obtain ⟨h1, h2⟩ := h; omega
/-- Who is marked as an owner: those of the threads below t, and the first k of E. -/
def OWN (s : LK) (t : Int) (E : List Int) (k : Nat) (f : Nat → Int) : Prop := ∀ j, j < 8 → 0 < f j → (∃ x, s.o (j : Int) = some x ∧ x.ow < t) ∨ ∃ q, q < k ∧ E.getD q 0 = (j : Int)
theorem getD_mem {E : List Int} {k : Nat} (hk : k < E.length) : E.getD k 0 ∈ E := by
  rw [List.getD_eq_getElem?_getD, List.getElem?_eq_getElem hk]
  exact List.getElem_mem hk
theorem OWN.free {s : LK} {t : Int} {E : List Int} {k en : Nat} {f : Nat → Int} (h : OWN s t E k f) (hE : HS s t E) (hI : SI s) (hk : k < E.length) (he : E.getD k 0 = (en : Int)) (h8 : en < 8) : ¬ 0 < f en := by
  intro h0
  obtain ⟨x, hx, _, _, hw⟩ := (hI.hd t _).1 ((hE.2 _).1 (getD_mem hk))
  rcases h en h8 h0 with ⟨y, hy, h1⟩ | ⟨q, hq, h1⟩
  · rw [he, hy] at hx
    injection hx with hx
    subst hx
    omega
  · have h2 := List.pairwise_iff_getElem.1 hE.1 q k (by omega) hk hq
    rw [List.getD_eq_getElem?_getD, List.getElem?_eq_getElem (by omega)] at h1
    rw [List.getD_eq_getElem?_getD, List.getElem?_eq_getElem hk] at he
    simp only [Option.getD_some] at h1 he
    omega
theorem OWN.mark {s : LK} {t v : Int} {E : List Int} {k en : Nat} {f : Nat → Int} (h : OWN s t E k f) (he : E.getD k 0 = (en : Int)) : OWN s t E (k + 1) (fun j => if j = en then v else f j) := fun j hj h0 => by
  by_cases e : j = en
  · subst e; exact .inr ⟨k, by omega, he⟩
  · replace h0 : 0 < (if j = en then v else f j) := h0
    rw [if_neg e] at h0
    rcases h j hj h0 with h1 | ⟨q, hq, h1⟩
    · exact .inl h1
    · exact .inr ⟨q, by omega, h1⟩
theorem OWN.next {s : LK} {t : Int} {E : List Int} {f : Nat → Int} (h : OWN s t E E.length f) (hE : HS s t E) (hI : SI s) : OWN s (t + 1) [] 0 f := fun j hj h0 => by
  rcases h j hj h0 with ⟨x, h1, h2⟩ | ⟨q, hq, h1⟩
  · exact .inl ⟨x, h1, by omega⟩
  · obtain ⟨x, hx, _, _, hw⟩ := (hI.hd t _).1 ((hE.2 _).1 (getD_mem hq))
    exact .inl ⟨x, by rw [← h1]; exact hx, by omega⟩
theorem OWN.start {s : LK} {E : List Int} {t : Int} {f : Nat → Int} (h : OWN s t [] 0 f) : OWN s t E 0 f := fun j hj h0 => by
  rcases h j hj h0 with h1 | ⟨q, hq, _⟩
  · exact .inl h1
  · omega
theorem OWN.zero {s : LK} {t : Int} : OWN s t [] 0 (fun _ => 0) := fun _ _ h0 => absurd h0 (Int.lt_irrefl 0)
theorem own_of {s : LK} {t : Int} {E : List Int} (hE : HS s t E) (hI : SI s) {k : Nat} (hk : k < E.length) : ∃ en : Nat, en < 6 ∧ E.getD k 0 = (en : Int) ∧ ownr s (en : Int) = (t, true) := by
  obtain ⟨x, hx, hm, hc, hw⟩ := (hI.hd t _).1 ((hE.2 _).1 (getD_mem hk))
  have h1 := hI.io hx
  obtain ⟨en, he⟩ : ∃ en : Nat, E.getD k 0 = (en : Int) := ⟨(E.getD k 0).toNat, by omega⟩
  refine ⟨en, by omega, he, ?_⟩
  rw [he] at hx
  unfold ownr
  rw [hx]
  show (if x.mx = true ∧ x.ct ≠ 0 then (x.ow, true) else (0, false)) = _
  rw [if_pos ⟨hm, by omega⟩, hw]
set_option maxRecDepth 100000 in
set_option maxHeartbeats 16000000 in
theorem excl_walk (a : Option Addr) (len cap : Nat) (l : List OpR) (w : World) (h : OpS w a len cap l) :
    Calls Try.prog 7 #[.slice a len cap] w fun e w' => e = .returned (.bool true) ∧ Below w.heap.size w w' := by
  have HI := Lib.hid h
  have hlen : len ≤ 9223372036854775807 := by have h1 := h.2.1; have h2 := h.2.2.1; unfold maxLen at h2; omega
  have hlc : len ≤ cap := h.2.1
  clear h
  go_enter Try.func7, Try.ntmps7
  go_wp2_with fail
  refine (start_any w).mono ?_
  rintro e w1 ⟨L, X, rfl, hS1, hb1⟩
  have b2 : Below w1.heap.size w1 (w1.alloc (.cells #[ptr L, ptr X] 49)) := (Below.refl _ _).alloc (Nat.le_refl _) _
  have hr1 : Row (w1.alloc (.cells #[ptr L, ptr X] 49)) w1.heap.size 49 2 (fun j => if j = 0 then ptr L else ptr X) := Row.ofList w1 49 #[ptr L, ptr X] (fun j => if j = 0 then ptr L else ptr X) 2 rfl
  have HS0 : Hid (∃ s, SI s ∧ SQ (fun k => k < w.heap.size) w1.heap.size L X 40 s (w1.alloc (.cells #[ptr L, ptr X] 49))) := by
    obtain ⟨s, hI, ht⟩ := hS1
    exact ⟨s, hI, hr1.cell (i := 0) (by omega), hr1.cell (i := 1) (by omega), ht.adopt b2 (G := fun j => j = w1.heap.size) (fun j hj => by rw [hj]; simp)⟩
  have HB0 : Hid (Below w.heap.size w (w1.alloc (.cells #[ptr L, ptr X] 49))) := hb1.trans (b2.mono hb1.size)
  clear hr1 b2 hS1 hb1
  go_upto_region 2 with fail
  obtain ⟨H, hH⟩ : ∃ H, w1.heap.size = H := ⟨_, rfl⟩
  simp only [hH]
  rw [hH] at HS0
  clear hH
  generalize w1.alloc (.cells #[ptr L, ptr X] 49) = w2 at *
  obtain ⟨s, hI, hsq⟩ := HS0.out
  have HI0 := Lib.hid hI
  have c0 := hsq.1
  clear HS0
  go_wp2_with fail
  refine (awake_any w2).mono ?_
  rintro e w4 ⟨rfl, b4⟩
  have c0 := (hsq.below b4).1
  have HS : Hid (∃ s, SI s ∧ SQ (fun k => k < w.heap.size) H L X (40 + 8 * 0) s w4) := ⟨s, hI, hsq.below b4⟩
  have HB2 := Lib.hid (HB0.out.trans (b4.mono HB0.out.size))
  clear hI hsq HB0 HI0 b4
  go_wp2_with fail
  go_loopw [4, 5] (fun v z wr => ∃ (i : Nat) (now : Int), i ≤ len ∧ i ≤ 60 ∧ 0 ≤ now ∧ now ≤ 3 * (i : Int) ∧ v = .int .u64 now ∧ z = .int .i64 (i : Int) ∧ Hid (∃ s, SI s ∧ SQ (fun k => k < w.heap.size) H L X (40 + 8 * i) s wr) ∧ Hid (Below w.heap.size w wr)) (fun _ z _ => len - (intOf z).toNat)
  case atStart => exact ⟨0, 0, by omega, by omega, by omega, by omega, rfl, rfl, HS, HB2⟩
  case round =>
    clear HS HB2
    obtain ⟨i, now, hil, hi90, hn0, hn1, rfl, rfl, HS, HB⟩ := hrel
    by_cases hcont : i < len ∧ i < 60
    · have y0 : (i : Int) < len := by omega
      have y1 : (i : Int) < 60 := by omega
      obtain ⟨b, o, c, rfl, hbw, hx, hmem, hwf, hrg⟩ := HI.out.at hcont.1
      obtain ⟨s, hI, hsq⟩ := HS.out
      have HI0 := Lib.hid hI
      have h6 := co_six (range_below hrg HB.out hbw)
      have S0 : Hid (wr.cell? ⟨H, 0, none⟩ = some (ptr L) ∧ wr.cell? ⟨H, 1, none⟩ = some (ptr X) ∧ wr.cell? ⟨b, o + i * 6, none⟩ = some (.int .i64 c.k) ∧ wr.cell? ⟨b, o + i * 6 + 1, none⟩ = some (.int .i64 c.t) ∧ wr.cell? ⟨b, o + i * 6 + 2, none⟩ = some (.int .i64 c.id) ∧ wr.cell? ⟨b, o + i * 6 + 3, none⟩ = some (.int .i64 c.lv) ∧ wr.cell? ⟨b, o + i * 6 + 4, none⟩ = some (.int .u64 c.to) ∧ wr.cell? ⟨b, o + i * 6 + 5, none⟩ = some (.int .u64 c.ps)) := ⟨hsq.1, hsq.2.1, h6⟩
      have HT : Hid (TW wr.drew (fun j => j < w.heap.size ∨ j = H) L X (40 + 8 * i) (40 + 8 * i) s s) := hsq.2.2.below ((Below.refl _ _).drew)
      have HB1 : Hid (Below w.heap.size w wr.drew) := HB.out.drew
      have c5 := h6.2.2.2.2.2
      have hto : 0 ≤ c.to ∧ c.to ≤ 18446744073709551615 := hwf.2.2.2.2.1
      have hps : 0 ≤ c.ps ∧ c.ps ≤ 18446744073709551615 := hwf.2.2.2.2.2
      clear hrg hx hmem hwf hsq hI HS HB h6
      have hw : IntKind.u64.wrap (now + c.ps % 4) = now + c.ps % 4 := IntWalk.u64_in _ (by omega)
      obtain ⟨now', hnw⟩ : ∃ z, now + c.ps % 4 = z := ⟨_, rfl⟩
      have hn2 : 0 ≤ now' ∧ now' ≤ 3 * ((i + 1 : Nat) : Int) := by omega
      rw [hnw] at hw
      go_upto_region 9 with fail
      have SX : Hid (wr.drew.cell? ⟨H, 0, none⟩ = some (ptr L) ∧ wr.drew.cell? ⟨H, 1, none⟩ = some (ptr X) ∧ wr.drew.cell? ⟨b, o + i * 6, none⟩ = some (.int .i64 c.k) ∧ wr.drew.cell? ⟨b, o + i * 6 + 1, none⟩ = some (.int .i64 c.t) ∧ wr.drew.cell? ⟨b, o + i * 6 + 2, none⟩ = some (.int .i64 c.id) ∧ wr.drew.cell? ⟨b, o + i * 6 + 3, none⟩ = some (.int .i64 c.lv) ∧ wr.drew.cell? ⟨b, o + i * 6 + 4, none⟩ = some (.int .u64 c.to) ∧ wr.drew.cell? ⟨b, o + i * 6 + 5, none⟩ = some (.int .u64 c.ps)) := S0.out
      clear c5 hw hnw hps S0
      refine wp_region_pl (fun Y => Y.cell? ⟨H, 0, none⟩ = some (ptr L) ∧ Y.cell? ⟨H, 1, none⟩ = some (ptr X) ∧ Y.cell? ⟨b, o + i * 6, none⟩ = some (.int .i64 c.k) ∧ Y.cell? ⟨b, o + i * 6 + 1, none⟩ = some (.int .i64 c.t) ∧ Y.cell? ⟨b, o + i * 6 + 2, none⟩ = some (.int .i64 c.id) ∧ Y.cell? ⟨b, o + i * 6 + 3, none⟩ = some (.int .i64 c.lv) ∧ Y.cell? ⟨b, o + i * 6 + 4, none⟩ = some (.int .u64 c.to) ∧ Y.cell? ⟨b, o + i * 6 + 5, none⟩ = some (.int .u64 c.ps)) ((0, 0) :: (1, 0) :: (2, 0) :: (3, 0) :: (4, 0) :: (5, 0) :: (6, 1) :: []) (by kernel_rfl) (by kernel_rfl) ?_
      generalize wr.drew = w5 at *
      iterate 6 (apply wpP_go; (focus rfl); (focus rfl); (focus exact SX.out); (focus (rintro Q ⟨s0, s1, s2, s3, s4, s5, s6, s7⟩; go_simp; exact rfl)); intro K hK; go_simp; refine hK _ ?_; clear hK K)
      apply wpP_one
      focus rfl
      intro K hK
      go_simp
      refine (apply_any HT.out HI0.out (by omega) (now := now') (by omega) hto).mono ?_
      rintro e w6 ⟨rfl, s6, hI6, ht6, k6⟩
      have SX1 : Hid (w6.cell? ⟨H, 0, none⟩ = some (ptr L) ∧ w6.cell? ⟨H, 1, none⟩ = some (ptr X) ∧ w6.cell? ⟨b, o + i * 6, none⟩ = some (.int .i64 c.k) ∧ w6.cell? ⟨b, o + i * 6 + 1, none⟩ = some (.int .i64 c.t) ∧ w6.cell? ⟨b, o + i * 6 + 2, none⟩ = some (.int .i64 c.id) ∧ w6.cell? ⟨b, o + i * 6 + 3, none⟩ = some (.int .i64 c.lv) ∧ w6.cell? ⟨b, o + i * 6 + 4, none⟩ = some (.int .u64 c.to) ∧ w6.cell? ⟨b, o + i * 6 + 5, none⟩ = some (.int .u64 c.ps)) := ⟨(k6.cell ⟨H, 0, none⟩ (TW.kp HT.out (.inr rfl)) (.inr rfl)).trans SX.out.1, (k6.cell ⟨H, 1, none⟩ (TW.kp HT.out (.inr rfl)) (.inr rfl)).trans SX.out.2.1, (k6.cell ⟨b, o + i * 6, none⟩ (TW.kp HT.out (.inl hbw)) (.inl hbw)).trans SX.out.2.2.1, (k6.cell ⟨b, o + i * 6 + 1, none⟩ (TW.kp HT.out (.inl hbw)) (.inl hbw)).trans SX.out.2.2.2.1, (k6.cell ⟨b, o + i * 6 + 2, none⟩ (TW.kp HT.out (.inl hbw)) (.inl hbw)).trans SX.out.2.2.2.2.1, (k6.cell ⟨b, o + i * 6 + 3, none⟩ (TW.kp HT.out (.inl hbw)) (.inl hbw)).trans SX.out.2.2.2.2.2.1, (k6.cell ⟨b, o + i * 6 + 4, none⟩ (TW.kp HT.out (.inl hbw)) (.inl hbw)).trans SX.out.2.2.2.2.2.2.1, (k6.cell ⟨b, o + i * 6 + 5, none⟩ (TW.kp HT.out (.inl hbw)) (.inl hbw)).trans SX.out.2.2.2.2.2.2.2⟩
      have HI6 := Lib.hid hI6
      have b6 : Below w.heap.size w w6 := HB1.out.trans (Ch.below k6 HB1.out.size (fun j hj => by
        rcases Nat.lt_or_ge j w.heap.size with h9 | h9
        · exact absurd (.inl h9) hj
        · exact h9))
      refine hK _ _ SX1.out ?_
      clear hK K
      refine wpP_done ?_
      have hHw : H < w6.heap.size := ht6.kp (.inr rfl)
      have ba : Below w6.heap.size w6 (w6.alloc (.cells #[.int .i64 0, .int .i64 0, .int .i64 0, .int .i64 0, .int .i64 0, .int .i64 0, .int .i64 0, .int .i64 0] 52)) := (Below.refl _ _).alloc (Nat.le_refl _) _
      have HQ : Hid (SQ (fun j => j < w.heap.size ∨ j = w6.heap.size) H L X (40 + 8 * i + 8) s6 (w6.alloc (.cells #[.int .i64 0, .int .i64 0, .int .i64 0, .int .i64 0, .int .i64 0, .int .i64 0, .int .i64 0, .int .i64 0] 52))) := ⟨cell_later ba SX1.out.1, cell_later ba SX1.out.2.1, (ht6.adopt ba (G := fun j => j = w6.heap.size) (fun j hj => by rw [hj]; simp)).less (fun j hj => by
        rcases hj with (hj | hj) | hj
        · exact .inl (.inl hj)
        · exact .inr hj
        · exact .inl (.inr hj))⟩
      have HR : Hid (∃ f, Row (w6.alloc (.cells #[.int .i64 0, .int .i64 0, .int .i64 0, .int .i64 0, .int .i64 0, .int .i64 0, .int .i64 0, .int .i64 0] 52)) w6.heap.size 52 8 (fun j => .int .i64 (f j)) ∧ OWN s6 ((0 : Nat) : Int) [] 0 f) := ⟨fun _ => 0, Row.ofList w6 52 #[.int .i64 0, .int .i64 0, .int .i64 0, .int .i64 0, .int .i64 0, .int .i64 0, .int .i64 0, .int .i64 0] _ 8 rfl, OWN.zero⟩
      have HB6 : Hid (Below w.heap.size w (w6.alloc (.cells #[.int .i64 0, .int .i64 0, .int .i64 0, .int .i64 0, .int .i64 0, .int .i64 0, .int .i64 0, .int .i64 0] 52))) := b6.trans (ba.mono b6.size)
      have HHO : Hid (H ≠ w6.heap.size ∧ w.heap.size ≤ w6.heap.size) := ⟨by omega, b6.size⟩
      clear ba ht6 k6 hI6 SX SX1 HT HB1 HI0 b6 hHw
      go_upto_region 11 with fail
      obtain ⟨OB, hOB⟩ : ∃ OB, w6.heap.size = OB := ⟨_, rfl⟩
      simp only [hOB]
      rw [hOB] at HQ HR HHO
      clear hOB
      generalize w6.alloc (.cells #[.int .i64 0, .int .i64 0, .int .i64 0, .int .i64 0, .int .i64 0, .int .i64 0, .int .i64 0, .int .i64 0] 52) = w8 at *
      go_wp2_with fail
      go_loopw [7] (fun z wt => ∃ t : Nat, t ≤ 4 ∧ z = .int .i64 (t : Int) ∧ Hid (SQ (fun j => j < w.heap.size ∨ j = OB) H L X (40 + 8 * i + 8) s6 wt) ∧ Hid (∃ f, Row wt OB 52 8 (fun j => .int .i64 (f j)) ∧ OWN s6 (t : Int) [] 0 f) ∧ Hid (Below w.heap.size w wt)) (fun z _ => 4 - (intOf z).toNat)
      case atStart => exact ⟨0, by omega, rfl, HQ, HR, HB6⟩
      case round =>
        clear HQ HR HB6
        obtain ⟨t, ht4, rfl, HQ, HR, HB⟩ := hrel
        by_cases ht : t < 4
        · have y2 : (t : Int) < 4 := by omega
          have hwt : IntKind.i64.wrap ((t : Int) + 1) = (t : Int) + 1 := IntWalk.i64_in _ (by omega)
          have c0 := HQ.out.1
          go_wp2_with fail
          refine (two_h1f HQ.out.2.2 HI6.out ⟨by omega, by omega⟩).mono ?_
          rintro e w9 ⟨v, E, rfl, hE, hq, hfr, b9⟩
          obtain ⟨a9, cp, rfl, hcp, hx⟩ := hq.form
          have hEl := hE.len HI6.out
          have hOBl : OB < wr.heap.size := HQ.out.2.2.kp (.inl (.inr rfl))
          have HX : Hid (∀ j, j < E.length → ∃ g, a9 = some ⟨g, 0, none⟩ ∧ g ≠ OB ∧ g < w9.heap.size ∧ w9.cell? ⟨g, j, none⟩ = some (.int .i64 (E.getD j 0))) := fun j hj => by
            obtain ⟨g, e1, e2, e3⟩ := hx j hj
            refine ⟨g, e1, fun e => ?_, e2, e3⟩
            have := hfr g (by rw [e1]; rfl)
            omega
          have HE := Lib.hid hE
          have HQ9 := Lib.hid (HQ.out.below b9)
          have HR9 : Hid (∃ f, Row w9 OB 52 8 (fun j => .int .i64 (f j)) ∧ OWN s6 (t : Int) E 0 f) := by
            obtain ⟨f, h1, h2⟩ := HR.out
            exact ⟨f, h1.below b9 hOBl, h2.start⟩
          have HB9 := Lib.hid (HB.out.trans (b9.mono HB.out.size))
          have HC9 : Hid (Ch (fun j => j = OB) w9 w9) := Ch.refl _ _
          clear hE hq hfr hx b9 hOBl HQ HR HB c0
          obtain ⟨m, hm⟩ : ∃ m, E.length = m := ⟨_, rfl⟩
          have HM := Lib.hid hm
          rw [hm] at hEl hcp HX ⊢
          clear hm
          go_wp2_with fail
          go_loopw [9] (fun z wk => ∃ k : Nat, k ≤ m ∧ z = .int .i64 (k : Int) ∧ Hid (∃ f, Row wk OB 52 8 (fun j => .int .i64 (f j)) ∧ OWN s6 (t : Int) E k f) ∧ Hid (Ch (fun j => j = OB) w9 wk)) (fun z _ => m - (intOf z).toNat)
          case atStart => exact ⟨0, by omega, rfl, HR9, HC9⟩
          case round =>
            clear HR9 HC9
            obtain ⟨k, hkm, rfl, HR, HC⟩ := hrel
            by_cases hk : k < m
            · have y3 : (k : Int) < m := by omega
              obtain ⟨g, rfl, hgO, hgl, hgc⟩ := HX.out k hk
              obtain ⟨en, he6, hee, how⟩ := own_of HE.out HI6.out (k := k) (by rw [HM.out]; exact hk)
              have HEE := Lib.hid hee
              obtain ⟨f, hrow, hown⟩ := HR.out
              have hfree := hown.free HE.out HI6.out (by rw [HM.out]; exact hk) hee (by omega)
              have HRW := Lib.hid hrow
              have HOW := Lib.hid hown
              rw [hee] at hgc
              have hcg : wr.cell? ⟨g, k, none⟩ = some (.int .i64 (en : Int)) := (HC.out.cell ⟨g, k, none⟩ hgl hgO).trans hgc
              have hcH : wr.cell? ⟨H, 0, none⟩ = some (ptr L) := (HC.out.cell ⟨H, 0, none⟩ (HQ9.out.2.2.kp (.inr rfl)) HHO.out.1).trans HQ9.out.1
              have htw : TW wr (fun j => (j < w.heap.size ∨ j = OB) ∨ j = H) L X (40 + 8 * i + 8) (40 + 8 * i + 8) s6 s6 := HQ9.out.2.2.own (HC.out.mono (fun j hj _ => .inl (.inr hj)))
              have SZ : Hid (wr.drew.cell? ⟨H, 0, none⟩ = some (ptr L) ∧ wr.drew.cell? ⟨g, k, none⟩ = some (.int .i64 (en : Int)) ∧ TW wr.drew (fun j => (j < w.heap.size ∨ j = OB) ∨ j = H) L X (40 + 8 * i + 8) (40 + 8 * i + 8) s6 s6) := ⟨hcH, hcg, htw.below ((Below.refl _ _).drew)⟩
              have hOw1 : (ownr s6 (en : Int)).1 = (t : Int) := by rw [how]
              have hOw2 : (ownr s6 (en : Int)).2 = true := by rw [how]
              have HO1 := Lib.hid hOw1
              have HO2 := Lib.hid hOw2
              have hien : InI (en : Int) := ⟨by omega, by omega⟩
              have HRW1 : Hid (Row wr.drew OB 52 8 (fun j => .int .i64 (f j))) := hrow.drew
              have HC1 : Hid (Ch (fun j => j = OB) w9 wr.drew) := HC.out.drew
              clear hrow hown hgc hcg hcH htw how hOw1 hOw2 hee HR HC HRW
              go_upto_region 18 with fail
              refine wp_region_pl (fun Y => Y.cell? ⟨H, 0, none⟩ = some (ptr L) ∧ Y.cell? ⟨g, k, none⟩ = some (.int .i64 (en : Int)) ∧ TW Y (fun j => (j < w.heap.size ∨ j = OB) ∨ j = H) L X (40 + 8 * i + 8) (40 + 8 * i + 8) s6 s6) ((0, 0) :: (1, 0) :: (2, 0) :: (3, 0) :: (4, 0) :: (5, 0) :: (6, 0) :: (7, 0) :: (8, 0) :: (9, 0) :: (10, 0) :: (11, 0) :: []) (by kernel_rfl) (by kernel_rfl) ?_
              generalize wr.drew = V at *
              iterate 6 (apply wpP_go; (focus rfl); (focus rfl); (focus exact SZ.out); (focus (rintro Q ⟨s0, s1, s2⟩; go_simp; exact rfl)); intro K hK; go_simp; refine hK _ ?_; clear hK K)
              apply wpP_call
              focus rfl
              focus rfl
              focus exact SZ.out
              focus (rintro Q ⟨s0, s1, s2⟩; go_simp; exact ⟨rfl, rfl⟩)
              focus (rintro Q hQ; exact two_ow1 hQ.2.2 hien)
              intro K hK
              go_simp
              refine hK _ ?_
              clear hK K
              rw [HO1.out, HO2.out]
              iterate 5 (apply wpP_go; (focus rfl); (focus rfl); (focus exact SZ.out); (focus (rintro Q ⟨s0, s1, s2⟩; go_simp; exact rfl)); intro K hK; go_simp; refine hK _ ?_; clear hK K)
              refine wpP_done ?_
              have cg := SZ.out.2.1
              have cO := HRW1.out.cell (i := en) (by omega)
              have fO := HRW1.out.frozen en
              have z1 : ¬ ((en : Int) < 0) := by omega
              have z2 : ¬ ((7 : Int) < (en : Int)) := by omega
              have z3 : (0 : Int) ≤ (en : Int) := by omega
              have z4 : (en : Int) < 8 := by omega
              have HR2 : Hid (∃ f, Row (V.setCell ⟨OB, en, none⟩ (.int .i64 ((t : Int) + 1))) OB 52 8 (fun j => .int .i64 (f j)) ∧ OWN s6 (t : Int) E (k + 1) f) := ⟨fun j => if j = en then (t : Int) + 1 else f j, (HRW1.out.set (i := en) (by omega) _).congr (fun j hj => by show upd _ en _ j = Value.int .i64 (if j = en then (t : Int) + 1 else f j); unfold upd; split <;> rfl), HOW.out.mark HEE.out⟩
              have HC2 : Hid (Ch (fun j => j = OB) w9 (V.setCell ⟨OB, en, none⟩ (.int .i64 ((t : Int) + 1)))) := HC1.out.setCell (p := ⟨OB, en, none⟩) (fun _ => rfl) _
              clear SZ HRW1 HC1 HOW HEE HO1 HO2
              go_wp2_with fail
              go_roundw
              case rel => exact ⟨k + 1, by omega, by go_num, HR2, HC2⟩
              case measure => simp [intOf]; omega
            · have y3 : ¬ (k : Int) < m := by omega
              have HQ2 : Hid (SQ (fun j => j < w.heap.size ∨ j = OB) H L X (40 + 8 * i + 8) s6 wr) := ⟨(HC.out.cell ⟨H, 0, none⟩ (HQ9.out.2.2.kp (.inr rfl)) HHO.out.1).trans HQ9.out.1, (HC.out.cell ⟨H, 1, none⟩ (HQ9.out.2.2.kp (.inr rfl)) HHO.out.1).trans HQ9.out.2.1, HQ9.out.2.2.own (HC.out.mono (fun j hj _ => .inl (.inr hj)))⟩
              have HR2 : Hid (∃ f, Row wr OB 52 8 (fun j => .int .i64 (f j)) ∧ OWN s6 ((t + 1 : Nat) : Int) [] 0 f) := by
                obtain ⟨f, h1, h2⟩ := HR.out
                rw [show k = E.length by rw [HM.out]; omega] at h2
                exact ⟨f, h1, h2.next HE.out HI6.out⟩
              have HB2 : Hid (Below w.heap.size w wr) := HB9.out.trans (Ch.below HC.out HB9.out.size (fun j hj => by rw [hj]; exact HHO.out.2))
              clear HR HC HX HE
              go_wp2_with fail
              go_roundw
              case rel => exact ⟨t + 1, by omega, by go_num, HQ2, HR2, HB2⟩
              case measure => simp [intOf]; omega
        · have y2 : ¬ (t : Int) < 4 := by omega
          have HS2 : Hid (∃ s, SI s ∧ SQ (fun k => k < w.heap.size) H L X (40 + 8 * (i + 1)) s wr) := ⟨s6, HI6.out, HQ.out.1, HQ.out.2.1, HQ.out.2.2.less (fun j hj => by
            rcases hj with hj | hj
            · exact .inl (.inl hj)
            · exact .inr hj)⟩
          clear HQ HR
          go_wp2_with fail
          go_roundw
          case rel => exact ⟨i + 1, now', by omega, by omega, hn2.1, hn2.2, rfl, by go_num, HS2, HB⟩
          case measure => simp [intOf]; omega
    · by_cases hi : i < len
      · have y0 : (i : Int) < len := by omega
        have y1 : ¬ (i : Int) < 60 := by omega
        go_wp2_with fail
        go_ret
        exact ⟨rfl, HB.out⟩
      · have y0 : ¬ (i : Int) < len := by omega
        go_wp2_with fail
        go_ret
        exact ⟨rfl, HB.out⟩
end Go.Proofs.Ytefgfmnnaglfmaa
