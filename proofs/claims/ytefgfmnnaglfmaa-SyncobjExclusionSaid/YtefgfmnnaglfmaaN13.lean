/- The walk of SyncobjMatchesModel. No condition. -/
import Derived.Test.YtefgfmnnaglfmaaN12
import Derived.Test.YtefgfmnnaglfmaaR
namespace Go.Proofs.Ytefgfmnnaglfmaa
open Go.RowKit
theorem co_six {X : World} {b o : Nat} {c : OpR} (h : X.rangeAt b o (co c)) : X.cell? ⟨b, o, none⟩ = some (.int .i64 c.k) ∧ X.cell? ⟨b, o + 1, none⟩ = some (.int .i64 c.t) ∧ X.cell? ⟨b, o + 2, none⟩ = some (.int .i64 c.id) ∧ X.cell? ⟨b, o + 3, none⟩ = some (.int .i64 c.lv) ∧ X.cell? ⟨b, o + 4, none⟩ = some (.int .u64 c.to) ∧ X.cell? ⟨b, o + 5, none⟩ = some (.int .u64 c.ps) :=
  ⟨h 0 _ rfl, h 1 _ rfl, h 2 _ rfl, h 3 _ rfl, h 4 _ rfl, h 5 _ rfl⟩
theorem range_below {X X' : World} {b o N : Nat} {cs : List Value} (h : X.rangeAt b o cs) (hb : Below N X X') (hN : b < N) : X'.rangeAt b o cs := fun j u hu => (hb.cell (p := ⟨b, o + j, none⟩) hN).trans (h j u hu)
set_option maxRecDepth 100000 in
set_option maxHeartbeats 16000000 in
theorem model_walk (a : Option Addr) (len cap : Nat) (l : List OpR) (w : World) (h : OpS w a len cap l) :
    Calls Try.prog 8 #[.slice a len cap] w fun e w' => e = .returned (.bool true) ∧ Below w.heap.size w w' := by
  have HI := Lib.hid h
  have hlen : len ≤ 9223372036854775807 := by have h1 := h.2.1; have h2 := h.2.2.1; unfold maxLen at h2; omega
  have hlc : len ≤ cap := h.2.1
  clear h
  go_enter Try.func8, Try.ntmps8
  go_wp2_with fail
  refine (start_any w).mono ?_
  rintro e w1 ⟨L, X, rfl, hS1, hb1⟩
  have b2 : Below w1.heap.size w1 (w1.alloc (.cells #[ptr L, ptr X] 49)) := (Below.refl _ _).alloc (Nat.le_refl _) _
  have hr1 : Row (w1.alloc (.cells #[ptr L, ptr X] 49)) w1.heap.size 49 2 (fun j => if j = 0 then ptr L else ptr X) := Row.ofList w1 49 #[ptr L, ptr X] (fun j => if j = 0 then ptr L else ptr X) 2 rfl
  have HS0 : Hid (∃ s, SI s ∧ SQ (fun k => k < w.heap.size) w1.heap.size L X 40 s (w1.alloc (.cells #[ptr L, ptr X] 49))) := by
    obtain ⟨s, hI, ht⟩ := hS1
    exact ⟨s, hI, hr1.cell (i := 0) (by omega), hr1.cell (i := 1) (by omega), ht.adopt b2 (G := fun j => j = w1.heap.size) (fun j hj => by rw [hj]; simp)⟩
  have HB0 : Hid (Below w.heap.size w (w1.alloc (.cells #[ptr L, ptr X] 49))) := hb1.trans (b2.mono hb1.size)
  clear hr1 b2 hS1 hb1
  go_upto_region 2 with fail
  obtain ⟨H, hH⟩ : ∃ H, w1.heap.size = H := ⟨_, rfl⟩
  simp only [hH]
  rw [hH] at HS0
  clear hH
  generalize w1.alloc (.cells #[ptr L, ptr X] 49) = w2 at *
  obtain ⟨s, hI, hsq⟩ := HS0.out
  have HI0 := Lib.hid hI
  have c0 := hsq.1
  clear HS0
  go_wp2_with fail
  refine (awake_any w2).mono ?_
  rintro e w4 ⟨rfl, b4⟩
  have c0 := (hsq.below b4).1
  have HS : Hid (∃ s, SI s ∧ SQ (fun k => k < w.heap.size) H L X (40 + 8 * 0) s w4) := ⟨s, hI, hsq.below b4⟩
  have HB2 := Lib.hid (HB0.out.trans (b4.mono HB0.out.size))
  clear hI hsq HB0 HI0 b4
  go_wp2_with fail
  go_loopw [4, 5] (fun v z wr => ∃ (i : Nat) (now : Int), i ≤ len ∧ i ≤ 90 ∧ 0 ≤ now ∧ now ≤ 3 * (i : Int) ∧ v = .int .u64 now ∧ z = .int .i64 (i : Int) ∧ Hid (∃ s, SI s ∧ SQ (fun k => k < w.heap.size) H L X (40 + 8 * i) s wr) ∧ Hid (Below w.heap.size w wr)) (fun _ z _ => len - (intOf z).toNat)
  case atStart => exact ⟨0, 0, by omega, by omega, by omega, by omega, rfl, rfl, HS, HB2⟩
  case round =>
    clear HS HB2
    obtain ⟨i, now, hil, hi90, hn0, hn1, rfl, rfl, HS, HB⟩ := hrel
    by_cases hcont : i < len ∧ i < 90
    · have y0 : (i : Int) < len := by omega
      have y1 : (i : Int) < 90 := by omega
      obtain ⟨b, o, c, rfl, hbw, hx, hmem, hwf, hrg⟩ := HI.out.at hcont.1
      obtain ⟨s, hI, hsq⟩ := HS.out
      have HI0 := Lib.hid hI
      have h6 := co_six (range_below hrg HB.out hbw)
      have S0 : Hid (wr.cell? ⟨H, 0, none⟩ = some (ptr L) ∧ wr.cell? ⟨H, 1, none⟩ = some (ptr X) ∧ wr.cell? ⟨b, o + i * 6, none⟩ = some (.int .i64 c.k) ∧ wr.cell? ⟨b, o + i * 6 + 1, none⟩ = some (.int .i64 c.t) ∧ wr.cell? ⟨b, o + i * 6 + 2, none⟩ = some (.int .i64 c.id) ∧ wr.cell? ⟨b, o + i * 6 + 3, none⟩ = some (.int .i64 c.lv) ∧ wr.cell? ⟨b, o + i * 6 + 4, none⟩ = some (.int .u64 c.to) ∧ wr.cell? ⟨b, o + i * 6 + 5, none⟩ = some (.int .u64 c.ps)) := ⟨hsq.1, hsq.2.1, h6⟩
      have HT : Hid (TW wr.drew (fun j => j < w.heap.size ∨ j = H) L X (40 + 8 * i) (40 + 8 * i) s s) := hsq.2.2.below ((Below.refl _ _).drew)
      have HB1 : Hid (Below w.heap.size w wr.drew) := HB.out.drew
      have c5 := h6.2.2.2.2.2
      have hto : 0 ≤ c.to ∧ c.to ≤ 18446744073709551615 := hwf.2.2.2.2.1
      have hps : 0 ≤ c.ps ∧ c.ps ≤ 18446744073709551615 := hwf.2.2.2.2.2
      clear hrg hx hmem hwf hsq hI HS HB h6
      have hw : IntKind.u64.wrap (now + c.ps % 4) = now + c.ps % 4 := IntWalk.u64_in _ (by omega)
      obtain ⟨now', hnw⟩ : ∃ z, now + c.ps % 4 = z := ⟨_, rfl⟩
      have hn2 : 0 ≤ now' ∧ now' ≤ 3 * ((i + 1 : Nat) : Int) := by omega
      rw [hnw] at hw
      go_upto_region 9 with fail
      have SX : Hid (wr.drew.cell? ⟨H, 0, none⟩ = some (ptr L) ∧ wr.drew.cell? ⟨H, 1, none⟩ = some (ptr X) ∧ wr.drew.cell? ⟨b, o + i * 6, none⟩ = some (.int .i64 c.k) ∧ wr.drew.cell? ⟨b, o + i * 6 + 1, none⟩ = some (.int .i64 c.t) ∧ wr.drew.cell? ⟨b, o + i * 6 + 2, none⟩ = some (.int .i64 c.id) ∧ wr.drew.cell? ⟨b, o + i * 6 + 3, none⟩ = some (.int .i64 c.lv) ∧ wr.drew.cell? ⟨b, o + i * 6 + 4, none⟩ = some (.int .u64 c.to) ∧ wr.drew.cell? ⟨b, o + i * 6 + 5, none⟩ = some (.int .u64 c.ps)) := S0.out
      clear c5 hw hnw hps S0
      refine wp_region_pl (fun Y => Y.cell? ⟨H, 0, none⟩ = some (ptr L) ∧ Y.cell? ⟨H, 1, none⟩ = some (ptr X) ∧ Y.cell? ⟨b, o + i * 6, none⟩ = some (.int .i64 c.k) ∧ Y.cell? ⟨b, o + i * 6 + 1, none⟩ = some (.int .i64 c.t) ∧ Y.cell? ⟨b, o + i * 6 + 2, none⟩ = some (.int .i64 c.id) ∧ Y.cell? ⟨b, o + i * 6 + 3, none⟩ = some (.int .i64 c.lv) ∧ Y.cell? ⟨b, o + i * 6 + 4, none⟩ = some (.int .u64 c.to) ∧ Y.cell? ⟨b, o + i * 6 + 5, none⟩ = some (.int .u64 c.ps)) ((0, 0) :: (1, 0) :: (2, 0) :: (3, 0) :: (4, 0) :: (5, 0) :: (6, 1) :: (7, 0) :: (8, 0) :: (9, 0) :: (10, 1) :: (11, 0) :: (12, 0) :: []) (by kernel_rfl) (by kernel_rfl) ?_
      generalize wr.drew = w5 at *
      iterate 6 (apply wpP_go; (focus rfl); (focus rfl); (focus exact SX.out); (focus (rintro Q ⟨s0, s1, s2, s3, s4, s5, s6, s7⟩; go_simp; exact rfl)); intro K hK; go_simp; refine hK _ ?_; clear hK K)
      apply wpP_one
      focus rfl
      intro K hK
      go_simp
      refine (apply_any HT.out HI0.out (by omega) (now := now') (by omega) hto).mono ?_
      rintro e w6 ⟨rfl, s6, hI6, ht6, k6⟩
      have SX1 : Hid (w6.cell? ⟨H, 0, none⟩ = some (ptr L) ∧ w6.cell? ⟨H, 1, none⟩ = some (ptr X) ∧ w6.cell? ⟨b, o + i * 6, none⟩ = some (.int .i64 c.k) ∧ w6.cell? ⟨b, o + i * 6 + 1, none⟩ = some (.int .i64 c.t) ∧ w6.cell? ⟨b, o + i * 6 + 2, none⟩ = some (.int .i64 c.id) ∧ w6.cell? ⟨b, o + i * 6 + 3, none⟩ = some (.int .i64 c.lv) ∧ w6.cell? ⟨b, o + i * 6 + 4, none⟩ = some (.int .u64 c.to) ∧ w6.cell? ⟨b, o + i * 6 + 5, none⟩ = some (.int .u64 c.ps)) := ⟨(k6.cell ⟨H, 0, none⟩ (TW.kp HT.out (.inr rfl)) (.inr rfl)).trans SX.out.1, (k6.cell ⟨H, 1, none⟩ (TW.kp HT.out (.inr rfl)) (.inr rfl)).trans SX.out.2.1, (k6.cell ⟨b, o + i * 6, none⟩ (TW.kp HT.out (.inl hbw)) (.inl hbw)).trans SX.out.2.2.1, (k6.cell ⟨b, o + i * 6 + 1, none⟩ (TW.kp HT.out (.inl hbw)) (.inl hbw)).trans SX.out.2.2.2.1, (k6.cell ⟨b, o + i * 6 + 2, none⟩ (TW.kp HT.out (.inl hbw)) (.inl hbw)).trans SX.out.2.2.2.2.1, (k6.cell ⟨b, o + i * 6 + 3, none⟩ (TW.kp HT.out (.inl hbw)) (.inl hbw)).trans SX.out.2.2.2.2.2.1, (k6.cell ⟨b, o + i * 6 + 4, none⟩ (TW.kp HT.out (.inl hbw)) (.inl hbw)).trans SX.out.2.2.2.2.2.2.1, (k6.cell ⟨b, o + i * 6 + 5, none⟩ (TW.kp HT.out (.inl hbw)) (.inl hbw)).trans SX.out.2.2.2.2.2.2.2⟩
      have HI6 := Lib.hid hI6
      have HT6 := Lib.hid ht6
      have HB6 : Hid (Below w.heap.size w w6) := HB1.out.trans (Ch.below k6 HB1.out.size (fun j hj => by
        rcases Nat.lt_or_ge j w.heap.size with h9 | h9
        · exact absurd (.inl h9) hj
        · exact h9))
      refine hK _ _ SX1.out ?_
      clear hK K hI6 ht6 k6 SX HT HB1 HI0
      iterate 3 (apply wpP_go; (focus rfl); (focus rfl); (focus exact SX1.out); (focus (rintro Q ⟨s0, s1, s2, s3, s4, s5, s6, s7⟩; go_simp; exact rfl)); intro K hK; go_simp; refine hK _ ?_; clear hK K)
      apply wpP_one
      focus rfl
      intro K hK
      go_simp
      refine (same_any HT6.out HI6.out (by omega)).mono ?_
      rintro e w7 ⟨rfl, b7⟩
      have SX2 : Hid (w7.cell? ⟨H, 0, none⟩ = some (ptr L) ∧ w7.cell? ⟨H, 1, none⟩ = some (ptr X) ∧ w7.cell? ⟨b, o + i * 6, none⟩ = some (.int .i64 c.k) ∧ w7.cell? ⟨b, o + i * 6 + 1, none⟩ = some (.int .i64 c.t) ∧ w7.cell? ⟨b, o + i * 6 + 2, none⟩ = some (.int .i64 c.id) ∧ w7.cell? ⟨b, o + i * 6 + 3, none⟩ = some (.int .i64 c.lv) ∧ w7.cell? ⟨b, o + i * 6 + 4, none⟩ = some (.int .u64 c.to) ∧ w7.cell? ⟨b, o + i * 6 + 5, none⟩ = some (.int .u64 c.ps)) := ⟨cell_later b7 SX1.out.1, cell_later b7 SX1.out.2.1, cell_later b7 SX1.out.2.2.1, cell_later b7 SX1.out.2.2.2.1, cell_later b7 SX1.out.2.2.2.2.1, cell_later b7 SX1.out.2.2.2.2.2.1, cell_later b7 SX1.out.2.2.2.2.2.2.1, cell_later b7 SX1.out.2.2.2.2.2.2.2⟩
      have HT7 := Lib.hid (HT6.out.below b7)
      have HB7 := Lib.hid (HB6.out.trans (b7.mono HB6.out.size))
      refine hK _ _ SX2.out ?_
      clear hK K b7 SX1 HT6 HB6
      iterate 2 (apply wpP_go; (focus rfl); (focus rfl); (focus exact SX2.out); (focus (rintro Q ⟨s0, s1, s2, s3, s4, s5, s6, s7⟩; go_simp; exact rfl)); intro K hK; go_simp; refine hK _ ?_; clear hK K)
      refine wpP_done ?_
      have HS2 : Hid (∃ s, SI s ∧ SQ (fun k => k < w.heap.size) H L X (40 + 8 * (i + 1)) s w7) := ⟨s6, HI6.out, SX2.out.1, SX2.out.2.1, HT7.out⟩
      clear SX2 HT7 HI6
      go_wp2_with fail
      go_roundw
      case rel => exact ⟨i + 1, now', by omega, by omega, hn2.1, hn2.2, rfl, by go_num, HS2, HB7⟩
      case measure => simp [intOf]; omega
    · by_cases hi : i < len
      · have y0 : (i : Int) < len := by omega
        have y1 : ¬ (i : Int) < 90 := by omega
        go_wp2_with fail
        go_ret
        exact ⟨rfl, HB.out⟩
      · have y0 : ¬ (i : Int) < len := by omega
        go_wp2_with fail
        go_ret
        exact ⟨rfl, HB.out⟩
end Go.Proofs.Ytefgfmnnaglfmaa
