/- start and sameState. Conditions: those that each theorem names. -/
import Derived.Test.YtefgfmnnaglfmaaN11
namespace Go.Proofs.Ytefgfmnnaglfmaa
open Go.RowKit
theorem Try.und49 : ∃ fs, Try.prog.underlying 49 = some (.struct fs) := by
  have h : (Try.prog.underlying 49).isSome = true := by kernel_rfl
  have hd : ((Try.prog.underlying 49).map (fun d => match d with | .struct _ => true | _ => false)) = some true := by kernel_rfl
  obtain ⟨d, hu⟩ := Option.isSome_iff_exists.1 h
  rw [hu] at hd
  injection hd with hd
  rcases d with _ | _ | _ | fs | _ | _ | _ | _ | _ | _ | _ | _ <;> first | exact ⟨_, hu⟩ | cases hd
theorem Row.two {w : World} {B t : Nat} {a b : Value} (h : Row w B t 2 (fun j => if j = 0 then a else b)) : w.heap[B]? = some (.cells #[a, b] t (0, 0)) := by
  obtain ⟨cs, hh, hs, hc⟩ := h
  have e : cs = #[a, b] := by
    apply Array.ext
    · simp [hs]
    · intro i h1 h2
      have := hc i (by omega)
      rcases (by omega : i = 0 ∨ i = 1) with rfl | rfl
      · rw [Array.getElem?_eq_getElem h1] at this; injection this with this
      · rw [Array.getElem?_eq_getElem h1] at this; injection this with this
  rw [hh, e]
section
variable {w w' : World}
theorem rk_zero (w : World) : RK (w.alloc (.cells #[.slice none 0 0, .slice none 0 0] 77)) (fun k => k = w.heap.size) w.heap.size 0 s0 := by
  refine ⟨.slice none 0 0, .slice none 0 0, [], [], ⟨Row.ofList w 77 _ _ 2 rfl, ⟨by simp, .inl ⟨rfl, rfl⟩⟩, ⟨by simp, .inl ⟨rfl, rfl⟩⟩, rfl, (fun g h => by cases h), (fun g h => by cases h), (fun x h => by cases h), fun k hk => by rw [hk]; simp⟩, Nat.le_refl _, Nat.le_refl _, ⟨List.nodup_nil, (fun x h => by cases h), fun i h => by cases h⟩, ⟨List.nodup_nil, (fun x h => by cases h), fun i h => absurd rfl h⟩⟩
theorem two_zero {L : Nat} {y : Lay} {K0 : Nat → Prop} {w3 : World} (h : OK w K0 L 0 s0 y) (hw : w3 = (w.alloc (.cells #[.slice none 0 0, .slice none 0 0] 77)).alloc (.cells #[ptr L, ptr w.heap.size] 49)) :
    TW w3 (fun k => K0 k ∨ k = w.heap.size + 1) L w.heap.size 0 0 s0 s0 := by
  have b : Below w.heap.size w w3 := by rw [hw]; exact ((Below.refl _ _).alloc (Nat.le_refl _) _).alloc (by simp) _
  have hsz : w3.heap.size = w.heap.size + 2 := by rw [hw]; simp
  obtain ⟨y', h'⟩ := h.adoptT (Ch.of_below b _) (G := fun k => k = w.heap.size ∨ k = w.heap.size + 1) (fun k hk => by rw [hsz]; omega)
  refine ⟨_, fun k => k = w.heap.size, y', h', ?_, fun k hk => .inr (.inl hk), fun k hk => ?_⟩
  · rw [hw]; exact (rk_zero w).below ((Below.refl _ _).alloc (Nat.le_refl _) _)
  · rcases hk with hk | hk
    · exact ⟨.inl hk, fun e => by have := h.fin k hk; omega⟩
    · exact ⟨.inr (.inr hk), fun e => by omega⟩
set_option maxRecDepth 100000 in
set_option maxHeartbeats 4000000 in
theorem start_any (w : World) : Calls Try.prog 24 #[] w fun e w' => ∃ L X, e = .returned (.agg #[ptr L, ptr X]) ∧ (∃ s, SI s ∧ TW w' (fun k => k < w.heap.size) L X 40 40 s s) ∧ Below w.heap.size w w' := by
  go_enter Try.func24, Try.ntmps24
  go_wp2_with fail
  obtain ⟨wA, hwA⟩ : ∃ z, w.alloc (.cells #[.pointer none, .pointer none] 49) = z := ⟨_, rfl⟩
  have hszA : wA.heap.size = w.heap.size + 1 := by rw [← hwA]; simp
  have bA : Below w.heap.size w wA := by rw [← hwA]; exact (Below.refl _ _).alloc (Nat.le_refl _) _
  have rA : Row wA w.heap.size 49 2 (fun j => if j = 0 then .pointer none else .pointer none) := by rw [← hwA]; exact Row.ofList w 49 _ _ 2 rfl
  simp only [hwA]
  refine (new_any (fun k => k < wA.heap.size) wA (fun k hk => hk)).mono ?_
  rintro e w1 ⟨rfl, ⟨y, h1⟩, k1⟩
  have bA1 : Below wA.heap.size wA w1 := Keep.below k1 (fun k hk => hk) (Nat.le_refl _)
  obtain ⟨L, hL⟩ : ∃ L, wA.heap.size + 2 = L := ⟨_, rfl⟩
  rw [hL] at h1 ⊢
  obtain ⟨X, hX⟩ : ∃ X, w1.heap.size = X := ⟨_, rfl⟩
  have HT0 := Lib.hid (two_zero (w := w1) h1 rfl)
  have hsz1 := bA1.size
  have b3 : Below w1.heap.size w1 ((w1.alloc (.cells #[.slice none 0 0, .slice none 0 0] 77)).alloc (.cells #[ptr L, ptr w1.heap.size] 49)) := ((Below.refl _ _).alloc (Nat.le_refl _) _).alloc (by simp) _
  have HB0 : Hid (Below wA.heap.size wA ((w1.alloc (.cells #[.slice none 0 0, .slice none 0 0] 77)).alloc (.cells #[ptr L, ptr w1.heap.size] 49))) := bA1.trans (b3.mono hsz1)
  have HR0 : Hid (Row ((w1.alloc (.cells #[.slice none 0 0, .slice none 0 0] 77)).alloc (.cells #[ptr L, ptr w1.heap.size] 49)) (w1.heap.size + 1) 49 2 (fun j => if j = 0 then ptr L else ptr w1.heap.size)) := by
    have := Row.ofList (w1.alloc (.cells #[.slice none 0 0, .slice none 0 0] 77)) 49 #[ptr L, ptr w1.heap.size] (fun j => if j = 0 then ptr L else ptr w1.heap.size) 2 rfl
    show Row _ _ _ _ _
    simpa using this
  have HA : Hid (Row wA w.heap.size 49 2 (fun j => if j = 0 then .pointer none else .pointer none) ∧ wA.heap.size = w.heap.size + 1 ∧ Below w.heap.size w wA) := ⟨rA, hszA, bA⟩
  clear h1 k1 bA1 b3 rA hszA bA hwA hL hsz1
  go_upto_region 2 with fail
  rw [hX] at HT0 HB0 HR0
  clear hX
  generalize (w1.alloc (.cells #[.slice none 0 0, .slice none 0 0] 77)).alloc (.cells #[ptr L, ptr X] 49) = w3 at *
  have HR1 : Hid (∃ s, SI s ∧ TW w3 (fun k => k < wA.heap.size ∨ k = X + 1) L X (8 * 0) (8 * 0) s s) := ⟨s0, SI.zero, HT0.out⟩
  have HC1 : Hid (Ch (fun k => ¬ (k < wA.heap.size ∨ k = X + 1)) w3 w3) := Ch.refl _ _
  have HXT : Hid (X + 1 < w3.heap.size) := HT0.out.kp (.inr rfl)
  have HCE : Hid (w3.cell? ⟨X + 1, 0, none⟩ = some (ptr L) ∧ w3.cell? ⟨X + 1, 1, none⟩ = some (ptr X)) := ⟨HR0.out.cell (i := 0) (by omega), HR0.out.cell (i := 1) (by omega)⟩
  clear HT0
  go_wp2_with fail
  go_loopw [2] (fun z wr => ∃ i : Nat, i ≤ 3 ∧ z = .int .i64 (i : Int) ∧ Hid (∃ s, SI s ∧ TW wr (fun k => k < wA.heap.size ∨ k = X + 1) L X (8 * i) (8 * i) s s) ∧ Hid (Ch (fun k => ¬ (k < wA.heap.size ∨ k = X + 1)) w3 wr)) (fun z _ => 3 - (intOf z).toNat)
  case atStart => exact ⟨0, by omega, rfl, HR1, HC1⟩
  case round =>
    clear HR1 HC1
    obtain ⟨i, hi, rfl, HR, HC⟩ := hrel
    have b0 := (CT.cell HC.out ⟨X + 1, 0, none⟩ HXT.out (.inr rfl)).trans HCE.out.1
    have b1 := (CT.cell HC.out ⟨X + 1, 1, none⟩ HXT.out (.inr rfl)).trans HCE.out.2
    by_cases hlt : i < 3
    · have y0 : (i : Int) < 3 := by omega
      obtain ⟨s, hI, htw⟩ := HR.out
      have HB := Lib.hid (two_addM (Kp := fun k => k < wA.heap.size ∨ k = X + 1) (L := L) (X := X) (n := 8 * i) (lv := 2 * (i : Int)) hI (id := (i : Int)) ⟨by omega, by omega⟩ (by omega))
      have HT := Lib.hid htw
      obtain ⟨s9, hs9⟩ : ∃ z, (addM s (i : Int) (2 * (i : Int))).2 = z := ⟨_, rfl⟩
      obtain ⟨v9, hv9⟩ : ∃ z, (addM s (i : Int) (2 * (i : Int))).1 = z := ⟨_, rfl⟩
      rw [hs9, hv9] at HB
      clear hs9 hv9 hI htw HR
      go_wp2_with fail
      refine (HB.out.2.1 _ HT.out).mono ?_
      rintro e V1 ⟨rfl, t1, c1⟩
      have HT1 := Lib.hid t1
      have HC1 := Lib.hid (HC.out.trans c1)
      have b1 := (CT.cell HC1.out ⟨X + 1, 1, none⟩ HXT.out (.inr rfl)).trans HCE.out.2
      clear t1 c1 HC
      go_wp2_with fail
      refine (HB.out.2.2 _ HT1.out).mono ?_
      rintro e V2 ⟨rfl, t2, c2⟩
      have HR2 : Hid (∃ s, SI s ∧ TW V2 (fun k => k < wA.heap.size ∨ k = X + 1) L X (8 * (i + 1)) (8 * (i + 1)) s s) := ⟨s9, HB.out.1, by have := t2; rwa [show 8 * (i + 1) = 8 * i + 8 by omega]⟩
      have HC2 := Lib.hid (HC1.out.trans c2)
      clear t2 c2 HC1 HT1 HB HT
      go_wp2_with fail
      go_roundw
      case rel => exact ⟨i + 1, by omega, by go_num, HR2, HC2⟩
      case measure => simp [intOf]; omega
    · have y0 : ¬ (i : Int) < 3 := by omega
      have HR1 : Hid (∃ s, SI s ∧ TW wr (fun k => k < wA.heap.size ∨ k = X + 1) L X (8 * 3) (8 * 3) s s) := by
        obtain ⟨s, a, b⟩ := HR.out
        exact ⟨s, a, by rwa [show i = 3 by omega] at b⟩
      clear HR
      go_wp2_with fail
      go_loopw [3] (fun z wr => ∃ i : Nat, i ≤ 5 ∧ 3 ≤ i ∧ z = .int .i64 (i : Int) ∧ Hid (∃ s, SI s ∧ TW wr (fun k => k < wA.heap.size ∨ k = X + 1) L X (8 * i) (8 * i) s s) ∧ Hid (Ch (fun k => ¬ (k < wA.heap.size ∨ k = X + 1)) w3 wr)) (fun z _ => 5 - (intOf z).toNat)
      case atStart => exact ⟨3, by omega, by omega, rfl, HR1, HC⟩
      case round =>
        clear HR1 HC b0 b1
        obtain ⟨i, hi, hi3, rfl, HR, HC⟩ := hrel
        have b0 := (CT.cell HC.out ⟨X + 1, 0, none⟩ HXT.out (.inr rfl)).trans HCE.out.1
        have b1 := (CT.cell HC.out ⟨X + 1, 1, none⟩ HXT.out (.inr rfl)).trans HCE.out.2
        by_cases hlt : i < 5
        · have y0 : (i : Int) < 5 := by omega
          obtain ⟨s, hI, htw⟩ := HR.out
          have HB := Lib.hid (two_addE (Kp := fun k => k < wA.heap.size ∨ k = X + 1) (L := L) (X := X) (n := 8 * i) hI (id := (i : Int)) ⟨by omega, by omega⟩ (by omega))
          have HT := Lib.hid htw
          obtain ⟨s9, hs9⟩ : ∃ z, (addE s (i : Int)).2 = z := ⟨_, rfl⟩
          obtain ⟨v9, hv9⟩ : ∃ z, (addE s (i : Int)).1 = z := ⟨_, rfl⟩
          rw [hs9, hv9] at HB
          clear hs9 hv9 hI htw HR
          go_wp2_with fail
          refine (HB.out.2.1 _ HT.out).mono ?_
          rintro e V1 ⟨rfl, t1, c1⟩
          have HT1 := Lib.hid t1
          have HC1 := Lib.hid (HC.out.trans c1)
          have b1 := (CT.cell HC1.out ⟨X + 1, 1, none⟩ HXT.out (.inr rfl)).trans HCE.out.2
          clear t1 c1 HC
          go_wp2_with fail
          refine (HB.out.2.2 _ HT1.out).mono ?_
          rintro e V2 ⟨rfl, t2, c2⟩
          have HR2 : Hid (∃ s, SI s ∧ TW V2 (fun k => k < wA.heap.size ∨ k = X + 1) L X (8 * (i + 1)) (8 * (i + 1)) s s) := ⟨s9, HB.out.1, by have := t2; rwa [show 8 * (i + 1) = 8 * i + 8 by omega]⟩
          have HC2 := Lib.hid (HC1.out.trans c2)
          clear t2 c2 HC1 HT1 HB HT
          go_wp2_with fail
          go_roundw
          case rel => exact ⟨i + 1, by omega, by omega, by go_num, HR2, HC2⟩
          case measure => simp [intOf]; omega
        · have y0 : ¬ (i : Int) < 5 := by omega
          obtain ⟨T0, hT0⟩ : ∃ z, w.heap.size = z := ⟨_, rfl⟩
          have hT0A : T0 < wA.heap.size := by rw [HA.out.2.1, hT0]; omega
          have hrA := HA.out.1
          rw [hT0] at hrA
          have hsz3 := HB0.out.size
          have hrw : Row wr T0 49 2 (fun j => if j = 0 then .pointer none else .pointer none) := (hrA.below HB0.out hT0A).ch HC.out (fun hn => hn (.inl hT0A))
          have z0 := hrw.cell (i := 0) (by omega)
          have z1 := hrw.cell (i := 1) (by omega)
          have zf0 := hrw.frozen 0
          have zf1 := hrw.frozen 1
          have HROW : Hid (Row ((wr.setCell ⟨T0, 0, none⟩ (ptr L)).setCell ⟨T0, 1, none⟩ (ptr X)) T0 49 2 (fun j => if j = 0 then ptr L else ptr X)) := ((hrw.set (i := 0) (by omega) (ptr L)).set (i := 1) (by omega) (ptr X)).congr fun j hj => by
            rcases (by omega : j = 0 ∨ j = 1) with rfl | rfl <;> rfl
          have cT : Ch (fun k => k = T0) wr ((wr.setCell ⟨T0, 0, none⟩ (ptr L)).setCell ⟨T0, 1, none⟩ (ptr X)) := ((Ch.refl (fun k => k = T0) wr).setCell (p := ⟨T0, 0, none⟩) (fun _ => rfl) _).setCell (p := ⟨T0, 1, none⟩) (fun _ => rfl) _
          have HFIN : Hid ((∃ s, SI s ∧ TW ((wr.setCell ⟨T0, 0, none⟩ (ptr L)).setCell ⟨T0, 1, none⟩ (ptr X)) (fun k => k < w.heap.size) L X 40 40 s s) ∧ Below w.heap.size w ((wr.setCell ⟨T0, 0, none⟩ (ptr L)).setCell ⟨T0, 1, none⟩ (ptr X))) := by
            obtain ⟨s, a, b⟩ := HR.out
            refine ⟨⟨s, a, ((b.own (cT.mono (fun k hk _ => .inl (by rw [hk]; exact hT0A)))).mono (by omega) (by omega)).less (fun k hk => .inl (by have := HA.out.2.1; omega))⟩, ?_⟩
            have h1 : Below w.heap.size w wr := (HA.out.2.2.trans (HB0.out.mono (by have := HA.out.2.1; omega))).trans (Ch.below HC.out (by have := HA.out.2.1; omega) (fun k hk => by
              rcases Nat.lt_or_ge k w.heap.size with h9 | h9
              · exact absurd (.inl (by have := HA.out.2.1; omega)) hk
              · exact h9))
            exact h1.trans (cT.below (by have := h1.size; omega) (fun k hk => by omega))
          clear hrw hrA cT HR HC hT0A hsz3
          simp only [hT0]
          go_wp2_with fail
          obtain ⟨fs, hu⟩ := Try.und49
          exact bodyPost_ret (v := .agg #[ptr L, ptr X]) (results_cell_row rfl _ _ T0 49 #[ptr L, ptr X] (0, 0) (.struct fs) rfl HROW.out.two hu rfl (by kernel_rfl)) rfl ⟨L, X, rfl, by have := HFIN.out.1; rw [hT0] at this; exact this, by have := HFIN.out.2; rw [hT0] at this; exact this⟩
end
end Go.Proofs.Ytefgfmnnaglfmaa
namespace Go.Proofs.Ytefgfmnnaglfmaa
open Go.RowKit
section
variable {w w' : World} {F : Nat → Prop} {L n : Nat} {s : LK} {y : Lay}
theorem waiters_none {id : Int} (h : OK w F L n s y) (hi : InI id) (hs : s.o id = none) : Calls Try.prog 17 #[ptr L, .int .i64 id] w fun e w' => ∃ v, e = .returned v ∧ OI w' v [] ∧ Below w.heap.size w w' := by
  have c0 := h.c0
  have hlk := h.lookO hi
  rw [fo_none hs] at hlk
  clear h
  go_enter Try.func17, Try.ntmps17
  go_wp2_with fail
  go_ret
  exact ⟨_, rfl, OI.nil _, Below.refl _ _⟩
end
section
variable {w w' : World} {Kp : Nat → Prop} {L X n m : Nat} {s r : LK} {t id : Int}
theorem two_st1 (h : TW w Kp L X n m s r) (ht : InI t) : Calls Try.prog 16 #[ptr L, .int .i64 t] w fun e w' => e = .returned (.int .i64 (stat s t)) ∧ w = w' := by
  obtain ⟨F, D, y, a, b, c, d⟩ := h
  exact status_any a ht
theorem two_st2 (h : TW w Kp L X n m s r) (hm : m ≤ 1000000) : Calls Try.prog 54 #[ptr X, .int .i64 t] w fun e w' => e = .returned (.int .i64 (stat r t)) ∧ w = w' := by
  obtain ⟨F, D, y, a, ⟨vl, vw, M, W, h1, h2, h3, h4, h5⟩, c, d⟩ := h
  exact rstatus_any h1 h5 (by omega) t
theorem two_ow1 (h : TW w Kp L X n m s r) (hi : InI id) : Calls Try.prog 15 #[ptr L, .int .i64 id] w fun e w' => e = .returned (.tuple #[.int .i64 (ownr s id).1, .bool (ownr s id).2]) ∧ w = w' := by
  obtain ⟨F, D, y, a, b, c, d⟩ := h
  exact owner_any a hi
theorem two_ow2 (h : TW w Kp L X n m s r) (hI : SI r) (hm : m ≤ 1000000) : Calls Try.prog 56 #[ptr X, .int .i64 id] w fun e w' => e = .returned (.tuple #[.int .i64 (ownr r id).1, .bool (ownr r id).2]) ∧ w = w' := by
  obtain ⟨F, D, y, a, b, c, d⟩ := h
  exact rowner_any b hI hm id
/-- The objects that thread t holds, sorted. -/
def HS (s : LK) (t : Int) (E : List Int) : Prop := E.Pairwise (· < ·) ∧ ∀ id, id ∈ E ↔ id ∈ (stT s t).hd
theorem HS.uniq {E E' : List Int} (h : HS s t E) (h' : HS s t E') : E = E' := lt_uniq h.1 h'.1 fun a => by rw [h.2, h'.2]
theorem HS.len {E : List Int} (h : HS s t E) (hI : SI s) : E.length ≤ 6 := pigeonT 6 E (h.1.imp fun h e => by omega) fun a ha => by
  obtain ⟨x, hx, _⟩ := (hI.hd t a).1 ((h.2 a).1 ha)
  exact hI.io hx
theorem two_h1 (h : TW w Kp L X n m s r) (hI : SI s) (ht : InI t) : Calls Try.prog 26 #[ptr L, .int .i64 t] w fun e w' => ∃ v E, e = .returned v ∧ HS s t E ∧ OI w' v E ∧ Below w.heap.size w w' := by
  obtain ⟨F, D, y, a, b, c, d⟩ := h
  refine (held_any a ht (by have := hI.hl t; omega)).mono ?_
  rintro e w' ⟨v, E, he, hp, hs, hq, _, hb⟩
  refine ⟨v, E, he, ⟨?_, fun id => hp.mem_iff⟩, hq.1, hb⟩
  have nd : E.Nodup := hp.symm.nodup (hI.hn t)
  exact (hs.and nd).imp fun h => by obtain ⟨h1, h2⟩ := h; omega
theorem two_h2 (h : TW w Kp L X n m s r) (hI : SI r) (hm : m ≤ 1000) : Calls Try.prog 55 #[ptr X, .int .i64 t] w fun e w' => ∃ v E, e = .returned v ∧ HS r t E ∧ OI w' v E ∧ Below w.heap.size w w' := by
  obtain ⟨F, D, y, a, b, c, d⟩ := h
  refine (rheld_any b hm t).mono ?_
  rintro e w' ⟨v, E, he, hs, hp, hq, hb⟩
  exact ⟨v, E, he, ⟨hs, fun id => by rw [hp, hI.hd]⟩, hq, hb⟩
theorem wq_len (hI : SI s) : (wq s id).length ≤ 4 := by
  unfold wq
  split
  · rename_i x hx; exact hI.ql hx
  · simp
theorem two_w1 (h : TW w Kp L X n m s r) (hI : SI s) (hi : InI id) : Calls Try.prog 17 #[ptr L, .int .i64 id] w fun e w' => ∃ v, e = .returned v ∧ OI w' v (wq s id) ∧ Below w.heap.size w w' := by
  obtain ⟨F, D, y, a, b, c, d⟩ := h
  rcases hs : s.o id with _ | x
  · have e : wq s id = [] := by unfold wq; rw [hs]
    rw [e]
    exact waiters_none a hi hs
  · have e : wq s id = x.q := by unfold wq; rw [hs]
    rw [e]
    refine (waitersX a hi hs (by have := hI.ql hs; omega)).mono ?_
    rintro e w' ⟨v, he, hq, hb⟩
    exact ⟨v, he, hq.1, hb⟩
theorem two_w2 (h : TW w Kp L X n m s r) (hI : SI r) (hm : m ≤ 1000) : Calls Try.prog 57 #[ptr X, .int .i64 id] w fun e w' => ∃ v, e = .returned v ∧ OI w' v (wq r id) ∧ Below w.heap.size w w' := by
  obtain ⟨F, D, y, a, b, c, d⟩ := h
  exact rwaiters_any b (by omega) id hI.hw
theorem two_eq {v v' : Value} {E : List Int} (h : OI w v E) (h' : OI w v' E) (hl : E.length ≤ 6) : Calls Try.prog 23 #[v, v'] w fun e w' => e = .returned (.bool true) ∧ Below w.heap.size w w' := by
  refine (equal_any (E := E) (E' := E) ⟨h, fun _ _ h => h⟩ ⟨h', fun _ _ h => h⟩ (by omega) (by omega)).mono ?_
  rintro e w' ⟨he, hb⟩
  exact ⟨by rw [he]; simp, hb⟩
end
end Go.Proofs.Ytefgfmnnaglfmaa
namespace Go.Proofs.Ytefgfmnnaglfmaa
open Go.RowKit
/-- The two pointers lie at H, what they point at is in one state. -/
def SQ (Kp : Nat → Prop) (H L X n : Nat) (s : LK) (w : World) : Prop := w.cell? ⟨H, 0, none⟩ = some (ptr L) ∧ w.cell? ⟨H, 1, none⟩ = some (ptr X) ∧ TW w (fun j => Kp j ∨ j = H) L X n n s s
section
variable {w w' : World} {Kp : Nat → Prop} {H L X n : Nat} {s : LK}
theorem SQ.below (h : SQ Kp H L X n s w) (b : Below w.heap.size w w') : SQ Kp H L X n s w' := ⟨cell_later b h.1, cell_later b h.2.1, h.2.2.below b⟩
set_option maxRecDepth 100000 in
set_option maxHeartbeats 16000000 in
theorem same_any (h : TW w Kp L X n n s s) (hI0 : SI s) (hn : n ≤ 900) : Calls Try.prog 27 #[.agg #[ptr L, ptr X]] w fun e w' => e = .returned (.bool true) ∧ Below w.heap.size w w' := by
  have hI := Lib.hid hI0
  have ba : Below w.heap.size w (w.alloc (.cells #[ptr L, ptr X] 49)) := (Below.refl _ _).alloc (Nat.le_refl _) _
  have hr : Row (w.alloc (.cells #[ptr L, ptr X] 49)) w.heap.size 49 2 (fun j => if j = 0 then ptr L else ptr X) := Row.ofList w 49 #[ptr L, ptr X] (fun j => if j = 0 then ptr L else ptr X) 2 rfl
  have HT0 := h.adopt ba (G := fun j => j = w.heap.size) (fun j hj => by rw [hj]; simp)
  have HS0 : Hid (SQ Kp w.heap.size L X n s (w.alloc (.cells #[ptr L, ptr X] 49))) := ⟨hr.cell (i := 0) (by omega), hr.cell (i := 1) (by omega), HT0⟩
  have HB0 : Hid (Below w.heap.size w (w.alloc (.cells #[ptr L, ptr X] 49))) := ba
  clear HT0 hr ba h hI0
  go_enter Try.func27, Try.ntmps27
  go_upto_region 1 with fail
  obtain ⟨H, hH⟩ : ∃ H, w.heap.size = H := ⟨_, rfl⟩
  simp only [hH]
  rw [hH] at HS0
  clear hH
  generalize w.alloc (.cells #[ptr L, ptr X] 49) = w1 at *
  go_wp2_with fail
  go_loopw [3] (fun z wr => ∃ t : Int, -1 ≤ t ∧ t ≤ 5 ∧ z = .int .i64 t ∧ Hid (SQ Kp H L X n s wr) ∧ Hid (Below w.heap.size w wr)) (fun z _ => (5 - intOf z).toNat)
  case atStart => exact ⟨-1, by omega, by omega, rfl, HS0, HB0⟩
  case round =>
    clear HS0 HB0
    obtain ⟨t, ht1, ht2, rfl, HS, HB⟩ := hrel
    by_cases hlt : t < 5
    · have hw1 : IntKind.i64.wrap (t + 1) = t + 1 := IntWalk.i64_in _ (by omega)
      have hit : InI t := ⟨by omega, by omega⟩
      have SX : Hid (SQ Kp H L X n s wr.drew) := HS.out.below ((Below.refl _ _).drew)
      have HB1 : Hid (Below w.heap.size w wr.drew) := HB.out.drew
      clear HS HB
      go_upto_region 4 with fail
      refine wp_region_pl (SQ Kp H L X n s) ((0, 0) :: (1, 0) :: (2, 0) :: (3, 0) :: (4, 0) :: (5, 0) :: (6, 0) :: (7, 0) :: (8, 0) :: (9, 0) :: (10, 0) :: (11, 0) :: (12, 0) :: (14, 0) :: (15, 0) :: (16, 0) :: (13, 1) :: (17, 1) :: (18, 1) :: (19, 0) :: (20, 0) :: []) (by kernel_rfl) (by kernel_rfl) ?_
      generalize wr.drew = w3 at *
      iterate 3 (apply wpP_go; (focus rfl); (focus rfl); (focus exact SX.out); (focus (rintro Q ⟨s0, s1, s2⟩; go_simp; exact rfl)); intro K hK; go_simp; refine hK _ ?_; clear hK K)
      apply wpP_call
      focus rfl
      focus rfl
      focus exact SX.out
      focus (rintro Q ⟨s0, s1, s2⟩; go_simp; exact ⟨rfl, rfl⟩)
      focus (rintro Q hQ; exact two_st1 hQ.2.2 hit)
      intro K hK
      go_simp
      refine hK _ ?_
      clear hK K
      iterate 3 (apply wpP_go; (focus rfl); (focus rfl); (focus exact SX.out); (focus (rintro Q ⟨s0, s1, s2⟩; go_simp; exact rfl)); intro K hK; go_simp; refine hK _ ?_; clear hK K)
      apply wpP_call
      focus rfl
      focus rfl
      focus exact SX.out
      focus (rintro Q ⟨s0, s1, s2⟩; go_simp; exact ⟨rfl, rfl⟩)
      focus (rintro Q hQ; exact two_st2 hQ.2.2 (by omega))
      intro K hK
      go_simp
      refine hK _ ?_
      clear hK K
      iterate 8 (apply wpP_go; (focus rfl); (focus rfl); (focus exact SX.out); (focus (rintro Q ⟨s0, s1, s2⟩; go_simp; exact rfl)); intro K hK; go_simp; refine hK _ ?_; clear hK K)
      apply wpP_one
      focus rfl
      intro K hK
      go_simp
      refine (two_h1 SX.out.2.2 hI.out hit).mono ?_
      rintro e V1 ⟨v1, E1, rfl, e1, o1, b1⟩
      have SX1 := Lib.hid (SX.out.below b1)
      have HO1 := Lib.hid o1
      have HE1 := Lib.hid e1
      have HB2 := Lib.hid (HB1.out.trans (b1.mono HB1.out.size))
      clear o1 e1 b1
      refine hK _ _ SX1.out ?_
      clear hK K
      apply wpP_one
      focus rfl
      intro K hK
      go_simp
      refine (two_h2 (t := t) SX1.out.2.2 hI.out (by omega)).mono ?_
      rintro e V2 ⟨v2, E2, rfl, e2, o2, b2⟩
      have SX2 := Lib.hid (SX1.out.below b2)
      obtain rfl := HE1.out.uniq e2
      have HO2 : Hid (OI V2 v1 E1 ∧ OI V2 v2 E1) := ⟨HO1.out.below b2, o2⟩
      have HB3 := Lib.hid (HB2.out.trans (b2.mono HB2.out.size))
      clear o2 e2 b2 HO1 HB2
      refine hK _ _ SX2.out ?_
      clear hK K
      apply wpP_one
      focus rfl
      intro K hK
      go_simp
      refine (two_eq HO2.out.1 HO2.out.2 (HE1.out.len hI.out)).mono ?_
      rintro e V3 ⟨rfl, b3⟩
      have SX3 := Lib.hid (SX2.out.below b3)
      have HB4 := Lib.hid (HB3.out.trans (b3.mono HB3.out.size))
      clear b3 HB3
      refine hK _ _ SX3.out ?_
      clear hK K
      iterate 2 (apply wpP_go; (focus rfl); (focus rfl); (focus exact SX3.out); (focus (rintro Q ⟨s0, s1, s2⟩; go_simp; exact rfl)); intro K hK; go_simp; refine hK _ ?_; clear hK K)
      refine wpP_done ?_
      clear SX SX1 SX2 HO2 HE1
      go_wp2_with fail
      go_roundw
      case rel => exact ⟨t + 1, by omega, by omega, rfl, SX3, HB4⟩
      case measure => simp [intOf]; omega
    · go_wp2_with fail
      go_loopw [4] (fun z wr => ∃ t : Int, -1 ≤ t ∧ t ≤ 7 ∧ z = .int .i64 t ∧ Hid (SQ Kp H L X n s wr) ∧ Hid (Below w.heap.size w wr)) (fun z _ => (7 - intOf z).toNat)
      case atStart => exact ⟨-1, by omega, by omega, rfl, HS, HB⟩
      case round =>
        clear HS HB
        obtain ⟨t, ht1, ht2, rfl, HS, HB⟩ := hrel
        by_cases hlt : t < 7
        · have hw1 : IntKind.i64.wrap (t + 1) = t + 1 := IntWalk.i64_in _ (by omega)
          have hit : InI t := ⟨by omega, by omega⟩
          have c0 := HS.out.1
          have c1 := HS.out.2.1
          go_wp2_with fail
          refine (two_ow1 HS.out.2.2 hit).mono ?_
          rintro e w9 ⟨rfl, rfl⟩
          go_wp2_with fail
          refine (two_ow2 (id := t) HS.out.2.2 hI.out (by omega)).mono ?_
          rintro e w9 ⟨rfl, rfl⟩
          go_upto_region 11 with fail
          have SX : Hid (SQ Kp H L X n s wr.drew) := HS.out.below ((Below.refl _ _).drew)
          have HB1 : Hid (Below w.heap.size w wr.drew) := HB.out.drew
          clear HS HB c0 c1
          refine wp_region_pl (SQ Kp H L X n s) ((0, 0) :: (1, 0) :: (2, 0) :: (3, 0) :: (4, 0) :: (5, 0) :: (6, 0) :: (7, 0) :: (8, 0) :: (9, 0) :: (10, 0) :: (11, 0) :: (13, 0) :: (14, 0) :: (15, 0) :: (12, 1) :: (16, 1) :: (17, 1) :: (18, 0) :: (19, 0) :: []) (by kernel_rfl) (by kernel_rfl) ?_
          generalize wr.drew = w3 at *
          generalize (ownr s t).1 = oa at *
          generalize (ownr s t).2 = ob at *
          iterate 15 (apply wpP_go; (focus rfl); (focus rfl); (focus exact SX.out); (focus (rintro Q ⟨s0, s1, s2⟩; go_simp; exact rfl)); intro K hK; go_simp; refine hK _ ?_; clear hK K)
          apply wpP_one
          focus rfl
          intro K hK
          go_simp
          refine (two_w1 SX.out.2.2 hI.out hit).mono ?_
          rintro e V1 ⟨v1, rfl, o1, b1⟩
          have SX1 := Lib.hid (SX.out.below b1)
          have HO1 := Lib.hid o1
          have HB2 := Lib.hid (HB1.out.trans (b1.mono HB1.out.size))
          clear o1 b1
          refine hK _ _ SX1.out ?_
          clear hK K
          apply wpP_one
          focus rfl
          intro K hK
          go_simp
          refine (two_w2 (id := t) SX1.out.2.2 hI.out (by omega)).mono ?_
          rintro e V2 ⟨v2, rfl, o2, b2⟩
          have SX2 := Lib.hid (SX1.out.below b2)
          have HO2 : Hid (OI V2 v1 (wq s t) ∧ OI V2 v2 (wq s t)) := ⟨HO1.out.below b2, o2⟩
          have HB3 := Lib.hid (HB2.out.trans (b2.mono HB2.out.size))
          clear o2 b2 HO1 HB2
          refine hK _ _ SX2.out ?_
          clear hK K
          apply wpP_one
          focus rfl
          intro K hK
          go_simp
          refine (two_eq HO2.out.1 HO2.out.2 (by have := wq_len (id := t) hI.out; omega)).mono ?_
          rintro e V3 ⟨rfl, b3⟩
          have SX3 := Lib.hid (SX2.out.below b3)
          have HB4 := Lib.hid (HB3.out.trans (b3.mono HB3.out.size))
          clear b3 HB3
          refine hK _ _ SX3.out ?_
          clear hK K
          iterate 2 (apply wpP_go; (focus rfl); (focus rfl); (focus exact SX3.out); (focus (rintro Q ⟨s0, s1, s2⟩; go_simp; exact rfl)); intro K hK; go_simp; refine hK _ ?_; clear hK K)
          refine wpP_done ?_
          clear SX SX1 SX2 HO2
          go_wp2_with fail
          go_roundw
          case rel => exact ⟨t + 1, by omega, by omega, rfl, SX3, HB4⟩
          case measure => simp [intOf]; omega
        · go_wp2_with fail
          go_ret
          exact ⟨rfl, HB.out⟩
end
end Go.Proofs.Ytefgfmnnaglfmaa
