/- awake answers true. No condition. -/
import Derived.Test.YtedihfcbpgogoaaY
namespace Go.Proofs.Ytedihfcbpgogoaa
open Go.RowKit
def g0 : Fn := ⟨-1, 1, 1, 0, true, false, false, 0, 0, 0, .slice none 0 0, []⟩
def g1 : Fn := ⟨-1, 2, 1, 0, true, false, false, 0, 0, 0, .slice none 0 0, []⟩
def g2 : Fn := ⟨0, 0, 1, 0, true, false, false, 0, 0, 0, .slice none 0 0, []⟩
def T0 : List Fn := [g0, g1, g2]
def cells0 : Array Value := ((cF g0) ++ (cF g1) ++ (cF g2)).toArray
set_option maxHeartbeats 1000000 in
theorem chain_any (w : World) : Calls Try.prog 21 #[] w fun e w' => e = .returned (.slice (some ⟨w.heap.size, 0, none⟩) 3 3) ∧ w' = w.alloc (.cells cells0 25) := by
  go_enter Try.func21, Try.ntmps21
  go_wp2_with fail
  go_ret
  exact ⟨rfl, rfl⟩
theorem cells0_FnS (w : World) : FnS (w.alloc (.cells cells0 25)) (some ⟨w.heap.size, 0, none⟩) 3 3 T0 := by
  have hin : InI (-1) ∧ InI 0 ∧ InI 1 ∧ InI 2 := by unfold InI; omega
  have nbv : ∀ f : Fn, f.bv = .slice none 0 0 → f.ba = [] → BV (w.alloc (.cells cells0 25)) f := fun f h1 h2 => ⟨none, 0, by rw [h1, h2]; rfl, rfl, by rw [h2]; exact Nat.le_refl _, by unfold maxLen; omega, (fun c hc => by rw [h2] at hc; cases hc), fun h => absurd h2 h⟩
  have W : ∀ f, f ∈ T0 → f = g0 ∨ f = g1 ∨ f = g2 := fun f hf => by simpa [T0] using hf
  refine ⟨⟨rfl, Nat.le_refl _, by unfold maxLen; omega, fun f hf => ?_, fun _ => ⟨_, 0, rfl, by simp, fun i c hc => ?_⟩⟩, fun f hf => ?_⟩
  · obtain ⟨a, b, c, d⟩ := hin
    rcases W f hf with rfl | rfl | rfl
    · exact ⟨a, c, c, b, b, b, b⟩
    · exact ⟨a, d, c, b, b, b, b⟩
    · exact ⟨b, b, c, b, b, b, b⟩
  · intro j u hu
    rw [cell_of_row _ _ _ _ _ _ (heap_alloc_new w _)]
    have hj : j < 11 := by have := (List.getElem?_eq_some_iff.1 hu).1; simpa [cF] using this
    match i, hc with
    | 0, hc => obtain rfl : c = g0 := by simpa [T0] using hc.symm
               rw [show 0 + 0 * 11 + j = j by omega]; rw [← hu]; unfold cells0; rw [List.getElem?_toArray, List.getElem?_append_left (by simp [cF]; omega), List.getElem?_append_left (by simp [cF]; omega)]
    | 1, hc => obtain rfl : c = g1 := by simpa [T0] using hc.symm
               rw [← hu]; unfold cells0; rw [List.getElem?_toArray, List.getElem?_append_left (by simp [cF]; omega), List.getElem?_append_right (by simp [cF])]; congr 1; simp [cF]
    | 2, hc => obtain rfl : c = g2 := by simpa [T0] using hc.symm
               rw [← hu]; unfold cells0; rw [List.getElem?_toArray, List.getElem?_append_right (by simp [cF])]; congr 1; simp [cF]
    | i + 3, hc => simp [T0] at hc
  · rcases W f hf with rfl | rfl | rfl <;> exact nbv _ rfl rfl
theorem vf0 (pa sl : Int) (h : 0 ≤ sl ∧ sl ≤ 31) : vF ⟨pa, sl, 1, 0, true, false, false, 0, 0, 0, .slice none 0 0, []⟩ :=
  ⟨⟨by simp, by simp, h, by simp, by simp, by simp, (by show (bits BinOp.and IntKind.i64 0 (0 - 1) != 0) = false; decide), by simp, by simp⟩, by simp [rgs], fun i hi => by simp at hi⟩
theorem vld0 : Vld T0 := by
  refine ⟨by decide, fun i hi => ?_⟩
  match i, hi with
  | 0, _ => exact ⟨vf0 (-1) 1 (by omega), by decide, by decide, fun j hj => by omega⟩
  | 1, _ => exact ⟨vf0 (-1) 2 (by omega), by decide, by decide, fun j hj => by
      obtain rfl : j = 0 := by omega
      decide⟩
  | 2, _ => exact ⟨vf0 0 0 (by omega), by decide, fun _ => by decide, fun j hj => by
      rcases (by omega : j = 0 ∨ j = 1) with rfl | rfl <;> decide⟩
  | i + 3, hi => exact absurd hi (by simp [T0])
theorem bus0 : (bus T0).1 = 3 ∧ ((bus T0).2 0).se = 1 ∧ ((bus T0).2 1).se = 3 ∧ ((bus T0).2 2).se = 2 ∧ ((bus T0).2 0).su = 2 ∧ ((bus T0).2 1).su = 3 := ⟨by kernel_rfl, by kernel_rfl, by kernel_rfl, by kernel_rfl, by kernel_rfl, by kernel_rfl⟩
theorem vis0 : vis T0 (T0.length + 1) (-1) = [0, 2, 1] := by kernel_rfl
theorem kids0 : kids T0 (-1) = [0, 1] ∧ kids T0 0 = [2] := ⟨by kernel_rfl, by kernel_rfl⟩
theorem rt0 : RtR T0 (bus T0).2 1 0 (-1) 0 (some 2) := by
  obtain ⟨_, e1, e2, _, e4, e5⟩ := bus0
  have m0 : mt T0 (bus T0).2 1 0 = true := by unfold mt; rw [e1, e4]; decide
  have m1 : mt T0 (bus T0).2 1 1 = false := by unfold mt; rw [e2, e5]; decide
  refine .go (k := 0) (by omega) (by rw [kids0.1]; simp) m0 (fun k' hk' hm => ?_) ?_
  · rw [kids0.1] at hk'
    rcases List.mem_cons.1 hk' with rfl | hk'
    · rfl
    · obtain rfl : k' = 1 := by simpa using hk'
      rw [m1] at hm; cases hm
  · rw [e1]
    refine .here ?_
    show (kids T0 0).find? (slot T0 0) = some 2
    rw [kids0.2]
    decide
theorem IR.built (w : World) (l : List Int) (hl : l.length ≤ 1000) : IR (w.alloc (.cells (l.map (Value.int .i64)).toArray 3)) (.slice (some ⟨w.heap.size, 0, none⟩) l.length l.length) l := by
  refine ⟨by simp, .inr ⟨w.heap.size, l.length, (l.map (Value.int .i64)).toArray, rfl, Nat.zero_le _, heap_alloc_new w _, Nat.le_refl _, by unfold maxLen; omega, by simp, ?_⟩⟩
  simp only [Nat.mul_one]
  exact List.take_of_length_le (by simp)
set_option maxRecDepth 100000 in
set_option maxHeartbeats 2000000 in
theorem awake_any (w : World) : Calls Try.prog 10 #[] w fun e w' => e = .returned (.bool true) ∧ Below w.heap.size w w' := by
  have HC := Lib.hid (chain_any w)
  have H0 := Lib.hid (cells0_FnS w)
  have B0 : Hid (Below w.heap.size w (w.alloc (.cells cells0 25))) := (Below.refl _ _).alloc (Nat.le_refl _) _
  have hz : w.heap.size < (w.alloc (.cells cells0 25)).heap.size := by simp
  obtain ⟨Z, hZ⟩ : ∃ Z, w.heap.size = Z := ⟨_, rfl⟩
  have HZ := Lib.hid hZ
  rw [hZ] at HC H0 hz
  clear hZ
  generalize w.alloc (.cells cells0 25) = W0 at *
  go_enter Try.func10, Try.ntmps10
  go_wp2_with fail
  refine HC.out.mono ?_
  rintro e W0 ⟨rfl, rfl⟩
  have HB := Lib.hid (buses_any (n := 256) H0.out)
  clear HC
  go_wp2_with fail
  refine HB.out.mono ?_
  rintro e w2 ⟨b2, ⟨hv, _⟩ | ⟨_, _, _, h3, _⟩ | ⟨hv, _, _, h3, B, hB, hr, rfl⟩⟩
  · exact absurd ⟨vld0, by omega, by omega⟩ hv
  · rw [bus0.1] at h3; omega
  have hT : T0.length = 3 := rfl
  rw [hT] at hr ⊢
  have HA : Hid (Asg T0 3 (bus T0).2) := ⟨hv, by rw [bus0.1]; omega, rfl, fun _ _ => rfl⟩
  have HBS : Hid (BS w2 (some ⟨B, 0, none⟩) 3 3 (bus T0).2) := ⟨Nat.le_refl _, by omega, .inr ⟨B, rfl, hr⟩⟩
  have HR := Lib.hid (route_any (bus := 1) (s := 0) (H0.out.below b2) HBS.out)
  have B2 := Lib.hid b2
  clear b2 h3 hr HB hT hB
  go_wp2_with fail
  refine HR.out.mono ?_
  rintro e w3 ⟨b3, ⟨hn, _⟩ | ⟨_, r, hr, rfl⟩⟩
  · exact absurd HA.out hn
  obtain rfl := hr.det rt0
  have e2 : rout (some 2) = .tuple #[.int .i64 2, .bool true] := rfl
  rw [e2]
  have B3 : Hid (Below W0.heap.size W0 w3) := bthen B2.out b3
  obtain ⟨_, hB0, _, _, s0, _⟩ := (HBS.out.below b3).at (i := 0) (by omega)
  obtain ⟨_, hB1, _, _, s1, _⟩ := (HBS.out.below b3).at (i := 1) (by omega)
  obtain ⟨_, hB2, _, _, s2, _⟩ := (HBS.out.below b3).at (i := 2) (by omega)
  injection hB0 with hB0
  injection hB0 with hB0 _ _
  injection hB1 with hB1
  injection hB1 with hB1 _ _
  injection hB2 with hB2
  injection hB2 with hB2 _ _
  subst hB0 hB1 hB2
  rw [bus0.2.1] at s0
  rw [bus0.2.2.1] at s1
  rw [bus0.2.2.2.1] at s2
  have HV := Lib.hid (valid_any (H0.out.below B3.out))
  clear b3 hr e2 HR
  go_wp2_with fail
  refine HV.out.mono ?_
  rintro e w4 ⟨t, rfl, ht, b4⟩
  have t1 : t = true := ht.2 hv
  subst t1
  have B4 : Hid (Below W0.heap.size W0 w4) := bthen B3.out b4
  have HVi := Lib.hid (Visit_any (H0.out.below B4.out))
  clear ht b4 HV s0 s1 s2
  go_wp2_with fail
  refine HVi.out.mono ?_
  rintro e w5 ⟨v5, E, rfl, o5, hE, _⟩
  have hE2 := hE hv
  rw [vis0] at hE2
  subst hE2
  have B5 : Hid (Below W0.heap.size W0 w5) := bthen B4.out o5.bel
  have HO5 := Lib.hid o5
  obtain ⟨a5, c5, rfl, hc5⟩ := o5.val
  have HE := Lib.hid (equalI_any (w := w5.alloc (.cells #[.int .i64 0, .int .i64 2, .int .i64 1] 3)) (o5.row.ch (Ch.of_below ((Below.refl _ _).alloc (Nat.le_refl _) _) (fun _ => False)) (fun _ _ h => h)) (IR.built w5 [0, 2, 1] (by simp)) (by simp [toI]) (by simp))
  clear hE o5 HVi
  go_wp2_with fail
  refine HE.out.mono ?_
  rintro e w6 ⟨t, rfl, ht, b6⟩
  have t1 : t = true := ht.2 rfl
  subst t1
  have B6 : Hid (Below w.heap.size w w6) := bthen B0.out (bthen B5.out (((Below.refl _ _).alloc (Nat.le_refl _) _).trans (b6.mono (by simp))))
  clear ht b6
  go_wp2_with fail
  go_ret
  exact ⟨rfl, B6.out⟩
end Go.Proofs.Ytedihfcbpgogoaa
