/- Mod and awake: what they answer. No condition. -/
import Derived.Test.YtgllakmcccjcbaaD
namespace Go.Proofs.Ytgllakmcccjcbaa
open Go.RowKit

/-- What Mod computes. -/
def md (v n : Int) : Int := v % 18446744073709551616 % n
theorem md_lo (v n : Int) (h : 1 ≤ n) : 0 ≤ md v n := Int.emod_nonneg _ (by omega)
theorem md_hi (v n : Int) (h : 1 ≤ n) : md v n < n := Int.emod_lt_of_pos _ (by omega)

theorem ret_int {k : IntKind} {a b : Int} (h : a = b) : Ending.returned (.int k a) = .returned (.int k b) := by rw [h]
theorem md_eq (v n : Int) (h2 : 1 ≤ n) (h3 : n ≤ 1000000000) : wrap64 ((IntKind.u64.wrap v).tmod n) = md v n := by
  have e : IntKind.u64.wrap v = v % 18446744073709551616 := by simp [IntKind.wrap_u64]
  have h := md_lo v n h2
  have h' := md_hi v n h2
  rw [e, IntWalk.rem_in _ _ (by omega)]
  show wrap64 (md v n) = md v n
  exact IntWalk.wrap64_in _ (by omega)

set_option maxHeartbeats 400000 in
theorem mod_any (v n : Int) (w : World) (h2 : 1 ≤ n) (h3 : n ≤ 1000000000) :
    Calls Try.prog 15 #[.int .i64 v, .int .i64 n] w fun e w' => e = .returned (.int .i64 (md v n)) ∧ w = w' := by
  go_enter Try.func15, Try.ntmps15
  go_wp2
  go_ret
  exact ⟨ret_int (md_eq v n h2 h3), rfl⟩

def awk : Nat → S
  | 0 => ⟨0, 0, 10⟩
  | 1 => ⟨5, 20, 4⟩
  | _ => ⟨50, 200, 1⟩

theorem awk_valid : Valid awk 3 := ⟨by omega, by omega, fun i hi => by
  match i, hi with
  | 0, _ => simp [okAt, awk]
  | 1, _ => simp [okAt, awk]
  | 2, _ => simp [okAt, awk]⟩

def awkObj : Obj := .cells #[.int .u64 0, .int .u64 0, .int .u64 10, .int .u64 5, .int .u64 20, .int .u64 4, .int .u64 50, .int .u64 200, .int .u64 1] 25

theorem awk_sl (w : World) : Sl (w.alloc awkObj) (w.alloc awkObj).heap.size (some ⟨w.heap.size, 0, none⟩) 3 awk := by
  refine ⟨fun i hi => ?_, fun _ => ⟨w.heap.size, 0, rfl, by simp, fun i hi => ?_⟩⟩
  · match i, hi with
    | 0, _ => simp [S.wf, awk]
    | 1, _ => simp [S.wf, awk]
    | 2, _ => simp [S.wf, awk]
  · match i, hi with
    | 0, _ => simp [awk, awkObj, go_sem]
    | 1, _ => simp [awk, awkObj, go_sem]
    | 2, _ => simp [awk, awkObj, go_sem]

theorem nil_sl (w : World) (f : Nat → S) : Sl w w.heap.size none 0 f := ⟨fun i hi => by omega, fun h => by omega⟩

theorem awk_s1 : sel awk 500 50 3 = 2 := by simp [sel, awk]
theorem awk_s2 : sel awk 500 40 3 = 1 := by simp [sel, awk]
theorem awk_en : en awk 2 0 2 = 720 := by simp [en, awk]

set_option maxHeartbeats 400000 in
theorem awake_any (w : World) :
    Calls Try.prog 13 #[] w fun e w' => e = .returned (.bool true) ∧ Below w.heap.size w w' := by
  have H0 := Lib.hid (awk_sl w)
  go_enter Try.func13, Try.ntmps13
  go_wp2_with fail
  refine (select_yes _ 3 3 500 50 _ awk (by omega) H0.out awk_valid).mono ?_
  rintro e w1 ⟨rfl, hb1⟩
  have H1 := Lib.hid (H0.out.next hb1)
  simp only [awk_s1]
  go_wp2_with fail
  refine (select_yes _ 3 3 500 40 _ awk (by omega) H1.out awk_valid).mono ?_
  rintro e w2 ⟨rfl, hb2⟩
  have H2 := Lib.hid (H1.out.next hb2)
  simp only [awk_s2]
  go_wp2_with fail
  refine (energy_yes _ 3 3 2 0 _ awk (by omega) H2.out awk_valid (by omega) (by omega) (by omega)).mono ?_
  rintro e w3 ⟨rfl, hb3⟩
  simp only [awk_en]
  go_wp2_with fail
  refine (check_no none 0 0 _ awk (by omega) (nil_sl _ _) (fun h => by have := h.1; omega)).mono ?_
  rintro e w4 ⟨rfl, hb4⟩
  go_wp2_with fail
  go_ret
  refine ⟨rfl, ?_⟩
  have b1 : Below w.heap.size w w1 := ((Below.refl _ _).alloc (Nat.le_refl _) _).trans (hb1.mono (by simp))
  have b2 := b1.trans (hb2.mono b1.size)
  have b3 := b2.trans (hb3.mono b2.size)
  exact b3.trans (hb4.mono b3.size)
end Go.Proofs.Ytgllakmcccjcbaa
