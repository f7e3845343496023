/- Plain laws on the eight last durations: sums, greatest, rings and rotations. No condition. -/
import Derived.Test.YtgllakmcccjcbaaK
namespace Go.Proofs.Ytgllakmcccjcbaa
open Go.RowKit K

def sm (R : Nat → Int) : Nat → Int
  | 0 => 0
  | k + 1 => sm R k + R k
def mx (R : Nat → Int) : Nat → Int
  | 0 => 0
  | k + 1 => if mx R k < R k then R k else mx R k
def lo (R : Nat → Int) : Nat → Int
  | 0 => 1152921504606846976
  | k + 1 => if R k < lo R k then R k else lo R k

theorem mx_nonneg (R : Nat → Int) (k : Nat) : 0 ≤ mx R k := by
  induction k with
  | zero => exact Int.le_refl _
  | succ k ih => unfold mx; split <;> omega
theorem le_mx (R : Nat → Int) (k i : Nat) (hi : i < k) : R i ≤ mx R k := by
  induction k with
  | zero => omega
  | succ k ih =>
    unfold mx
    by_cases e : i = k
    · subst e; split <;> omega
    · have := ih (by omega); split <;> omega
theorem mx_le (R : Nat → Int) (k : Nat) (M : Int) (h0 : 0 ≤ M) (h : ∀ i, i < k → R i ≤ M) : mx R k ≤ M := by
  induction k with
  | zero => exact h0
  | succ k ih =>
    have := ih fun i hi => h i (by omega)
    have := h k (by omega)
    unfold mx; split <;> omega
theorem lo_le (R : Nat → Int) (k i : Nat) (hi : i < k) : lo R k ≤ R i := by
  induction k with
  | zero => omega
  | succ k ih =>
    unfold lo
    by_cases e : i = k
    · subst e; split <;> omega
    · have := ih (by omega); split <;> omega
theorem lo_nonneg (R : Nat → Int) (k : Nat) (h : ∀ i, i < k → 0 ≤ R i) : 0 ≤ lo R k := by
  induction k with
  | zero => unfold lo; omega
  | succ k ih =>
    have := ih fun i hi => h i (by omega)
    have := h k (by omega)
    unfold lo; split <;> omega
theorem sm_congr {R D : Nat → Int} (k : Nat) (h : ∀ i, i < k → R i = D i) : sm R k = sm D k := by
  induction k with
  | zero => rfl
  | succ k ih => unfold sm; rw [ih fun i hi => h i (by omega), h k (by omega)]
theorem mx_perm {R D : Nat → Int} (k : Nat) (h : ∀ i, i < k → ∃ j, j < k ∧ R i = D j) (h' : ∀ j, j < k → ∃ i, i < k ∧ D j = R i) : mx R k = mx D k := by
  apply Int.le_antisymm
  · exact mx_le R k _ (mx_nonneg D k) fun i hi => by obtain ⟨j, hj, e⟩ := h i hi; rw [e]; exact le_mx D k j hj
  · exact mx_le D k _ (mx_nonneg R k) fun j hj => by obtain ⟨i, hi, e⟩ := h' j hj; rw [e]; exact le_mx R k i hi
theorem sm_bd (R : Nat → Int) (k : Nat) (M : Int) (h : ∀ i, i < k → 0 ≤ R i ∧ R i ≤ M) : 0 ≤ sm R k ∧ sm R k ≤ k * M := by
  induction k with
  | zero => unfold sm; omega
  | succ k ih =>
    have := ih fun i hi => h i (by omega)
    have := h k (by omega)
    have e : ((k + 1 : Nat) : Int) * M = k * M + M := by rw [Int.natCast_add, Int.add_mul]; simp
    unfold sm; omega
theorem mx_le_sm (R : Nat → Int) (k : Nat) (h : ∀ i, i < k → 0 ≤ R i) : mx R k ≤ sm R k := by
  induction k with
  | zero => exact Int.le_refl _
  | succ k ih =>
    have := ih fun i hi => h i (by omega)
    have := h k (by omega)
    have := mx_nonneg R k
    unfold mx sm; split <;> omega
/-- The others are at least the least. -/
theorem sm_lo (R : Nat → Int) (L : Int) (h0 : 0 ≤ L) (k : Nat) (h : ∀ i, i < k + 1 → L ≤ R i) : mx R (k + 1) + k * L ≤ sm R (k + 1) := by
  induction k with
  | zero => have := h 0 (by omega); unfold mx sm; unfold mx sm; split <;> omega
  | succ k ih =>
    have := ih fun i hi => h i (by omega)
    have := h (k + 1) (by omega)
    have := Int.le_trans (h 0 (by omega)) (le_mx R (k + 1) 0 (by omega))
    have e : ((k + 1 : Nat) : Int) * L = k * L + L := by rw [Int.natCast_add, Int.add_mul]; simp
    rw [e]
    show (if mx R (k + 1) < R (k + 1) then R (k + 1) else mx R (k + 1)) + _ ≤ sm R (k + 1) + R (k + 1)
    split <;> omega

theorem rot_sum (D : Nat → Int) (s : Nat) (hs : s < 8) : sm (fun t => D ((t + s) % 8)) 8 = sm D 8 := by
  simp only [sm]
  match s, hs with
  | 0, _ => simp
  | 1, _ => simp; omega
  | 2, _ => simp; omega
  | 3, _ => simp; omega
  | 4, _ => simp; omega
  | 5, _ => simp; omega
  | 6, _ => simp; omega
  | 7, _ => simp; omega
theorem rot_mx (D : Nat → Int) (s : Nat) (hs : s < 8) : mx (fun t => D ((t + s) % 8)) 8 = mx D 8 := by
  refine mx_perm 8 (fun i hi => ⟨(i + s) % 8, by omega, rfl⟩) (fun j hj => ⟨(j + 8 - s) % 8, by omega, ?_⟩)
  show D j = D (((j + 8 - s) % 8 + s) % 8)
  congr 1; omega
theorem mx_congr {R D : Nat → Int} (k : Nat) (h : ∀ i, i < k → R i = D i) : mx R k = mx D k := mx_perm k (fun i hi => ⟨i, hi, h i hi⟩) (fun i hi => ⟨i, hi, (h i hi).symm⟩)

/-- The ring R holds the last eight of the first m of ds. -/
def Ring (R ds : Nat → Int) (m : Nat) : Prop := ∀ i, i < m → m ≤ i + 8 → R (i % 8) = ds i
theorem Ring.step {R ds : Nat → Int} {m : Nat} (h : Ring R ds m) (d : Int) : Ring (upd R (m % 8) d) (upd ds m d) (m + 1) := by
  intro i hi hm
  by_cases e : i = m
  · subst e; rw [upd_hit, upd_hit]
  · rw [upd_miss _ _ (by omega), upd_miss _ _ e]; exact h i (by omega) (by omega)
theorem Ring.rot {R ds : Nat → Int} {m : Nat} (h : Ring R ds m) (hm : 8 ≤ m) (j : Nat) (hj : j < 8) : R j = ds (m - 8 + (j + (8 - m % 8) % 8) % 8) := by
  have := h (m - 8 + (j + (8 - m % 8) % 8) % 8) (by omega) (by omega)
  rw [← this]; congr 1; omega
theorem Ring.sum {R ds : Nat → Int} {m : Nat} (h : Ring R ds m) (hm : 8 ≤ m) : sm R 8 = sm (fun t => ds (m - 8 + t)) 8 ∧ mx R 8 = mx (fun t => ds (m - 8 + t)) 8 := by
  have hs : (8 - m % 8) % 8 < 8 := by omega
  exact ⟨(sm_congr 8 fun j hj => h.rot hm j hj).trans (rot_sum (fun t => ds (m - 8 + t)) _ hs), (mx_congr 8 fun j hj => h.rot hm j hj).trans (rot_mx (fun t => ds (m - 8 + t)) _ hs)⟩

/-- What is expected, of the sum and the greatest. -/
def expd (s g t : Int) : Int := if t < (s - g) / 7 then t else (s - g) / 7

theorem expd_bounds (R : Nat → Int) (h : ∀ i, i < 8 → 0 ≤ R i ∧ R i ≤ 1152921504606846976) : lo R 8 ≤ (sm R 8 - mx R 8) / 7 ∧ (sm R 8 - mx R 8) / 7 ≤ mx R 8 := by
  have h1 := sm_lo R (lo R 8) (lo_nonneg R 8 fun i hi => (h i hi).1) 7 fun i hi => lo_le R 8 i hi
  have h2 := (sm_bd R 8 (mx R 8) fun i hi => ⟨(h i hi).1, le_mx R 8 i hi⟩).2
  have h1' : mx R 8 + 7 * lo R 8 ≤ sm R 8 := h1
  have h2' : sm R 8 ≤ 8 * mx R 8 := h2
  omega
end Go.Proofs.Ytgllakmcccjcbaa
