/- Plain laws on the selected state and on energies. No condition. -/
import Derived.Test.YtgllakmcccjcbaaG
namespace Go.Proofs.Ytgllakmcccjcbaa
open Go.RowKit

theorem bthen {w w1 w2 : World} (h : Below w.heap.size w w1) (k : Below w1.heap.size w1 w2) : Below w.heap.size w w2 := h.trans (k.mono h.size)

def fits (f : Nat → S) (x y : Int) (i : Nat) : Prop := (f i).l ≤ y ∧ (f i).r ≤ x

theorem sel_spec (f : Nat → S) (x y : Int) (h0 : fits f x y 0) (k : Nat) :
    sel f x y (k + 1) < k + 1 ∧ fits f x y (sel f x y (k + 1)) ∧ ∀ i, sel f x y (k + 1) < i → i < k + 1 → ¬ fits f x y i := by
  induction k with
  | zero =>
    have e : sel f x y 1 = 0 := by unfold sel; split <;> rfl
    rw [e]
    exact ⟨by omega, h0, fun i h1 h2 => by omega⟩
  | succ k ih =>
    by_cases hf : fits f x y (k + 1)
    · have e : sel f x y (k + 2) = k + 1 := by rw [sel]; exact if_pos hf
      rw [e]
      exact ⟨by omega, hf, fun i h1 h2 => by omega⟩
    · have e : sel f x y (k + 2) = sel f x y (k + 1) := by rw [sel]; exact if_neg hf
      rw [e]
      obtain ⟨a, b, c⟩ := ih
      refine ⟨by omega, b, fun i h1 h2 => ?_⟩
      by_cases hi : i = k + 1
      · rw [hi]; exact hf
      · exact c i h1 (by omega)

theorem sel_valid {f : Nat → S} {n : Nat} {x y : Int} (hv : Valid f n) (hx : 0 ≤ x) (hy : 0 ≤ y) :
    sel f x y n < n ∧ fits f x y (sel f x y n) ∧ ∀ i, sel f x y n < i → i < n → ¬ fits f x y i := by
  obtain ⟨k, rfl⟩ : ∃ k, n = k + 1 := ⟨n - 1, by have := hv.1; omega⟩
  refine sel_spec f x y ?_ k
  have := (hv.2.2 0 (by omega)).2.2.2.1 rfl
  exact ⟨by omega, by omega⟩

/-- latencies and residencies grow -/
theorem Valid.mono {f : Nat → S} {n : Nat} (hv : Valid f n) : ∀ (d i : Nat), i + d < n → (f i).l ≤ (f (i + d)).l ∧ (f i).r ≤ (f (i + d)).r := by
  intro d
  induction d with
  | zero => intro i _; exact ⟨Int.le_refl _, Int.le_refl _⟩
  | succ d ih =>
    intro i hi
    have h1 := ih i (by omega)
    have h2 := (hv.2.2 (i + d + 1) (by omega)).2.2.2.2 (by omega)
    simp only [Nat.add_sub_cancel] at h2
    rw [Nat.add_succ]
    show (f i).l ≤ (f (i + d + 1)).l ∧ (f i).r ≤ (f (i + d + 1)).r
    omega

def sg (f : Nat → S) : Nat → Int
  | 0 => 0
  | k + 1 => sg f k + ((f k).p - (f (k + 1)).p) * (f (k + 1)).r

theorem en_sg (f : Nat → S) (st : Nat) (d : Int) (k : Nat) : en f st d k = (f st).p * d + sg f k := by
  induction k with
  | zero => simp [en, sg]
  | succ k ih => simp only [en, sg, ih]; omega

/-- Two neighbours' energies differ by the step down times what the duration lacks. -/
theorem en_step (f : Nat → S) (k : Nat) (d : Int) : en f (k + 1) d (k + 1) = en f k d k + ((f k).p - (f (k + 1)).p) * ((f (k + 1)).r - d) := by
  rw [en_sg, en_sg, sg, Int.mul_sub, Int.sub_mul _ _ d]
  omega

theorem mul_pos' {a b : Int} (ha : 0 < a) (hb : 0 < b) : 0 < a * b := Int.mul_pos ha hb
theorem mul_neg' {a b : Int} (ha : 0 < a) (hb : b < 0) : a * b < 0 := Int.mul_neg_of_pos_of_neg ha hb
theorem mul_le0 {a b : Int} (ha : 0 < a) (hb : b ≤ 0) : a * b ≤ 0 := Int.mul_nonpos_of_nonneg_of_nonpos (by omega) hb

theorem Valid.pstep {f : Nat → S} {n k : Nat} (hv : Valid f n) (hk : k + 1 < n) : 0 < (f k).p - (f (k + 1)).p := by
  have h := ((hv.2.2 (k + 1) hk).2.2.2.2 (by omega)).2.2
  simp only [Nat.add_sub_cancel] at h
  omega

/-- Every state that the latency limit permits uses at least the energy of the selected one. -/
theorem sel_min {f : Nat → S} {n i : Nat} {x y : Int} (hv : Valid f n) (hx : 0 ≤ x) (hy : 0 ≤ y) (hi : i < n) (hl : (f i).l ≤ y) :
    en f (sel f x y n) x (sel f x y n) ≤ en f i x i := by
  obtain ⟨h1, ⟨h2, h3⟩, h4⟩ := sel_valid hv hx hy
  generalize sel f x y n = s at *
  have up : ∀ d, s + d < n → (f (s + d)).l ≤ y → en f s x s ≤ en f (s + d) x (s + d) := by
    intro d
    induction d with
    | zero => intro _ _; exact Int.le_refl _
    | succ d ih =>
      intro hd hld
      have hm := hv.mono 1 (s + d) (by omega)
      have h5 := ih (by omega) (Int.le_trans hm.1 hld)
      have h6 : ¬ (f (s + d + 1)).r ≤ x := fun h => h4 (s + d + 1) (by omega) (by omega) ⟨hld, h⟩
      have h7 := hv.pstep (k := s + d) (by omega)
      have h8 := mul_pos' h7 (show 0 < (f (s + d + 1)).r - x by omega)
      have h9 := en_step f (s + d) x
      show en f s x s ≤ en f (s + d + 1) x (s + d + 1)
      omega
  have down : ∀ d, d ≤ s → en f s x s ≤ en f (s - d) x (s - d) := by
    intro d
    induction d with
    | zero => intro _; exact Int.le_refl _
    | succ d ih =>
      intro hd
      have h5 := ih (by omega)
      obtain ⟨q, hq⟩ : ∃ q, s - d = q + 1 := ⟨s - d - 1, by omega⟩
      have hq2 : s - (d + 1) = q := by omega
      rw [hq2]
      rw [hq] at h5
      have hm := hv.mono (s - (q + 1)) (q + 1) (by omega)
      rw [show q + 1 + (s - (q + 1)) = s from by omega] at hm
      have h7 := hv.pstep (k := q) (by omega)
      have h8 := mul_le0 h7 (show (f (q + 1)).r - x ≤ 0 by omega)
      have h9 := en_step f q x
      omega
  by_cases h : s ≤ i
  · have := up (i - s) (by omega) (by rw [show s + (i - s) = i from by omega]; exact hl)
    rwa [show s + (i - s) = i from by omega] at this
  · have := down (s - i) (by omega)
    rwa [show s - (s - i) = i from by omega] at this

theorem Small.en_ok {f : Nat → S} {n : Nat} (h : Small f n) (i : Nat) (hi : i < n) : 0 ≤ (f i).l ∧ (f i).l ≤ 280 ∧ 0 ≤ (f i).r ∧ (f i).r ≤ 1400 ∧ 0 ≤ (f i).p ∧ (f i).p ≤ 350 := h.2.2 i hi

end Go.Proofs.Ytgllakmcccjcbaa
