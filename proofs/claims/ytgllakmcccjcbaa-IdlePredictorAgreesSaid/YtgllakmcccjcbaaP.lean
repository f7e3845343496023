/- Plain words for the idle layer: a state, when a list of states is valid, when a slice in memory reads as such a list. No condition. -/
import Derived.Test.YtgllakmcccjcbaaRows
import Derived.WalkKit
import Derived.WalkSpells
import Derived.WalkLawsBesides
import Derived.Lib.Hide
namespace Go.Proofs.Ytgllakmcccjcbaa
open Go.RowKit

structure S where
  l : Int
  r : Int
  p : Int

def S.wf (s : S) : Prop := 0 ≤ s.l ∧ s.l ≤ 18446744073709551615 ∧ 0 ≤ s.r ∧ s.r ≤ 18446744073709551615 ∧ 0 ≤ s.p ∧ s.p ≤ 18446744073709551615

def okAt (f : Nat → S) (i : Nat) : Prop :=
  (f i).l ≤ 1073741824 ∧ (f i).r ≤ 1073741824 ∧ (f i).p ≤ 1048576 ∧ (i = 0 → (f i).l = 0 ∧ (f i).r = 0) ∧
  (0 < i → (f (i - 1)).l < (f i).l ∧ (f (i - 1)).r < (f i).r ∧ (f i).p < (f (i - 1)).p)

def Valid (f : Nat → S) (n : Nat) : Prop := 1 ≤ n ∧ n ≤ 10 ∧ ∀ i, i < n → okAt f i

/-- The slice value '.slice A n c' reads as the n states f 0, f 1, .., and lies below block B. -/
def Sl (w : World) (B : Nat) (A : Option Addr) (n : Nat) (f : Nat → S) : Prop :=
  (∀ i, i < n → (f i).wf) ∧ (0 < n → ∃ b off, A = some ⟨b, off, none⟩ ∧ b < B ∧ ∀ i, i < n → w.cell? ⟨b, off + i * 3, none⟩ = some (.int .u64 (f i).l) ∧
    w.cell? ⟨b, off + i * 3 + 1, none⟩ = some (.int .u64 (f i).r) ∧ w.cell? ⟨b, off + i * 3 + 1 + 1, none⟩ = some (.int .u64 (f i).p))

theorem Sl.below {w w' : World} {B : Nat} {A : Option Addr} {n : Nat} {f : Nat → S} (h : Sl w B A n f) (hb : Below B w w') : Sl w' B A n f := by
  refine ⟨h.1, fun hn => ?_⟩
  obtain ⟨b, off, e, hlt, hc⟩ := h.2 hn
  exact ⟨b, off, e, hlt, fun i hi => by
    obtain ⟨g0, g1, g2⟩ := hc i hi
    exact ⟨(hb.cell hlt).trans g0, (hb.cell hlt).trans g1, (hb.cell hlt).trans g2⟩⟩

theorem Sl.more {w : World} {B B' : Nat} {A : Option Addr} {n : Nat} {f : Nat → S} (h : Sl w B A n f) (hb : B ≤ B') : Sl w B' A n f := by
  refine ⟨h.1, fun hn => ?_⟩
  obtain ⟨b, off, e, hlt, hc⟩ := h.2 hn
  exact ⟨b, off, e, Nat.lt_of_lt_of_le hlt hb, hc⟩

theorem Sl.next {w w' : World} {A : Option Addr} {n : Nat} {f : Nat → S} (h : Sl w w.heap.size A n f) (hb : Below w.heap.size w w') : Sl w' w'.heap.size A n f := (h.below hb).more hb.size

/-- The cells of element k, asked for in a later world. -/
theorem Sl.at_ {w w' : World} {B : Nat} {A : Option Addr} {n k : Nat} {f : Nat → S} (h : Sl w B A n f) (hb : Below B w w') (hk : k < n) :
    ∃ b off, A = some ⟨b, off, none⟩ ∧ b < B ∧ w'.cell? ⟨b, off + k * 3, none⟩ = some (.int .u64 (f k).l) ∧
    w'.cell? ⟨b, off + k * 3 + 1, none⟩ = some (.int .u64 (f k).r) ∧ w'.cell? ⟨b, off + k * 3 + 1 + 1, none⟩ = some (.int .u64 (f k).p) := by
  obtain ⟨b, off, e, hlt, hc⟩ := (h.below hb).2 (by omega)
  exact ⟨b, off, e, hlt, hc k hk⟩

/-- What Check answers. -/
def ChkPost (f : Nat → S) (n : Nat) (w : World) (e : Ending) (w' : World) : Prop :=
  ∃ c : Int, e = .returned (.int .i64 c) ∧ ((c = 0 ∧ Valid f n) ∨ (c = 1 ∧ ¬ Valid f n)) ∧ Below w.heap.size w w'

theorem chk_yes {f : Nat → S} {n : Nat} {w w' : World} (h : Valid f n) (hb : Below w.heap.size w w') : ChkPost f n w (.returned (.int .i64 0)) w' := ⟨0, rfl, .inl ⟨rfl, h⟩, hb⟩
theorem chk_no {f : Nat → S} {n : Nat} {w w' : World} (h : ¬ Valid f n) (hb : Below w.heap.size w w') : ChkPost f n w (.returned (.int .i64 1)) w' := ⟨1, rfl, .inr ⟨rfl, h⟩, hb⟩

theorem ok_step {f : Nat → S} {k : Nat} (h : ∀ i, i < k → okAt f i) (hk : okAt f k) : ∀ i, i < k + 1 → okAt f i := fun i hi => by
  by_cases e : i = k
  · rw [e]; exact hk
  · exact h i (by omega)

theorem not_valid {f : Nat → S} {n k : Nat} (hk : k < n) (h : ¬ okAt f k) : ¬ Valid f n := fun v => h (v.2.2 k hk)

end Go.Proofs.Ytgllakmcccjcbaa
