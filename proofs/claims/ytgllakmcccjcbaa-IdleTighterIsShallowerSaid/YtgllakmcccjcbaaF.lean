/- States: the list that it makes is valid and small. No condition. -/
import Derived.Test.YtgllakmcccjcbaaE
import Derived.Laws.MakeOwn
import Derived.RegionTactic
import Derived.Deep.DeepCutAuto
namespace Go.Proofs.Ytgllakmcccjcbaa
open Go.RowKit

theorem run_make_rowN {P : Program} (t e : TypeId) (i : TypeInfo) (z : Value) (ht : P.underlying t = some (.slice e)) (hi : P.info? e = some i) (hz : i.zero = some z)
    (kl kc : IntKind) (n c : Nat) (hnc : n ≤ c) (hbytes : i.bytes * c ≤ 281474976710656) (h63 : c ≤ 9223372036854775807) (w : World) :
    (Instr.makeSlice t (.int kl (n : Int)) (.int kc (c : Int))).run P w = .ok (.slice (some ⟨w.heap.size, 0, none⟩) n c) (w.alloc (.cells (madeCells z.cells (c * i.size)) e)) := by
  have hb : (i.bytes : Int) * (c : Int) ≤ 281474976710656 := by
    have h : ((i.bytes * c : Nat) : Int) ≤ 281474976710656 := by omega
    rwa [Int.natCast_mul] at h
  have hr := run_make (P := P) w t e i z ht hi hz kl kc n c (by omega) (by omega) hb (by omega)
  simp only [Int.toNat_natCast] at hr
  exact hr

theorem Try.info25 : (Try.prog.info? 25).map (fun i => (i.zero, i.size, i.bytes)) = some (some (.agg #[.int .u64 0, .int .u64 0, .int .u64 0]), 3, 24) := by kernel_rfl

/-- Block B holds the n states g 0, g 1, .., and may be written. -/
def Own (w : World) (B n : Nat) (g : Nat → S) : Prop :=
  ∃ cs : Array Value, w.heap[B]? = some (.cells cs 25 (0, 0)) ∧ ∀ i, i < n → cs[i * 3]? = some (.int .u64 (g i).l) ∧ cs[i * 3 + 1]? = some (.int .u64 (g i).r) ∧ cs[i * 3 + 2]? = some (.int .u64 (g i).p)

def S0 : S := ⟨0, 0, 0⟩

theorem heap_lt {w : World} {g : Nat} {o : Obj} (h : w.heap[g]? = some o) : g < w.heap.size := by
  rcases Nat.lt_or_ge g w.heap.size with hlt | hge
  · exact hlt
  · rw [Array.getElem?_eq_none hge] at h; cases h

theorem Own.at_ {w : World} {B n k : Nat} {g : Nat → S} (h : Own w B n g) (hk : k < n) :
    B < w.heap.size ∧ (w.cell? ⟨B, k * 3, none⟩ = some (.int .u64 (g k).l) ∧ w.cell? ⟨B, k * 3 + 1, none⟩ = some (.int .u64 (g k).r) ∧ w.cell? ⟨B, k * 3 + 2, none⟩ = some (.int .u64 (g k).p)) ∧
    w.frozen? ⟨B, k * 3, none⟩ = false ∧ w.frozen? ⟨B, k * 3 + 1, none⟩ = false ∧ w.frozen? ⟨B, k * 3 + 2, none⟩ = false := by
  obtain ⟨cs, hh, hc⟩ := h
  obtain ⟨c0, c1, c2⟩ := hc k hk
  refine ⟨heap_lt hh, ⟨?_, ?_, ?_⟩, ?_, ?_, ?_⟩
  · rw [cell_of_row w B _ cs 25 (0, 0) hh, c0]
  · rw [cell_of_row w B _ cs 25 (0, 0) hh, c1]
  · rw [cell_of_row w B _ cs 25 (0, 0) hh, c2]
  all_goals simp [World.frozen?, hh]

theorem heap_set {w : World} {g t i : Nat} {cs : Array Value} (h : w.heap[g]? = some (.cells cs t (0, 0))) (u : Value) : (w.setCell ⟨g, i, none⟩ u).heap[g]? = some (.cells (cs.setIfInBounds i u) t (0, 0)) := by
  simp [World.setCell, Array.getElem?_modify, h]

theorem set_hit {cs : Array Value} {i : Nat} {u : Value} (h : i < cs.size) : (cs.setIfInBounds i u)[i]? = some u := by simp [h]
theorem set_miss {cs : Array Value} {i j : Nat} {u : Value} (h : i ≠ j) : (cs.setIfInBounds i u)[j]? = cs[j]? := by simp [h]

theorem Own.set {w : World} {B n k j : Nat} {g : Nat → S} (h : Own w B n g) (hk : k < n) (hj : j < 3) (v : Int) (x : S)
    (hx : x = match j with | 0 => ⟨v, (g k).r, (g k).p⟩ | 1 => ⟨(g k).l, v, (g k).p⟩ | _ => ⟨(g k).l, (g k).r, v⟩) :
    Own (w.setCell ⟨B, k * 3 + j, none⟩ (.int .u64 v)) B n (fun i => if i = k then x else g i) := by
  subst hx
  obtain ⟨cs, hh, hc⟩ := h
  refine ⟨_, heap_set hh _, fun i hi => ?_⟩
  obtain ⟨c0, c1, c2⟩ := hc i hi
  have hs := (Array.getElem?_eq_some_iff.1 (hc k hk).2.2).1
  by_cases e : i = k
  · subst e
    simp only [if_true]
    match j, hj with
    | 0, _ => exact ⟨set_hit (by omega), (set_miss (by omega)).trans c1, (set_miss (by omega)).trans c2⟩
    | 1, _ => exact ⟨(set_miss (by omega)).trans c0, set_hit (by omega), (set_miss (by omega)).trans c2⟩
    | 2, _ => exact ⟨(set_miss (by omega)).trans c0, (set_miss (by omega)).trans c1, set_hit (by omega)⟩
  · simp only [if_neg e]
    exact ⟨(set_miss (by omega)).trans c0, (set_miss (by omega)).trans c1, (set_miss (by omega)).trans c2⟩

theorem made_at (i n : Nat) (h : i < n * 3) : (madeCells #[Value.int .u64 0, Value.int .u64 0, Value.int .u64 0] (n * 3))[i]? = some (.int .u64 0) := by
  have h3 : i % 3 = 0 ∨ i % 3 = 1 ∨ i % 3 = 2 := by omega
  rcases h3 with e | e | e <;> simp [madeCells, h, e]

theorem own_made (w : World) (n : Nat) : Own (w.alloc (.cells (madeCells #[.int .u64 0, .int .u64 0, .int .u64 0] (n * 3)) 25)) w.heap.size n (fun _ => S0) :=
  ⟨_, heap_alloc_new w _, fun i hi => ⟨made_at _ _ (by omega), made_at _ _ (by omega), made_at _ _ (by omega)⟩⟩

end Go.Proofs.Ytgllakmcccjcbaa
