/- Words on memory: what may have changed between two worlds; a block known cell by cell. No condition. -/
import Derived.Test.YtefgfmnnaglfmaaRows
import Derived.WalkKit
import Derived.WalkSpells
import Derived.WalkLawsBesides
import Derived.Lib.Hide
namespace Go.Proofs.Ytefgfmnnaglfmaa
open Go.RowKit

/-- Between w and w' only blocks of C and new ones have changed. -/
structure Ch (C : Nat → Prop) (w w' : World) : Prop where
  os : w'.os = w.os
  tape : w'.tape = w.tape
  output : w'.output = w.output
  size : w.heap.size ≤ w'.heap.size
  block : ∀ k, k < w.heap.size → ¬ C k → w'.heap[k]? = w.heap[k]?

theorem Ch.refl (C : Nat → Prop) (w : World) : Ch C w w := ⟨rfl, rfl, rfl, Nat.le_refl _, fun _ _ _ => rfl⟩
theorem Ch.trans {C : Nat → Prop} {a b c : World} (h : Ch C a b) (k : Ch C b c) : Ch C a c :=
  ⟨k.os.trans h.os, k.tape.trans h.tape, k.output.trans h.output, Nat.le_trans h.size k.size, fun i hi hn => (k.block i (Nat.lt_of_lt_of_le hi h.size) hn).trans (h.block i hi hn)⟩
/-- Two steps; what the second may change is new to the first, or among what the first may change. -/
theorem Ch.andThen {C D : Nat → Prop} {a b c : World} (h : Ch C a b) (k : Ch D b c) (hd : ∀ i, D i → i < a.heap.size → C i) : Ch C a c :=
  ⟨k.os.trans h.os, k.tape.trans h.tape, k.output.trans h.output, Nat.le_trans h.size k.size, fun i hi hn => (k.block i (Nat.lt_of_lt_of_le hi h.size) (fun hD => hn (hd i hD hi))).trans (h.block i hi hn)⟩
theorem Ch.mono {C D : Nat → Prop} {a b : World} (h : Ch C a b) (hd : ∀ i, C i → i < a.heap.size → D i) : Ch D a b :=
  ⟨h.os, h.tape, h.output, h.size, fun i hi hn => h.block i hi (fun hC => hn (hd i hC hi))⟩
theorem Ch.drew {C : Nat → Prop} {a w : World} (h : Ch C a w) : Ch C a w.drew := ⟨h.os, h.tape, h.output, h.size, h.block⟩
theorem Ch.drewN {C : Nat → Prop} {a w : World} (h : Ch C a w) (n : Nat) : Ch C a (w.drewN n) := ⟨h.os, h.tape, h.output, h.size, h.block⟩
theorem Ch.alloc {C : Nat → Prop} {a w : World} (h : Ch C a w) (o : Obj) : Ch C a (w.alloc o) :=
  ⟨h.os, h.tape, h.output, Nat.le_trans h.size (by simp), fun i hi hn => (Below.heap_alloc w o i (Nat.lt_of_lt_of_le hi h.size)).trans (h.block i hi hn)⟩
theorem Ch.setCell {C : Nat → Prop} {a w : World} (h : Ch C a w) {p : Addr} (hp : p.block < a.heap.size → C p.block) (u : Value) : Ch C a (w.setCell p u) :=
  ⟨h.os, h.tape, h.output, by simpa [World.setCell] using h.size, fun i hi hn => (Below.heap_setCell w p u i (by rintro rfl; exact hn (hp hi))).trans (h.block i hi hn)⟩
theorem Ch.of_below {a w : World} (h : Below a.heap.size a w) (C : Nat → Prop) : Ch C a w := ⟨h.os, h.tape, h.output, h.size, fun i hi _ => h.block i hi⟩
theorem Ch.below {C : Nat → Prop} {a w : World} {B : Nat} (h : Ch C a w) (hB : B ≤ a.heap.size) (hC : ∀ i, C i → B ≤ i) : Below B a w :=
  ⟨h.os, h.tape, h.output, h.size, fun k hk => h.block k (Nat.lt_of_lt_of_le hk hB) (fun hc => by have := hC k hc; omega)⟩
theorem Ch.of_grown {a w : World} {row : Option Nat} (h : a.grownBy w row) {C : Nat → Prop} (hr : ∀ k, row = some k → k < a.heap.size → C k) : Ch C a w :=
  ⟨h.os, h.tape, h.output, h.size, fun i hi hn => h.block i hi (fun e => hn (hr i e.symm hi))⟩
theorem Below.thenCh {a b c : World} {B : Nat} {C : Nat → Prop} (h : Below B a b) (k : Ch C b c) (hB : B ≤ b.heap.size) (hC : ∀ i, C i → B ≤ i) : Below B a c := h.trans (k.below hB hC)
theorem Ch.cell {C : Nat → Prop} {w w' : World} (k : Ch C w w') (p : Addr) (hp : p.block < w.heap.size) (hn : ¬ C p.block) : w'.cell? p = w.cell? p := World.cell?_of_block (w := w) (k.block p.block hp hn)
theorem Ch.frozen {C : Nat → Prop} {w w' : World} (k : Ch C w w') (p : Addr) (hp : p.block < w.heap.size) (hn : ¬ C p.block) : w'.frozen? p = w.frozen? p := World.frozen?_of_block (w := w) (k.block p.block hp hn)
theorem bthen {w w1 w2 : World} (h : Below w.heap.size w w1) (k : Below w1.heap.size w1 w2) : Below w.heap.size w w2 := h.trans (k.mono h.size)

theorem heap_lt {w : World} {g : Nat} {o : Obj} (h : w.heap[g]? = some o) : g < w.heap.size := by
  rcases Nat.lt_or_ge g w.heap.size with hlt | hge
  · exact hlt
  · rw [Array.getElem?_eq_none hge] at h; cases h
theorem heap_set {w : World} {g t i : Nat} {cs : Array Value} (h : w.heap[g]? = some (.cells cs t (0, 0))) (u : Value) : (w.setCell ⟨g, i, none⟩ u).heap[g]? = some (.cells (cs.setIfInBounds i u) t (0, 0)) := by
  simp [World.setCell, Array.getElem?_modify, h]
theorem set_hit {cs : Array Value} {i : Nat} {u : Value} (h : i < cs.size) : (cs.setIfInBounds i u)[i]? = some u := by simp [h]
theorem set_miss {cs : Array Value} {i j : Nat} {u : Value} (h : i ≠ j) : (cs.setIfInBounds i u)[j]? = cs[j]? := by simp [h]

def upd {α : Type} (v : Nat → α) (i : Nat) (u : α) : Nat → α := fun j => if j = i then u else v j
theorem upd_hit {α : Type} (v : Nat → α) (i : Nat) (u : α) : upd v i u i = u := if_pos rfl
theorem upd_miss {α : Type} (v : Nat → α) {i j : Nat} (u : α) (h : j ≠ i) : upd v i u j = v j := if_neg h

/-- Block B is N cells of element type t, none frozen; cell i holds v i. -/
def Row (w : World) (B t N : Nat) (v : Nat → Value) : Prop := ∃ cs : Array Value, w.heap[B]? = some (.cells cs t (0, 0)) ∧ cs.size = N ∧ ∀ i, i < N → cs[i]? = some (v i)

section
variable {w w' : World} {B t N : Nat} {v v' : Nat → Value}
theorem Row.lt (h : Row w B t N v) : B < w.heap.size := by obtain ⟨_, hh, _⟩ := h; exact heap_lt hh
theorem Row.cell (h : Row w B t N v) {i : Nat} (hi : i < N) : w.cell? ⟨B, i, none⟩ = some (v i) := by
  obtain ⟨cs, hh, _, hc⟩ := h
  rw [cell_of_row w B i cs t (0, 0) hh, hc i hi]
theorem Row.frozen (h : Row w B t N v) (i : Nat) : w.frozen? ⟨B, i, none⟩ = false := by
  obtain ⟨cs, hh, _, _⟩ := h
  simp [World.frozen?, hh]
theorem Row.congr (h : Row w B t N v) (e : ∀ i, i < N → v i = v' i) : Row w B t N v' := by
  obtain ⟨cs, hh, hs, hc⟩ := h
  exact ⟨cs, hh, hs, fun i hi => by rw [hc i hi, e i hi]⟩
theorem Row.set (h : Row w B t N v) {i : Nat} (hi : i < N) (u : Value) : Row (w.setCell ⟨B, i, none⟩ u) B t N (upd v i u) := by
  obtain ⟨cs, hh, hs, hc⟩ := h
  refine ⟨_, heap_set hh u, by simpa using hs, fun j hj => ?_⟩
  by_cases e : j = i
  · subst e; rw [set_hit (by omega), upd_hit]
  · rw [set_miss (Ne.symm e), upd_miss _ _ e, hc j hj]
theorem Row.far (h : Row w B t N v) {p : Addr} (hp : B ≠ p.block) (u : Value) : Row (w.setCell p u) B t N v := by
  obtain ⟨cs, hh, hs, hc⟩ := h
  exact ⟨cs, (Below.heap_setCell w p u B hp).trans hh, hs, hc⟩
theorem Row.alloc (h : Row w B t N v) (o : Obj) : Row (w.alloc o) B t N v := by
  have hlt := h.lt
  obtain ⟨cs, hh, hs, hc⟩ := h
  exact ⟨cs, (Below.heap_alloc w o B hlt).trans hh, hs, hc⟩
theorem Row.drew (h : Row w B t N v) : Row w.drew B t N v := h
theorem Row.drewN (h : Row w B t N v) (n : Nat) : Row (w.drewN n) B t N v := h
theorem Row.ch {C : Nat → Prop} (h : Row w B t N v) (k : Ch C w w') (hB : ¬ C B) : Row w' B t N v := by
  have hlt := h.lt
  obtain ⟨cs, hh, hs, hc⟩ := h
  exact ⟨cs, (k.block B hlt hB).trans hh, hs, hc⟩
theorem Row.below {B0 : Nat} (h : Row w B t N v) (k : Below B0 w w') (hB : B < B0) : Row w' B t N v := by
  obtain ⟨cs, hh, hs, hc⟩ := h
  exact ⟨cs, (k.block B hB).trans hh, hs, hc⟩
theorem Row.new (w : World) (t : Nat) (cs : Array Value) (v : Nat → Value) (h : ∀ i, i < cs.size → cs[i]? = some (v i)) : Row (w.alloc (.cells cs t)) w.heap.size t cs.size v := ⟨cs, heap_alloc_new w _, rfl, h⟩
end
theorem Row.ofList (w : World) (t : Nat) (cs : Array Value) (v : Nat → Value) (N : Nat) (h : cs.toList = (List.range N).map v) : Row (w.alloc (.cells cs t)) w.heap.size t N v := by
  have hs : cs.size = N := by rw [← Array.length_toList, h]; simp
  refine ⟨cs, heap_alloc_new w _, hs, fun i hi => ?_⟩
  rw [← Array.getElem?_toList, h]
  simp [hi]

/-- An element of an array value, the elements of one cell each. -/
theorem run_index_array {P : Program} (t e : TypeId) (len : Nat) (d : TypeDesc) (i : TypeInfo) (cs : Array Value) (k : Nat) (v : Value) (ht : P.underlying t = some (.array len e)) (he : P.underlying e = some d)
    (hd : (match d with | .struct _ | .array _ _ => true | _ => false) = false) (hi : P.info? e = some i) (hs : i.size = 1) (hk : k < len) (hv : cs[k]? = some v) (w : World) :
    (Instr.index t (.agg cs) (.int .i64 (k : Int))).run P w = .ok v w := by
  have hagg : (isAgg e).run P w = .ok false w := by
    unfold isAgg
    rw [Sem.run_bind, run_underlying he w]
    cases d <;> simp_all
  simp [Instr.index, asIntOf, run_underlying ht, hk, part, hagg, sizeOf, typeInfo, hi, hs, hv]

theorem ret_int {k : IntKind} {a b : Int} (h : a = b) : Ending.returned (.int k a) = .returned (.int k b) := by rw [h]

end Go.Proofs.Ytefgfmnnaglfmaa
