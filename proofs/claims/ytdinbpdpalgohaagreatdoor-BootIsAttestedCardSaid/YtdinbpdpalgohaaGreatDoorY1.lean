/- Words on memory; a region that draws its order, walked by a plan; rows. Conditions: those that each theorem names. -/
import Derived.WalkKit
import Derived.WalkSpells
import Derived.WalkLawsBesides
import Derived.Lib.Hide
import Derived.Deep.RegionHeld3
import Derived.StillTail
import Derived.KernelRfl
import Derived.Test.YtdinbpdpalgohaaGreatDoorRows
import Derived.Test.YtdinbpdpalgohaaGreatDoorSh
namespace Go.Proofs.YtdinbpdpalgohaaGreatDoor
open Go.RowKit

/-- Between w and w' only blocks of C and new ones have changed. -/
structure Ch (C : Nat → Prop) (w w' : World) : Prop where
  os : w'.os = w.os
  tape : w'.tape = w.tape
  output : w'.output = w.output
  size : w.heap.size ≤ w'.heap.size
  block : ∀ k, k < w.heap.size → ¬ C k → w'.heap[k]? = w.heap[k]?

theorem Ch.refl (C : Nat → Prop) (w : World) : Ch C w w := ⟨rfl, rfl, rfl, Nat.le_refl _, fun _ _ _ => rfl⟩
theorem Ch.trans {C : Nat → Prop} {a b c : World} (h : Ch C a b) (k : Ch C b c) : Ch C a c :=
  ⟨k.os.trans h.os, k.tape.trans h.tape, k.output.trans h.output, Nat.le_trans h.size k.size, fun i hi hn => (k.block i (Nat.lt_of_lt_of_le hi h.size) hn).trans (h.block i hi hn)⟩
/-- Two steps; what the second may change is new to the first, or among what the first may change. -/
theorem Ch.andThen {C D : Nat → Prop} {a b c : World} (h : Ch C a b) (k : Ch D b c) (hd : ∀ i, D i → i < a.heap.size → C i) : Ch C a c :=
  ⟨k.os.trans h.os, k.tape.trans h.tape, k.output.trans h.output, Nat.le_trans h.size k.size, fun i hi hn => (k.block i (Nat.lt_of_lt_of_le hi h.size) (fun hD => hn (hd i hD hi))).trans (h.block i hi hn)⟩
theorem Ch.mono {C D : Nat → Prop} {a b : World} (h : Ch C a b) (hd : ∀ i, C i → i < a.heap.size → D i) : Ch D a b :=
  ⟨h.os, h.tape, h.output, h.size, fun i hi hn => h.block i hi (fun hC => hn (hd i hC hi))⟩
theorem Ch.drew {C : Nat → Prop} {a w : World} (h : Ch C a w) : Ch C a w.drew := ⟨h.os, h.tape, h.output, h.size, h.block⟩
theorem Ch.drewN {C : Nat → Prop} {a w : World} (h : Ch C a w) (n : Nat) : Ch C a (w.drewN n) := ⟨h.os, h.tape, h.output, h.size, h.block⟩
theorem Ch.alloc {C : Nat → Prop} {a w : World} (h : Ch C a w) (o : Obj) : Ch C a (w.alloc o) :=
  ⟨h.os, h.tape, h.output, Nat.le_trans h.size (by simp), fun i hi hn => (Below.heap_alloc w o i (Nat.lt_of_lt_of_le hi h.size)).trans (h.block i hi hn)⟩
theorem Ch.setCell {C : Nat → Prop} {a w : World} (h : Ch C a w) {p : Addr} (hp : p.block < a.heap.size → C p.block) (u : Value) : Ch C a (w.setCell p u) :=
  ⟨h.os, h.tape, h.output, by simpa [World.setCell] using h.size, fun i hi hn => (Below.heap_setCell w p u i (by rintro rfl; exact hn (hp hi))).trans (h.block i hi hn)⟩
theorem Ch.of_below {a w : World} (h : Below a.heap.size a w) (C : Nat → Prop) : Ch C a w := ⟨h.os, h.tape, h.output, h.size, fun i hi _ => h.block i hi⟩
theorem Ch.below {C : Nat → Prop} {a w : World} {B : Nat} (h : Ch C a w) (hB : B ≤ a.heap.size) (hC : ∀ i, C i → B ≤ i) : Below B a w :=
  ⟨h.os, h.tape, h.output, h.size, fun k hk => h.block k (Nat.lt_of_lt_of_le hk hB) (fun hc => by have := hC k hc; omega)⟩
theorem Ch.of_grown {a w : World} {row : Option Nat} (h : a.grownBy w row) {C : Nat → Prop} (hr : ∀ k, row = some k → k < a.heap.size → C k) : Ch C a w :=
  ⟨h.os, h.tape, h.output, h.size, fun i hi hn => h.block i hi (fun e => hn (hr i e.symm hi))⟩
theorem Below.thenCh {a b c : World} {B : Nat} {C : Nat → Prop} (h : Below B a b) (k : Ch C b c) (hB : B ≤ b.heap.size) (hC : ∀ i, C i → B ≤ i) : Below B a c := h.trans (k.below hB hC)
theorem Ch.cell {C : Nat → Prop} {w w' : World} (k : Ch C w w') (p : Addr) (hp : p.block < w.heap.size) (hn : ¬ C p.block) : w'.cell? p = w.cell? p := World.cell?_of_block (w := w) (k.block p.block hp hn)
theorem Ch.frozen {C : Nat → Prop} {w w' : World} (k : Ch C w w') (p : Addr) (hp : p.block < w.heap.size) (hn : ¬ C p.block) : w'.frozen? p = w.frozen? p := World.frozen?_of_block (w := w) (k.block p.block hp hn)
theorem bthen {w w1 w2 : World} (h : Below w.heap.size w w1) (k : Below w1.heap.size w1 w2) : Below w.heap.size w w2 := h.trans (k.mono h.size)

theorem heap_lt {w : World} {g : Nat} {o : Obj} (h : w.heap[g]? = some o) : g < w.heap.size := by
  rcases Nat.lt_or_ge g w.heap.size with hlt | hge
  · exact hlt
  · rw [Array.getElem?_eq_none hge] at h; cases h
theorem heap_set {w : World} {g t i : Nat} {cs : Array Value} (h : w.heap[g]? = some (.cells cs t (0, 0))) (u : Value) : (w.setCell ⟨g, i, none⟩ u).heap[g]? = some (.cells (cs.setIfInBounds i u) t (0, 0)) := by
  simp [World.setCell, Array.getElem?_modify, h]
theorem set_hit {cs : Array Value} {i : Nat} {u : Value} (h : i < cs.size) : (cs.setIfInBounds i u)[i]? = some u := by simp [h]
theorem set_miss {cs : Array Value} {i j : Nat} {u : Value} (h : i ≠ j) : (cs.setIfInBounds i u)[j]? = cs[j]? := by simp [h]

def upd {α : Type} (v : Nat → α) (i : Nat) (u : α) : Nat → α := fun j => if j = i then u else v j
theorem upd_hit {α : Type} (v : Nat → α) (i : Nat) (u : α) : upd v i u i = u := if_pos rfl
theorem upd_miss {α : Type} (v : Nat → α) {i j : Nat} (u : α) (h : j ≠ i) : upd v i u j = v j := if_neg h

/-- Block B is N cells of element type t, none frozen; cell i holds v i. -/
def Row (w : World) (B t N : Nat) (v : Nat → Value) : Prop := ∃ cs : Array Value, w.heap[B]? = some (.cells cs t (0, 0)) ∧ cs.size = N ∧ ∀ i, i < N → cs[i]? = some (v i)

section
variable {w w' : World} {B t N : Nat} {v v' : Nat → Value}
theorem Row.lt (h : Row w B t N v) : B < w.heap.size := by obtain ⟨_, hh, _⟩ := h; exact heap_lt hh
theorem Row.cell (h : Row w B t N v) {i : Nat} (hi : i < N) : w.cell? ⟨B, i, none⟩ = some (v i) := by
  obtain ⟨cs, hh, _, hc⟩ := h
  rw [cell_of_row w B i cs t (0, 0) hh, hc i hi]
theorem Row.frozen (h : Row w B t N v) (i : Nat) : w.frozen? ⟨B, i, none⟩ = false := by
  obtain ⟨cs, hh, _, _⟩ := h
  simp [World.frozen?, hh]
theorem Row.congr (h : Row w B t N v) (e : ∀ i, i < N → v i = v' i) : Row w B t N v' := by
  obtain ⟨cs, hh, hs, hc⟩ := h
  exact ⟨cs, hh, hs, fun i hi => by rw [hc i hi, e i hi]⟩
theorem Row.set (h : Row w B t N v) {i : Nat} (hi : i < N) (u : Value) : Row (w.setCell ⟨B, i, none⟩ u) B t N (upd v i u) := by
  obtain ⟨cs, hh, hs, hc⟩ := h
  refine ⟨_, heap_set hh u, by simpa using hs, fun j hj => ?_⟩
  by_cases e : j = i
  · subst e; rw [set_hit (by omega), upd_hit]
  · rw [set_miss (Ne.symm e), upd_miss _ _ e, hc j hj]
theorem Row.far (h : Row w B t N v) {p : Addr} (hp : B ≠ p.block) (u : Value) : Row (w.setCell p u) B t N v := by
  obtain ⟨cs, hh, hs, hc⟩ := h
  exact ⟨cs, (Below.heap_setCell w p u B hp).trans hh, hs, hc⟩
theorem Row.alloc (h : Row w B t N v) (o : Obj) : Row (w.alloc o) B t N v := by
  have hlt := h.lt
  obtain ⟨cs, hh, hs, hc⟩ := h
  exact ⟨cs, (Below.heap_alloc w o B hlt).trans hh, hs, hc⟩
theorem Row.drew (h : Row w B t N v) : Row w.drew B t N v := h
theorem Row.drewN (h : Row w B t N v) (n : Nat) : Row (w.drewN n) B t N v := h
theorem Row.ch {C : Nat → Prop} (h : Row w B t N v) (k : Ch C w w') (hB : ¬ C B) : Row w' B t N v := by
  have hlt := h.lt
  obtain ⟨cs, hh, hs, hc⟩ := h
  exact ⟨cs, (k.block B hlt hB).trans hh, hs, hc⟩
theorem Row.below {B0 : Nat} (h : Row w B t N v) (k : Below B0 w w') (hB : B < B0) : Row w' B t N v := by
  obtain ⟨cs, hh, hs, hc⟩ := h
  exact ⟨cs, (k.block B hB).trans hh, hs, hc⟩
theorem Row.new (w : World) (t : Nat) (cs : Array Value) (v : Nat → Value) (h : ∀ i, i < cs.size → cs[i]? = some (v i)) : Row (w.alloc (.cells cs t)) w.heap.size t cs.size v := ⟨cs, heap_alloc_new w _, rfl, h⟩
end
theorem Row.ofList (w : World) (t : Nat) (cs : Array Value) (v : Nat → Value) (N : Nat) (h : cs.toList = (List.range N).map v) : Row (w.alloc (.cells cs t)) w.heap.size t N v := by
  have hs : cs.size = N := by rw [← Array.length_toList, h]; simp
  refine ⟨cs, heap_alloc_new w _, hs, fun i hi => ?_⟩
  rw [← Array.getElem?_toList, h]
  simp [hi]

/-- An element of an array value, the elements of one cell each. -/
theorem run_index_array {P : Program} (t e : TypeId) (len : Nat) (d : TypeDesc) (i : TypeInfo) (cs : Array Value) (k : Nat) (v : Value) (ht : P.underlying t = some (.array len e)) (he : P.underlying e = some d)
    (hd : (match d with | .struct _ | .array _ _ => true | _ => false) = false) (hi : P.info? e = some i) (hs : i.size = 1) (hk : k < len) (hv : cs[k]? = some v) (w : World) :
    (Instr.index t (.agg cs) (.int .i64 (k : Int))).run P w = .ok v w := by
  have hagg : (isAgg e).run P w = .ok false w := by
    unfold isAgg
    rw [Sem.run_bind, run_underlying he w]
    cases d <;> simp_all
  simp [Instr.index, asIntOf, run_underlying ht, hk, part, hagg, sizeOf, typeInfo, hi, hs, hv]

theorem ret_int {k : IntKind} {a b : Int} (h : a = b) : Ending.returned (.int k a) = .returned (.int k b) := by rw [h]

end Go.Proofs.YtdinbpdpalgohaaGreatDoor
namespace Go.Proofs.YtdinbpdpalgohaaGreatDoor
open Go

section
variable {P : Program} {ops : Array Oper} {Q : Exit → Act → World → Prop} {md : Region.Mode} {S : World → Prop} {N : Nat → Bool}

/-- In every world that meets S the operation yields v and leaves the world alone (a call: by its contract). -/
def YS (P : Program) (ops : Array Oper) (S : World → Prop) (o : Oper) (v : Value) (a : Act) : Prop :=
  (Region.wanted o (yielded ops a.tmps) = true ∧ ∀ w, S w → ((execOp a.eval o).run P w = .ok (.value v) w ∨ ((execOp a.eval o).run P w = .ok .skip w ∧ v = undef) ∨
    ∃ f args, (execOp a.eval o).run P w = .ok (.enter f args) w ∧ Calls P f args w (fun e w'' => e = .returned v ∧ w'' = w))) ∨
  (Region.wanted o (yielded ops a.tmps) = false ∧ v = undef)
theorem YS.of_same {o : Oper} {v : Value} {a a' : Act} (hy : YS P ops S o v a) (he : execOp a'.eval o = execOp a.eval o)
    (hw : Region.wanted o (yielded ops a'.tmps) = Region.wanted o (yielded ops a.tmps)) : YS P ops S o v a' := by
  unfold YS at *
  rw [he, hw]
  exact hy
theorem YS.wpOp {i : Nat} {o : Oper} {v : Value} {a : Act} (hi : ops[i]? = some o) (hy : YS P ops S o v a)
    {K : Act → World → Prop} {w : World} (hS : S w) (h : K (a.put o.dst v) w) : wpOp P ops Q i K a w := by
  unfold Go.wpOp
  simp only [hi]
  rcases hy with ⟨hw, hv⟩ | ⟨hw, rfl⟩
  · simp only [hw, if_true]
    refine .inl ?_
    unfold Oper.wp
    rcases hv w hS with h1 | ⟨h1, rfl⟩ | ⟨f, args, h1, hc⟩
    · rw [h1]; exact h
    · rw [h1]; exact h
    · rw [h1]; exact hc.mono fun e w'' ⟨he, hw⟩ => by subst he; subst hw; exact h
  · simp only [hw, Bool.false_eq_true, if_false]; exact h
theorem wpOp_putS {j : Nat} {oi oj : Oper} {v : Value} (hj : ops[j]? = some oj) (hap : oi.apart ops oj = true)
    (hsi : ∀ cs b, oi.op ≠ .select cs b) (hsj : ∀ cs b, oj.op ≠ .select cs b)
    (hQ : ∀ c a w, ¬ Q (.panic c) a w) {K : Act → World → Prop} {a : Act} {w : World}
    (hy : YS P ops S oi v a) (h : wpOp P ops Q j K (a.put oi.dst v) w) :
    wpOp P ops Q j (fun a' w' => YS P ops S oi v a' ∧ K (a'.put oi.dst v) w') a w := by
  obtain ⟨h1, h2, h3⟩ := Oper.apart_spec hap
  have keep : ∀ (a : Act), YS P ops S oi v a → ∀ u, YS P ops S oi v (a.put oj.dst u) := fun a hy u =>
    hy.of_same (execOp_put oi hsi a oj.dst u h3) (wanted_put oi a oj.dst u h3)
  have keepD : ∀ d, YS P ops S oi v { a with defers := d :: a.defers } := fun d => hy.of_same rfl rfl
  unfold wpOp at *
  simp only [hj] at *
  rw [wanted_put oj a oi.dst v h1] at h
  split
  · rename_i hw
    simp only [hw, if_true] at h
    rcases h with h | ⟨hasks, hlets⟩
    case inr => exact .inr ⟨by unfold Oper.asks at *; rw [execOp_put oj hsj a oi.dst v h1] at hasks; exact hasks, hlets⟩
    refine .inl ?_
    unfold Oper.wp at *
    rw [execOp_put oj hsj a oi.dst v h1] at h
    generalize (execOp a.eval oj).run P w = r at *
    cases r with
    | ok n w' =>
      cases n <;> simp only [Oper.upon] at h ⊢
      case value u => exact ⟨keep a hy u, by rw [← Act.put_comm a v u h2]; exact h⟩
      case skip => exact ⟨keep a hy _, by rw [← Act.put_comm a v undef h2]; exact h⟩
      case defer d =>
        refine ⟨keep _ (keepD d) _, ?_⟩
        rw [← Act.put_comm _ v undef h2, ← Act.put_defers]
        exact h
      case enter f args =>
        refine Calls.mono h fun e w'' he => ?_
        cases e with
        | returned u => exact ⟨keep a hy u, by rw [← Act.put_comm a v u h2]; exact he⟩
        | panicked c => exact absurd he (hQ _ _ _)
        | outgrown => exact he
      case row row args => exact Rows.mono h fun u w'' he => ⟨keep a hy u, by rw [← Act.put_comm a v u h2]; exact he⟩
    | halt x w' =>
      cases x <;> simp only [Oper.upon] at h ⊢
      case panic u => exact absurd h (hQ _ _ _)
  · rename_i hw
    simp only [hw] at h
    exact ⟨keep a hy _, by rw [← Act.put_comm a v undef h2]; exact h⟩
/-- Whatever order is picked; behind each operation but those of N the world meets S. -/
def wpAnyP (P : Program) (md : Region.Mode) (ops : Array Oper) (Q : Exit → Act → World → Prop) (S : World → Prop) (N : Nat → Bool) : Nat → Array Bool → Act → World → Prop
  | 0, listed, a, w => Region.ready md ops listed = [] ∧ Q .normal a w
  | fuel + 1, listed, a, w =>
    (Region.ready md ops listed = [] → Q .normal a w) ∧
    ∀ i ∈ Region.ready md ops listed, wpOp P ops Q i (fun a' w' => (N i = true ∨ S w') ∧ wpAnyP P md ops Q S N fuel (listed.setIfInBounds i true) a' w') a w
theorem wpAny_of_P : ∀ (fuel : Nat) (listed : Array Bool) (a : Act) (w : World), wpAnyP P md ops Q S N fuel listed a w → wpAny P md ops Q fuel listed a w
  | 0, _, _, _, h => h
  | fuel + 1, _, _, _, h => ⟨h.1, fun i hi => wpOp_mono (fun a' w' h' => wpAny_of_P fuel _ a' w' h'.2) (h.2 i hi)⟩
theorem wpAnyP_first {i : Nat} {oi : Oper} {v : Value} (hi : ops[i]? = some oi) (hsel : ∀ (j : Nat) (o : Oper) cs b, ops[j]? = some o → o.op ≠ .select cs b)
    (hQ : ∀ c a w, ¬ Q (.panic c) a w) (hN : ∀ j oj, ops[j]? = some oj → N j = true → ∃ e ∈ oj.after, Region.binds md e = true ∧ e.on = i) :
    ∀ (fuel : Nat) (listed : Array Bool) (a : Act) (w : World),
      (∀ j oj, ops[j]? = some oj → j ≠ i → listed.getD j true = false → (∀ e ∈ oj.after, Region.binds md e = true → e.on ≠ i) → oi.apart ops oj = true) →
      i ∈ Region.ready md ops listed → YS P ops S oi v a → S w →
      wpAnyP P md ops Q S N fuel (listed.setIfInBounds i true) (a.put oi.dst v) w → wpAnyP P md ops Q S N (fuel + 1) listed a w := by
  intro fuel
  induction fuel with
  | zero =>
    intro listed a w _ hr hy hS H
    refine ⟨fun h => (by rw [h] at hr; cases hr), fun j hj => ?_⟩
    by_cases hji : j = i
    · subst hji; exact hy.wpOp hi hS ⟨.inr hS, H⟩
    · have := ready_mono hj hji
      rw [H.1] at this
      cases this
  | succ fuel ih =>
    intro listed a w hfree hr hy hS H
    refine ⟨fun h => (by rw [h] at hr; cases hr), fun j hj => ?_⟩
    by_cases hji : j = i
    · subst hji; exact hy.wpOp hi hS ⟨.inr hS, H⟩
    · have h1 := H.2 j (ready_mono hj hji)
      obtain ⟨hjun, oj, hoj, hall⟩ := mem_ready.1 hj
      have hnot : ∀ e ∈ oj.after, Region.binds md e = true → e.on ≠ i := fun e he hb heq => by
        have h1 := hall e he hb
        have h0 := (mem_ready.1 hr).1
        rw [heq] at h1
        rcases Nat.lt_or_ge i listed.size with h' | h'
        · simp [h'] at h0 h1; rw [h0] at h1; cases h1
        · simp [Array.getElem?_eq_none h'] at h1
      have hNj : N j = false := by
        cases hNj : N j
        · rfl
        · obtain ⟨e, he, hb, hon⟩ := hN j oj hoj hNj
          exact absurd hon (hnot e he hb)
      have h2 := wpOp_putS hoj (hfree j oj hoj hji hjun hnot) (fun cs b => hsel i oi cs b hi) (fun cs b => hsel j oj cs b hoj) hQ hy h1
      have hfree' : ∀ k ok, ops[k]? = some ok → k ≠ i → (listed.setIfInBounds j true).getD k true = false →
          (∀ e ∈ ok.after, Region.binds md e = true → e.on ≠ i) → oi.apart ops ok = true := fun k ok hk hki hun hno => by
        refine hfree k ok hk hki ?_ hno
        by_cases hjk : j = k
        · subst hjk; exact hjun
        · rw [getD_set_ne true hjk] at hun; exact hun
      refine wpOp_mono (fun a' w' h3 => ?_) h2
      have hS' : S w' := by
        rcases h3.2.1 with h4 | h4
        · rw [hNj] at h4; cases h4
        · exact h4
      refine ⟨.inr hS', ih (listed.setIfInBounds j true) a' w' hfree' (ready_mono hr (Ne.symm hji)) h3.1 hS' ?_⟩
      rw [Array.setIfInBounds_comm _ _ hji]
      exact h3.2.2

theorem YS.run {o : Oper} {v : Value} {a : Act} (hw : Region.wanted o (yielded ops a.tmps) = true) (h : ∀ w, S w → (execOp a.eval o).run P w = .ok (.value v) w) : YS P ops S o v a := .inl ⟨hw, fun w hS => .inl (h w hS)⟩
/-- The plan: which operation comes next, and how. 0: taken first; 1: the only one that may come, S shown behind it; 2: the only one that may come, S not asked behind it. -/
def wpP (P : Program) (ops : Array Oper) (Q : Exit → Act → World → Prop) (S : World → Prop) : List (Nat × Nat) → Act → World → Prop
  | [], a, w => Q .normal a w
  | (k, 0) :: r, a, w => ∃ o v, ops[k]? = some o ∧ YS P ops S o v a ∧ S w ∧ wpP P ops Q S r (a.put o.dst v) w
  | (k, 1) :: r, a, w => wpOp P ops Q k (fun a' w' => S w' ∧ wpP P ops Q S r a' w') a w
  | (k, _ + 2) :: r, a, w => wpOp P ops Q k (fun a' w' => wpP P ops Q S r a' w') a w
def plB (md : Region.Mode) (ops : Array Oper) : List (Nat × Nat) → Array Bool → Bool
  | [], listed => (Region.ready md ops listed).isEmpty
  | (k, 0) :: r, listed => (Region.ready md ops listed).contains k && Region.free md ops listed k && plB md ops r (listed.setIfInBounds k true)
  | (k, _ + 1) :: r, listed => decide (Region.ready md ops listed = [k]) && plB md ops r (listed.setIfInBounds k true)
def noS (pl : List (Nat × Nat)) (j : Nat) : Bool := pl.any fun x => x.1 == j && decide (2 ≤ x.2)
def noSB (md : Region.Mode) (ops : Array Oper) (pl : List (Nat × Nat)) : Bool :=
  pl.all fun x => !decide (2 ≤ x.2) || pl.all fun y => !(y.2 == 0) || Region.waitsFor md ops x.1 y.1
def plOK (md : Region.Mode) (ops : Array Oper) (pl : List (Nat × Nat)) : Bool :=
  decide (pl.length = ops.size) && Region.noSelect ops && noSB md ops pl && plB md ops pl (Array.replicate ops.size false)
theorem noS_spec {pl : List (Nat × Nat)} {i : Nat} (hi : (i, 0) ∈ pl) (hN : noSB md ops pl = true) (j : Nat) (oj : Oper) (hj : ops[j]? = some oj) (h : noS pl j = true) : ∃ e ∈ oj.after, Region.binds md e = true ∧ e.on = i := by
  obtain ⟨x, hx, hx2⟩ := List.any_eq_true.1 h
  simp only [Bool.and_eq_true, beq_iff_eq, decide_eq_true_eq] at hx2
  have h1 := List.all_eq_true.1 hN x hx
  simp only [hx2.2, decide_true, Bool.not_true, Bool.false_or] at h1
  have h2 := List.all_eq_true.1 h1 _ hi
  obtain ⟨oj', hoj', r⟩ := Region.waitsFor_spec (by simpa using h2)
  rw [hx2.1, hj] at hoj'
  injection hoj' with hoj'
  subst hoj'
  exact r
theorem wpAnyP_plan (pl0 : List (Nat × Nat)) (hsel : Region.noSelect ops = true) (hQ : ∀ c a w, ¬ Q (.panic c) a w) (hN : noSB md ops pl0 = true) (pl : List (Nat × Nat)) :
    ∀ (listed : Array Bool) (a : Act) (w : World), (∀ x ∈ pl, x ∈ pl0) → plB md ops pl listed = true → wpP P ops Q S pl a w → wpAnyP P md ops Q S (noS pl0) pl.length listed a w := by
  induction pl with
  | nil => intro listed a w _ hB h; exact ⟨by simpa [plB] using hB, h⟩
  | cons x r ih =>
    intro listed a w hm hB h
    obtain ⟨k, c⟩ := x
    have hmr : ∀ x ∈ r, x ∈ pl0 := fun x hx => hm x (List.mem_cons_of_mem _ hx)
    have hk := hm (k, c) (List.mem_cons_self ..)
    match c, hB, h, hk with
    | 0, hB, h, hk =>
      simp only [plB, Bool.and_eq_true] at hB
      obtain ⟨⟨hr, hf⟩, hB'⟩ := hB
      obtain ⟨o, v, ho, hy, hS, hK⟩ := h
      exact wpAnyP_first ho (Region.noSelect_spec hsel) hQ (fun j oj hj hNj => noS_spec hk hN j oj hj hNj) _ listed a w (Region.free_spec ho hf) (by simpa using hr) hy hS (ih _ _ _ hmr hB' hK)
    | 1, hB, h, hk =>
      simp only [plB, Bool.and_eq_true, decide_eq_true_eq] at hB
      refine ⟨fun h1 => (by rw [hB.1] at h1; cases h1), fun i hi => ?_⟩
      rw [hB.1] at hi
      have hik : i = k := by simpa using hi
      subst hik
      exact wpOp_mono (fun a' w' h' => ⟨.inr h'.1, ih _ a' w' hmr hB.2 h'.2⟩) h
    | c + 2, hB, h, hk =>
      simp only [plB, Bool.and_eq_true, decide_eq_true_eq] at hB
      refine ⟨fun h1 => (by rw [hB.1] at h1; cases h1), fun i hi => ?_⟩
      rw [hB.1] at hi
      have hik : i = k := by simpa using hi
      subst hik
      exact wpOp_mono (fun a' w' h' => ⟨.inl (List.any_eq_true.2 ⟨_, hk, by simp⟩), ih _ a' w' hmr hB.2 h'⟩) h
theorem wp_region_pl {id : Nat} {a : Act} {w : World} {l : List Oper} (S : World → Prop) (pl : List (Nat × Nat)) (hm : P.follows .mixedOrders = true) (hB : plOK .any l.toArray pl = true)
    (h : wpP P l.toArray (NoPanic Q) S pl a w.drew) : (Code.region id l.toArray true).wp P Q a w := by
  simp only [plOK, Bool.and_eq_true, decide_eq_true_eq] at hB
  obtain ⟨⟨⟨hn, hsel⟩, hN⟩, hB⟩ := hB
  refine wp_region_noPanic (wp_region_any hm (wpAny_of_P (S := S) (N := noS pl) _ _ _ _ ?_))
  have := wpAnyP_plan (P := P) (md := .any) (Q := NoPanic Q) (S := S) (ops := l.toArray) pl hsel (fun c a w h => h) hN pl _ a w.drew (fun _ h => h) hB h
  rw [hn] at this
  exact this
variable {k : Nat} {o : Oper} {l t : List Oper} {r : List (Nat × Nat)} {a : Act} {w : World}
theorem op_at (ho : l.drop k = o :: t) : l.toArray[k]? = some o := by
  have := congrArg (·[0]?) ho
  simpa using this
theorem wpP_go (ho : l.drop k = o :: t) (hw : Region.wanted o (yielded l.toArray a.tmps) = true) (hS : S w) (v : Value) (hr : ∀ X, S X → (execOp a.eval o).run P X = .ok (.value v) X)
    (h : ∀ K : Act → Prop, (∀ a', wpP P l.toArray Q S r a' w → K a') → K (a.put o.dst v)) : wpP P l.toArray Q S ((k, 0) :: r) a w := ⟨o, v, op_at ho, YS.run hw hr, hS, h _ (fun _ h => h)⟩
theorem wpP_not (ho : l.drop k = o :: t) (hw : Region.wanted o (yielded l.toArray a.tmps) = false) (hS : S w)
    (h : ∀ K : Act → Prop, (∀ a', wpP P l.toArray Q S r a' w → K a') → K (a.put o.dst undef)) : wpP P l.toArray Q S ((k, 0) :: r) a w := ⟨o, undef, op_at ho, .inr ⟨hw, rfl⟩, hS, h _ (fun _ h => h)⟩
theorem wpP_call (ho : l.drop k = o :: t) (hw : Region.wanted o (yielded l.toArray a.tmps) = true) (hS : S w) (v : Value) (f : FuncId) (args : Array Value) (hr : ∀ X, S X → (execOp a.eval o).run P X = .ok (.enter f args) X)
    (hc : ∀ X, S X → Calls P f args X fun e w' => e = .returned v ∧ X = w')
    (h : ∀ K : Act → Prop, (∀ a', wpP P l.toArray Q S r a' w → K a') → K (a.put o.dst v)) : wpP P l.toArray Q S ((k, 0) :: r) a w :=
  ⟨o, v, op_at ho, .inl ⟨hw, fun w hS => .inr (.inr ⟨f, args, hr w hS, (hc w hS).mono fun _ _ ⟨h1, h2⟩ => ⟨h1, h2.symm⟩⟩)⟩, hS, h _ (fun _ h => h)⟩
theorem wpP_one (ho : l.drop k = o :: t)
    (h : ∀ K : Act → World → Prop, (∀ a w, S w → wpP P l.toArray Q S r a w → K a w) → if Region.wanted o (yielded l.toArray a.tmps) then o.wp P a w K Q else K (a.put o.dst undef) w) : wpP P l.toArray Q S ((k, 1) :: r) a w := by
  have := h (fun a w => S w ∧ wpP P l.toArray Q S r a w) (fun a w h1 h2 => ⟨h1, h2⟩)
  show wpOp _ _ _ _ _ _ _
  unfold wpOp
  simp only [op_at ho]
  split
  · rename_i hw; rw [if_pos hw] at this; exact .inl this
  · rename_i hw; rw [if_neg hw] at this; exact this
theorem wpP_two (ho : l.drop k = o :: t)
    (h : ∀ K : Act → World → Prop, (∀ a w, wpP P l.toArray Q S r a w → K a w) → if Region.wanted o (yielded l.toArray a.tmps) then o.wp P a w K Q else K (a.put o.dst undef) w) : wpP P l.toArray Q S ((k, 2) :: r) a w := by
  have := h (fun a w => wpP P l.toArray Q S r a w) (fun a w h2 => h2)
  show wpOp _ _ _ _ _ _ _
  unfold wpOp
  simp only [op_at ho]
  split
  · rename_i hw; rw [if_pos hw] at this; exact .inl this
  · rename_i hw; rw [if_neg hw] at this; exact this
theorem wpP_done (h : Q .normal a w) : wpP P l.toArray (NoPanic Q) S [] a w := h
end
end Go.Proofs.YtdinbpdpalgohaaGreatDoor
namespace Go.Proofs.YtdinbpdpalgohaaGreatDoor
open Go.RowKit
abbrev Str := List UInt8
/-- The bits of a byte that are 0. -/
def zbit (b : UInt8) : Nat := 8 - Lib.onesCount b.toNat
def zeros (l : Str) : Nat := (l.map zbit).sum
theorem ones_le : ∀ x : Fin 256, Lib.onesCount x.val ≤ 8 := by decide +kernel
theorem zbit_eq (b : UInt8) : ((zbit b : Nat) : Int) = 8 - (Lib.onesCount b.toNat : Int) := by
  have := ones_le ⟨b.toNat, b.toNat_lt⟩
  unfold zbit
  simp at this
  omega
theorem zbit_le (b : UInt8) : zbit b ≤ 8 := by unfold zbit; omega
theorem zeros_le (l : Str) : zeros l ≤ 8 * l.length := by
  induction l with
  | nil => simp [zeros]
  | cons b r ih => have := zbit_le b; simp [zeros] at *; omega
theorem zeros_append (a b : Str) : zeros (a ++ b) = zeros a + zeros b := by simp [zeros]
theorem zeros_succ {l : Str} {i : Nat} (h : i < l.length) : zeros (l.take (i + 1)) = zeros (l.take i) + zbit l[i] := by
  rw [List.take_succ_eq_append_getElem h, zeros_append]; simp [zeros]
set_option maxHeartbeats 1000000 in
theorem zeroBits_any (s : ByteArray) (w : World) (hs : s.size ≤ 1000000) :
    Calls Tryz.prog 134 #[.string s] w fun e w' => e = .returned (.int .i64 (zeros s.data.toList : Nat)) ∧ w = w' := by
  have hsz : s.data.toList.length = s.size := Array.length_toList
  go_enter Tryz.func134, Tryz.ntmps134
  go_wp2_with fail
  go_loop [3, 7] (fun x z => ∃ i : Nat, i ≤ s.size ∧ z = .int .i64 (i : Int) ∧ x = .int .i64 (zeros (s.data.toList.take i) : Nat)) (fun _ z => s.size - (intOf z).toNat)
  case atStart => exact ⟨0, by omega, rfl, rfl⟩
  case round =>
    obtain ⟨i, hi, rfl, rfl⟩ := hrel
    by_cases hlt : i < s.size
    · have y0 : (i : Int) < s.size := by omega
      obtain ⟨o, ho, h8, hB⟩ : ∃ o : Nat, Lib.onesCount s[i].toNat = o ∧ o ≤ 8 ∧ ((zeros (s.data.toList.take (i + 1)) : Nat) : Int) = (zeros (s.data.toList.take i) : Nat) + (8 - (o : Int)) := by
        refine ⟨_, rfl, ones_le ⟨s[i].toNat, s[i].toNat_lt⟩, ?_⟩
        rw [zeros_succ (l := s.data.toList) (i := i) (by omega), Int.natCast_add, zbit_eq]
        rfl
      have hb : s[i].toNat < 256 := s[i].toNat_lt
      have HB := Lib.hid hB
      have hz := zeros_le (s.data.toList.take i)
      rw [List.length_take] at hz
      have HC : Hid (Calls Tryz.prog 159 #[.int .u8 (s[i].toNat : Int)] w fun e w' => e = .returned (.int .i64 (o : Int)) ∧ w = w') := by
        refine (Tryz.bits_OnesCount8 _ w (by omega) (by omega)).mono ?_
        rintro e w' ⟨rfl, rfl⟩
        exact ⟨by rw [← ho]; rfl, rfl⟩
      clear hB ho
      generalize zeros (s.data.toList.take i) = z at *
      go_wp2_with fail
      refine HC.out.mono ?_
      rintro e w' ⟨rfl, rfl⟩
      go_wp2_with fail
      go_round
      case rel => exact ⟨i + 1, by omega, by go_num, by rw [HB.out]⟩
      case measure => simp [intOf]; omega
    · have y0 : ¬ (i : Int) < s.size := by omega
      have e : s.data.toList.take i = s.data.toList := List.take_of_length_le (by omega)
      rw [e]
      go_wp2_with fail
      go_ret
      exact ⟨rfl, rfl⟩
end Go.Proofs.YtdinbpdpalgohaaGreatDoor
namespace Go.Proofs.YtdinbpdpalgohaaGreatDoor
open Go.RowKit
def pgs (n : Nat) : Nat := (n + 63) / 64
theorem pagesOf_any (n : Nat) (w : World) (hn : n ≤ 1000000) :
    Calls Tryz.prog 138 #[.int .i64 (n : Int)] w fun e w' => e = .returned (.int .i64 (pgs n : Nat)) ∧ w = w' := by
  go_enter Tryz.func138, Tryz.ntmps138
  go_wp2_with fail
  go_ret
  exact ⟨ret_int (by unfold pgs; omega), rfl⟩
def okLens (k n v : Nat) : Bool := (k == 1 && decide (1 ≤ n) && decide (n ≤ 24) && decide (v ≤ 128)) || (k == 2 && decide (1 ≤ n) && decide (n ≤ 24) && v == 0) || (k == 3 && n == 0 && v == 8)
set_option maxHeartbeats 1000000 in
theorem permitted_any (k n v : Nat) (w : World) (hn : n ≤ 1000000000000) (hv : v ≤ 1000000000000) :
    Calls Tryz.prog 106 #[.int .i64 (k : Int), .int .i64 (n : Int), .int .i64 (v : Int)] w fun e w' => e = .returned (.bool (okLens k n v)) ∧ w = w' := by
  go_enter Tryz.func106, Tryz.ntmps106
  go_wp2_with fail
  all_goals
    go_ret
    refine ⟨?_, rfl⟩
    show Ending.returned (Value.bool _) = Ending.returned (Value.bool _)
    congr 2
    rw [Bool.eq_iff_iff]
    simp at *
    simp [okLens]
    omega
/-- A record. -/
def recd (k : Nat) (n v : Str) : Str :=
  let lead : Str := [UInt8.ofNat k, UInt8.ofNat n.length, UInt8.ofNat v.length]
  let c := zeros lead + zeros n + zeros v
  lead ++ [UInt8.ofNat (c / 256), UInt8.ofNat (c % 256)] ++ n ++ v
theorem u8_of {a : Nat} (h : a ≤ 255) : (UInt8.ofNat a).toNat = a := by simp; omega
/-- A string made of a row of bytes just laid. -/
theorem conv_new (w : World) (l : Str) (cs : Array Value) (n : Nat) (hn : l.length = n) (hcs : cs.toList = l.map fun b => .int .u8 (b.toNat : Int)) :
    (convert 99 9 (.slice (some ⟨w.heap.size, 0, none⟩) n n)).run Tryz.prog (w.alloc (.cells cs 5)) = .ok (.string ⟨l.toArray⟩) (w.alloc (.cells cs 5)) := by
  have := run_convert_bytes_back (P := Tryz.prog) (w.alloc (.cells cs 5)) 99 9 5 ⟨w.heap.size, 0, none⟩ n l Tryz.underlying99 Tryz.underlying5 Tryz.underlying9 (fun j hj => by
    rw [Addr.add_mid, cell_of_row _ _ _ _ _ _ (heap_alloc_new w _), Nat.zero_add, ← Array.getElem?_toList, hcs]
    simp [hj])
  rw [hn] at this
  exact this
set_option maxRecDepth 100000 in
set_option maxHeartbeats 1000000 in
theorem encode_any (k : Nat) (n v : ByteArray) (w : World) (hk : k ≤ 255) (hn : n.size ≤ 255) (hv : v.size ≤ 255) :
    Calls Tryz.prog 140 #[.int .i64 (k : Int), .string n, .string v] w fun e w' => e = .returned (.string ⟨(recd k n.data.toList v.data.toList).toArray⟩) ∧ Below w.heap.size w w' := by
  obtain ⟨lead, hlead⟩ : ∃ lead : ByteArray, lead = ⟨#[UInt8.ofNat k, UInt8.ofNat n.size, UInt8.ofNat v.size]⟩ := ⟨_, rfl⟩
  have hb1 : Below w.heap.size w (w.alloc (.cells #[.int .u8 k, .int .u8 n.size, .int .u8 v.size] 5)) := (Below.refl _ _).alloc (Nat.le_refl _) _
  have B1 := Lib.hid hb1
  have C1 : (convert 99 9 (.slice (some ⟨w.heap.size, 0, none⟩) 3 3)).run Tryz.prog (w.alloc (.cells #[.int .u8 k, .int .u8 n.size, .int .u8 v.size] 5)) = .ok (.string lead) (w.alloc (.cells #[.int .u8 k, .int .u8 n.size, .int .u8 v.size] 5)) := by
    rw [hlead]; exact conv_new w [UInt8.ofNat k, UInt8.ofNat n.size, UInt8.ofNat v.size] #[.int .u8 k, .int .u8 n.size, .int .u8 v.size] 3 rfl (by simp [u8_of hk, u8_of hn, u8_of hv])
  have hls : lead.size = 3 := by rw [hlead]; rfl
  have HL := Lib.hid hlead
  clear hb1 hlead
  go_enter Tryz.func140, Tryz.ntmps140
  go_wp2_with fail
  have hbz := B1.out.size
  generalize w.alloc (.cells #[.int .u8 k, .int .u8 n.size, .int .u8 v.size] 5) = w1 at *
  clear C1
  refine (zeroBits_any lead w1 (by omega)).mono ?_
  rintro e w2 ⟨rfl, rfl⟩
  have z1 := zeros_le lead.data.toList
  have z1' : lead.data.toList.length = 3 := by rw [Array.length_toList]; exact hls
  have z2 := zeros_le n.data.toList
  have z2' : n.data.toList.length = n.size := Array.length_toList
  have z3 := zeros_le v.data.toList
  have z3' : v.data.toList.length = v.size := Array.length_toList
  obtain ⟨c1, e1⟩ : ∃ c1, zeros lead.data.toList = c1 := ⟨_, rfl⟩
  obtain ⟨c2, e2⟩ : ∃ c2, zeros n.data.toList = c2 := ⟨_, rfl⟩
  obtain ⟨c3, e3⟩ : ∃ c3, zeros v.data.toList = c3 := ⟨_, rfl⟩
  have ZN := Lib.hid (zeroBits_any n w1 (by omega))
  have ZV := Lib.hid (zeroBits_any v w1 (by omega))
  rw [e1] at z1 ⊢
  rw [e2] at z2 ZN
  rw [e3] at z3 ZV
  have E1 := Lib.hid e1
  have E2 := Lib.hid e2
  have E3 := Lib.hid e3
  have y1 : c1 ≤ 24 := by omega
  have y2 : c2 ≤ 2040 := by omega
  have y3 : c3 ≤ 2040 := by omega
  clear e1 e2 e3 z1 z2 z3 z1' z2' z3'
  go_wp2_with fail
  refine ZN.out.mono ?_
  rintro e w2 ⟨rfl, rfl⟩
  go_wp2_with fail
  refine ZV.out.mono ?_
  rintro e w2 ⟨rfl, rfl⟩
  have hc1 : (c1 + c2 + c3) / 256 ≤ 255 := by omega
  have hc2 : (c1 + c2 + c3) % 256 ≤ 255 := by omega
  obtain ⟨chk, hchk⟩ : ∃ chk : ByteArray, chk = ⟨#[UInt8.ofNat ((c1 + c2 + c3) / 256), UInt8.ofNat ((c1 + c2 + c3) % 256)]⟩ := ⟨_, rfl⟩
  have C2 : (convert 99 9 (.slice (some ⟨w1.heap.size, 0, none⟩) 2 2)).run Tryz.prog (w1.alloc (.cells #[.int .u8 (((c1 : Int) + c2 + c3) / 256), .int .u8 (((c1 : Int) + c2 + c3) % 256)] 5)) = .ok (.string chk) (w1.alloc (.cells #[.int .u8 (((c1 : Int) + c2 + c3) / 256), .int .u8 (((c1 : Int) + c2 + c3) % 256)] 5)) := by
    rw [hchk]; exact conv_new w1 [UInt8.ofNat ((c1 + c2 + c3) / 256), UInt8.ofNat ((c1 + c2 + c3) % 256)] _ 2 rfl (by
      simp only [List.map_cons, List.map_nil, u8_of hc1, u8_of hc2]
      rfl)
  have B2 : Hid (Below w.heap.size w (w1.alloc (.cells #[.int .u8 (((c1 : Int) + c2 + c3) / 256), .int .u8 (((c1 : Int) + c2 + c3) % 256)] 5))) := B1.out.alloc hbz _
  have HF : Hid (lead ++ chk ++ n ++ v = (⟨(recd k n.data.toList v.data.toList).toArray⟩ : ByteArray)) := by
    show _ = _
    apply ByteArray.ext
    apply Array.toList_inj.1
    have f1 := HL.out
    have f2 : n.data.toList.length = n.size := Array.length_toList
    have f3 : v.data.toList.length = v.size := Array.length_toList
    unfold recd
    rw [f2, f3]
    have f4 : lead.data.toList = [UInt8.ofNat k, UInt8.ofNat n.size, UInt8.ofNat v.size] := by rw [f1]
    rw [← f4]
    dsimp only
    rw [E1.out, E2.out, E3.out, hchk]
    simp
  have hcs : chk.size = 2 := by rw [hchk]; rfl
  have q1 : ¬ 9223372036854775807 < 5 + n.size := by omega
  have q2 : ¬ 9223372036854775807 < 5 + n.size + v.size := by omega
  clear hchk hc1 hc2 E1 E2 E3 HL
  go_wp2_with fail
  go_ret
  exact ⟨by rw [← HF.out]; rfl, B2.out⟩
end Go.Proofs.YtdinbpdpalgohaaGreatDoor
namespace Go.Proofs.YtdinbpdpalgohaaGreatDoor
open Go.RowKit
abbrev str (l : Str) : Value := .string ⟨l.toArray⟩
/-- The first N cells of a row. -/
def Rg (w : World) (B t N : Nat) (v : Nat → Value) : Prop := ∃ cs : Array Value, w.heap[B]? = some (.cells cs t (0, 0)) ∧ ∀ i, i < N → cs[i]? = some (v i)
section
variable {w w' : World} {B t N : Nat} {v v' : Nat → Value}
theorem Rg.lt (h : Rg w B t N v) : B < w.heap.size := by obtain ⟨_, hh, _⟩ := h; exact heap_lt hh
theorem Rg.cell (h : Rg w B t N v) {i : Nat} (hi : i < N) : w.cell? ⟨B, i, none⟩ = some (v i) := by
  obtain ⟨cs, hh, h2⟩ := h
  rw [cell_of_row _ _ _ _ _ _ hh, h2 i hi]
theorem Rg.frozen (h : Rg w B t N v) (i : Nat) : w.frozen? ⟨B, i, none⟩ = false := by
  obtain ⟨cs, hh, _⟩ := h
  simp [World.frozen?, hh]
theorem Rg.congr (h : Rg w B t N v) (e : ∀ i, i < N → v i = v' i) : Rg w B t N v' := by
  obtain ⟨cs, hh, h2⟩ := h
  exact ⟨cs, hh, fun i hi => by rw [h2 i hi, e i hi]⟩
theorem Rg.set (h : Rg w B t N v) {i : Nat} (hi : i < N) (u : Value) : Rg (w.setCell ⟨B, i, none⟩ u) B t N (upd v i u) := by
  obtain ⟨cs, hh, h2⟩ := h
  refine ⟨_, heap_set hh u, fun j hj => ?_⟩
  by_cases e : j = i
  · subst e
    rw [upd_hit, set_hit (Array.getElem?_eq_some_iff.1 (h2 j hj)).1]
  · rw [upd_miss _ _ e, set_miss (Ne.symm e)]
    exact h2 j hj
theorem Rg.ch {C : Nat → Prop} (h : Rg w B t N v) (k : Ch C w w') (hB : ¬ C B) : Rg w' B t N v := by
  have hl := h.lt
  obtain ⟨cs, hh, h2⟩ := h
  exact ⟨cs, (k.block B hl hB).trans hh, h2⟩
theorem Rg.far (h : Rg w B t N v) {p : Addr} (hp : p.block ≠ B) (u : Value) : Rg (w.setCell p u) B t N v :=
  h.ch ((Ch.refl (fun k => k = p.block) w).setCell (fun _ => rfl) u) (fun e => hp e.symm)
theorem Rg.ty {t' N' : Nat} {v' : Nat → Value} {B' : Nat} (h : Rg w B t N v) (h' : Rg w B' t' N' v') (ht : t ≠ t') : B ≠ B' := fun e => by
  obtain ⟨cs, hh, _⟩ := h
  obtain ⟨cs', hh', _⟩ := h'
  rw [e, hh'] at hh
  injection hh with hh
  injection hh with _ h2 _
  exact ht h2.symm
end
structure FL where
  B : Nat
  P : Nat
  E : Nat
  pg : Nat → Nat → Str
  er : Nat → Nat
  off : Bool
  cut : Bool
  left : Int
  torn : Nat
structure FLay where
  gb : Nat
  cb : Nat
  g : Nat → Nat
  cp : Nat → Nat
def flc (fl : FL) (y : FLay) (j : Nat) : Value := if j = 0 then .int .i64 fl.B else if j = 1 then .int .i64 fl.P else if j = 2 then .int .i64 fl.E else if j = 3 then .slice (some ⟨y.gb, 0, none⟩) fl.B y.cb else if j = 4 then .bool fl.off else if j = 5 then .bool fl.cut else if j = 6 then .int .i64 fl.left else .int .u64 fl.torn
def blc (fl : FL) (y : FLay) (j : Nat) : Value := if j % 2 = 0 then .slice (some ⟨y.g (j / 2), 0, none⟩) fl.P (y.cp (j / 2)) else .int .i64 (fl.er (j / 2))
def pgc (fl : FL) (b p : Nat) : Value := str (fl.pg b p)
/-- The flash lies at X; all its blocks meet D. -/
structure FW (w : World) (D : Nat → Prop) (X : Nat) (y : FLay) (fl : FL) : Prop where
  top : Rg w X 135 8 (flc fl y)
  blk : Rg w y.gb 139 (fl.B * 2) (blc fl y)
  pag : ∀ b, b < fl.B → Rg w (y.g b) 9 fl.P (pgc fl b)
  inj : ∀ b c, b < fl.B → c < fl.B → y.g b = y.g c → b = c
  dX : D X
  db : D y.gb
  dg : ∀ b, b < fl.B → D (y.g b)
  cb : fl.B ≤ y.cb ∧ y.cb ≤ maxLen
  cp : ∀ b, b < fl.B → fl.P ≤ y.cp b ∧ y.cp b ≤ maxLen
  hB : 1 ≤ fl.B ∧ fl.B ≤ 32
  hP : 1 ≤ fl.P ∧ fl.P ≤ 32
  hE : fl.E ≤ 1048576
  her : ∀ b, b < fl.B → fl.er b ≤ fl.E
  hl : -9223372036854775808 ≤ fl.left ∧ fl.left ≤ 9223372036854775807
  ht : fl.torn ≤ 18446744073709551615
  len : ∀ b p, b < fl.B → p < fl.P → (fl.pg b p).length = 64
  fin : ∀ k, D k → k < w.heap.size
section
variable {w w' : World} {D : Nat → Prop} {X : Nat} {y : FLay} {fl : FL}
theorem FW.ch {C : Nat → Prop} (h : FW w D X y fl) (c : Ch C w w') (hC : ∀ k, D k → ¬ C k) : FW w' D X y fl :=
  { h with top := h.top.ch c (hC _ h.dX), blk := h.blk.ch c (hC _ h.db), pag := fun b hb => (h.pag b hb).ch c (hC _ (h.dg b hb)), fin := fun k hk => Nat.lt_of_lt_of_le (h.fin k hk) c.size }
theorem FW.below (h : FW w D X y fl) (c : Below w.heap.size w w') : FW w' D X y fl := h.ch (Ch.of_below c (fun _ => False)) (fun _ _ h => h)
theorem FW.drew (h : FW w D X y fl) : FW w.drew D X y fl := h.below ((Below.refl _ _).drew)
theorem FW.Xb (h : FW w D X y fl) : X ≠ y.gb := h.top.ty h.blk (by decide)
theorem FW.Xg (h : FW w D X y fl) {b : Nat} (hb : b < fl.B) : X ≠ y.g b := h.top.ty (h.pag b hb) (by decide)
theorem FW.bg (h : FW w D X y fl) {b : Nat} (hb : b < fl.B) : y.gb ≠ y.g b := h.blk.ty (h.pag b hb) (by decide)
/-- A field of the flash's own row. -/
theorem FW.fld (h : FW w D X y fl) {fl' : FL} {j : Nat} {u : Value} (hj : j < 8) (e : ∀ k, k < 8 → upd (flc fl y) j u k = flc fl' y k) (eB : fl'.B = fl.B) (eP : fl'.P = fl.P) (eE : fl'.E = fl.E) (ep : fl'.pg = fl.pg) (ee : fl'.er = fl.er)
    (hl : -9223372036854775808 ≤ fl'.left ∧ fl'.left ≤ 9223372036854775807) (ht : fl'.torn ≤ 18446744073709551615) : FW (w.setCell ⟨X, j, none⟩ u) D X y fl' := by
  refine ⟨(h.top.set hj u).congr e, ?_, fun b hb => ?_, fun b c hb hc => ?_, h.dX, h.db, fun b hb => h.dg b (by omega), by rw [eB]; exact h.cb, fun b hb => by rw [eP]; exact h.cp b (by omega), by rw [eB]; exact h.hB, by rw [eP]; exact h.hP, by rw [eE]; exact h.hE, fun b hb => by rw [ee, eE]; exact h.her b (by omega), hl, ht, fun b p hb hp => by rw [ep]; exact h.len b p (by omega) (by omega), fun k hk => by simpa [World.setCell] using h.fin k hk⟩
  · rw [eB]
    exact (h.blk.far (p := ⟨X, j, none⟩) h.Xb u).congr (fun i _ => by unfold blc; rw [eP, ee])
  · rw [eP]
    exact ((h.pag b (by omega)).far (p := ⟨X, j, none⟩) (h.Xg (by omega)) u).congr (fun i _ => by unfold pgc; rw [ep])
  · exact h.inj b c (by omega) (by omega)
theorem FW.setOff (h : FW w D X y fl) (a : Bool) : FW (w.setCell ⟨X, 4, none⟩ (.bool a)) D X y { fl with off := a } :=
  h.fld (by omega) (fun k hk => by rcases (by omega : k = 0 ∨ k = 1 ∨ k = 2 ∨ k = 3 ∨ k = 4 ∨ k = 5 ∨ k = 6 ∨ k = 7) with rfl | rfl | rfl | rfl | rfl | rfl | rfl | rfl <;> rfl) rfl rfl rfl rfl rfl h.hl h.ht
theorem FW.setCut (h : FW w D X y fl) (a : Bool) : FW (w.setCell ⟨X, 5, none⟩ (.bool a)) D X y { fl with cut := a } :=
  h.fld (by omega) (fun k hk => by rcases (by omega : k = 0 ∨ k = 1 ∨ k = 2 ∨ k = 3 ∨ k = 4 ∨ k = 5 ∨ k = 6 ∨ k = 7) with rfl | rfl | rfl | rfl | rfl | rfl | rfl | rfl <;> rfl) rfl rfl rfl rfl rfl h.hl h.ht
theorem FW.setLeft (h : FW w D X y fl) (a : Int) (ha : -9223372036854775808 ≤ a ∧ a ≤ 9223372036854775807) : FW (w.setCell ⟨X, 6, none⟩ (.int .i64 a)) D X y { fl with left := a } :=
  h.fld (by omega) (fun k hk => by rcases (by omega : k = 0 ∨ k = 1 ∨ k = 2 ∨ k = 3 ∨ k = 4 ∨ k = 5 ∨ k = 6 ∨ k = 7) with rfl | rfl | rfl | rfl | rfl | rfl | rfl | rfl <;> rfl) rfl rfl rfl rfl rfl ha h.ht
theorem FW.setTorn (h : FW w D X y fl) (a : Nat) (ha : a ≤ 18446744073709551615) : FW (w.setCell ⟨X, 7, none⟩ (.int .u64 a)) D X y { fl with torn := a } :=
  h.fld (by omega) (fun k hk => by rcases (by omega : k = 0 ∨ k = 1 ∨ k = 2 ∨ k = 3 ∨ k = 4 ∨ k = 5 ∨ k = 6 ∨ k = 7) with rfl | rfl | rfl | rfl | rfl | rfl | rfl | rfl <;> rfl) rfl rfl rfl rfl rfl h.hl ha
def up2 (f : Nat → Nat → Str) (b p : Nat) (s : Str) : Nat → Nat → Str := fun c q => if c = b ∧ q = p then s else f c q
def FL.put (fl : FL) (b p : Nat) (s : Str) : FL := { fl with pg := up2 fl.pg b p s }
theorem FW.setPg (h : FW w D X y fl) {b p : Nat} (hb : b < fl.B) (hp : p < fl.P) {s : Str} (hs : s.length = 64) : FW (w.setCell ⟨y.g b, p, none⟩ (str s)) D X y (fl.put b p s) := by
  refine ⟨(h.top.far (p := ⟨y.g b, p, none⟩) (Ne.symm (h.Xg hb)) _), (h.blk.far (p := ⟨y.g b, p, none⟩) (Ne.symm (h.bg hb)) _), fun c hc => ?_, h.inj, h.dX, h.db, h.dg, h.cb, h.cp, h.hB, h.hP, h.hE, h.her, h.hl, h.ht, fun c q hc hq => ?_, fun k hk => by simpa [World.setCell] using h.fin k hk⟩
  · by_cases e : c = b
    · subst e
      refine ((h.pag c hc).set hp _).congr fun q hq => ?_
      by_cases e2 : q = p
      · subst e2; rw [upd_hit]; simp [pgc, FL.put, up2]
      · rw [upd_miss _ _ e2]; simp [pgc, FL.put, up2, e2]
    · exact ((h.pag c hc).far (p := ⟨y.g b, p, none⟩) (fun e2 => e (h.inj c b hc hb e2.symm)) _).congr fun q _ => by simp [pgc, FL.put, up2, e]
  · show (up2 fl.pg b p s c q).length = 64
    unfold up2
    split
    · exact hs
    · exact h.len c q hc hq
def FL.erd (fl : FL) (b v : Nat) : FL := { fl with er := fun c => if c = b then v else fl.er c }
theorem FW.setEr (h : FW w D X y fl) {b v : Nat} (hb : b < fl.B) (hv : v ≤ fl.E) : FW (w.setCell ⟨y.gb, b * 2 + 1, none⟩ (.int .i64 v)) D X y (fl.erd b v) := by
  refine ⟨(h.top.far (p := ⟨y.gb, b * 2 + 1, none⟩) (Ne.symm h.Xb) _), (h.blk.set (i := b * 2 + 1) (by omega) _).congr fun k hk => ?_, fun c hc => (h.pag c hc).far (p := ⟨y.gb, b * 2 + 1, none⟩) (h.bg hc) _, h.inj, h.dX, h.db, h.dg, h.cb, h.cp, h.hB, h.hP, h.hE, fun c hc => ?_, h.hl, h.ht, h.len, fun k hk => by simpa [World.setCell] using h.fin k hk⟩
  · by_cases e : k = b * 2 + 1
    · subst e
      rw [upd_hit]
      have e1 : (b * 2 + 1) % 2 = 1 := by omega
      have e2 : (b * 2 + 1) / 2 = b := by omega
      simp [blc, FL.erd, e1, e2]
    · rw [upd_miss _ _ e]
      unfold blc
      by_cases e2 : k % 2 = 0
      · rw [if_pos e2, if_pos e2]; rfl
      · rw [if_neg e2, if_neg e2]
        have : k / 2 ≠ b := by omega
        simp [FL.erd, this]
  · show (if c = b then v else fl.er c) ≤ fl.E
    split
    · exact hv
    · exact h.her c hc
/- What a walk reads. -/
theorem FW.c0 (h : FW w D X y fl) : w.cell? ⟨X, 0, none⟩ = some (.int .i64 fl.B) := h.top.cell (i := 0) (by omega)
theorem FW.c1 (h : FW w D X y fl) : w.cell? ⟨X, 1, none⟩ = some (.int .i64 fl.P) := h.top.cell (i := 1) (by omega)
theorem FW.c2 (h : FW w D X y fl) : w.cell? ⟨X, 2, none⟩ = some (.int .i64 fl.E) := h.top.cell (i := 2) (by omega)
theorem FW.c3 (h : FW w D X y fl) : w.cell? ⟨X, 3, none⟩ = some (.slice (some ⟨y.gb, 0, none⟩) fl.B y.cb) := h.top.cell (i := 3) (by omega)
theorem FW.c4 (h : FW w D X y fl) : w.cell? ⟨X, 4, none⟩ = some (.bool fl.off) := h.top.cell (i := 4) (by omega)
theorem FW.c5 (h : FW w D X y fl) : w.cell? ⟨X, 5, none⟩ = some (.bool fl.cut) := h.top.cell (i := 5) (by omega)
theorem FW.c6 (h : FW w D X y fl) : w.cell? ⟨X, 6, none⟩ = some (.int .i64 fl.left) := h.top.cell (i := 6) (by omega)
theorem FW.c7 (h : FW w D X y fl) : w.cell? ⟨X, 7, none⟩ = some (.int .u64 fl.torn) := h.top.cell (i := 7) (by omega)
theorem FW.cs (h : FW w D X y fl) {b : Nat} (hb : b < fl.B) : w.cell? ⟨y.gb, b * 2, none⟩ = some (.slice (some ⟨y.g b, 0, none⟩) fl.P (y.cp b)) := by
  rw [h.blk.cell (i := b * 2) (by omega)]
  have e1 : b * 2 % 2 = 0 := by omega
  have e2 : b * 2 / 2 = b := by omega
  simp [blc, e1, e2]
theorem FW.ce (h : FW w D X y fl) {b : Nat} (hb : b < fl.B) : w.cell? ⟨y.gb, b * 2 + 1, none⟩ = some (.int .i64 (fl.er b)) := by
  rw [h.blk.cell (i := b * 2 + 1) (by omega)]
  have e1 : (b * 2 + 1) % 2 = 1 := by omega
  have e2 : (b * 2 + 1) / 2 = b := by omega
  simp [blc, e1, e2]
theorem FW.cg (h : FW w D X y fl) {b p : Nat} (hb : b < fl.B) (hp : p < fl.P) : w.cell? ⟨y.g b, p, none⟩ = some (str (fl.pg b p)) := (h.pag b hb).cell hp
end
end Go.Proofs.YtdinbpdpalgohaaGreatDoor
