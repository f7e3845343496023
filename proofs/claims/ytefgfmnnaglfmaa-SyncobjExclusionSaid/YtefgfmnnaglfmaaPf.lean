/- A plan with forks: where two operations may come, either comes. No condition. -/
import Derived.Test.YtefgfmnnaglfmaaPt
namespace Go.Proofs.Ytefgfmnnaglfmaa
open Go
inductive PT
  | done
  | s (k c : Nat) (r : PT)
  | f (k1 : Nat) (r1 : PT) (k2 : Nat) (r2 : PT)
def PT.ls : List (Nat × Nat) → PT → PT
  | [], t => t
  | (k, c) :: r, t => .s k c (PT.ls r t)
section
variable {P : Program} {ops : Array Oper} {Q : Exit → Act → World → Prop} {md : Region.Mode} {S : World → Prop} {N : Nat → Bool}
def wpT (P : Program) (ops : Array Oper) (Q : Exit → Act → World → Prop) (S : World → Prop) : PT → Act → World → Prop
  | .done, a, w => Q .normal a w
  | .s k 0 r, a, w => ∃ o v, ops[k]? = some o ∧ YS P ops S o v a ∧ S w ∧ wpT P ops Q S r (a.put o.dst v) w
  | .s k 1 r, a, w => wpOp P ops Q k (fun a' w' => S w' ∧ wpT P ops Q S r a' w') a w
  | .s k (_ + 2) r, a, w => wpOp P ops Q k (fun a' w' => wpT P ops Q S r a' w') a w
  | .f k1 r1 k2 r2, a, w => wpOp P ops Q k1 (fun a' w' => S w' ∧ wpT P ops Q S r1 a' w') a w ∧ wpOp P ops Q k2 (fun a' w' => S w' ∧ wpT P ops Q S r2 a' w') a w
def ptB (md : Region.Mode) (ops : Array Oper) (late : List Nat) : PT → Nat → Array Bool → Bool
  | .done, n, listed => n == 0 && (Region.ready md ops listed).isEmpty
  | .s _ _ _, 0, _ => false
  | .s k 0 r, n + 1, listed => (Region.ready md ops listed).contains k && Region.free md ops listed k && late.all (fun x => waitsT md ops 8 x k) && ptB md ops late r n (listed.setIfInBounds k true)
  | .s k 1 r, n + 1, listed => decide (Region.ready md ops listed = [k]) && ptB md ops late r n (listed.setIfInBounds k true)
  | .s k (_ + 2) r, n + 1, listed => decide (Region.ready md ops listed = [k]) && late.contains k && ptB md ops late r n (listed.setIfInBounds k true)
  | .f _ _ _ _, 0, _ => false
  | .f k1 r1 k2 r2, n + 1, listed => decide (Region.ready md ops listed = [k1, k2]) && ptB md ops late r1 n (listed.setIfInBounds k1 true) && ptB md ops late r2 n (listed.setIfInBounds k2 true)
theorem wpAnyP_tree (late : List Nat) (hsel : Region.noSelect ops = true) (hQ : ∀ c a w, ¬ Q (.panic c) a w) (t : PT) :
    ∀ (n : Nat) (listed : Array Bool) (a : Act) (w : World), clos md ops listed → ptB md ops late t n listed = true → wpT P ops Q S t a w → wpAnyP P md ops Q S (fun j => late.contains j) n listed a w := by
  induction t with
  | done =>
    intro n listed a w _ hB h
    simp only [ptB, Bool.and_eq_true, beq_iff_eq] at hB
    obtain ⟨rfl, hB⟩ := hB
    exact ⟨by simpa using hB, h⟩
  | s k c r ih =>
    intro n listed a w hcl hB h
    match c, n, hB, h with
    | 0, 0, hB, h => exact absurd hB (by simp [ptB])
    | 1, 0, hB, h => exact absurd hB (by simp [ptB])
    | c + 2, 0, hB, h => exact absurd hB (by simp [ptB])
    | 0, n + 1, hB, h =>
      simp only [ptB, Bool.and_eq_true] at hB
      obtain ⟨⟨⟨hr, hf⟩, hl⟩, hB'⟩ := hB
      obtain ⟨o, v, ho, hy, hS, hK⟩ := h
      have hrd : k ∈ Region.ready md ops listed := by simpa using hr
      refine wpAnyP_firstT ho (Region.noSelect_spec hsel) hQ (fun j oj hj hNj => ?_) _ listed a w hcl (Region.free_spec ho hf) hrd hy hS (ih _ _ _ _ (hcl.next hrd) hB' hK)
      exact waitsT_spec _ _ _ (List.all_eq_true.1 hl j (by simpa using hNj))
    | 1, n + 1, hB, h =>
      simp only [ptB, Bool.and_eq_true, decide_eq_true_eq] at hB
      have hrd : k ∈ Region.ready md ops listed := by rw [hB.1]; exact List.mem_singleton.2 rfl
      refine ⟨fun h1 => (by rw [hB.1] at h1; cases h1), fun i hi => ?_⟩
      rw [hB.1] at hi
      have hik : i = k := by simpa using hi
      subst hik
      exact wpOp_mono (fun a' w' h' => ⟨.inr h'.1, ih _ _ a' w' (hcl.next hrd) hB.2 h'.2⟩) h
    | c + 2, n + 1, hB, h =>
      simp only [ptB, Bool.and_eq_true, decide_eq_true_eq] at hB
      have hrd : k ∈ Region.ready md ops listed := by rw [hB.1.1]; exact List.mem_singleton.2 rfl
      refine ⟨fun h1 => (by rw [hB.1.1] at h1; cases h1), fun i hi => ?_⟩
      rw [hB.1.1] at hi
      have hik : i = k := by simpa using hi
      subst hik
      exact wpOp_mono (fun a' w' h' => ⟨.inl hB.1.2, ih _ _ a' w' (hcl.next hrd) hB.2 h'⟩) h
  | f k1 r1 k2 r2 ih1 ih2 =>
    intro n listed a w hcl hB h
    match n, hB with
    | 0, hB => exact absurd hB (by simp [ptB])
    | n + 1, hB =>
      simp only [ptB, Bool.and_eq_true, decide_eq_true_eq] at hB
      obtain ⟨⟨hr, hB1⟩, hB2⟩ := hB
      have hrd1 : k1 ∈ Region.ready md ops listed := by rw [hr]; simp
      have hrd2 : k2 ∈ Region.ready md ops listed := by rw [hr]; simp
      refine ⟨fun h1 => (by rw [hr] at h1; cases h1), fun i hi => ?_⟩
      rw [hr] at hi
      rcases List.mem_cons.1 hi with e | hi
      · subst e
        exact wpOp_mono (fun a' w' h' => ⟨.inr h'.1, ih1 _ _ a' w' (hcl.next hrd1) hB1 h'.2⟩) h.1
      · have e : i = k2 := by simpa using hi
        subst e
        exact wpOp_mono (fun a' w' h' => ⟨.inr h'.1, ih2 _ _ a' w' (hcl.next hrd2) hB2 h'.2⟩) h.2
theorem wp_region_tree {id : Nat} {a : Act} {w : World} {l : List Oper} (S : World → Prop) (late : List Nat) (t : PT) (hm : P.follows .mixedOrders = true) (hs : Region.noSelect l.toArray = true) (hB : ptB .any l.toArray late t l.toArray.size (Array.replicate l.toArray.size false) = true)
    (h : wpT P l.toArray (NoPanic Q) S t a w.drew) : (Code.region id l.toArray true).wp P Q a w := by
  refine wp_region_noPanic (wp_region_any hm (wpAny_of_P (S := S) (N := fun j => late.contains j) _ _ _ _ ?_))
  have hc0 : clos .any l.toArray (Array.replicate l.toArray.size false) := fun m o _ h => by
    exfalso
    simp [Array.getElem?_replicate] at h
    split at h <;> simp at h
  exact wpAnyP_tree (P := P) (md := .any) (Q := NoPanic Q) (S := S) (ops := l.toArray) late hs (fun c a w h => h) t _ _ a w.drew hc0 hB h
variable {k k1 k2 : Nat} {o o1 o2 : Oper} {l t t1 t2 : List Oper} {r r1 r2 : PT} {a : Act} {w : World}
theorem wpT_go (ho : l.drop k = o :: t) (hw : Region.wanted o (yielded l.toArray a.tmps) = true) (hS : S w) (v : Value) (hr : ∀ X, S X → (execOp a.eval o).run P X = .ok (.value v) X)
    (h : ∀ K : Act → Prop, (∀ a', wpT P l.toArray Q S r a' w → K a') → K (a.put o.dst v)) : wpT P l.toArray Q S (.s k 0 r) a w := ⟨o, v, op_at ho, YS.run hw hr, hS, h _ (fun _ h => h)⟩
theorem wpT_not (ho : l.drop k = o :: t) (hw : Region.wanted o (yielded l.toArray a.tmps) = false) (hS : S w)
    (h : ∀ K : Act → Prop, (∀ a', wpT P l.toArray Q S r a' w → K a') → K (a.put o.dst undef)) : wpT P l.toArray Q S (.s k 0 r) a w := ⟨o, undef, op_at ho, .inr ⟨hw, rfl⟩, hS, h _ (fun _ h => h)⟩
theorem wpT_call (ho : l.drop k = o :: t) (hw : Region.wanted o (yielded l.toArray a.tmps) = true) (hS : S w) (v : Value) (f : FuncId) (args : Array Value) (hr : ∀ X, S X → (execOp a.eval o).run P X = .ok (.enter f args) X)
    (hc : ∀ X, S X → Calls P f args X fun e w' => e = .returned v ∧ X = w')
    (h : ∀ K : Act → Prop, (∀ a', wpT P l.toArray Q S r a' w → K a') → K (a.put o.dst v)) : wpT P l.toArray Q S (.s k 0 r) a w :=
  ⟨o, v, op_at ho, .inl ⟨hw, fun w hS => .inr (.inr ⟨f, args, hr w hS, (hc w hS).mono fun _ _ ⟨h1, h2⟩ => ⟨h1, h2.symm⟩⟩)⟩, hS, h _ (fun _ h => h)⟩
theorem wpOp_if (ho : l.drop k = o :: t) {K : Act → World → Prop}
    (h : if Region.wanted o (yielded l.toArray a.tmps) then o.wp P a w K Q else K (a.put o.dst undef) w) : wpOp P l.toArray Q k K a w := by
  unfold wpOp
  simp only [op_at ho]
  split
  · rename_i hw; rw [if_pos hw] at h; exact .inl h
  · rename_i hw; rw [if_neg hw] at h; exact h
theorem wpT_one (ho : l.drop k = o :: t)
    (h : ∀ K : Act → World → Prop, (∀ a w, S w → wpT P l.toArray Q S r a w → K a w) → if Region.wanted o (yielded l.toArray a.tmps) then o.wp P a w K Q else K (a.put o.dst undef) w) : wpT P l.toArray Q S (.s k 1 r) a w :=
  wpOp_if ho (h (fun a w => S w ∧ wpT P l.toArray Q S r a w) (fun _ _ h1 h2 => ⟨h1, h2⟩))
theorem wpT_two (ho : l.drop k = o :: t)
    (h : ∀ K : Act → World → Prop, (∀ a w, wpT P l.toArray Q S r a w → K a w) → if Region.wanted o (yielded l.toArray a.tmps) then o.wp P a w K Q else K (a.put o.dst undef) w) : wpT P l.toArray Q S (.s k 2 r) a w :=
  wpOp_if ho (h (fun a w => wpT P l.toArray Q S r a w) (fun _ _ h2 => h2))
theorem wpT_fork (ho1 : l.drop k1 = o1 :: t1) (ho2 : l.drop k2 = o2 :: t2)
    (h1 : ∀ K : Act → World → Prop, (∀ a w, S w → wpT P l.toArray Q S r1 a w → K a w) → if Region.wanted o1 (yielded l.toArray a.tmps) then o1.wp P a w K Q else K (a.put o1.dst undef) w)
    (h2 : ∀ K : Act → World → Prop, (∀ a w, S w → wpT P l.toArray Q S r2 a w → K a w) → if Region.wanted o2 (yielded l.toArray a.tmps) then o2.wp P a w K Q else K (a.put o2.dst undef) w) : wpT P l.toArray Q S (.f k1 r1 k2 r2) a w :=
  ⟨wpOp_if ho1 (h1 (fun a w => S w ∧ wpT P l.toArray Q S r1 a w) (fun _ _ h1 h2 => ⟨h1, h2⟩)), wpOp_if ho2 (h2 (fun a w => S w ∧ wpT P l.toArray Q S r2 a w) (fun _ _ h1 h2 => ⟨h1, h2⟩))⟩
theorem wpT_done (h : Q .normal a w) : wpT P l.toArray (NoPanic Q) S .done a w := h
end
end Go.Proofs.Ytefgfmnnaglfmaa
