/- A region that draws its order, walked by a plan that may part where two operations are free to come in either order. No condition. -/
import Derived.Test.YtedihfcbpgogoaaPl
namespace Go.Proofs.Ytedihfcbpgogoaa
open Go

/-- The plan: an operation with its code (as in Pl), or two that may come in either order, each with what follows. -/
inductive PT where
  | nil
  | step (k c : Nat) (r : PT)
  | fork (k j : Nat) (r s : PT)
  | sub (r : PT)
def PT.flat : PT → List (Nat × Nat)
  | .nil => []
  | .step k c r => (k, c) :: r.flat
  | .fork k j r s => (k, 1) :: (j, 1) :: (r.flat ++ s.flat)
  | .sub r => r.flat
section
variable {P : Program} {ops : Array Oper} {Q : Exit → Act → World → Prop} {md : Region.Mode} {S : World → Prop}
def wpT (P : Program) (ops : Array Oper) (Q : Exit → Act → World → Prop) (S : World → Prop) : PT → Act → World → Prop
  | .sub r, a, w => ∃ S' : World → Prop, (∀ Z, S' Z → S Z) ∧ S' w ∧ wpT P ops Q S' r a w
  | .nil, a, w => Q .normal a w
  | .step k 0 r, a, w => ∃ o v, ops[k]? = some o ∧ YS P ops S o v a ∧ S w ∧ wpT P ops Q S r (a.put o.dst v) w
  | .step k 1 r, a, w => wpOp P ops Q k (fun a' w' => S w' ∧ wpT P ops Q S r a' w') a w
  | .step k (_ + 2) r, a, w => wpOp P ops Q k (fun a' w' => wpT P ops Q S r a' w') a w
  | .fork k j r s, a, w => wpOp P ops Q k (fun a' w' => S w' ∧ wpT P ops Q S r a' w') a w ∧ wpOp P ops Q j (fun a' w' => S w' ∧ wpT P ops Q S s a' w') a w
def ptB (md : Region.Mode) (ops : Array Oper) : PT → Nat → Array Bool → Bool
  | .sub r, n, listed => ptB md ops r n listed
  | .nil, n, listed => n == 0 && (Region.ready md ops listed).isEmpty
  | .step _ _ _, 0, _ => false
  | .step k 0 r, n + 1, listed => (Region.ready md ops listed).contains k && Region.free md ops listed k && ptB md ops r n (listed.setIfInBounds k true)
  | .step k (_ + 1) r, n + 1, listed => decide (Region.ready md ops listed = [k]) && ptB md ops r n (listed.setIfInBounds k true)
  | .fork _ _ _ _, 0, _ => false
  | .fork k j r s, n + 1, listed => decide (Region.ready md ops listed = [k, j]) && ptB md ops r n (listed.setIfInBounds k true) && ptB md ops s n (listed.setIfInBounds j true)
def ptOK (md : Region.Mode) (ops : Array Oper) (t : PT) : Bool :=
  Region.noSelect ops && noSB md ops t.flat && ptB md ops t ops.size (Array.replicate ops.size false)
theorem wpAnyP_mono {S S' : World → Prop} {N : Nat → Bool} (hS : ∀ Z, S' Z → S Z) : ∀ (n : Nat) (listed : Array Bool) (a : Act) (w : World), wpAnyP P md ops Q S' N n listed a w → wpAnyP P md ops Q S N n listed a w
  | 0, _, _, _, h => h
  | n + 1, _, _, _, h => ⟨h.1, fun i hi => wpOp_mono (fun a' w' h' => ⟨h'.1.imp id (hS w'), wpAnyP_mono hS n _ a' w' h'.2⟩) (h.2 i hi)⟩
theorem wpAnyP_tree (pl0 : List (Nat × Nat)) (hsel : Region.noSelect ops = true) (hQ : ∀ c a w, ¬ Q (.panic c) a w) (hN : noSB md ops pl0 = true) (t : PT) :
    ∀ (S : World → Prop) (n : Nat) (listed : Array Bool) (a : Act) (w : World), (∀ x ∈ t.flat, x ∈ pl0) → ptB md ops t n listed = true → wpT P ops Q S t a w → wpAnyP P md ops Q S (noS pl0) n listed a w := by
  induction t with
  | sub r ih =>
    intro S n listed a w hm hB h
    obtain ⟨S', h1, _, h3⟩ := h
    exact wpAnyP_mono h1 n listed a w (ih S' n listed a w hm hB h3)
  | nil =>
    intro S n listed a w _ hB h
    simp only [ptB, Bool.and_eq_true, beq_iff_eq, List.isEmpty_iff] at hB
    obtain ⟨rfl, hB⟩ := hB
    exact ⟨hB, h⟩
  | step k c r ih =>
    intro S n listed a w hm hB h
    have hmr : ∀ x ∈ r.flat, x ∈ pl0 := fun x hx => hm x (List.mem_cons_of_mem _ hx)
    have hk := hm (k, c) (List.mem_cons_self ..)
    match n, c, hB, h, hk with
    | 0, _, hB, _, _ => simp [ptB] at hB
    | n + 1, 0, hB, h, hk =>
      simp only [ptB, Bool.and_eq_true] at hB
      obtain ⟨⟨hr, hf⟩, hB'⟩ := hB
      obtain ⟨o, v, ho, hy, hS, hK⟩ := h
      exact wpAnyP_first ho (Region.noSelect_spec hsel) hQ (fun j oj hj hNj => noS_spec hk hN j oj hj hNj) _ listed a w (Region.free_spec ho hf) (by simpa using hr) hy hS (ih _ _ _ _ _ hmr hB' hK)
    | n + 1, 1, hB, h, hk =>
      simp only [ptB, Bool.and_eq_true, decide_eq_true_eq] at hB
      refine ⟨fun h1 => (by rw [hB.1] at h1; cases h1), fun i hi => ?_⟩
      rw [hB.1] at hi
      have hik : i = k := by simpa using hi
      subst hik
      exact wpOp_mono (fun a' w' h' => ⟨.inr h'.1, ih _ _ _ a' w' hmr hB.2 h'.2⟩) h
    | n + 1, c + 2, hB, h, hk =>
      simp only [ptB, Bool.and_eq_true, decide_eq_true_eq] at hB
      refine ⟨fun h1 => (by rw [hB.1] at h1; cases h1), fun i hi => ?_⟩
      rw [hB.1] at hi
      have hik : i = k := by simpa using hi
      subst hik
      exact wpOp_mono (fun a' w' h' => ⟨.inl (List.any_eq_true.2 ⟨_, hk, by simp⟩), ih _ _ _ a' w' hmr hB.2 h'⟩) h
  | fork k j r s ihr ihs =>
    intro S n listed a w hm hB h
    have hmr : ∀ x ∈ r.flat, x ∈ pl0 := fun x hx => hm x (List.mem_cons_of_mem _ (List.mem_cons_of_mem _ (List.mem_append_left _ hx)))
    have hms : ∀ x ∈ s.flat, x ∈ pl0 := fun x hx => hm x (List.mem_cons_of_mem _ (List.mem_cons_of_mem _ (List.mem_append_right _ hx)))
    match n, hB with
    | 0, hB => simp [ptB] at hB
    | n + 1, hB =>
      simp only [ptB, Bool.and_eq_true, decide_eq_true_eq] at hB
      obtain ⟨⟨h1, h2⟩, h3⟩ := hB
      refine ⟨fun h4 => (by rw [h1] at h4; cases h4), fun i hi => ?_⟩
      rw [h1] at hi
      have hik : i = k ∨ i = j := by simpa using hi
      rcases hik with rfl | rfl
      · exact wpOp_mono (fun a' w' h' => ⟨.inr h'.1, ihr _ _ _ a' w' hmr h2 h'.2⟩) h.1
      · exact wpOp_mono (fun a' w' h' => ⟨.inr h'.1, ihs _ _ _ a' w' hms h3 h'.2⟩) h.2
theorem wp_region_pt {id : Nat} {a : Act} {w : World} {l : List Oper} (S : World → Prop) (t : PT) (hm : P.follows .mixedOrders = true) (hB : ptOK .any l.toArray t = true)
    (h : wpT P l.toArray (NoPanic Q) S t a w.drew) : (Code.region id l.toArray true).wp P Q a w := by
  simp only [ptOK, Bool.and_eq_true] at hB
  obtain ⟨⟨hsel, hN⟩, hB⟩ := hB
  refine wp_region_noPanic (wp_region_any hm (wpAny_of_P (S := S) (N := noS t.flat) _ _ _ _ ?_))
  exact wpAnyP_tree (P := P) (md := .any) (Q := NoPanic Q) (ops := l.toArray) t.flat hsel (fun c a w h => h) hN t S _ _ a w.drew (fun _ h => h) hB h
variable {k : Nat} {o : Oper} {l t : List Oper} {r : PT} {a : Act} {w : World}
theorem wpT_go (ho : l.drop k = o :: t) (hw : Region.wanted o (yielded l.toArray a.tmps) = true) (hS : S w) (v : Value) (hr : ∀ X, S X → (execOp a.eval o).run P X = .ok (.value v) X)
    (h : ∀ K : Act → Prop, (∀ a', wpT P l.toArray Q S r a' w → K a') → K (a.put o.dst v)) : wpT P l.toArray Q S (.step k 0 r) a w := ⟨o, v, op_at ho, YS.run hw hr, hS, h _ (fun _ h => h)⟩
theorem wpT_not (ho : l.drop k = o :: t) (hw : Region.wanted o (yielded l.toArray a.tmps) = false) (hS : S w)
    (h : ∀ K : Act → Prop, (∀ a', wpT P l.toArray Q S r a' w → K a') → K (a.put o.dst undef)) : wpT P l.toArray Q S (.step k 0 r) a w := ⟨o, undef, op_at ho, .inr ⟨hw, rfl⟩, hS, h _ (fun _ h => h)⟩
theorem wpT_call (ho : l.drop k = o :: t) (hw : Region.wanted o (yielded l.toArray a.tmps) = true) (hS : S w) (v : Value) (f : FuncId) (args : Array Value) (hr : ∀ X, S X → (execOp a.eval o).run P X = .ok (.enter f args) X)
    (hc : ∀ X, S X → Calls P f args X fun e w' => e = .returned v ∧ X = w')
    (h : ∀ K : Act → Prop, (∀ a', wpT P l.toArray Q S r a' w → K a') → K (a.put o.dst v)) : wpT P l.toArray Q S (.step k 0 r) a w :=
  ⟨o, v, op_at ho, .inl ⟨hw, fun w hS => .inr (.inr ⟨f, args, hr w hS, (hc w hS).mono fun _ _ ⟨h1, h2⟩ => ⟨h1, h2.symm⟩⟩)⟩, hS, h _ (fun _ h => h)⟩
theorem wpOp_of {K : Act → World → Prop} (ho : l.drop k = o :: t) (h : if Region.wanted o (yielded l.toArray a.tmps) then o.wp P a w K Q else K (a.put o.dst undef) w) : wpOp P l.toArray Q k K a w := by
  unfold wpOp
  simp only [op_at ho]
  split
  · rename_i hw; rw [if_pos hw] at h; exact .inl h
  · rename_i hw; rw [if_neg hw] at h; exact h
theorem wpT_one (ho : l.drop k = o :: t)
    (h : ∀ K : Act → World → Prop, (∀ a w, S w → wpT P l.toArray Q S r a w → K a w) → if Region.wanted o (yielded l.toArray a.tmps) then o.wp P a w K Q else K (a.put o.dst undef) w) : wpT P l.toArray Q S (.step k 1 r) a w :=
  wpOp_of ho (h (fun a w => S w ∧ wpT P l.toArray Q S r a w) (fun _ _ h1 h2 => ⟨h1, h2⟩))
theorem wpT_two (ho : l.drop k = o :: t)
    (h : ∀ K : Act → World → Prop, (∀ a w, wpT P l.toArray Q S r a w → K a w) → if Region.wanted o (yielded l.toArray a.tmps) then o.wp P a w K Q else K (a.put o.dst undef) w) : wpT P l.toArray Q S (.step k 2 r) a w :=
  wpOp_of ho (h (fun a w => wpT P l.toArray Q S r a w) (fun _ _ h2 => h2))
theorem wpT_fork {j : Nat} {o' : Oper} {t' : List Oper} {s : PT} (ho : l.drop k = o :: t) (ho' : l.drop j = o' :: t')
    (h : ∀ K : Act → World → Prop, (∀ a w, S w → wpT P l.toArray Q S r a w → K a w) → if Region.wanted o (yielded l.toArray a.tmps) then o.wp P a w K Q else K (a.put o.dst undef) w)
    (h' : ∀ K : Act → World → Prop, (∀ a w, S w → wpT P l.toArray Q S s a w → K a w) → if Region.wanted o' (yielded l.toArray a.tmps) then o'.wp P a w K Q else K (a.put o'.dst undef) w) : wpT P l.toArray Q S (.fork k j r s) a w :=
  ⟨wpOp_of ho (h (fun a w => S w ∧ wpT P l.toArray Q S r a w) (fun _ _ h1 h2 => ⟨h1, h2⟩)), wpOp_of ho' (h' (fun a w => S w ∧ wpT P l.toArray Q S s a w) (fun _ _ h1 h2 => ⟨h1, h2⟩))⟩
theorem wpT_sub (S' : World → Prop) (hS : ∀ Z, S' Z → S Z) (hw : S' w) (h : wpT P l.toArray Q S' r a w) : wpT P l.toArray Q S (.sub r) a w := ⟨S', hS, hw, h⟩
theorem wpT_done {Q : Exit → Act → World → Prop} (h : Q .normal a w) : wpT P l.toArray (NoPanic Q) S .nil a w := h
end
end Go.Proofs.Ytedihfcbpgogoaa
