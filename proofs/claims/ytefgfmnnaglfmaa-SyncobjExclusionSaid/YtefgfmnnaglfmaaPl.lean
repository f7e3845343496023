/- A region that draws its order, walked once by a plan: what holds in every world of a kind is taken first, the rest comes in one order. No condition. -/
import Derived.Deep.RegionHeld3
import Derived.StillTail
import Derived.KernelRfl
import Derived.Lib.Hide
namespace Go.Proofs.Ytefgfmnnaglfmaa
open Go

section
variable {P : Program} {ops : Array Oper} {Q : Exit → Act → World → Prop} {md : Region.Mode} {S : World → Prop} {N : Nat → Bool}

/-- In every world that meets S the operation yields v and leaves the world alone (a call: by its contract). -/
def YS (P : Program) (ops : Array Oper) (S : World → Prop) (o : Oper) (v : Value) (a : Act) : Prop :=
  (Region.wanted o (yielded ops a.tmps) = true ∧ ∀ w, S w → ((execOp a.eval o).run P w = .ok (.value v) w ∨ ((execOp a.eval o).run P w = .ok .skip w ∧ v = undef) ∨
    ∃ f args, (execOp a.eval o).run P w = .ok (.enter f args) w ∧ Calls P f args w (fun e w'' => e = .returned v ∧ w'' = w))) ∨
  (Region.wanted o (yielded ops a.tmps) = false ∧ v = undef)
theorem YS.of_same {o : Oper} {v : Value} {a a' : Act} (hy : YS P ops S o v a) (he : execOp a'.eval o = execOp a.eval o)
    (hw : Region.wanted o (yielded ops a'.tmps) = Region.wanted o (yielded ops a.tmps)) : YS P ops S o v a' := by
  unfold YS at *
  rw [he, hw]
  exact hy
theorem YS.wpOp {i : Nat} {o : Oper} {v : Value} {a : Act} (hi : ops[i]? = some o) (hy : YS P ops S o v a)
    {K : Act → World → Prop} {w : World} (hS : S w) (h : K (a.put o.dst v) w) : wpOp P ops Q i K a w := by
  unfold Go.wpOp
  simp only [hi]
  rcases hy with ⟨hw, hv⟩ | ⟨hw, rfl⟩
  · simp only [hw, if_true]
    refine .inl ?_
    unfold Oper.wp
    rcases hv w hS with h1 | ⟨h1, rfl⟩ | ⟨f, args, h1, hc⟩
    · rw [h1]; exact h
    · rw [h1]; exact h
    · rw [h1]; exact hc.mono fun e w'' ⟨he, hw⟩ => by subst he; subst hw; exact h
  · simp only [hw, Bool.false_eq_true, if_false]; exact h
theorem wpOp_putS {j : Nat} {oi oj : Oper} {v : Value} (hj : ops[j]? = some oj) (hap : oi.apart ops oj = true)
    (hsi : ∀ cs b, oi.op ≠ .select cs b) (hsj : ∀ cs b, oj.op ≠ .select cs b)
    (hQ : ∀ c a w, ¬ Q (.panic c) a w) {K : Act → World → Prop} {a : Act} {w : World}
    (hy : YS P ops S oi v a) (h : wpOp P ops Q j K (a.put oi.dst v) w) :
    wpOp P ops Q j (fun a' w' => YS P ops S oi v a' ∧ K (a'.put oi.dst v) w') a w := by
  obtain ⟨h1, h2, h3⟩ := Oper.apart_spec hap
  have keep : ∀ (a : Act), YS P ops S oi v a → ∀ u, YS P ops S oi v (a.put oj.dst u) := fun a hy u =>
    hy.of_same (execOp_put oi hsi a oj.dst u h3) (wanted_put oi a oj.dst u h3)
  have keepD : ∀ d, YS P ops S oi v { a with defers := d :: a.defers } := fun d => hy.of_same rfl rfl
  unfold wpOp at *
  simp only [hj] at *
  rw [wanted_put oj a oi.dst v h1] at h
  split
  · rename_i hw
    simp only [hw, if_true] at h
    rcases h with h | ⟨hasks, hlets⟩
    case inr => exact .inr ⟨by unfold Oper.asks at *; rw [execOp_put oj hsj a oi.dst v h1] at hasks; exact hasks, hlets⟩
    refine .inl ?_
    unfold Oper.wp at *
    rw [execOp_put oj hsj a oi.dst v h1] at h
    generalize (execOp a.eval oj).run P w = r at *
    cases r with
    | ok n w' =>
      cases n <;> simp only [Oper.upon] at h ⊢
      case value u => exact ⟨keep a hy u, by rw [← Act.put_comm a v u h2]; exact h⟩
      case skip => exact ⟨keep a hy _, by rw [← Act.put_comm a v undef h2]; exact h⟩
      case defer d =>
        refine ⟨keep _ (keepD d) _, ?_⟩
        rw [← Act.put_comm _ v undef h2, ← Act.put_defers]
        exact h
      case enter f args =>
        refine Calls.mono h fun e w'' he => ?_
        cases e with
        | returned u => exact ⟨keep a hy u, by rw [← Act.put_comm a v u h2]; exact he⟩
        | panicked c => exact absurd he (hQ _ _ _)
        | outgrown => exact he
      case row row args => exact Rows.mono h fun u w'' he => ⟨keep a hy u, by rw [← Act.put_comm a v u h2]; exact he⟩
    | halt x w' =>
      cases x <;> simp only [Oper.upon] at h ⊢
      case panic u => exact absurd h (hQ _ _ _)
  · rename_i hw
    simp only [hw] at h
    exact ⟨keep a hy _, by rw [← Act.put_comm a v undef h2]; exact h⟩
/-- Whatever order is picked; behind each operation but those of N the world meets S. -/
def wpAnyP (P : Program) (md : Region.Mode) (ops : Array Oper) (Q : Exit → Act → World → Prop) (S : World → Prop) (N : Nat → Bool) : Nat → Array Bool → Act → World → Prop
  | 0, listed, a, w => Region.ready md ops listed = [] ∧ Q .normal a w
  | fuel + 1, listed, a, w =>
    (Region.ready md ops listed = [] → Q .normal a w) ∧
    ∀ i ∈ Region.ready md ops listed, wpOp P ops Q i (fun a' w' => (N i = true ∨ S w') ∧ wpAnyP P md ops Q S N fuel (listed.setIfInBounds i true) a' w') a w
theorem wpAny_of_P : ∀ (fuel : Nat) (listed : Array Bool) (a : Act) (w : World), wpAnyP P md ops Q S N fuel listed a w → wpAny P md ops Q fuel listed a w
  | 0, _, _, _, h => h
  | fuel + 1, _, _, _, h => ⟨h.1, fun i hi => wpOp_mono (fun a' w' h' => wpAny_of_P fuel _ a' w' h'.2) (h.2 i hi)⟩
theorem wpAnyP_first {i : Nat} {oi : Oper} {v : Value} (hi : ops[i]? = some oi) (hsel : ∀ (j : Nat) (o : Oper) cs b, ops[j]? = some o → o.op ≠ .select cs b)
    (hQ : ∀ c a w, ¬ Q (.panic c) a w) (hN : ∀ j oj, ops[j]? = some oj → N j = true → ∃ e ∈ oj.after, Region.binds md e = true ∧ e.on = i) :
    ∀ (fuel : Nat) (listed : Array Bool) (a : Act) (w : World),
      (∀ j oj, ops[j]? = some oj → j ≠ i → listed.getD j true = false → (∀ e ∈ oj.after, Region.binds md e = true → e.on ≠ i) → oi.apart ops oj = true) →
      i ∈ Region.ready md ops listed → YS P ops S oi v a → S w →
      wpAnyP P md ops Q S N fuel (listed.setIfInBounds i true) (a.put oi.dst v) w → wpAnyP P md ops Q S N (fuel + 1) listed a w := by
  intro fuel
  induction fuel with
  | zero =>
    intro listed a w _ hr hy hS H
    refine ⟨fun h => (by rw [h] at hr; cases hr), fun j hj => ?_⟩
    by_cases hji : j = i
    · subst hji; exact hy.wpOp hi hS ⟨.inr hS, H⟩
    · have := ready_mono hj hji
      rw [H.1] at this
      cases this
  | succ fuel ih =>
    intro listed a w hfree hr hy hS H
    refine ⟨fun h => (by rw [h] at hr; cases hr), fun j hj => ?_⟩
    by_cases hji : j = i
    · subst hji; exact hy.wpOp hi hS ⟨.inr hS, H⟩
    · have h1 := H.2 j (ready_mono hj hji)
      obtain ⟨hjun, oj, hoj, hall⟩ := mem_ready.1 hj
      have hnot : ∀ e ∈ oj.after, Region.binds md e = true → e.on ≠ i := fun e he hb heq => by
        have h1 := hall e he hb
        have h0 := (mem_ready.1 hr).1
        rw [heq] at h1
        rcases Nat.lt_or_ge i listed.size with h' | h'
        · simp [h'] at h0 h1; rw [h0] at h1; cases h1
        · simp [Array.getElem?_eq_none h'] at h1
      have hNj : N j = false := by
        cases hNj : N j
        · rfl
        · obtain ⟨e, he, hb, hon⟩ := hN j oj hoj hNj
          exact absurd hon (hnot e he hb)
      have h2 := wpOp_putS hoj (hfree j oj hoj hji hjun hnot) (fun cs b => hsel i oi cs b hi) (fun cs b => hsel j oj cs b hoj) hQ hy h1
      have hfree' : ∀ k ok, ops[k]? = some ok → k ≠ i → (listed.setIfInBounds j true).getD k true = false →
          (∀ e ∈ ok.after, Region.binds md e = true → e.on ≠ i) → oi.apart ops ok = true := fun k ok hk hki hun hno => by
        refine hfree k ok hk hki ?_ hno
        by_cases hjk : j = k
        · subst hjk; exact hjun
        · rw [getD_set_ne true hjk] at hun; exact hun
      refine wpOp_mono (fun a' w' h3 => ?_) h2
      have hS' : S w' := by
        rcases h3.2.1 with h4 | h4
        · rw [hNj] at h4; cases h4
        · exact h4
      refine ⟨.inr hS', ih (listed.setIfInBounds j true) a' w' hfree' (ready_mono hr (Ne.symm hji)) h3.1 hS' ?_⟩
      rw [Array.setIfInBounds_comm _ _ hji]
      exact h3.2.2

theorem YS.run {o : Oper} {v : Value} {a : Act} (hw : Region.wanted o (yielded ops a.tmps) = true) (h : ∀ w, S w → (execOp a.eval o).run P w = .ok (.value v) w) : YS P ops S o v a := .inl ⟨hw, fun w hS => .inl (h w hS)⟩
/-- The plan: which operation comes next, and how. 0: taken first; 1: the only one that may come, S shown behind it; 2: the only one that may come, S not asked behind it. -/
def wpP (P : Program) (ops : Array Oper) (Q : Exit → Act → World → Prop) (S : World → Prop) : List (Nat × Nat) → Act → World → Prop
  | [], a, w => Q .normal a w
  | (k, 0) :: r, a, w => ∃ o v, ops[k]? = some o ∧ YS P ops S o v a ∧ S w ∧ wpP P ops Q S r (a.put o.dst v) w
  | (k, 1) :: r, a, w => wpOp P ops Q k (fun a' w' => S w' ∧ wpP P ops Q S r a' w') a w
  | (k, _ + 2) :: r, a, w => wpOp P ops Q k (fun a' w' => wpP P ops Q S r a' w') a w
def plB (md : Region.Mode) (ops : Array Oper) : List (Nat × Nat) → Array Bool → Bool
  | [], listed => (Region.ready md ops listed).isEmpty
  | (k, 0) :: r, listed => (Region.ready md ops listed).contains k && Region.free md ops listed k && plB md ops r (listed.setIfInBounds k true)
  | (k, _ + 1) :: r, listed => decide (Region.ready md ops listed = [k]) && plB md ops r (listed.setIfInBounds k true)
def noS (pl : List (Nat × Nat)) (j : Nat) : Bool := pl.any fun x => x.1 == j && decide (2 ≤ x.2)
def noSB (md : Region.Mode) (ops : Array Oper) (pl : List (Nat × Nat)) : Bool :=
  pl.all fun x => !decide (2 ≤ x.2) || pl.all fun y => !(y.2 == 0) || Region.waitsFor md ops x.1 y.1
def plOK (md : Region.Mode) (ops : Array Oper) (pl : List (Nat × Nat)) : Bool :=
  decide (pl.length = ops.size) && Region.noSelect ops && noSB md ops pl && plB md ops pl (Array.replicate ops.size false)
theorem noS_spec {pl : List (Nat × Nat)} {i : Nat} (hi : (i, 0) ∈ pl) (hN : noSB md ops pl = true) (j : Nat) (oj : Oper) (hj : ops[j]? = some oj) (h : noS pl j = true) : ∃ e ∈ oj.after, Region.binds md e = true ∧ e.on = i := by
  obtain ⟨x, hx, hx2⟩ := List.any_eq_true.1 h
  simp only [Bool.and_eq_true, beq_iff_eq, decide_eq_true_eq] at hx2
  have h1 := List.all_eq_true.1 hN x hx
  simp only [hx2.2, decide_true, Bool.not_true, Bool.false_or] at h1
  have h2 := List.all_eq_true.1 h1 _ hi
  obtain ⟨oj', hoj', r⟩ := Region.waitsFor_spec (by simpa using h2)
  rw [hx2.1, hj] at hoj'
  injection hoj' with hoj'
  subst hoj'
  exact r
theorem wpAnyP_plan (pl0 : List (Nat × Nat)) (hsel : Region.noSelect ops = true) (hQ : ∀ c a w, ¬ Q (.panic c) a w) (hN : noSB md ops pl0 = true) (pl : List (Nat × Nat)) :
    ∀ (listed : Array Bool) (a : Act) (w : World), (∀ x ∈ pl, x ∈ pl0) → plB md ops pl listed = true → wpP P ops Q S pl a w → wpAnyP P md ops Q S (noS pl0) pl.length listed a w := by
  induction pl with
  | nil => intro listed a w _ hB h; exact ⟨by simpa [plB] using hB, h⟩
  | cons x r ih =>
    intro listed a w hm hB h
    obtain ⟨k, c⟩ := x
    have hmr : ∀ x ∈ r, x ∈ pl0 := fun x hx => hm x (List.mem_cons_of_mem _ hx)
    have hk := hm (k, c) (List.mem_cons_self ..)
    match c, hB, h, hk with
    | 0, hB, h, hk =>
      simp only [plB, Bool.and_eq_true] at hB
      obtain ⟨⟨hr, hf⟩, hB'⟩ := hB
      obtain ⟨o, v, ho, hy, hS, hK⟩ := h
      exact wpAnyP_first ho (Region.noSelect_spec hsel) hQ (fun j oj hj hNj => noS_spec hk hN j oj hj hNj) _ listed a w (Region.free_spec ho hf) (by simpa using hr) hy hS (ih _ _ _ hmr hB' hK)
    | 1, hB, h, hk =>
      simp only [plB, Bool.and_eq_true, decide_eq_true_eq] at hB
      refine ⟨fun h1 => (by rw [hB.1] at h1; cases h1), fun i hi => ?_⟩
      rw [hB.1] at hi
      have hik : i = k := by simpa using hi
      subst hik
      exact wpOp_mono (fun a' w' h' => ⟨.inr h'.1, ih _ a' w' hmr hB.2 h'.2⟩) h
    | c + 2, hB, h, hk =>
      simp only [plB, Bool.and_eq_true, decide_eq_true_eq] at hB
      refine ⟨fun h1 => (by rw [hB.1] at h1; cases h1), fun i hi => ?_⟩
      rw [hB.1] at hi
      have hik : i = k := by simpa using hi
      subst hik
      exact wpOp_mono (fun a' w' h' => ⟨.inl (List.any_eq_true.2 ⟨_, hk, by simp⟩), ih _ a' w' hmr hB.2 h'⟩) h
theorem wp_region_pl {id : Nat} {a : Act} {w : World} {l : List Oper} (S : World → Prop) (pl : List (Nat × Nat)) (hm : P.follows .mixedOrders = true) (hB : plOK .any l.toArray pl = true)
    (h : wpP P l.toArray (NoPanic Q) S pl a w.drew) : (Code.region id l.toArray true).wp P Q a w := by
  simp only [plOK, Bool.and_eq_true, decide_eq_true_eq] at hB
  obtain ⟨⟨⟨hn, hsel⟩, hN⟩, hB⟩ := hB
  refine wp_region_noPanic (wp_region_any hm (wpAny_of_P (S := S) (N := noS pl) _ _ _ _ ?_))
  have := wpAnyP_plan (P := P) (md := .any) (Q := NoPanic Q) (S := S) (ops := l.toArray) pl hsel (fun c a w h => h) hN pl _ a w.drew (fun _ h => h) hB h
  rw [hn] at this
  exact this
variable {k : Nat} {o : Oper} {l t : List Oper} {r : List (Nat × Nat)} {a : Act} {w : World}
theorem op_at (ho : l.drop k = o :: t) : l.toArray[k]? = some o := by
  have := congrArg (·[0]?) ho
  simpa using this
theorem wpP_go (ho : l.drop k = o :: t) (hw : Region.wanted o (yielded l.toArray a.tmps) = true) (hS : S w) (v : Value) (hr : ∀ X, S X → (execOp a.eval o).run P X = .ok (.value v) X)
    (h : ∀ K : Act → Prop, (∀ a', wpP P l.toArray Q S r a' w → K a') → K (a.put o.dst v)) : wpP P l.toArray Q S ((k, 0) :: r) a w := ⟨o, v, op_at ho, YS.run hw hr, hS, h _ (fun _ h => h)⟩
theorem wpP_not (ho : l.drop k = o :: t) (hw : Region.wanted o (yielded l.toArray a.tmps) = false) (hS : S w)
    (h : ∀ K : Act → Prop, (∀ a', wpP P l.toArray Q S r a' w → K a') → K (a.put o.dst undef)) : wpP P l.toArray Q S ((k, 0) :: r) a w := ⟨o, undef, op_at ho, .inr ⟨hw, rfl⟩, hS, h _ (fun _ h => h)⟩
theorem wpP_call (ho : l.drop k = o :: t) (hw : Region.wanted o (yielded l.toArray a.tmps) = true) (hS : S w) (v : Value) (f : FuncId) (args : Array Value) (hr : ∀ X, S X → (execOp a.eval o).run P X = .ok (.enter f args) X)
    (hc : ∀ X, S X → Calls P f args X fun e w' => e = .returned v ∧ X = w')
    (h : ∀ K : Act → Prop, (∀ a', wpP P l.toArray Q S r a' w → K a') → K (a.put o.dst v)) : wpP P l.toArray Q S ((k, 0) :: r) a w :=
  ⟨o, v, op_at ho, .inl ⟨hw, fun w hS => .inr (.inr ⟨f, args, hr w hS, (hc w hS).mono fun _ _ ⟨h1, h2⟩ => ⟨h1, h2.symm⟩⟩)⟩, hS, h _ (fun _ h => h)⟩
theorem wpP_one (ho : l.drop k = o :: t)
    (h : ∀ K : Act → World → Prop, (∀ a w, S w → wpP P l.toArray Q S r a w → K a w) → if Region.wanted o (yielded l.toArray a.tmps) then o.wp P a w K Q else K (a.put o.dst undef) w) : wpP P l.toArray Q S ((k, 1) :: r) a w := by
  have := h (fun a w => S w ∧ wpP P l.toArray Q S r a w) (fun a w h1 h2 => ⟨h1, h2⟩)
  show wpOp _ _ _ _ _ _ _
  unfold wpOp
  simp only [op_at ho]
  split
  · rename_i hw; rw [if_pos hw] at this; exact .inl this
  · rename_i hw; rw [if_neg hw] at this; exact this
theorem wpP_two (ho : l.drop k = o :: t)
    (h : ∀ K : Act → World → Prop, (∀ a w, wpP P l.toArray Q S r a w → K a w) → if Region.wanted o (yielded l.toArray a.tmps) then o.wp P a w K Q else K (a.put o.dst undef) w) : wpP P l.toArray Q S ((k, 2) :: r) a w := by
  have := h (fun a w => wpP P l.toArray Q S r a w) (fun a w h2 => h2)
  show wpOp _ _ _ _ _ _ _
  unfold wpOp
  simp only [op_at ho]
  split
  · rename_i hw; rw [if_pos hw] at this; exact .inl this
  · rename_i hw; rw [if_neg hw] at this; exact this
theorem wpP_done (h : Q .normal a w) : wpP P l.toArray (NoPanic Q) S [] a w := h
end
end Go.Proofs.Ytefgfmnnaglfmaa
