/- A plan whose last operations wait for what was taken first by way of others. No condition. -/
import Derived.Test.YtefgfmnnaglfmaaPl
namespace Go.Proofs.Ytefgfmnnaglfmaa
open Go
section
variable {P : Program} {ops : Array Oper} {Q : Exit → Act → World → Prop} {md : Region.Mode} {S : World → Prop} {N : Nat → Bool}
/-- What is listed waits for nothing that is not. -/
def clos (md : Region.Mode) (ops : Array Oper) (listed : Array Bool) : Prop := ∀ (m : Nat) (o : Oper), ops[m]? = some o → listed.getD m false = true → ∀ e ∈ o.after, Region.binds md e = true → listed.getD e.on false = true
theorem clos.next {listed : Array Bool} {k : Nat} (h : clos md ops listed) (hk : k ∈ Region.ready md ops listed) : clos md ops (listed.setIfInBounds k true) := fun m o ho hm e he hb => by
  by_cases hmk : k = m
  · subst hmk
    obtain ⟨_, o', ho', hall⟩ := mem_ready.1 hk
    rw [ho] at ho'
    injection ho' with ho'
    subst ho'
    exact getD_set_true (hall e he hb)
  · rw [getD_set_ne false hmk] at hm
    exact getD_set_true (h m o ho hm e he hb)
inductive Dep (md : Region.Mode) (ops : Array Oper) : Nat → Nat → Prop
  | one {j i : Nat} (o : Oper) (e : _) : ops[j]? = some o → e ∈ o.after → Region.binds md e = true → e.on = i → Dep md ops j i
  | more {j i : Nat} (o : Oper) (e : _) : ops[j]? = some o → e ∈ o.after → Region.binds md e = true → Dep md ops e.on i → Dep md ops j i
theorem Dep.listed {listed : Array Bool} (hc : clos md ops listed) {j i : Nat} (h : Dep md ops j i) : ∀ oj, ops[j]? = some oj → (∀ e ∈ oj.after, Region.binds md e = true → listed.getD e.on false = true) → listed.getD i false = true := by
  induction h with
  | one o e ho he hb hon =>
    intro oj hoj hall
    rw [ho] at hoj
    injection hoj with hoj
    subst hoj
    rw [← hon]
    exact hall e he hb
  | more o e ho he hb hd ih =>
    intro oj hoj hall
    rw [ho] at hoj
    injection hoj with hoj
    subst hoj
    have hl := hall e he hb
    cases hd with
    | one o2 e2 ho2 he2 hb2 hon2 => exact ih o2 ho2 fun e3 he3 hb3 => hc _ _ ho2 hl e3 he3 hb3
    | more o2 e2 ho2 he2 hb2 hd2 => exact ih o2 ho2 fun e3 he3 hb3 => hc _ _ ho2 hl e3 he3 hb3
def waitsT (md : Region.Mode) (ops : Array Oper) : Nat → Nat → Nat → Bool
  | 0, j, i => Region.waitsFor md ops j i
  | n + 1, j, i => Region.waitsFor md ops j i || (match ops[j]? with
    | some oj => oj.after.any fun e => Region.binds md e && waitsT md ops n e.on i
    | none => false)
theorem waitsT_spec : ∀ (n j i : Nat), waitsT md ops n j i = true → Dep md ops j i
  | 0, j, i, h => by
    obtain ⟨oj, hoj, e, he, hb, hon⟩ := Region.waitsFor_spec h
    exact .one oj e hoj he hb hon
  | n + 1, j, i, h => by
    unfold waitsT at h
    rcases Bool.or_eq_true_iff.1 h with h | h
    · obtain ⟨oj, hoj, e, he, hb, hon⟩ := Region.waitsFor_spec h
      exact .one oj e hoj he hb hon
    · split at h
      · rename_i oj hj
        obtain ⟨e, he, hb⟩ := Array.any_eq_true'.1 h
        rw [Bool.and_eq_true] at hb
        exact .more oj e hj he hb.1 (waitsT_spec n _ _ hb.2)
      · cases h
theorem wpAnyP_firstT {i : Nat} {oi : Oper} {v : Value} (hi : ops[i]? = some oi) (hsel : ∀ (j : Nat) (o : Oper) cs b, ops[j]? = some o → o.op ≠ .select cs b)
    (hQ : ∀ c a w, ¬ Q (.panic c) a w) (hN : ∀ j oj, ops[j]? = some oj → N j = true → Dep md ops j i) :
    ∀ (fuel : Nat) (listed : Array Bool) (a : Act) (w : World), clos md ops listed →
      (∀ j oj, ops[j]? = some oj → j ≠ i → listed.getD j true = false → (∀ e ∈ oj.after, Region.binds md e = true → e.on ≠ i) → oi.apart ops oj = true) →
      i ∈ Region.ready md ops listed → YS P ops S oi v a → S w →
      wpAnyP P md ops Q S N fuel (listed.setIfInBounds i true) (a.put oi.dst v) w → wpAnyP P md ops Q S N (fuel + 1) listed a w := by
  intro fuel
  induction fuel with
  | zero =>
    intro listed a w _ _ hr hy hS H
    refine ⟨fun h => (by rw [h] at hr; cases hr), fun j hj => ?_⟩
    by_cases hji : j = i
    · subst hji; exact hy.wpOp hi hS ⟨.inr hS, H⟩
    · have := ready_mono hj hji
      rw [H.1] at this
      cases this
  | succ fuel ih =>
    intro listed a w hcl hfree hr hy hS H
    refine ⟨fun h => (by rw [h] at hr; cases hr), fun j hj => ?_⟩
    by_cases hji : j = i
    · subst hji; exact hy.wpOp hi hS ⟨.inr hS, H⟩
    · have h1 := H.2 j (ready_mono hj hji)
      obtain ⟨hjun, oj, hoj, hall⟩ := mem_ready.1 hj
      have hun : listed.getD i false = true → False := fun h => by
        have h0 := (mem_ready.1 hr).1
        rcases Nat.lt_or_ge i listed.size with h' | h'
        · simp [h'] at h0 h; rw [h0] at h; cases h
        · simp [Array.getElem?_eq_none h'] at h
      have hnot : ∀ e ∈ oj.after, Region.binds md e = true → e.on ≠ i := fun e he hb heq => by
        have h1 := hall e he hb
        rw [heq] at h1
        exact hun h1
      have hNj : N j = false := by
        cases hNj : N j
        · rfl
        · exact absurd ((hN j oj hoj hNj).listed hcl oj hoj hall) (fun h => hun h)
      have h2 := wpOp_putS hoj (hfree j oj hoj hji hjun hnot) (fun cs b => hsel i oi cs b hi) (fun cs b => hsel j oj cs b hoj) hQ hy h1
      have hfree' : ∀ k ok, ops[k]? = some ok → k ≠ i → (listed.setIfInBounds j true).getD k true = false →
          (∀ e ∈ ok.after, Region.binds md e = true → e.on ≠ i) → oi.apart ops ok = true := fun k ok hk hki hun hno => by
        refine hfree k ok hk hki ?_ hno
        by_cases hjk : j = k
        · subst hjk; exact hjun
        · rw [getD_set_ne true hjk] at hun; exact hun
      refine wpOp_mono (fun a' w' h3 => ?_) h2
      have hS' : S w' := by
        rcases h3.2.1 with h4 | h4
        · rw [hNj] at h4; cases h4
        · exact h4
      refine ⟨.inr hS', ih (listed.setIfInBounds j true) a' w' (hcl.next hj) hfree' (ready_mono hr (Ne.symm hji)) h3.1 hS' ?_⟩
      rw [Array.setIfInBounds_comm _ _ hji]
      exact h3.2.2
def noST (md : Region.Mode) (ops : Array Oper) (pl : List (Nat × Nat)) : Bool :=
  pl.all fun x => !decide (2 ≤ x.2) || pl.all fun y => !(y.2 == 0) || waitsT md ops 8 x.1 y.1
def plOT (md : Region.Mode) (ops : Array Oper) (pl : List (Nat × Nat)) : Bool :=
  decide (pl.length = ops.size) && Region.noSelect ops && noST md ops pl && plB md ops pl (Array.replicate ops.size false)
theorem noST_spec {pl : List (Nat × Nat)} {i : Nat} (hi : (i, 0) ∈ pl) (hN : noST md ops pl = true) (j : Nat) (h : noS pl j = true) : Dep md ops j i := by
  obtain ⟨x, hx, hx2⟩ := List.any_eq_true.1 h
  simp only [Bool.and_eq_true, beq_iff_eq, decide_eq_true_eq] at hx2
  have h1 := List.all_eq_true.1 hN x hx
  simp only [hx2.2, decide_true, Bool.not_true, Bool.false_or] at h1
  have h2 := List.all_eq_true.1 h1 _ hi
  have h3 := waitsT_spec (md := md) (ops := ops) _ _ _ (by simpa using h2)
  rw [hx2.1] at h3
  exact h3
theorem wpAnyP_planT (pl0 : List (Nat × Nat)) (hsel : Region.noSelect ops = true) (hQ : ∀ c a w, ¬ Q (.panic c) a w) (hN : noST md ops pl0 = true) (pl : List (Nat × Nat)) :
    ∀ (listed : Array Bool) (a : Act) (w : World), clos md ops listed → (∀ x ∈ pl, x ∈ pl0) → plB md ops pl listed = true → wpP P ops Q S pl a w → wpAnyP P md ops Q S (noS pl0) pl.length listed a w := by
  induction pl with
  | nil => intro listed a w _ _ hB h; exact ⟨by simpa [plB] using hB, h⟩
  | cons x r ih =>
    intro listed a w hcl hm hB h
    obtain ⟨k, c⟩ := x
    have hmr : ∀ x ∈ r, x ∈ pl0 := fun x hx => hm x (List.mem_cons_of_mem _ hx)
    have hk := hm (k, c) (List.mem_cons_self ..)
    match c, hB, h, hk with
    | 0, hB, h, hk =>
      simp only [plB, Bool.and_eq_true] at hB
      obtain ⟨⟨hr, hf⟩, hB'⟩ := hB
      obtain ⟨o, v, ho, hy, hS, hK⟩ := h
      have hrd : k ∈ Region.ready md ops listed := by simpa using hr
      exact wpAnyP_firstT ho (Region.noSelect_spec hsel) hQ (fun j oj hj hNj => noST_spec hk hN j hNj) _ listed a w hcl (Region.free_spec ho hf) hrd hy hS (ih _ _ _ (hcl.next hrd) hmr hB' hK)
    | 1, hB, h, hk =>
      simp only [plB, Bool.and_eq_true, decide_eq_true_eq] at hB
      have hrd : k ∈ Region.ready md ops listed := by rw [hB.1]; exact List.mem_singleton.2 rfl
      refine ⟨fun h1 => (by rw [hB.1] at h1; cases h1), fun i hi => ?_⟩
      rw [hB.1] at hi
      have hik : i = k := by simpa using hi
      subst hik
      exact wpOp_mono (fun a' w' h' => ⟨.inr h'.1, ih _ a' w' (hcl.next hrd) hmr hB.2 h'.2⟩) h
    | c + 2, hB, h, hk =>
      simp only [plB, Bool.and_eq_true, decide_eq_true_eq] at hB
      have hrd : k ∈ Region.ready md ops listed := by rw [hB.1]; exact List.mem_singleton.2 rfl
      refine ⟨fun h1 => (by rw [hB.1] at h1; cases h1), fun i hi => ?_⟩
      rw [hB.1] at hi
      have hik : i = k := by simpa using hi
      subst hik
      exact wpOp_mono (fun a' w' h' => ⟨.inl (List.any_eq_true.2 ⟨_, hk, by simp⟩), ih _ a' w' (hcl.next hrd) hmr hB.2 h'⟩) h
theorem wp_region_pt {id : Nat} {a : Act} {w : World} {l : List Oper} (S : World → Prop) (pl : List (Nat × Nat)) (hm : P.follows .mixedOrders = true) (hB : plOT .any l.toArray pl = true)
    (h : wpP P l.toArray (NoPanic Q) S pl a w.drew) : (Code.region id l.toArray true).wp P Q a w := by
  simp only [plOT, Bool.and_eq_true, decide_eq_true_eq] at hB
  obtain ⟨⟨⟨hn, hsel⟩, hN⟩, hB⟩ := hB
  refine wp_region_noPanic (wp_region_any hm (wpAny_of_P (S := S) (N := noS pl) _ _ _ _ ?_))
  have hc0 : clos .any l.toArray (Array.replicate l.toArray.size false) := fun m o _ h => by
    exfalso
    simp [Array.getElem?_replicate] at h
    split at h <;> simp at h
  have := wpAnyP_planT (P := P) (md := .any) (Q := NoPanic Q) (S := S) (ops := l.toArray) pl hsel (fun c a w h => h) hN pl _ a w.drew hc0 (fun _ h => h) hB h
  rw [hn] at this
  exact this
end
end Go.Proofs.Ytefgfmnnaglfmaa
