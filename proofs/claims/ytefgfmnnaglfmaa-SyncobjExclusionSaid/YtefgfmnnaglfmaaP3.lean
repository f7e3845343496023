/- Fairness: the plain law. No condition. -/
import Derived.Test.YtefgfmnnaglfmaaH
namespace Go.Proofs.Ytefgfmnnaglfmaa
open Go.RowKit
theorem stat_eq (s : LK) (i : Int) : stat s i = (stT s i).st := by
  unfold stat stT
  rcases s.t i with _ | t <;> rfl
theorem stT_upT (s : LK) (i : Int) (f : Th → Th) (j : Int) : stT (s.upT i f) j = if j = i then f (stT s i) else stT s j := by
  unfold stT LK.upT LK.setT
  by_cases e : j = i
  · simp [e, stT]
  · simp [e]
theorem t_upT (s : LK) (i : Int) (f : Th → Th) (j : Int) : ((s.upT i f).t j).isSome = (decide (j = i) || (s.t j).isSome) := by
  unfold LK.upT LK.setT
  by_cases e : j = i <;> simp [e]
theorem stT_setO (s : LK) (i : Int) (x : Option Ob) (j : Int) : stT (s.setO i x) j = stT s j := rfl
theorem stT_upO (s : LK) (i : Int) (f : Ob → Ob) (j : Int) : stT (s.upO i f) j = stT s j := rfl
/-- The queue of the one mutex: its owner first. -/
structure FQ (s : LK) (Q : List Int) (c : Int) : Prop where
  nd : Q.Nodup
  rg : ∀ a ∈ Q, 0 ≤ a ∧ a < 10
  ob : s.o 0 = some ⟨true, 0, Q.headD 0, c, Q.tail⟩
  c0 : Q = [] → c = 0
  c1 : Q ≠ [] → 1 ≤ c
  hd : ∀ i, (stT s i).hd = if Q.head? = some i then [0] else []
  st : ∀ i, (stT s i).st = 2 ↔ i ∈ Q.tail
  th : ∀ i ∈ Q, (s.t i).isSome = true
theorem fq0 : FQ (addM s0 0 0).2 [] 0 := ⟨List.nodup_nil, (fun a h => by cases h), rfl, fun _ => rfl, fun h => absurd rfl h, fun i => rfl, (fun i => ⟨(fun h => by cases h), (fun h => by cases h)⟩), (fun i h => by cases h)⟩
section
variable {s : LK} {Q : List Int} {c i now : Int}
theorem FQ.above (h : FQ s Q c) (i : Int) : above s i 0 = false := by
  unfold Go.Proofs.Ytefgfmnnaglfmaa.above
  rw [h.hd i]
  split
  · have e : lvOf s 0 = 0 := by unfold lvOf; rw [h.ob]
    simp [e]
  · rfl
theorem FQ.acqA (h : FQ s Q c) (hi : i ∈ Q.tail) : acqS s i 0 0 65535 = (0, 9, s) := by
  unfold acqS
  rw [h.ob]
  simp only [Bool.true_eq_false, if_false]
  rw [if_pos (by rw [stat_eq]; exact (h.st i).2 hi)]
theorem FQ.acqB {r : List Int} (h : FQ s (i :: r) c) (hc : c < 255) : (acqS s i 0 0 65535).1 = 1 ∧ (acqS s i 0 0 65535).2.1 = 0 ∧ FQ (acqS s i 0 0 65535).2.2 (i :: r) (c + 1) := by
  have hns : ¬ stat s i = 2 := by
    rw [stat_eq, h.st]
    exact (List.nodup_cons.1 h.nd).1
  have hc1 := h.c1 (by simp)
  have e : acqS s i 0 0 65535 = (1, 0, (s.setO 0 (some ⟨true, 0, i, c + 1, r⟩)).upT i fun t => { t with st := 1 }) := by
    unfold acqS
    rw [h.ob]
    simp only [Bool.true_eq_false, if_false, if_neg hns]
    rw [if_pos ⟨by omega, rfl⟩, if_neg (by omega)]
    rfl
  rw [e]
  refine ⟨rfl, rfl, h.nd, h.rg, LK.at_o s 0 _, (fun e => by cases e), (fun _ => by omega), fun j => ?_, fun j => ?_, fun j hj => ?_⟩
  · rw [stT_upT]
    by_cases ej : j = i
    · subst ej; simp only [if_true]; exact h.hd j
    · rw [if_neg ej]; exact h.hd j
  · rw [stT_upT]
    by_cases ej : j = i
    · subst ej
      simp only [if_true]
      refine ⟨(fun e => by simp at e), fun hj => absurd hj (List.nodup_cons.1 h.nd).1⟩
    · rw [if_neg ej]; exact h.st j
  · rw [t_upT]
    have := h.th j hj
    show (decide (j = i) || (s.t j).isSome) = true
    rw [this]; simp
theorem FQ.relB {r : List Int} (h : FQ s (i :: r) c) (hc : 2 ≤ c) : (relS s i 0).1 = 0 ∧ FQ (relS s i 0).2 (i :: r) (c - 1) := by
  have e : relS s i 0 = (0, s.setO 0 (some ⟨true, 0, i, c - 1, r⟩)) := by
    unfold relS
    rw [h.ob]
    simp only [Bool.true_eq_false, if_false]
    rw [if_neg (by rintro (e | e | e); omega; exact e rfl; rw [h.above] at e; cases e), if_neg (by omega)]
    rfl
  rw [e]
  exact ⟨rfl, h.nd, h.rg, LK.at_o s 0 _, (fun e => by cases e), (fun _ => by omega), h.hd, h.st, h.th⟩
theorem FQ.acqC0 (h : FQ s [] c) (hi : 0 ≤ i ∧ i < 10) : (acqS s i 0 0 65535).1 = 1 ∧ (acqS s i 0 0 65535).2.1 = 0 ∧ FQ (acqS s i 0 0 65535).2.2 [i] 1 := by
  have hns : ¬ stat s i = 2 := by
    rw [stat_eq, h.st]; exact fun h => by cases h
  have hc := h.c0 rfl
  subst hc
  have e : acqS s i 0 0 65535 = (1, 0, ownS s i 0) := by
    unfold acqS
    rw [h.ob]
    simp only [Bool.true_eq_false, if_false, if_neg hns]
    rw [if_neg (by rintro ⟨e, _⟩; omega), if_neg (by rw [h.above]; simp)]
    simp
  rw [e]
  unfold ownS
  refine ⟨rfl, rfl, List.nodup_cons.2 ⟨(fun h => by cases h), List.nodup_nil⟩, (fun a ha => by rw [List.mem_singleton.1 ha]; exact hi), ?_, (fun e => by cases e), (fun _ => by omega), fun j => ?_, fun j => ?_, fun j hj => ?_⟩
  · show (s.upO 0 _).o 0 = _
    unfold LK.upO
    rw [h.ob, LK.at_o]; rfl
  · rw [stT_upT, stT_upO, stT_upO]
    by_cases ej : j = i
    · subst ej; simp only [if_true]; rw [h.hd j]; simp
    · rw [if_neg ej, h.hd j]
      have : ¬ ([i].head? = some j) := fun e => ej (by injection e with e; exact e.symm)
      rw [if_neg this]; rfl
  · rw [stT_upT, stT_upO, stT_upO]
    by_cases ej : j = i
    · subst ej; simp
    · rw [if_neg ej]; exact h.st j
  · rw [t_upT, List.mem_singleton.1 hj]; simp
theorem FQ.acqC1 (h : FQ s Q 1) (hQ : Q ≠ []) (hn : i ∉ Q) (hi : 0 ≤ i ∧ i < 10) : (acqS s i 0 0 65535).1 = 2 ∧ (acqS s i 0 0 65535).2.1 = 0 ∧ FQ (acqS s i 0 0 65535).2.2 (Q ++ [i]) 1 := by
  obtain ⟨a, r, rfl⟩ : ∃ a r, Q = a :: r := by
    rcases Q with _ | ⟨a, r⟩
    · exact absurd rfl hQ
    · exact ⟨a, r, rfl⟩
  have hns : ¬ stat s i = 2 := by
    rw [stat_eq, h.st]; exact fun h => hn (List.mem_of_mem_tail h)
  have hai : a ≠ i := fun e => hn (by rw [e]; simp)
  have e : acqS s i 0 0 65535 = (2, 0, (s.upT i fun t => { t with st := 2, ob := 0, en := decide ((65535 : Int) ≤ 65535), dl := dlv 0 65535 }).upO 0 fun x => { x with q := x.q ++ [i] }) := by
    unfold acqS
    rw [h.ob]
    simp only [Bool.true_eq_false, if_false, if_neg hns]
    rw [if_neg (by rintro ⟨_, e⟩; exact hai e), if_neg (by rw [h.above]; simp), if_neg (by omega)]
    rfl
  rw [e]
  refine ⟨rfl, rfl, ?_, ?_, ?_, (fun e => by simp at e), (fun _ => by omega), fun j => ?_, fun j => ?_, fun j hj => ?_⟩
  · rw [List.nodup_append]
    refine ⟨h.nd, List.nodup_cons.2 ⟨(fun h => by cases h), List.nodup_nil⟩, fun b hb c hc e => ?_⟩
    rw [List.mem_singleton.1 hc] at e
    exact hn (e ▸ hb)
  · intro b hb
    rcases List.mem_append.1 hb with hb | hb
    · exact h.rg b hb
    · rw [List.mem_singleton.1 hb]; exact hi
  · unfold LK.upO
    show (LK.setO _ 0 (Option.map _ (s.o 0))).o 0 = _
    rw [h.ob, LK.at_o]; rfl
  · rw [stT_upO, stT_upT]
    by_cases ej : j = i
    · subst ej; simp only [if_true]; exact h.hd j
    · rw [if_neg ej]; exact h.hd j
  · rw [stT_upO, stT_upT]
    show _ ↔ j ∈ r ++ [i]
    by_cases ej : j = i
    · subst ej; simp
    · rw [if_neg ej]
      have := h.st j
      rw [this]
      simp [ej]
  · have e3 : ∀ f : Th → Th, ∀ g : Ob → Ob, (((s.upT i f).upO 0 g).t j).isSome = (decide (j = i) || (s.t j).isSome) := fun f g => t_upT s i f j
    rw [e3]
    rcases List.mem_append.1 hj with hj | hj
    · rw [h.th j hj]; simp
    · rw [List.mem_singleton.1 hj]; simp
theorem FQ.relC {r : List Int} (h : FQ s (i :: r) 1) : (relS s i 0).1 = 0 ∧ FQ (relS s i 0).2 r (if r = [] then 0 else 1) := by
  have e : relS s i 0 = (0, freeS (s.setO 0 (some ⟨true, 0, i, 0, r⟩)) 0) := by
    unfold relS
    rw [h.ob]
    simp only [Bool.true_eq_false, if_false]
    rw [if_neg (by rintro (e | e | e); omega; exact e rfl; rw [h.above] at e; cases e)]
    rfl
  rw [e]
  refine ⟨rfl, ?_⟩
  have hnd := List.nodup_cons.1 h.nd
  have e2 : freeS (s.setO 0 (some ⟨true, 0, i, 0, r⟩)) 0 = giveS (takeS (s.setO 0 (some ⟨true, 0, i, 0, r⟩)) 0 ⟨true, 0, i, 0, r⟩) 0 ⟨true, 0, 0, 0, r⟩ := by
    unfold freeS
    rw [LK.at_o]
  rw [e2]
  have hsT : ∀ j, stT (takeS (s.setO 0 (some ⟨true, 0, i, 0, r⟩)) 0 ⟨true, 0, i, 0, r⟩) j = if j = i then { stT s i with hd := (stT s i).hd.erase 0 } else stT s j := fun j => by
    unfold takeS
    rw [stT_setO, stT_upT]
    rfl
  have hhd : ∀ j, (stT (takeS (s.setO 0 (some ⟨true, 0, i, 0, r⟩)) 0 ⟨true, 0, i, 0, r⟩) j).hd = [] := fun j => by
    rw [hsT]
    by_cases ej : j = i
    · subst ej
      simp only [if_true]
      rw [h.hd j]; simp
    · rw [if_neg ej, h.hd j, if_neg (fun e => ej (by injection e with e; exact e.symm))]
  have hst : ∀ j, (stT (takeS (s.setO 0 (some ⟨true, 0, i, 0, r⟩)) 0 ⟨true, 0, i, 0, r⟩) j).st = (stT s j).st := fun j => by
    rw [hsT]
    by_cases ej : j = i
    · subst ej; simp
    · rw [if_neg ej]
  have hth : ∀ j, ((takeS (s.setO 0 (some ⟨true, 0, i, 0, r⟩)) 0 ⟨true, 0, i, 0, r⟩).t j).isSome = (decide (j = i) || (s.t j).isSome) := fun j => t_upT (s.setO 0 (some ⟨true, 0, i, 0, r⟩)) i (fun t => { t with hd := t.hd.erase 0 }) j
  have hob : (takeS (s.setO 0 (some ⟨true, 0, i, 0, r⟩)) 0 ⟨true, 0, i, 0, r⟩).o 0 = some ⟨true, 0, 0, 0, r⟩ := LK.at_o _ _ _
  generalize takeS (s.setO 0 (some ⟨true, 0, i, 0, r⟩)) 0 ⟨true, 0, i, 0, r⟩ = sA at hhd hst hth hob
  rcases r with _ | ⟨a, r⟩
  · refine ⟨List.nodup_nil, (fun a h => by cases h), hob, fun _ => rfl, fun h => absurd rfl h, fun j => hhd j, fun j => ?_, (fun i h => by cases h)⟩
    show (stT sA j).st = 2 ↔ _
    rw [hst j]
    exact h.st j
  · show FQ (ownS (sA.setO 0 (some ⟨true, 0, 0, 0, r⟩)) a 0) (a :: r) 1
    have hnd2 := List.nodup_cons.1 hnd.2
    unfold ownS
    refine ⟨hnd.2, (fun b hb => h.rg b (List.mem_cons_of_mem _ hb)), ?_, (fun e => by cases e), (fun _ => by omega), fun j => ?_, fun j => ?_, fun j hj => ?_⟩
    · show ((sA.setO 0 (some ⟨true, 0, 0, 0, r⟩)).upO 0 (fun x => { x with ow := a, ct := 1 })).o 0 = _
      unfold LK.upO
      rw [LK.at_o, LK.at_o]; rfl
    · rw [stT_upT, stT_upO, stT_upO, stT_setO, stT_setO]
      by_cases ej : j = a
      · subst ej; simp only [if_true]; rw [hhd j]; simp
      · rw [if_neg ej, hhd j, if_neg (fun e => ej (by injection e with e; exact e.symm))]
    · rw [stT_upT, stT_upO, stT_upO, stT_setO, stT_setO]
      show _ ↔ j ∈ r
      by_cases ej : j = a
      · subst ej
        simp only [if_true]
        exact ⟨(fun e => by simp at e), fun hj => absurd hj hnd2.1⟩
      · rw [if_neg ej, hst j, h.st j]
        show j ∈ a :: r ↔ j ∈ r
        simp [ej]
    · rw [t_upT]
      show (decide (j = a) || (sA.t j).isSome) = true
      rw [hth j, h.th j (List.mem_cons_of_mem _ hj)]; simp
theorem FQ.own (h : FQ s Q c) : ownr s 0 = (Q.headD 0, decide (Q ≠ [])) := by
  unfold ownr
  rw [h.ob]
  rcases Q with _ | ⟨a, r⟩
  · have := h.c0 rfl
    subst this
    rfl
  · have := h.c1 (by simp)
    show (if true = true ∧ c ≠ 0 then _ else _) = _
    rw [if_pos ⟨rfl, by omega⟩]
    simp
end
end Go.Proofs.Ytefgfmnnaglfmaa
