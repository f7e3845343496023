/- NoDeadlock: the plain law. No condition. -/
import Derived.Test.YtefgfmnnaglfmaaP3
namespace Go.Proofs.Ytefgfmnnaglfmaa
open Go.RowKit
def rg (id : Int) : Prop := 0 ≤ id ∧ id < 6
/-- X: the mutexes; H: what each thread holds; W: who waits. -/
structure NDf (X : Int → Ob) (H : Int → List Int) (W : Int → Prop) : Prop where
  lvl : ∀ id, rg id → (X id).mx = true ∧ (X id).lv = 2 * id + 1 ∧ 0 ≤ (X id).ct ∧ (X id).ct ≤ 255
  q0 : ∀ id, rg id → (X id).ct = 0 → (X id).q = []
  qn : ∀ id, rg id → (X id).q.Nodup ∧ ∀ a ∈ (X id).q, 0 ≤ a ∧ a < 5
  ow : ∀ id, rg id → 0 < (X id).ct → 0 ≤ (X id).ow ∧ (X id).ow < 5
  hd : ∀ i id, id ∈ H i ↔ rg id ∧ 0 < (X id).ct ∧ (X id).ow = i
  hn : ∀ i, (H i).Nodup
  st : ∀ i, W i ↔ ∃ id, rg id ∧ i ∈ (X id).q
  un : ∀ i id id', rg id → rg id' → i ∈ (X id).q → i ∈ (X id').q → id = id'
  lv : ∀ i id, rg id → i ∈ (X id).q → ∀ k ∈ H i, k < id
section
variable {X X' : Int → Ob} {H H' : Int → List Int} {W W' : Int → Prop} {i id : Int}
/-- The count of an owned mutex changed. -/
theorem NDf.cnt (h : NDf X H W) (hr : rg id) (hc : 0 < (X id).ct) {c : Int} (h1 : 1 ≤ c) (h2 : c ≤ 255) (e : X' id = { X id with ct := c }) (e' : ∀ j, j ≠ id → X' j = X j) : NDf X' H W := by
  have eq : ∀ j, (X' j).q = (X j).q := fun j => by
    by_cases ej : j = id
    · rw [ej, e]
    · rw [e' j ej]
  have eo : ∀ j, (X' j).ow = (X j).ow := fun j => by
    by_cases ej : j = id
    · rw [ej, e]
    · rw [e' j ej]
  have ec : ∀ j, 0 < (X' j).ct ↔ 0 < (X j).ct := fun j => by
    by_cases ej : j = id
    · rw [ej, e]; exact ⟨fun _ => hc, fun _ => by show 0 < c; omega⟩
    · rw [e' j ej]
  refine ⟨fun j hj => ?_, fun j hj h0 => ?_, fun j hj => by rw [eq]; exact h.qn j hj, fun j hj h0 => by rw [eo]; exact h.ow j hj ((ec j).1 h0), fun a j => by rw [h.hd a j, ec, eo], h.hn, fun a => by rw [h.st]; simp only [eq], fun a j k hj hk h3 h4 => by rw [eq] at h3 h4; exact h.un a j k hj hk h3 h4, fun a j hj h3 => by rw [eq] at h3; exact h.lv a j hj h3⟩
  · by_cases ej : j = id
    · subst ej
      rw [e]
      have := h.lvl j hj
      exact ⟨this.1, this.2.1, by show 0 ≤ c; omega, h2⟩
    · rw [e' j ej]; exact h.lvl j hj
  · by_cases ej : j = id
    · subst ej
      rw [e] at h0
      have : c = 0 := h0
      omega
    · rw [e' j ej] at h0 ⊢; exact h.q0 j hj h0
theorem NDf.congr (h : NDf X H W) (e1 : ∀ j, H' j = H j) (e2 : ∀ j, W' j ↔ W j) : NDf X H' W' :=
  ⟨h.lvl, h.q0, h.qn, h.ow, fun a j => by rw [e1]; exact h.hd a j, fun a => by rw [e1]; exact h.hn a, fun a => by rw [e2]; exact h.st a, h.un, fun a j hj h3 => by rw [e1]; exact h.lv a j hj h3⟩
/-- A free mutex taken. -/
theorem NDf.own (h : NDf X H W) (hr : rg id) (hi : 0 ≤ i ∧ i < 5) (hc : (X id).ct = 0) (hw : ¬ W i) (e : X' id = { X id with ow := i, ct := 1 }) (e' : ∀ j, j ≠ id → X' j = X j) (e1 : H' i = H i ++ [id]) (e1' : ∀ j, j ≠ i → H' j = H j) (e2 : ∀ j, W' j ↔ W j) : NDf X' H' W' := by
  have eq : ∀ j, (X' j).q = (X j).q := fun j => by
    by_cases ej : j = id
    · rw [ej, e]
    · rw [e' j ej]
  have hni : id ∉ H i := fun hm => by have := ((h.hd i id).1 hm).2.1; omega
  refine ⟨fun j hj => ?_, fun j hj h0 => ?_, fun j hj => by rw [eq]; exact h.qn j hj, fun j hj h0 => ?_, fun a j => ?_, fun a => ?_, fun a => by rw [e2, h.st]; simp only [eq], fun a j k hj hk h3 h4 => by rw [eq] at h3 h4; exact h.un a j k hj hk h3 h4, fun a j hj h3 k hk => ?_⟩
  · by_cases ej : j = id
    · subst ej; rw [e]; have := h.lvl j hj; exact ⟨this.1, this.2.1, by show (0 : Int) ≤ 1; omega, by show (1 : Int) ≤ 255; omega⟩
    · rw [e' j ej]; exact h.lvl j hj
  · by_cases ej : j = id
    · subst ej; rw [e] at h0; have : (1 : Int) = 0 := h0; omega
    · rw [e' j ej] at h0 ⊢; exact h.q0 j hj h0
  · by_cases ej : j = id
    · subst ej; rw [e]; exact hi
    · rw [e' j ej] at h0 ⊢; exact h.ow j hj h0
  · by_cases ej : j = id
    · subst ej
      rw [e]
      by_cases ea : a = i
      · subst ea; rw [e1]; simp [hr]
      · rw [e1' a ea, h.hd a j]
        constructor
        · rintro ⟨_, h1, _⟩; omega
        · rintro ⟨_, _, h1⟩; exact absurd h1.symm ea
    · rw [e' j ej, ← h.hd a j]
      by_cases ea : a = i
      · subst ea; rw [e1]; simp [ej]
      · rw [e1' a ea]
  · by_cases ea : a = i
    · subst ea
      rw [e1, List.nodup_append]
      exact ⟨h.hn a, List.nodup_cons.2 ⟨(fun h => by cases h), List.nodup_nil⟩, fun b hb c hc ebc => by rw [List.mem_singleton.1 hc] at ebc; exact hni (ebc ▸ hb)⟩
    · rw [e1' a ea]; exact h.hn a
  · rw [eq] at h3
    have ea : a ≠ i := fun ea => hw (by rw [h.st, ← ea]; exact ⟨j, hj, h3⟩)
    rw [e1' a ea] at hk
    exact h.lv a j hj h3 k hk
/-- A thread begins to wait. -/
theorem NDf.wait (h : NDf X H W) (hr : rg id) (hi : 0 ≤ i ∧ i < 5) (hc : 0 < (X id).ct) (ho : (X id).ow ≠ i) (hw : ¬ W i) (hl : ∀ k ∈ H i, k ≤ id) (e : X' id = { X id with q := (X id).q ++ [i] }) (e' : ∀ j, j ≠ id → X' j = X j) (e1 : ∀ j, H' j = H j) (e2 : ∀ j, W' j ↔ (j = i ∨ W j)) : NDf X' H' W' := by
  have hnq : ∀ j, rg j → i ∉ (X j).q := fun j hj hm => hw ((h.st i).2 ⟨j, hj, hm⟩)
  have ec : ∀ j, (X' j).ct = (X j).ct := fun j => by
    by_cases ej : j = id
    · rw [ej, e]
    · rw [e' j ej]
  have eo : ∀ j, (X' j).ow = (X j).ow := fun j => by
    by_cases ej : j = id
    · rw [ej, e]
    · rw [e' j ej]
  have em : ∀ a j, a ∈ (X' j).q ↔ (a ∈ (X j).q ∨ (a = i ∧ j = id)) := fun a j => by
    by_cases ej : j = id
    · subst ej; rw [e]; simp
    · rw [e' j ej]; simp [ej]
  refine ⟨fun j hj => ?_, fun j hj h0 => ?_, fun j hj => ?_, fun j hj h0 => by rw [eo]; rw [ec] at h0; exact h.ow j hj h0, fun a j => by rw [e1, h.hd a j, ec, eo], fun a => by rw [e1]; exact h.hn a, fun a => ?_, fun a j k hj hk h3 h4 => ?_, fun a j hj h3 k hk => ?_⟩
  · by_cases ej : j = id
    · subst ej; rw [e]; exact h.lvl j hj
    · rw [e' j ej]; exact h.lvl j hj
  · by_cases ej : j = id
    · subst ej; rw [ec] at h0; omega
    · rw [e' j ej] at h0 ⊢; exact h.q0 j hj h0
  · by_cases ej : j = id
    · subst ej
      rw [e]
      refine ⟨?_, fun a ha => ?_⟩
      · show ((X j).q ++ [i]).Nodup
        rw [List.nodup_append]
        exact ⟨(h.qn j hj).1, List.nodup_cons.2 ⟨(fun h => by cases h), List.nodup_nil⟩, fun b hb c hc ebc => by rw [List.mem_singleton.1 hc] at ebc; exact hnq j hj (ebc ▸ hb)⟩
      · rcases List.mem_append.1 ha with ha | ha
        · exact (h.qn j hj).2 a ha
        · rw [List.mem_singleton.1 ha]; exact hi
    · rw [e' j ej]; exact h.qn j hj
  · rw [e2, h.st]
    constructor
    · rintro (ha | ⟨j, hj, hm⟩)
      · exact ⟨id, hr, (em a id).2 (.inr ⟨ha, rfl⟩)⟩
      · exact ⟨j, hj, (em a j).2 (.inl hm)⟩
    · rintro ⟨j, hj, hm⟩
      rcases (em a j).1 hm with hm | ⟨hm, _⟩
      · exact .inr ⟨j, hj, hm⟩
      · exact .inl hm
  · rcases (em a j).1 h3 with h3 | ⟨rfl, rfl⟩
    · rcases (em a k).1 h4 with h4 | ⟨rfl, rfl⟩
      · exact h.un a j k hj hk h3 h4
      · exact absurd h3 (hnq j hj)
    · rcases (em a k).1 h4 with h4 | ⟨_, rfl⟩
      · exact absurd h4 (hnq k hk)
      · rfl
  · rw [e1] at hk
    rcases (em a j).1 h3 with h3 | ⟨rfl, rfl⟩
    · exact h.lv a j hj h3 k hk
    · have h5 := hl k hk
      have h6 : k ≠ j := fun ek => ho (by have := ((h.hd a k).1 hk).2.2; rw [ek] at this; exact this)
      omega
/-- The last release with nobody waiting. -/
theorem NDf.rel0 (h : NDf X H W) (hr : rg id) (ho : (X id).ow = i) (hq : (X id).q = []) (e : X' id = { X id with ow := 0, ct := 0 }) (e' : ∀ j, j ≠ id → X' j = X j) (e1 : H' i = (H i).erase id) (e1' : ∀ j, j ≠ i → H' j = H j) (e2 : ∀ j, W' j ↔ W j) : NDf X' H' W' := by
  have eq : ∀ j, (X' j).q = (X j).q := fun j => by
    by_cases ej : j = id
    · rw [ej, e]
    · rw [e' j ej]
  refine ⟨fun j hj => ?_, fun j hj h0 => ?_, fun j hj => by rw [eq]; exact h.qn j hj, fun j hj h0 => ?_, fun a j => ?_, fun a => ?_, fun a => by rw [e2, h.st]; simp only [eq], fun a j k hj hk h3 h4 => by rw [eq] at h3 h4; exact h.un a j k hj hk h3 h4, fun a j hj h3 k hk => ?_⟩
  · by_cases ej : j = id
    · subst ej; rw [e]; have := h.lvl j hj; exact ⟨this.1, this.2.1, by show (0 : Int) ≤ 0; omega, by show (0 : Int) ≤ 255; omega⟩
    · rw [e' j ej]; exact h.lvl j hj
  · by_cases ej : j = id
    · subst ej; rw [eq]; exact hq
    · rw [e' j ej] at h0 ⊢; exact h.q0 j hj h0
  · by_cases ej : j = id
    · subst ej; rw [e] at h0; have : (0 : Int) < 0 := h0; omega
    · rw [e' j ej] at h0 ⊢; exact h.ow j hj h0
  · by_cases ej : j = id
    · subst ej
      rw [e]
      constructor
      · intro hm
        exfalso
        by_cases ea : a = i
        · subst ea; rw [e1, (h.hn a).mem_erase_iff] at hm; exact hm.1 rfl
        · rw [e1' a ea, h.hd a j] at hm; exact ea (by rw [← hm.2.2, ho])
      · rintro ⟨_, h1, _⟩
        have : (0 : Int) < 0 := h1
        omega
    · rw [e' j ej, ← h.hd a j]
      by_cases ea : a = i
      · subst ea; rw [e1, (h.hn a).mem_erase_iff]; simp [ej]
      · rw [e1' a ea]
  · by_cases ea : a = i
    · subst ea; rw [e1]; exact (h.hn a).erase id
    · rw [e1' a ea]; exact h.hn a
  · rw [eq] at h3
    by_cases ea : a = i
    · subst ea; rw [e1] at hk; exact h.lv a j hj h3 k (List.mem_of_mem_erase hk)
    · rw [e1' a ea] at hk; exact h.lv a j hj h3 k hk
/-- The last release; the first that waits becomes the owner. -/
theorem NDf.relp {a0 : Int} {r : List Int} (h : NDf X H W) (hr : rg id) (hc : 0 < (X id).ct) (ho : (X id).ow = i) (hq : (X id).q = a0 :: r) (e : X' id = { X id with ow := a0, ct := 1, q := r }) (e' : ∀ j, j ≠ id → X' j = X j)
    (e1 : H' i = (H i).erase id) (e3 : H' a0 = H a0 ++ [id]) (e1' : ∀ j, j ≠ i → j ≠ a0 → H' j = H j) (e2 : ∀ j, W' j ↔ (j ≠ a0 ∧ W j)) : NDf X' H' W' := by
  have hid : id ∈ H i := (h.hd i id).2 ⟨hr, hc, ho⟩
  have hai : a0 ≠ i := fun ea => by
    have := h.lv a0 id hr (by rw [hq]; simp) id (by rw [ea]; exact hid)
    omega
  have hnd := (h.qn id hr).1
  rw [hq] at hnd
  have hnd2 := List.nodup_cons.1 hnd
  have hrgq := (h.qn id hr).2
  have ha0 := hrgq a0 (by rw [hq]; simp)
  have hni : id ∉ H a0 := fun hm => hai (by have := ((h.hd a0 id).1 hm).2.2; rw [← this, ho])
  have em : ∀ a j, rg j → (a ∈ (X' j).q ↔ (a ≠ a0 ∧ a ∈ (X j).q)) := fun a j hj => by
    by_cases ej : j = id
    · subst ej
      rw [e, hq]
      show a ∈ r ↔ _
      constructor
      · intro hm
        exact ⟨fun ea => hnd2.1 (ea ▸ hm), List.mem_cons_of_mem _ hm⟩
      · rintro ⟨h1, h2⟩
        rcases List.mem_cons.1 h2 with h2 | h2
        · exact absurd h2 h1
        · exact h2
    · rw [e' j ej]
      constructor
      · intro hm
        refine ⟨fun ea => ej ?_, hm⟩
        subst ea
        exact h.un a j id hj hr hm (by rw [hq]; simp)
      · exact fun hm => hm.2
  refine ⟨fun j hj => ?_, fun j hj h0 => ?_, fun j hj => ?_, fun j hj h0 => ?_, fun a j => ?_, fun a => ?_, fun a => ?_, fun a j k hj hk h3 h4 => h.un a j k hj hk ((em a j hj).1 h3).2 ((em a k hk).1 h4).2, fun a j hj h3 k hk => ?_⟩
  · by_cases ej : j = id
    · subst ej; rw [e]; have := h.lvl j hj; exact ⟨this.1, this.2.1, by show (0 : Int) ≤ 1; omega, by show (1 : Int) ≤ 255; omega⟩
    · rw [e' j ej]; exact h.lvl j hj
  · by_cases ej : j = id
    · subst ej; rw [e] at h0; have : (1 : Int) = 0 := h0; omega
    · rw [e' j ej] at h0 ⊢; exact h.q0 j hj h0
  · by_cases ej : j = id
    · subst ej; rw [e]; exact ⟨hnd2.2, fun b hb => hrgq b (by rw [hq]; exact List.mem_cons_of_mem _ hb)⟩
    · rw [e' j ej]; exact h.qn j hj
  · by_cases ej : j = id
    · subst ej; rw [e]; exact ha0
    · rw [e' j ej] at h0 ⊢; exact h.ow j hj h0
  · by_cases ej : j = id
    · subst ej
      rw [e]
      by_cases ea : a = a0
      · subst ea; rw [e3]; simp [hr]
      · constructor
        · intro hm
          exfalso
          by_cases eb : a = i
          · subst eb; rw [e1, (h.hn a).mem_erase_iff] at hm; exact hm.1 rfl
          · rw [e1' a eb ea, h.hd a j] at hm; exact eb (by rw [← hm.2.2, ho])
        · rintro ⟨_, _, h1⟩; exact absurd h1.symm ea
    · rw [e' j ej, ← h.hd a j]
      by_cases ea : a = a0
      · subst ea; rw [e3]; simp [ej]
      · by_cases eb : a = i
        · subst eb; rw [e1, (h.hn a).mem_erase_iff]; simp [ej]
        · rw [e1' a eb ea]
  · by_cases ea : a = a0
    · subst ea
      rw [e3, List.nodup_append]
      exact ⟨h.hn a, List.nodup_cons.2 ⟨(fun h => by cases h), List.nodup_nil⟩, fun b hb c hc ebc => by rw [List.mem_singleton.1 hc] at ebc; exact hni (ebc ▸ hb)⟩
    · by_cases eb : a = i
      · subst eb; rw [e1]; exact (h.hn a).erase id
      · rw [e1' a eb ea]; exact h.hn a
  · rw [e2, h.st]
    constructor
    · rintro ⟨h1, j, hj, h2⟩; exact ⟨j, hj, (em a j hj).2 ⟨h1, h2⟩⟩
    · rintro ⟨j, hj, h2⟩; exact ⟨((em a j hj).1 h2).1, j, hj, ((em a j hj).1 h2).2⟩
  · have h5 := (em a j hj).1 h3
    by_cases eb : a = i
    · subst eb; rw [e1] at hk; exact h.lv a j hj h5.2 k (List.mem_of_mem_erase hk)
    · rw [e1' a eb h5.1] at hk; exact h.lv a j hj h5.2 k hk
end
end Go.Proofs.Ytefgfmnnaglfmaa
