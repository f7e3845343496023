/- Plain law 11: a store acts like a map. No condition, no program. -/
import Derived.Test.YtfglopkglnpokaaPH
namespace Go.Proofs.Ytfglopkglnpokaa
open Go.RowKit
def nmJ (j : Nat) : Str := names.getD j []
theorem nameOf_mo (k : Int) : nameOf k = nmJ (mo k 6) := rfl
theorem nmJ_inj : ∀ i j : Fin 6, nmJ i.val = nmJ j.val → i = j := by decide +kernel
theorem nmJ_inj' {i j : Nat} (hi : i < 6) (hj : j < 6) (h : nmJ i = nmJ j) : i = j := by
  have := nmJ_inj ⟨i, hi⟩ ⟨j, hj⟩ h
  exact Fin.mk.inj_iff.1 this
theorem mo_small (j : Nat) (h : j < 6) : mo (j : Int) 6 = j := by
  unfold mo two64
  omega
theorem nameOf_nat (j : Nat) (h : j < 6) : nameOf (j : Int) = nmJ j := by rw [nameOf_mo, mo_small j h]
/-- What the law's two arrays say of the variables. -/
def MapIs (V : Vars) (has : Nat → Bool) (val : Nat → Str) : Prop :=
  (∀ j, j < 6 → getV V (nmJ j) = if has j = true then some (val j) else none) ∧ ∀ p ∈ V, ∃ j, j < 6 ∧ p.1 = nmJ j
theorem MapIs.empty : MapIs [] (fun _ => false) (fun _ => []) := ⟨fun _ _ => rfl, fun p hp => by cases hp⟩
theorem MapIs.put {V : Vars} {has : Nat → Bool} {val : Nat → Str} (h : MapIs V has val) {k : Nat} (hk : k < 6) (v : Str) : MapIs (setV V (nmJ k) v) (upd has k true) (upd val k v) := by
  refine ⟨fun j hj => ?_, fun p hp => ?_⟩
  · rw [getV_set]
    by_cases e : j = k
    · subst e; rw [if_pos rfl, upd_hit, upd_hit, if_pos rfl]
    · rw [if_neg (fun k' => e (nmJ_inj' hj hk k')), upd_miss _ _ e, upd_miss _ _ e]
      exact h.1 j hj
  · rcases mem_setV hp with e | e
    · exact ⟨k, hk, by rw [e]⟩
    · exact h.2 p e
theorem MapIs.del {V : Vars} {has : Nat → Bool} {val : Nat → Str} (h : MapIs V has val) {k : Nat} (hk : k < 6) (v : Str) : MapIs (delV V (nmJ k)) (upd has k false) (upd val k v) := by
  refine ⟨fun j hj => ?_, fun p hp => h.2 p (mem_delV hp)⟩
  rw [getV_del]
  by_cases e : j = k
  · subst e; rw [if_pos rfl, upd_hit, if_neg (by simp)]
  · rw [if_neg (fun k' => e (nmJ_inj' hj hk k')), upd_miss _ _ e, upd_miss _ _ e]
    exact h.1 j hj
def cnt (has : Nat → Bool) (n : Nat) : Nat := ((List.range n).filter has).length
theorem cnt_succ (has : Nat → Bool) (n : Nat) : cnt has (n + 1) = cnt has n + if has n = true then 1 else 0 := by
  unfold cnt
  rw [List.range_succ, List.filter_append, List.length_append]
  congr 1
  by_cases h : has n = true
  · simp [h]
  · simp [h]
theorem MapIs.len {V : Vars} {has : Nat → Bool} {val : Nat → Str} (h : MapIs V has val) (hV : Srt V) : V.length = cnt has 6 := by
  have h1 : (((List.range 6).filter has).map nmJ).Nodup := by
    have hnd : ((List.range 6).filter has).Nodup := List.nodup_range.filter _
    refine List.pairwise_map.2 ?_
    refine List.Pairwise.imp_of_mem (fun {a b} ha hb hab e => hab ?_) hnd
    exact nmJ_inj' (List.mem_range.1 (List.mem_filter.1 ha).1) (List.mem_range.1 (List.mem_filter.1 hb).1) e
  have h2 : (V.map (·.1)).Perm (((List.range 6).filter has).map nmJ) := by
    refine (List.perm_ext_iff_of_nodup hV.nodup h1).2 fun a => ?_
    constructor
    · intro ha
      have hs := getV_isSome.2 ha
      obtain ⟨p, hp, rfl⟩ := List.mem_map.1 ha
      obtain ⟨j, hj, e⟩ := h.2 p hp
      rw [e, h.1 j hj] at hs
      refine List.mem_map.2 ⟨j, List.mem_filter.2 ⟨List.mem_range.2 hj, ?_⟩, e.symm⟩
      cases hh : has j
      · rw [hh] at hs; simp at hs
      · rfl
    · intro ha
      obtain ⟨j, hj, rfl⟩ := List.mem_map.1 ha
      obtain ⟨hj1, hj2⟩ := List.mem_filter.1 hj
      refine getV_isSome.1 ?_
      rw [h.1 j (List.mem_range.1 hj1), if_pos hj2]
      rfl
  have := h2.length_eq
  rw [List.length_map, List.length_map] at this
  exact this
/-- A call, as the law sees it. -/
theorem DoR.acts {fl : FL} {st : ST} {kd nm ln : Int} {fill : UInt8} {r : Int × FL × ST} {has : Nat → Bool} {val : Nat → Str} (hc : fl.cut = false) (hM : MapIs st.V has val) (k : DoR fl st kd nm ln fill r) :
    (r.1 = 0 ∧ (isDel kd → has (mo nm 6) = true) ∧ MapIs r.2.2.V (upd has (mo nm 6) (!decide (isDel kd))) (upd val (mo nm 6) (valOf ln fill))) ∨
    (r.1 = 8 ∧ (isDel kd → has (mo nm 6) = true) ∧ MapIs r.2.2.V has val) ∨ (r.1 = 6 ∧ isDel kd ∧ has (mo nm 6) = false ∧ MapIs r.2.2.V has val) := by
  have h6 := mo_lt nm 6 (by omega)
  have hg := hM.1 (mo nm 6) h6
  rw [← nameOf_mo] at hg
  have hhas : getV st.V (nameOf nm) ≠ Option.none → has (mo nm 6) = true := fun hn => by
    cases hh : has (mo nm 6)
    · rw [hh] at hg; exact absurd hg hn
    · rfl
  cases k with
  | same h1 h2 h3 =>
    left
    refine ⟨rfl, fun x => absurd x h1, ?_⟩
    have := hM.put h6 (valOf ln fill)
    rw [← nameOf_mo] at this
    have e : doV st.V kd nm ln fill = setV st.V (nameOf nm) (valOf ln fill) := if_neg h1
    rw [← e, h2] at this
    rw [decide_eq_false h1]
    exact this
  | none h1 h2 =>
    right; right
    refine ⟨rfl, h1, ?_, hM⟩
    cases hh : has (mo nm 6)
    · rfl
    · rw [hh, h2] at hg; simp at hg
  | done h1 hd =>
    left
    obtain ⟨g, st', rfl, _, h2, _⟩ := hd
    refine ⟨rfl, fun x => hhas (h1 x), ?_⟩
    show MapIs st'.V _ _
    rw [h2]
    by_cases hdel : isDel kd
    · rw [show doV st.V kd nm ln fill = delV st.V (nameOf nm) from if_pos hdel, decide_eq_true hdel]
      exact hM.del h6 _
    · rw [show doV st.V kd nm ln fill = setV st.V (nameOf nm) (valOf ln fill) from if_neg hdel, decide_eq_false hdel]
      exact hM.put h6 _
  | full h1 _ => exact .inr (.inl ⟨rfl, fun x => hhas (h1 x), hM⟩)
  | lost _ hl => obtain ⟨k, _⟩ := hl; rw [hc] at k; cases k
end Go.Proofs.Ytfglopkglnpokaa
