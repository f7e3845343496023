/- Plain law 10: capacity. No condition, no program. -/
import Derived.Test.YtfglopkglnpokaaPH
import Derived.Test.YtfglopkglnpokaaHL
namespace Go.Proofs.Ytfglopkglnpokaa
open Go.RowKit
theorem needV_recs (V : Vars) : needV V = sumP (recs V) := by
  induction V with
  | nil => rfl
  | cons p r ih =>
    have e1 : sumP (recs (p :: r)) = pgs (recd 1 p.1 p.2).length + sumP (recs r) := rfl
    have e2 : needV (p :: r) = pgs (5 + p.1.length + p.2.length) + needV r := by simp [needV]
    rw [e1, e2, ih, recd_len]
theorem delV_same {V : Vars} {k : Str} (h : ∀ p ∈ V, k < p.1) : delV V k = V := by
  unfold delV
  rw [List.filter_eq_self]
  intro p hp
  have := h p hp
  have hne : (p.1 == k) = false := by
    rw [beq_eq_false_iff_ne]
    intro e
    rw [e] at this
    exact List.lt_irrefl _ this
  rw [hne]; rfl
/-- What the law counts after a call of Set. -/
theorem need_after {V : Vars} (hV : Srt V) (n v : Str) : needV ((n, v) :: delV V n) = sumP (recs (setV V n v)) := by
  rw [needV_recs]
  induction V with
  | nil => rfl
  | cons p r ih =>
    have h' := List.pairwise_cons.1 hV
    have e : ∀ (q : Str × Str) (l : Vars), sumP (recs (q :: l)) = pgs (recd 1 q.1 q.2).length + sumP (recs l) := fun _ _ => rfl
    have ih' := ih h'.2
    unfold setV
    split
    · rename_i h1
      rw [delV_same (fun q hq => by
        rcases List.mem_cons.1 hq with e | e
        · rw [e]; exact h1
        · exact List.lt_trans h1 (h'.1 q e))]
    · split
      · rename_i h1 h2
        have hb : (p.1 == n) = true := by simpa using h2.symm
        have hd : delV (p :: r) n = delV r n := by unfold delV; rw [List.filter_cons, hb]; rfl
        rw [hd, delV_same (fun q hq => by rw [h2]; exact h'.1 q hq)]
      · rename_i h1 h2
        have hb : (p.1 == n) = false := by simpa using fun k => h2 k.symm
        have hd : delV (p :: r) n = p :: delV r n := by unfold delV; rw [List.filter_cons, hb]; rfl
        rw [hd, e, e, e, ← ih', e]
        omega
theorem DoR.cap {fl : FL} {st : ST} {kd nm ln : Int} {fill : UInt8} {r : Int × FL × ST} (h : Inv fl st) (hc : fl.cut = false) (hE : fl.E = 1000) (her : ∀ b, fl.er b < 1000) (k : DoR fl st kd nm ln fill r) :
    (isDel kd → r.1 = 0 ∨ r.1 = 6) ∧ (¬ isDel kd → (r.1 = 0 ∧ 1 + sumP (recs (setV st.V (nameOf nm) (valOf ln fill))) ≤ fl.P) ∨ (r.1 = 8 ∧ fl.P < 1 + sumP (recs (setV st.V (nameOf nm) (valOf ln fill))))) := by
  have hcap := h.cap
  have hnx := h.nx
  cases k with
  | same h1 h2 _ =>
    refine ⟨fun k => absurd k h1, fun _ => .inl ⟨rfl, ?_⟩⟩
    have : doV st.V kd nm ln fill = setV st.V (nameOf nm) (valOf ln fill) := if_neg h1
    rw [← this, h2]; omega
  | none h1 => exact ⟨fun _ => .inr rfl, fun k => absurd h1 k⟩
  | done _ hd =>
    obtain ⟨g, st', rfl, h1, h2, h3, _⟩ := hd
    refine ⟨fun _ => .inl rfl, fun k => .inl ⟨rfl, ?_⟩⟩
    have e : doV st.V kd nm ln fill = setV st.V (nameOf nm) (valOf ln fill) := if_neg k
    have a := h1.cap
    have b := h1.nx
    rw [h2, e] at a
    rw [h3.2.1] at b
    omega
  | full _ hf =>
    have hf' : fl.P < 1 + sumP (recs (doV st.V kd nm ln fill)) := by
      rcases hf with h1 | h1
      · exact h1
      · have hB := h.B2
        have hbb := h.blk
        by_cases e : st.blk = 0
        · exact absurd (.inr (by rw [hE]; exact her 1)) (h1 1 (by omega) (by omega))
        · exact absurd (.inr (by rw [hE]; exact her 0)) (h1 0 (by omega) (fun k => e k.symm))
    refine ⟨fun k => ?_, fun k => .inr ⟨rfl, ?_⟩⟩
    · have e : doV st.V kd nm ln fill = delV st.V (nameOf nm) := if_pos k
      have := sumP_delV st.V (nameOf nm)
      rw [e] at hf'
      omega
    · have e : doV st.V kd nm ln fill = setV st.V (nameOf nm) (valOf ln fill) := if_neg k
      rw [e] at hf'
      exact hf'
  | lost _ hl => obtain ⟨k, _⟩ := hl; rw [hc] at k; cases k
end Go.Proofs.Ytfglopkglnpokaa
