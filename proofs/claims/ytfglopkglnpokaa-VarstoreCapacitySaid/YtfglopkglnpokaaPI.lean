/- Plain law 9: wear is level. No condition, no program. -/
import Derived.Test.YtfglopkglnpokaaPH
namespace Go.Proofs.Ytfglopkglnpokaa
open Go.RowKit
theorem Inv.blk_used {fl : FL} {st : ST} (h : Inv fl st) : blankP (pgsF fl st.blk) = false := by
  cases hb : blankP (pgsF fl st.blk)
  · rfl
  · have hP := h.P2
    have := blank_pages (fun q hq => h.l64 _ q h.blk hq) hb 0 (by omega)
    rw [h.hd] at this
    exact absurd this (hdr_blank _)
/-- Erases differ by little. -/
def Level (fl : FL) (blk : Nat) : Prop :=
  (∀ b, b < fl.B → b ≠ blk → blankP (pgsF fl b) = true → fl.er b = 0) ∧
  ∃ m, (∀ b, b < fl.B → m ≤ fl.er b ∧ fl.er b ≤ m + 1) ∨
    (∃ b0, b0 < fl.B ∧ b0 ≠ blk ∧ fl.er b0 = m ∧ fl.er blk = m + 2 ∧ (∀ b, b < fl.B → b ≠ b0 → b ≠ blk → fl.er b = m + 1) ∧ blankP (pgsF fl b0) = false)
theorem Level.bound {fl : FL} {blk : Nat} (h : Level fl blk) : ∃ m, ∀ b, b < fl.B → m ≤ fl.er b ∧ fl.er b ≤ m + 2 := by
  obtain ⟨_, m, h | ⟨b0, h1, h2, h3, h4, h5, _⟩⟩ := h
  · exact ⟨m, fun b hb => by have := h b hb; omega⟩
  · refine ⟨m, fun b hb => ?_⟩
    by_cases e : b = b0
    · subst e; omega
    · by_cases e2 : b = blk
      · subst e2; omega
      · have := h5 b hb e e2; omega
theorem Level.move {fl g : FL} {blk t : Nat} {bl : Bool} (h : Level fl blk) (hblk : blk < fl.B) (hu : blankP (pgsF fl blk) = false) (hB : g.B = fl.B) (hP : g.P = fl.P) (htB : t < fl.B) (hne : t ≠ blk) (hbl : bl = blankP (pgsF fl t)) (hel : elig fl t) (hmin : ∀ d, d < fl.B → d ≠ blk → elig fl d → fl.er t ≤ fl.er d)
    (hx : ∀ c q, c ≠ t → g.pg c q = fl.pg c q) (her : g.er = if bl = true then fl.er else bump fl.er t) : Level g t := by
  have hpg : ∀ c, c ≠ t → pgsF g c = pgsF fl c := fun c hc => pgsF_ext hP fun q _ => hx c q hc
  have hoth : ∀ c, c ≠ t → g.er c = fl.er c := fun c hc => by
    rw [her]
    cases bl
    · show bump fl.er t c = _; unfold bump; rw [if_neg hc]
    · rfl
  have ht : g.er t = if bl = true then fl.er t else fl.er t + 1 := by
    rw [her]
    cases bl
    · show bump fl.er t t = _; unfold bump; rw [if_pos rfl]; rfl
    · rfl
  obtain ⟨hz, m, hA | ⟨b0, k1, k2, k3, k4, k5, k6⟩⟩ := h
  · refine ⟨fun b hb hbt hbb => ?_, ?_⟩
    · rw [hB] at hb
      rw [hpg b hbt] at hbb
      rw [hoth b hbt]
      by_cases e : b = blk
      · rw [e, hu] at hbb; cases hbb
      · exact hz b hb e hbb
    · have h1 := hA t htB
      by_cases e : fl.er t = m
      · refine ⟨m, .inl fun b hb => ?_⟩
        rw [hB] at hb
        by_cases e2 : b = t
        · subst e2; rw [ht]; split <;> omega
        · rw [hoth b e2]; exact hA b hb
      · have htm : fl.er t = m + 1 := by omega
        have hnb : bl = false := by
          cases hc : bl
          · rfl
          · rw [hc] at hbl
            have := hz t htB hne hbl.symm
            omega
        subst hnb
        have hlt : fl.er t < fl.E := hel.elim (fun k => by rw [← hbl] at k; cases k) id
        have hall : ∀ b, b < fl.B → b ≠ blk → fl.er b = m + 1 := fun b hb hbb => by
          have := hA b hb
          have := hmin b hb hbb (.inr (by omega))
          omega
        have ht2 : g.er t = m + 2 := by rw [ht]; show fl.er t + 1 = _; omega
        have hb1 := hA blk hblk
        by_cases e2 : fl.er blk = m
        · refine ⟨m, .inr ⟨blk, by omega, fun k => hne k.symm, by rw [hoth blk (fun k => hne k.symm), e2], ht2, fun b hb hb0 hbt => ?_, ?_⟩⟩
          · rw [hoth b hbt]; exact hall b (by omega) hb0
          · rw [hpg blk (fun k => hne k.symm)]; exact hu
        · refine ⟨m + 1, .inl fun b hb => ?_⟩
          rw [hB] at hb
          by_cases e3 : b = t
          · subst e3; omega
          · rw [hoth b e3]
            by_cases e4 : b = blk
            · subst e4; omega
            · have := hall b hb e4; omega
  · have htb0 : t = b0 := by
      refine Classical.byContradiction fun hc => ?_
      have h1 := k5 t htB hc hne
      have hnb : bl = false := by
        cases hcc : bl
        · rfl
        · rw [hcc] at hbl
          have := hz t htB hne hbl.symm
          omega
      subst hnb
      have hlt : fl.er t < fl.E := hel.elim (fun k => by rw [← hbl] at k; cases k) id
      have := hmin b0 k1 k2 (.inr (by omega))
      omega
    subst htb0
    have hnb : bl = false := by rw [hbl]; exact k6
    subst hnb
    have ht2 : g.er t = m + 1 := by rw [ht]; show fl.er t + 1 = _; omega
    refine ⟨fun b hb hbt hbb => ?_, m + 1, .inl fun b hb => ?_⟩
    · rw [hB] at hb
      rw [hpg b hbt] at hbb
      rw [hoth b hbt]
      by_cases e : b = blk
      · rw [e, hu] at hbb; cases hbb
      · exact hz b hb e hbb
    · rw [hB] at hb
      by_cases e3 : b = t
      · subst e3; omega
      · rw [hoth b e3]
        by_cases e4 : b = blk
        · subst e4; omega
        · have := k5 b hb e3 e4; omega
theorem DoR.level {fl : FL} {st : ST} {kd nm ln : Int} {fill : UInt8} {r : Int × FL × ST} (h : Inv fl st) (hc : fl.cut = false) (hL : Level fl st.blk) (k : DoR fl st kd nm ln fill r) : Level r.2.1 r.2.2.blk ∧ (r.2.2.gen = st.gen ∨ r.2.2.gen = st.gen + 1) := by
  cases k with
  | same => exact ⟨hL, .inl rfl⟩
  | none => exact ⟨hL, .inl rfl⟩
  | full => exact ⟨hL, .inl rfl⟩
  | done _ hd =>
    obtain ⟨g, st', rfl, h1, _, h3, h4, h5, h6⟩ := hd
    show Level g st'.blk ∧ _
    rcases h6 with ⟨e1, e2, e3⟩ | ⟨bl, e1, e2, e3⟩
    · refine ⟨?_, .inl e2⟩
      rw [e1] at h5 ⊢
      have hpg : ∀ c, c ≠ st.blk → pgsF g c = pgsF fl c := fun c hc => pgsF_ext h3.2.1 fun q _ => h5 c q hc
      obtain ⟨hz, m, hA | ⟨b0, k1, k2, k3, k4, k5, k6⟩⟩ := hL
      · exact ⟨fun b hb hne hbb => by rw [hpg b hne] at hbb; rw [e3]; rw [h3.1] at hb; exact hz b hb hne hbb, m, .inl fun b hb => by rw [h3.1] at hb; rw [e3]; exact hA b hb⟩
      · exact ⟨fun b hb hne hbb => by rw [hpg b hne] at hbb; rw [e3]; rw [h3.1] at hb; exact hz b hb hne hbb, m, .inr ⟨b0, by rw [h3.1]; exact k1, k2, by rw [e3]; exact k3, by rw [e3]; exact k4, fun b hb => by rw [h3.1] at hb; rw [e3]; exact k5 b hb, by rw [hpg b0 k2]; exact k6⟩⟩
    · refine ⟨?_, .inr e2⟩
      have hsp := tgtK_spec fl st.blk fl.B
      have ht' : tgtK fl st.blk fl.B = (st'.blk, bl, true) := e1
      rw [ht'] at hsp
      obtain ⟨p1, p2, p3, p4, p5⟩ := hsp.1 rfl
      exact hL.move h.blk h.blk_used h3.1 h3.2.1 p1 p2 p3 p4 p5 h5 e3
  | lost _ hl => obtain ⟨k, _⟩ := hl; rw [hc] at k; cases k
end Go.Proofs.Ytfglopkglnpokaa
