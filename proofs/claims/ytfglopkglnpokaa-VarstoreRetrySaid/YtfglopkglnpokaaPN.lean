/- Plain law 12: a call that may lose power. No condition, no program. -/
import Derived.Test.YtfglopkglnpokaaPM
namespace Go.Proofs.Ytfglopkglnpokaa
open Go.RowKit
theorem Inv.cutF {fl : FL} {st : ST} (h : Inv fl st) (n : Int) (t : Nat) : Inv (Go.Proofs.Ytfglopkglnpokaa.cutF fl n t) st :=
  ⟨h.B2, h.P2, h.l64, h.off, h.blk, h.g64, h.hd, h.run, h.nx, h.stp, h.cls, h.cap, h.oth, h.srt, h.ok, h.er⟩
/-- All variables bear one of the six names. -/
def KeysIn (V : Vars) : Prop := ∀ p ∈ V, ∃ j, j < 6 ∧ p.1 = nmJ j
theorem KeysIn.doV {V : Vars} (h : KeysIn V) (kd nm ln : Int) (fill : UInt8) : KeysIn (Go.Proofs.Ytfglopkglnpokaa.doV V kd nm ln fill) := by
  unfold Go.Proofs.Ytfglopkglnpokaa.doV
  split
  · exact fun p hp => h p (mem_delV hp)
  · intro p hp
    rcases mem_setV hp with e | e
    · exact ⟨mo nm 6, mo_lt nm 6 (by omega), by rw [e, nameOf_mo]⟩
    · exact h p e
def hasN (V : Vars) (j : Nat) : Bool := (getV V (nmJ j)).isSome
theorem KeysIn.len {V : Vars} (h : KeysIn V) (hV : Srt V) : V.length = cnt (hasN V) 6 := by
  refine MapIs.len (val := fun j => (getV V (nmJ j)).getD []) ⟨fun j _ => ?_, h⟩ hV
  unfold hasN
  cases hg : getV V (nmJ j) <;> simp [hg]
theorem doV_other {V : Vars} {kd nm ln : Int} {fill : UInt8} {j : Nat} (hj : j < 6) (hne : j ≠ mo nm 6) : getV (doV V kd nm ln fill) (nmJ j) = getV V (nmJ j) := by
  have h6 := mo_lt nm 6 (by omega)
  unfold doV
  split
  · rw [getV_del, nameOf_mo, if_neg (fun e => hne (nmJ_inj' hj h6 e))]
  · rw [getV_set, nameOf_mo, if_neg (fun e => hne (nmJ_inj' hj h6 e))]
theorem doV_this {V : Vars} {kd nm ln : Int} {fill : UInt8} : getV (doV V kd nm ln fill) (nmJ (mo nm 6)) = if isDel kd then none else some (valOf ln fill) := by
  unfold doV
  rw [← nameOf_mo]
  split
  · rw [getV_del, if_pos rfl]
  · rw [getV_set, if_pos rfl]
theorem DoR.keys {fl : FL} {st : ST} {kd nm ln : Int} {fill : UInt8} {r : Int × FL × ST} (k : DoR fl st kd nm ln fill r) (hc : fl.cut = false) (hK : KeysIn st.V) : KeysIn r.2.2.V := by
  cases k with
  | same h1 h2 h3 => exact hK
  | none h1 h2 => exact hK
  | done h1 hd =>
    obtain ⟨g, st', rfl, h2, h3, _⟩ := hd
    show KeysIn st'.V
    rw [h3]
    exact hK.doV kd nm ln fill
  | full h1 h2 => exact hK
  | lost h1 hl =>
    obtain ⟨h, _⟩ := hl
    rw [hc] at h; cases h
/-- A call under a planned loss of power. -/
theorem DoR.power {fl : FL} {st : ST} {kd nm ln : Int} {fill : UInt8} {r : Int × FL × ST} (h : Inv fl st) (k : DoR fl st kd nm ln fill r) :
    (∃ e g st', r = (e, g, st') ∧ (e = 0 ∨ ((e = 6 ∨ e = 8) ∧ st' = st ∧ g = fl)) ∧ Inv g st' ∧ (e = 0 → st'.V = doV st.V kd nm ln fill)) ∨
    (fl.cut = true ∧ ∃ g st', r = (16, g, st) ∧ g.off = true ∧ Inv g.on st' ∧ (st'.V = st.V ∨ st'.V = doV st.V kd nm ln fill) ∧ g.cut = false ∧ Same fl g ∧ st'.gen ≤ st.gen + 1 ∧ ∀ c, g.er c ≤ fl.er c + 1) := by
  cases k with
  | same h1 h2 h3 => exact .inl ⟨0, fl, st, rfl, .inl rfl, h, fun _ => h2.symm⟩
  | none h1 h2 => exact .inl ⟨6, fl, st, rfl, .inr ⟨.inl rfl, rfl, rfl⟩, h, fun e => by cases e⟩
  | done h1 hd =>
    obtain ⟨g, st', rfl, h2, h3, _⟩ := hd
    exact .inl ⟨0, g, st', rfl, .inl rfl, h2, fun _ => h3⟩
  | full h1 h2 => exact .inl ⟨8, fl, st, rfl, .inr ⟨.inr rfl, rfl, rfl⟩, h, fun e => by cases e⟩
  | lost h1 hl =>
    obtain ⟨hc, g, st', rfl, h2, h3, h4, h5, h6, h7, h8⟩ := hl
    exact .inr ⟨hc, g, st', rfl, h2, h5, h6, h3, h4, h7, h8⟩
end Go.Proofs.Ytfglopkglnpokaa
