/- Store and flash beside blocks of the law's own. No condition. -/
import Derived.Test.YtfglopkglnpokaaCS
import Derived.Test.YtfglopkglnpokaaPM
namespace Go.Proofs.Ytfglopkglnpokaa
open Go.RowKit
/-- Store and flash lie apart in memory, from N on, and blocks Ex are none of theirs. -/
structure AX (w : World) (N : Nat) (Ex : Nat → Prop) (S X : Nat) (y : FLay) (D : Nat → Prop) (n : Nat) (fl : FL) (st : ST) : Prop where
  f : FW w D X y fl
  dN : ∀ k, D k → N ≤ k ∧ ¬ Ex k
  xs : ∀ k, Ex k → k < w.heap.size
  s : ∃ DS m, SW w DS S X m n st ∧ (∀ k, D k → ¬ DS k) ∧ ∀ k, DS k → N ≤ k ∧ ¬ Ex k
section
variable {w w' : World} {N S X n : Nat} {Ex : Nat → Prop} {y : FLay} {D : Nat → Prop} {fl : FL} {st : ST}
theorem AX.at (h : AX w N Ex S X y D n fl st) : AT w N S X y D n fl st := by
  obtain ⟨DS, m, h1, h2, h3⟩ := h.s
  exact ⟨h.f, fun k hk => (h.dN k hk).1, DS, m, h1, h2, fun k hk => (h3 k hk).1⟩
/-- New blocks of the law's own. -/
theorem AT.ax (h : AT w N S X y D n fl st) (b : Below w.heap.size w w') (hx : ∀ k, Ex k → w.heap.size ≤ k ∧ k < w'.heap.size) : AX w' N Ex S X y D n fl st := by
  obtain ⟨DS, m, h1, h2, h3⟩ := h.s
  exact ⟨h.f.below b, fun k hk => ⟨h.dN k hk, fun e => by have := h.f.fin k hk; have := hx k e; omega⟩, fun k hk => (hx k hk).2, DS, m, h1.below b, h2, fun k hk => ⟨h3 k hk, fun e => by have := h1.fin k hk; have := hx k e; omega⟩⟩
theorem AX.below (h : AX w N Ex S X y D n fl st) (b : Below w.heap.size w w') : AX w' N Ex S X y D n fl st := by
  obtain ⟨DS, m, h1, h2, h3⟩ := h.s
  exact ⟨h.f.below b, h.dN, fun k hk => Nat.lt_of_lt_of_le (h.xs k hk) b.size, DS, m, h1.below b, h2, h3⟩
/-- The law's own blocks change. -/
theorem AX.own (h : AX w N Ex S X y D n fl st) (c : Ch Ex w w') : AX w' N Ex S X y D n fl st := by
  obtain ⟨DS, m, h1, h2, h3⟩ := h.s
  exact ⟨h.f.ch c fun k hk => (h.dN k hk).2, h.dN, fun k hk => Nat.lt_of_lt_of_le (h.xs k hk) c.size, DS, m, h1.ch c fun k hk => (h3 k hk).2, h2, h3⟩
theorem AX.do (h : AX w N Ex S X y D n fl st) (hb : st.blk < fl.B) (hn : n < 1000) (c : CV) :
    Calls Try.prog 13 #[fptr S, cva c] w fun e w' => e = .returned (.int .i64 (doC fl st c).1) ∧ AX w' N Ex S X y D (n + 1) (doC fl st c).2.1 (doC fl st c).2.2 ∧ Ch (fun k => N ≤ k ∧ ¬ Ex k) w w' := by
  obtain ⟨DS, m, h1, h2, h3⟩ := h.s
  refine (do_any h1 h.f h2 hb hn c.kd c.nm c.ln c.fi).mono ?_
  rintro e w' ⟨he, k1, k2, D', m', k3, k4⟩
  refine ⟨he, ⟨k1, h.dN, fun k hk => Nat.lt_of_lt_of_le (h.xs k hk) k2.size, D', m', k4, fun i hi hD => ?_, fun i hi => ?_⟩, k2.mono fun i hi _ => hi.elim (h.dN i) (h3 i)⟩
  · rcases k3 i hD with e | e
    · exact h2 i hi e
    · have := h.f.fin i hi; omega
  · rcases k3 i hi with e | e
    · exact h3 i e
    · exact ⟨Nat.le_trans h.at.N_le e, fun x => by have := h.xs i x; omega⟩
end
end Go.Proofs.Ytfglopkglnpokaa
