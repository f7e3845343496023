/- Store and flash beside a list of variables: cut, power, open. No condition. -/
import Derived.Test.YtfglopkglnpokaaLF
import Derived.Test.YtfglopkglnpokaaEQ
import Derived.Test.YtfglopkglnpokaaPN
namespace Go.Proofs.Ytfglopkglnpokaa
open Go.RowKit
section
variable {w w' : World} {N S X n : Nat} {Ex : Nat → Prop} {y : FLay} {D : Nat → Prop} {fl : FL} {st : ST}
theorem AX.drewA (h : AX w N Ex S X y D n fl st) : AX w.drew N Ex S X y D n fl st := h.below ((Below.refl _ w).drew)
/-- The flash alone changes. -/
theorem AX.flash {fl' : FL} (h : AX w N Ex S X y D n fl st) (hf : FW w' D X y fl') (c : Ch D w w') : AX w' N Ex S X y D n fl' st := by
  obtain ⟨DS, m, h1, h2, h3⟩ := h.s
  exact ⟨hf, h.dN, fun k hk => Nat.lt_of_lt_of_le (h.xs k hk) c.size, DS, m, h1.ch c fun k hk e => h2 k e hk, h2, h3⟩
theorem AX.cut (h : AX w N Ex S X y D n fl st) (k : Int) (t : Nat) (hk : -9223372036854775808 ≤ k ∧ k ≤ 9223372036854775807) (ht : t ≤ 18446744073709551615) : Calls Try.prog 22 #[fptr X, .int .i64 k, .int .u64 t] w fun e w' => e = .returned (.tuple #[]) ∧ AX w' N Ex S X y D n (cutF fl k t) st ∧ Ch (fun k => N ≤ k ∧ ¬ Ex k) w w' := by
  refine (cutAfter_any h.f k t hk ht).mono ?_
  rintro e w' ⟨he, hf, c⟩
  exact ⟨he, h.flash hf c, c.mono fun i hi _ => h.dN i hi⟩
theorem AX.on (h : AX w N Ex S X y D n fl st) : Calls Try.prog 25 #[fptr X] w fun e w' => e = .returned (.int .i64 (onF fl).1) ∧ AX w' N Ex S X y D n (onF fl).2 st ∧ Ch (fun k => N ≤ k ∧ ¬ Ex k) w w' := by
  refine (powerOn_any h.f).mono ?_
  rintro e w' ⟨he, hf, c⟩
  exact ⟨he, h.flash hf c, c.mono fun i hi _ => h.dN i hi⟩
theorem AX.open {st' : ST} (h : AX w N Ex S X y D n fl st) (hI : Inv fl st') : Calls Try.prog 23 #[fptr X] w fun e w' => ∃ S, e = .returned (.tuple #[fptr S, .int .i64 0]) ∧ AX w' N Ex S X y D 32 fl st' ∧ Below w.heap.size w w' := by
  refine (open_any h.f).mono ?_
  rintro e w' ⟨b, ⟨c, h1, _⟩ | ⟨st1, S, m, DS, h1, h2, h3, h4, _⟩⟩
  · rw [hI.opens] at h1; cases h1
  · rw [hI.opens] at h1
    injection h1 with _ h1
    injection h1 with h1
    subst h1
    have hN := h.at.N_le
    exact ⟨S, h2, ⟨h.f.below b, h.dN, fun k hk => Nat.lt_of_lt_of_le (h.xs k hk) b.size, DS, m, h4, fun k hk hD => by have := h3 k hD; have := h.f.fin k hk; omega, fun k hk => ⟨Nat.le_trans hN (h3 k hk), fun e => by have := h3 k hk; have := h.xs k e; omega⟩⟩, b⟩
theorem AX.list (h : AX w N Ex S X y D n fl st) (hn : n ≤ 1000) : Calls Try.prog 17 #[fptr S] w fun e w' => ∃ g, e = .returned (.slice (some ⟨g, 0, none⟩) st.V.length st.V.length) ∧ AX w' N Ex S X y D n fl st ∧ VS w' (some ⟨g, 0, none⟩) st.V.length st.V ∧ Below w.heap.size w w' := by
  refine (h.at.list hn).mono ?_
  rintro e w' ⟨g, he, hg, hv, b⟩
  exact ⟨g, he, h.below b, hv, b⟩
end
end Go.Proofs.Ytfglopkglnpokaa
