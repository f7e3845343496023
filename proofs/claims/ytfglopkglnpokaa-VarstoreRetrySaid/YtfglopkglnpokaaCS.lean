/- A slice of calls in memory. No condition. -/
import Derived.Test.YtfglopkglnpokaaLB
namespace Go.Proofs.Ytfglopkglnpokaa
open Go.RowKit
def cvc (c : CV) : List Value := [.int .i64 c.kd, .int .i64 c.nm, .int .i64 c.ln, .int .u8 (c.fi.toNat : Int)]
/-- The slice reads as these calls. -/
def CallS (w : World) (a : Option Addr) (len cap : Nat) (l : List CV) : Prop := l.length = len ∧ len ≤ cap ∧ cap ≤ maxLen ∧ (l ≠ [] → ∃ b o, a = some ⟨b, o, none⟩ ∧ b < w.heap.size ∧ ∀ i c, l[i]? = some c → w.rangeAt b (o + i * 4) (cvc c))
theorem CallS.below {w w' : World} {a : Option Addr} {len cap B0 : Nat} {l : List CV} (h : CallS w a len cap l) (hb : Below B0 w w') (hB : w.heap.size ≤ B0) : CallS w' a len cap l := by
  obtain ⟨h1, h2, h3, h5⟩ := h
  refine ⟨h1, h2, h3, fun hne => ?_⟩
  obtain ⟨b, o, rfl, hl, hr⟩ := h5 hne
  refine ⟨b, o, rfl, Nat.lt_of_lt_of_le hl hb.size, fun i e he j u hu => ?_⟩
  rw [hb.cell (p := ⟨b, o + i * 4 + j, none⟩) (by show b < B0; omega)]
  exact hr i e he j u hu
/-- What a walk reads of call i. -/
theorem CallS.at {w : World} {a : Option Addr} {len cap i : Nat} {l : List CV} (h : CallS w a len cap l) (hi : i < len) : ∃ (b o : Nat) (c : CV), a = some ⟨b, o, none⟩ ∧ b < w.heap.size ∧ l[i]? = some c ∧
    w.cell? ⟨b, o + i * 4, none⟩ = some (.int .i64 c.kd) ∧ w.cell? ⟨b, o + i * 4 + 1, none⟩ = some (.int .i64 c.nm) ∧ w.cell? ⟨b, o + i * 4 + 2, none⟩ = some (.int .i64 c.ln) ∧ w.cell? ⟨b, o + i * 4 + 3, none⟩ = some (.int .u8 (c.fi.toNat : Int)) := by
  obtain ⟨h1, h2, h3, h5⟩ := h
  obtain ⟨b, o, e, hl, hr⟩ := h5 (by intro e; rw [e] at h1; simp at h1; omega)
  have hc : l[i]? = some l[i] := List.getElem?_eq_getElem (by omega)
  have := hr i _ hc
  exact ⟨b, o, l[i], e, hl, hc, this 0 _ rfl, this 1 _ rfl, this 2 _ rfl, this 3 _ rfl⟩
end Go.Proofs.Ytfglopkglnpokaa
