/- How the arguments are read: a slice of states that came in. No condition. -/
import Derived.Test.YtgllakmcccjcbaaE
import Derived.ProofKit
import Derived.OpenShut
import Derived.ShutString
import Derived.ChangeOld
import Derived.Below
import Derived.Deep.Slices
import Derived.Deep.Fields
namespace Go.Proofs.Ytgllakmcccjcbaa
open Go.ChangeShapes Go.WideShapes Go.ChangeAt Go.RowKit Go.Deep

theorem own : ownKnob Try.prog.godebug = none := by kernel_rfl
theorem laidOut : laidOutB Try.prog = true := by kernel_rfl
theorem Try.cells25 : Try.prog.cellsOf 25 = 3 := by kernel_rfl

section
variable {H : Type} {enc : TypeId × Value → H} {w : World} {base : Nat} {spare : Nat → Bool} {held : Bool}

theorem open_st {fuel : Nat} {cs : List Value} {x : DataW H × List MemPlace} (h : DataW.trod enc Try.prog w base spare held fuel 25 cs = some x) :
    ∃ s : S, s.wf ∧ cs = [.int .u64 s.l, .int .u64 s.r, .int .u64 s.p] := by
  obtain ⟨ys, n, hn, hy, hlen, hyl, hf⟩ := DataW.trod_struct Try.underlying25 h
  rw [Try.cells25] at hlen
  match cs, hlen with
  | [c0, c1, c2], _ =>
    match ys, hyl with
    | [y0, y1, y2], _ =>
      obtain ⟨a, ea, _, wa⟩ := DataW.trod_int (k := .u64) Try.underlying23 (hf 0 _ rfl)
      obtain ⟨b, eb, _, wb⟩ := DataW.trod_int (k := .u64) Try.underlying23 (hf 1 _ rfl)
      obtain ⟨c, ec, _, wc⟩ := DataW.trod_int (k := .u64) Try.underlying23 (hf 2 _ rfl)
      have k1 : Try.prog.cellsOf 23 = 1 := by kernel_rfl
      simp [k1] at ea eb ec
      subst ea eb ec
      have ba := bounds_u64 wa
      have bb := bounds_u64 wb
      have bc := bounds_u64 wc
      exact ⟨⟨a, b, c⟩, ⟨ba.1, ba.2, bb.1, bb.2, bc.1, bc.2⟩, rfl⟩

theorem open_sts {fuel : Nat} {cs : List Value} {x : DataW H × List MemPlace} (h : DataW.trod enc Try.prog w base spare held fuel 22 cs = some x) :
    ∃ (A : Option Addr) (len cap : Nat) (f : Nat → S), cs = [.slice A len cap] ∧ len ≤ 9223372036854775807 ∧ Sl w w.heap.size A len f := by
  rcases open_slice Try.underlying22 h with ⟨rfl, _⟩ | ⟨a, len, cap, m, n, D, Pl, hcs, hb, hl, hm, hmm, hx, hi⟩
  · exact ⟨none, 0, 0, fun _ => ⟨0, 0, 0⟩, rfl, by omega, nil_sl _ _⟩
  · rw [Try.cells25] at hi
    have hlm : len ≤ m := by rw [hmm]; split <;> omega
    unfold maxLen at hm
    have hex : ∀ i, ∃ s : S, i < len → s.wf ∧ w.cell? (a.add (i * 3)) = some (.int .u64 s.l) ∧ w.cell? (a.add (i * 3 + 1)) = some (.int .u64 s.r) ∧ w.cell? (a.add (i * 3 + 2)) = some (.int .u64 s.p) := by
      intro i
      by_cases hlt : i < len
      · obtain ⟨cs', hc, ht⟩ := hi i (by omega)
        obtain ⟨s, hwf, rfl⟩ := open_st ht
        obtain ⟨_, _, hat⟩ := World.cells?_some hc
        refine ⟨s, fun _ => ⟨hwf, ?_, ?_, ?_⟩⟩
        · have := hat 0 (by omega); rw [add_add] at this; exact this
        · have := hat 1 (by omega); rw [add_add] at this; exact this
        · have := hat 2 (by omega); rw [add_add] at this; exact this
      · exact ⟨⟨0, 0, 0⟩, fun h => absurd h hlt⟩
    refine ⟨some a, len, cap, fun i => Classical.choose (hex i), hcs, by omega, fun i hi => (Classical.choose_spec (hex i) hi).1, fun h0 => ?_⟩
    obtain ⟨b, off, spot⟩ := a
    have h00 := (Classical.choose_spec (hex 0) h0).2.1
    have hspot : spot = none := by simpa [Addr.add] using World.cell?_spot h00
    subst hspot
    refine ⟨b, off, rfl, by simpa [Addr.add] using World.block_lt_of_cell? w _ h00, fun i hi => ?_⟩
    obtain ⟨_, q0, q1, q2⟩ := Classical.choose_spec (hex i) hi
    refine ⟨?_, ?_, ?_⟩
    · rw [← q0]; congr 1; unfold Addr.add; split
      · simp
      · rfl
    · rw [← q1]; congr 1
    · rw [← q2]; congr 1
end
end Go.Proofs.Ytgllakmcccjcbaa
