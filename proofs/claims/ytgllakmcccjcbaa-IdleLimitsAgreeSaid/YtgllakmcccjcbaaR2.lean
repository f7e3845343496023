/- How the arguments are read: a slice of numbers, a slice of requests. No condition. -/
import Derived.Test.YtgllakmcccjcbaaR
import Derived.Test.YtgllakmcccjcbaaL10
namespace Go.Proofs.Ytgllakmcccjcbaa
open Go.ChangeShapes Go.WideShapes Go.ChangeAt Go.RowKit Go.Deep

section
variable {H : Type} {enc : TypeId × Value → H} {w : World} {base : Nat} {spare : Nat → Bool} {held : Bool}

theorem open_us {fuel : Nat} {cs : List Value} {x : DataW H × List MemPlace} (h : DataW.trod enc Try.prog w base spare held fuel 39 cs = some x) :
    ∃ (A : Option Addr) (len cap : Nat) (f : Nat → Int), cs = [.slice A len cap] ∧ len ≤ 9223372036854775807 ∧ Us w w.heap.size A len f := by
  rcases open_slice Try.underlying39 h with ⟨rfl, _⟩ | ⟨a, len, cap, m, n, D, Pl, hcs, hb, hl, hm, hmm, hx, hi⟩
  · exact ⟨none, 0, 0, fun _ => 0, rfl, by omega, fun i hi => by omega, fun h => by omega⟩
  · have k1 : Try.prog.cellsOf 23 = 1 := by kernel_rfl
    rw [k1] at hi
    have hlm : len ≤ m := by rw [hmm]; split <;> omega
    unfold maxLen at hm
    have hex : ∀ i, ∃ s : Int, i < len → (0 ≤ s ∧ s ≤ 18446744073709551615) ∧ w.cell? (a.add i) = some (.int .u64 s) := by
      intro i
      by_cases hlt : i < len
      · obtain ⟨cs', hc, ht⟩ := hi i (by omega)
        obtain ⟨s, rfl, _, hwf⟩ := DataW.trod_int Try.underlying23 ht
        obtain ⟨_, _, hat⟩ := World.cells?_some hc
        refine ⟨s, fun _ => ⟨bounds_u64 hwf, ?_⟩⟩
        have := hat 0 (by omega); rw [add_add, Nat.mul_one] at this; exact this
      · exact ⟨0, fun h => absurd h hlt⟩
    refine ⟨some a, len, cap, fun i => Classical.choose (hex i), hcs, by omega, fun i hi => (Classical.choose_spec (hex i) hi).1, fun h0 => ?_⟩
    obtain ⟨b, off, spot⟩ := a
    have h00 := (Classical.choose_spec (hex 0) h0).2
    have hspot : spot = none := by simpa [Addr.add] using World.cell?_spot h00
    subst hspot
    refine ⟨b, off, rfl, by simpa [Addr.add] using World.block_lt_of_cell? w _ h00, fun i hi => ?_⟩
    obtain ⟨_, q0⟩ := Classical.choose_spec (hex i) hi
    rw [← q0]; congr 1; unfold Addr.add; split
    · next e => rw [e]; rfl
    · rfl

theorem open_vs {fuel : Nat} {cs : List Value} {x : DataW H × List MemPlace} (h : DataW.trod enc Try.prog w base spare held fuel 39 cs = some x) :
    ∃ (A : Option Addr) (len cap : Nat) (f : Nat → Int), cs = [.slice A len cap] ∧ (len ≤ cap ∧ cap ≤ 9223372036854775807) ∧ Us w w.heap.size A len f := by
  obtain ⟨A, len, cap, f, hcs, _, hu⟩ := open_us h
  rcases open_slice Try.underlying39 h with ⟨hcs', _⟩ | ⟨a, len', cap', m, n, D, Pl, hcs', hb, hl, hm, _, _, _⟩
  · rw [hcs] at hcs'
    injection hcs' with h1 _
    injection h1 with h1 h2 h3
    exact ⟨A, len, cap, f, hcs, by omega, hu⟩
  · rw [hcs] at hcs'
    injection hcs' with h1 _
    injection h1 with h1 h2 h3
    unfold maxLen at hm
    exact ⟨A, len, cap, f, hcs, by omega, hu⟩

theorem open_rq {fuel : Nat} {cs : List Value} {x : DataW H × List MemPlace} (h : DataW.trod enc Try.prog w base spare held fuel 57 cs = some x) :
    ∃ s : Rq, s.wf ∧ cs = [.int .i64 s.c, .int .u64 s.l, .bool s.rm, .bool s.raw] := by
  obtain ⟨ys, n, hn, hy, hlen, hyl, hf⟩ := DataW.trod_struct Try.underlying57 h
  have k4 : Try.prog.cellsOf 57 = 4 := by kernel_rfl
  rw [k4] at hlen
  match cs, hlen with
  | [c0, c1, c2, c3], _ =>
    match ys, hyl with
    | [y0, y1, y2, y3], _ =>
      obtain ⟨a, ea, _, wa⟩ := DataW.trod_int (k := .i64) Try.underlying3 (hf 0 _ rfl)
      obtain ⟨b, eb, _, wb⟩ := DataW.trod_int (k := .u64) Try.underlying23 (hf 1 _ rfl)
      obtain ⟨c, ec, _⟩ := DataW.trod_bool Try.underlying4 (hf 2 _ rfl)
      obtain ⟨d, ed, _⟩ := DataW.trod_bool Try.underlying4 (hf 3 _ rfl)
      have k1 : Try.prog.cellsOf 23 = 1 := by kernel_rfl
      have k2 : Try.prog.cellsOf 3 = 1 := by kernel_rfl
      have k3 : Try.prog.cellsOf 4 = 1 := by kernel_rfl
      simp [k1, k2, k3] at ea eb ec ed
      subst ea eb ec ed
      have ba := bounds_i64 wa
      have bb := bounds_u64 wb
      exact ⟨⟨a, b, c, d⟩, ⟨ba.1, ba.2, bb.1, bb.2⟩, rfl⟩

theorem open_rs {fuel : Nat} {cs : List Value} {x : DataW H × List MemPlace} (h : DataW.trod enc Try.prog w base spare held fuel 53 cs = some x) :
    ∃ (A : Option Addr) (len cap : Nat) (f : Nat → Rq), cs = [.slice A len cap] ∧ len ≤ 9223372036854775807 ∧ Rs w w.heap.size A len f := by
  rcases open_slice Try.underlying53 h with ⟨rfl, _⟩ | ⟨a, len, cap, m, n, D, Pl, hcs, hb, hl, hm, hmm, hx, hi⟩
  · exact ⟨none, 0, 0, fun _ => ⟨0, 0, false, false⟩, rfl, by omega, fun i hi => by omega, fun h => by omega⟩
  · have k4 : Try.prog.cellsOf 57 = 4 := by kernel_rfl
    rw [k4] at hi
    have hlm : len ≤ m := by rw [hmm]; split <;> omega
    unfold maxLen at hm
    have hex : ∀ i, ∃ s : Rq, i < len → s.wf ∧ w.cell? (a.add (i * 4)) = some (.int .i64 s.c) ∧ w.cell? (a.add (i * 4 + 1)) = some (.int .u64 s.l) ∧ w.cell? (a.add (i * 4 + 2)) = some (.bool s.rm) ∧ w.cell? (a.add (i * 4 + 3)) = some (.bool s.raw) := by
      intro i
      by_cases hlt : i < len
      · obtain ⟨cs', hc, ht⟩ := hi i (by omega)
        obtain ⟨s, hwf, rfl⟩ := open_rq ht
        obtain ⟨_, _, hat⟩ := World.cells?_some hc
        refine ⟨s, fun _ => ⟨hwf, ?_, ?_, ?_, ?_⟩⟩
        · have := hat 0 (by omega); rw [add_add] at this; exact this
        · have := hat 1 (by omega); rw [add_add] at this; exact this
        · have := hat 2 (by omega); rw [add_add] at this; exact this
        · have := hat 3 (by omega); rw [add_add] at this; exact this
      · exact ⟨⟨0, 0, false, false⟩, fun h => absurd h hlt⟩
    refine ⟨some a, len, cap, fun i => Classical.choose (hex i), hcs, by omega, fun i hi => (Classical.choose_spec (hex i) hi).1, fun h0 => ?_⟩
    obtain ⟨b, off, spot⟩ := a
    have h00 := (Classical.choose_spec (hex 0) h0).2.1
    have hspot : spot = none := by simpa [Addr.add] using World.cell?_spot h00
    subst hspot
    refine ⟨b, off, rfl, by simpa [Addr.add] using World.block_lt_of_cell? w _ h00, fun i hi => ?_⟩
    obtain ⟨_, q0, q1, q2, q3⟩ := Classical.choose_spec (hex i) hi
    refine ⟨?_, ?_, ?_, ?_⟩
    · rw [← q0]; congr 1; unfold Addr.add; split
      · simp
      · rfl
    · rw [← q1]; congr 1
    · rw [← q2]; congr 1
    · rw [← q3]; congr 1
end
end Go.Proofs.Ytgllakmcccjcbaa
