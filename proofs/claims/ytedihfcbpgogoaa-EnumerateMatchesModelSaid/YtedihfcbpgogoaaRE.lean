/- How a bus number by value is read. No condition. -/
import Derived.Test.YtedihfcbpgogoaaRD
namespace Go.Proofs.Ytedihfcbpgogoaa
open Go.ChangeShapes Go.WideShapes Go.ChangeAt Go.RowKit Go.Deep
section
variable {H : Type} {enc : TypeId × Value → H} {w : World} {base : Nat} {spare : Nat → Bool} {held : Bool}
theorem cl39 : Try.prog.cellsOf 39 = 3 := by kernel_rfl
theorem open_bn {fuel : Nat} {cs : List Value} {x : DataW H × List MemPlace} (h : DataW.trod enc Try.prog w base spare held fuel 39 cs = some x) : ∃ a b c : Int, cs = [.int .i64 a, .int .i64 b, .int .i64 c] := by
  obtain ⟨ys, n, hn, hy, hlen, hyl, hf⟩ := DataW.trod_struct Try.underlying39 h
  rw [cl39] at hlen
  match cs, hlen with
  | [c0, c1, c2], _ =>
    match ys, hyl with
    | [y0, y1, y2], _ =>
      obtain ⟨a, ea, _, _⟩ := DataW.trod_int (k := .i64) Try.underlying3 (hf 0 _ rfl)
      obtain ⟨b, eb, _, _⟩ := DataW.trod_int (k := .i64) Try.underlying3 (hf 1 _ rfl)
      obtain ⟨c, ec, _, _⟩ := DataW.trod_int (k := .i64) Try.underlying3 (hf 2 _ rfl)
      simp [cl3] at ea eb ec
      subst ea eb ec
      exact ⟨a, b, c, rfl⟩
end
end Go.Proofs.Ytedihfcbpgogoaa
