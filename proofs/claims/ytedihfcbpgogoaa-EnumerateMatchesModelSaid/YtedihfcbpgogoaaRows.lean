/-
  No cell of these rows narrows 'for every input' (looked for: loops, veiled, ifaces, maps, wideKeys, modest, calm, conditions, laid).
  DERIVED. THE GIVEN ROWS OF THIS SEAT. 6 by the template 'for every input the law returns true; each argument reads behind the call as it read before'; 0 by the template 'total and deterministic' (their statements: YtedihfcbpgogoaaTotals.lean).
  GIVEN WITH THE SEED: the statements are not yours to turn. If you find one false, say at which input.
  Laid BY PROGRAM, IN A SANDBOX (cutbox-rows.mjs): the forced cells as the released guide's own fill.sh prints them over the translation ed1fb385eb6c5917… (all of the seat's roots in one cut). By AI agents, Wed Nov 11 2026. No macro, syntax, notation, axiom, sorry.
-/
import Derived.Test.YtedihfcbpgogoaaChecked
import GoSem.Claim
import GoSem.ClaimJoined
import GoSem.ClaimMapViews
import Derived.JoinedTies
import Derived.KernelRfl
namespace Go.Proofs.Ytedihfcbpgogoaa
/- THE CELL 'sum', in the pinned program and in every row, IS THE sha256 OF THE DUMP (.gsa) THAT YtedihfcbpgogoaaProg.lean LOADS. Nothing in Lean hashes anything: it is a label: what it is worth is what the hold of that sum in a sandbox is worth. -/
noncomputable def Try.pinned : Pinned := { name := "ytedihfcbpgogoaa", sum := "ed1fb385eb6c5917389f17844f050188e3923c067748ead3afbccb79d92ee780", checked := Try.checked }
namespace Rows
def none {H : Type} : Left H := { results := [], args := [] }

/-- 'platformfwlaw19.EnumerateMatchesModel': WHATEVER THE INPUT: true; the input reads as it did. -/
def enumerateMatchesModelSpec : ChangeSpec := { name := "enumerateMatchesModel", fn := fun _ => fun
  | [d1, d2, d3, d4, d5] => { results := [.lit (.bool true)], args := [d1, d2, d3, d4, d5] }
  | _ => none }
def enumerateMatchesModelRow : OpenClaim := { program := "ytedihfcbpgogoaa", sum := "ed1fb385eb6c5917389f17844f050188e3923c067748ead3afbccb79d92ee780", func := "platformfw/platformfwlaw19.EnumerateMatchesModel", spec := "enumerateMatchesModel", unfollowed := true, recurses := true, plainKeys := false, apart := false }
def EnumerateMatchesModelSaid : Prop := enumerateMatchesModelRow.holds Try.pinned (OpenSpec.ofChange enumerateMatchesModelSpec)

/-- ITS FALSE NEIGHBOUR: 'it returns false'. Refute it at one input. -/
def enumerateMatchesModelWrong : ChangeSpec := { name := "enumerateMatchesModel", fn := fun _ => fun
  | [d1, d2, d3, d4, d5] => { results := [.lit (.bool false)], args := [d1, d2, d3, d4, d5] }
  | _ => none }
def EnumerateMatchesModelWrongFalsely : Prop := enumerateMatchesModelRow.holds Try.pinned (OpenSpec.ofChange enumerateMatchesModelWrong)

/-- 'platformfwlaw19.EnumerateRoutes': WHATEVER THE INPUT: true; the input reads as it did. -/
def enumerateRoutesSpec : ChangeSpec := { name := "enumerateRoutes", fn := fun _ => fun
  | [d1, d2, d3] => { results := [.lit (.bool true)], args := [d1, d2, d3] }
  | _ => none }
def enumerateRoutesRow : OpenClaim := { program := "ytedihfcbpgogoaa", sum := "ed1fb385eb6c5917389f17844f050188e3923c067748ead3afbccb79d92ee780", func := "platformfw/platformfwlaw19.EnumerateRoutes", spec := "enumerateRoutes", unfollowed := true, recurses := true, plainKeys := false, apart := false }
def EnumerateRoutesSaid : Prop := enumerateRoutesRow.holds Try.pinned (OpenSpec.ofChange enumerateRoutesSpec)

/-- ITS FALSE NEIGHBOUR: 'it returns false'. Refute it at one input. -/
def enumerateRoutesWrong : ChangeSpec := { name := "enumerateRoutes", fn := fun _ => fun
  | [d1, d2, d3] => { results := [.lit (.bool false)], args := [d1, d2, d3] }
  | _ => none }
def EnumerateRoutesWrongFalsely : Prop := enumerateRoutesRow.holds Try.pinned (OpenSpec.ofChange enumerateRoutesWrong)

/-- 'platformfwlaw19.EnumerateReachesAll': WHATEVER THE INPUT: true; the input reads as it did. -/
def enumerateReachesAllSpec : ChangeSpec := { name := "enumerateReachesAll", fn := fun _ => fun
  | [d] => { results := [.lit (.bool true)], args := [d] }
  | _ => none }
def enumerateReachesAllRow : OpenClaim := { program := "ytedihfcbpgogoaa", sum := "ed1fb385eb6c5917389f17844f050188e3923c067748ead3afbccb79d92ee780", func := "platformfw/platformfwlaw19.EnumerateReachesAll", spec := "enumerateReachesAll", unfollowed := true, recurses := true, plainKeys := false, apart := false }
def EnumerateReachesAllSaid : Prop := enumerateReachesAllRow.holds Try.pinned (OpenSpec.ofChange enumerateReachesAllSpec)

/-- ITS FALSE NEIGHBOUR: 'it returns false'. Refute it at one input. -/
def enumerateReachesAllWrong : ChangeSpec := { name := "enumerateReachesAll", fn := fun _ => fun
  | [d] => { results := [.lit (.bool false)], args := [d] }
  | _ => none }
def EnumerateReachesAllWrongFalsely : Prop := enumerateReachesAllRow.holds Try.pinned (OpenSpec.ofChange enumerateReachesAllWrong)

/-- 'platformfwlaw19.EnumerateRangesNest': WHATEVER THE INPUT: true; the input reads as it did. -/
def enumerateRangesNestSpec : ChangeSpec := { name := "enumerateRangesNest", fn := fun _ => fun
  | [d] => { results := [.lit (.bool true)], args := [d] }
  | _ => none }
def enumerateRangesNestRow : OpenClaim := { program := "ytedihfcbpgogoaa", sum := "ed1fb385eb6c5917389f17844f050188e3923c067748ead3afbccb79d92ee780", func := "platformfw/platformfwlaw19.EnumerateRangesNest", spec := "enumerateRangesNest", unfollowed := true, recurses := true, plainKeys := false, apart := false }
def EnumerateRangesNestSaid : Prop := enumerateRangesNestRow.holds Try.pinned (OpenSpec.ofChange enumerateRangesNestSpec)

/-- ITS FALSE NEIGHBOUR: 'it returns false'. Refute it at one input. -/
def enumerateRangesNestWrong : ChangeSpec := { name := "enumerateRangesNest", fn := fun _ => fun
  | [d] => { results := [.lit (.bool false)], args := [d] }
  | _ => none }
def EnumerateRangesNestWrongFalsely : Prop := enumerateRangesNestRow.holds Try.pinned (OpenSpec.ofChange enumerateRangesNestWrong)

/-- 'platformfwlaw19.EnumerateSmallestNumber': WHATEVER THE INPUT: true; the input reads as it did. -/
def enumerateSmallestNumberSpec : ChangeSpec := { name := "enumerateSmallestNumber", fn := fun _ => fun
  | [d1, d2] => { results := [.lit (.bool true)], args := [d1, d2] }
  | _ => none }
def enumerateSmallestNumberRow : OpenClaim := { program := "ytedihfcbpgogoaa", sum := "ed1fb385eb6c5917389f17844f050188e3923c067748ead3afbccb79d92ee780", func := "platformfw/platformfwlaw19.EnumerateSmallestNumber", spec := "enumerateSmallestNumber", unfollowed := true, recurses := true, plainKeys := false, apart := false }
def EnumerateSmallestNumberSaid : Prop := enumerateSmallestNumberRow.holds Try.pinned (OpenSpec.ofChange enumerateSmallestNumberSpec)

/-- ITS FALSE NEIGHBOUR: 'it returns false'. Refute it at one input. -/
def enumerateSmallestNumberWrong : ChangeSpec := { name := "enumerateSmallestNumber", fn := fun _ => fun
  | [d1, d2] => { results := [.lit (.bool false)], args := [d1, d2] }
  | _ => none }
def EnumerateSmallestNumberWrongFalsely : Prop := enumerateSmallestNumberRow.holds Try.pinned (OpenSpec.ofChange enumerateSmallestNumberWrong)

/-- 'platformfwlaw19.EnumerateWrites': WHATEVER THE INPUT: true; the input reads as it did. -/
def enumerateWritesSpec : ChangeSpec := { name := "enumerateWrites", fn := fun _ => fun
  | [d1, d2, d3, d4] => { results := [.lit (.bool true)], args := [d1, d2, d3, d4] }
  | _ => none }
def enumerateWritesRow : OpenClaim := { program := "ytedihfcbpgogoaa", sum := "ed1fb385eb6c5917389f17844f050188e3923c067748ead3afbccb79d92ee780", func := "platformfw/platformfwlaw19.EnumerateWrites", spec := "enumerateWrites", unfollowed := true, recurses := true, plainKeys := false, apart := false }
def EnumerateWritesSaid : Prop := enumerateWritesRow.holds Try.pinned (OpenSpec.ofChange enumerateWritesSpec)

/-- ITS FALSE NEIGHBOUR: 'it returns false'. Refute it at one input. -/
def enumerateWritesWrong : ChangeSpec := { name := "enumerateWrites", fn := fun _ => fun
  | [d1, d2, d3, d4] => { results := [.lit (.bool false)], args := [d1, d2, d3, d4] }
  | _ => none }
def EnumerateWritesWrongFalsely : Prop := enumerateWritesRow.holds Try.pinned (OpenSpec.ofChange enumerateWritesWrong)

/- THE SECOND FORM. 'bulk': how many values and letters a reading holds, each counted each time it is reached (what is shared counts as often as it is met; a slice's spare places count too). A statement '..UptoSaid' is the law's where the arguments, and the package variables that the reading takes, are together of bulk at most 1048576: NARROWER than '..Said'. Prove '..Said' where nothing that the law and all that it calls make is longer than what came in: it says more and counts as full. Else prove '..UptoSaid'. A law counts once. -/
mutual
def uptoBulk {H : Type} : DataW H → Nat
  | .lit (.string bytes) => bytes.length + 1
  | .lit _ => 1
  | .nil => 1
  | .ptr d => uptoBulk d + 1
  | .slice elems spare => uptoBulkAll elems + uptoBulkAll spare + 1
  | .agg parts => uptoBulkAll parts + 1
  | .iface _ d => uptoBulk d + 1
  | .map entries => uptoBulkEntries entries + 1
  | .held _ => 1
def uptoBulkAll {H : Type} : List (DataW H) → Nat
  | [] => 0
  | d :: r => uptoBulk d + uptoBulkAll r
def uptoBulkEntries {H : Type} : List (Lit × DataW H) → Nat
  | [] => 0
  | x :: r => uptoBulkEntry x + uptoBulkEntries r
def uptoBulkEntry {H : Type} : Lit × DataW H → Nat
  | (.string bytes, d) => bytes.length + uptoBulk d + 1
  | (_, d) => uptoBulk d + 1
 end
def uptoSmall : (H : Type) → List (DataW H) → Bool := fun _ ds => decide (uptoBulkAll ds ≤ 1048576)
def OpenSpec.upto (s : _root_.Go.ChangeSpec) : _root_.Go.OpenSpec := { _root_.Go.OpenSpec.ofChange s with cond := some uptoSmall }

/-- 'platformfwlaw19.EnumerateMatchesModel', WHERE WHAT IT READS IS OF BULK AT MOST 1048576: true; the input reads as it did. -/
def enumerateMatchesModelUptoRow : OpenClaim := { program := "ytedihfcbpgogoaa", sum := "ed1fb385eb6c5917389f17844f050188e3923c067748ead3afbccb79d92ee780", func := "platformfw/platformfwlaw19.EnumerateMatchesModel", spec := "enumerateMatchesModel", unfollowed := true, recurses := true, plainKeys := false, apart := false, narrowed := true }
def EnumerateMatchesModelUptoSaid : Prop := enumerateMatchesModelUptoRow.holds Try.pinned (OpenSpec.upto enumerateMatchesModelSpec)

/-- 'platformfwlaw19.EnumerateRoutes', WHERE WHAT IT READS IS OF BULK AT MOST 1048576: true; the input reads as it did. -/
def enumerateRoutesUptoRow : OpenClaim := { program := "ytedihfcbpgogoaa", sum := "ed1fb385eb6c5917389f17844f050188e3923c067748ead3afbccb79d92ee780", func := "platformfw/platformfwlaw19.EnumerateRoutes", spec := "enumerateRoutes", unfollowed := true, recurses := true, plainKeys := false, apart := false, narrowed := true }
def EnumerateRoutesUptoSaid : Prop := enumerateRoutesUptoRow.holds Try.pinned (OpenSpec.upto enumerateRoutesSpec)

/-- 'platformfwlaw19.EnumerateReachesAll', WHERE WHAT IT READS IS OF BULK AT MOST 1048576: true; the input reads as it did. -/
def enumerateReachesAllUptoRow : OpenClaim := { program := "ytedihfcbpgogoaa", sum := "ed1fb385eb6c5917389f17844f050188e3923c067748ead3afbccb79d92ee780", func := "platformfw/platformfwlaw19.EnumerateReachesAll", spec := "enumerateReachesAll", unfollowed := true, recurses := true, plainKeys := false, apart := false, narrowed := true }
def EnumerateReachesAllUptoSaid : Prop := enumerateReachesAllUptoRow.holds Try.pinned (OpenSpec.upto enumerateReachesAllSpec)

/-- 'platformfwlaw19.EnumerateRangesNest', WHERE WHAT IT READS IS OF BULK AT MOST 1048576: true; the input reads as it did. -/
def enumerateRangesNestUptoRow : OpenClaim := { program := "ytedihfcbpgogoaa", sum := "ed1fb385eb6c5917389f17844f050188e3923c067748ead3afbccb79d92ee780", func := "platformfw/platformfwlaw19.EnumerateRangesNest", spec := "enumerateRangesNest", unfollowed := true, recurses := true, plainKeys := false, apart := false, narrowed := true }
def EnumerateRangesNestUptoSaid : Prop := enumerateRangesNestUptoRow.holds Try.pinned (OpenSpec.upto enumerateRangesNestSpec)

/-- 'platformfwlaw19.EnumerateSmallestNumber', WHERE WHAT IT READS IS OF BULK AT MOST 1048576: true; the input reads as it did. -/
def enumerateSmallestNumberUptoRow : OpenClaim := { program := "ytedihfcbpgogoaa", sum := "ed1fb385eb6c5917389f17844f050188e3923c067748ead3afbccb79d92ee780", func := "platformfw/platformfwlaw19.EnumerateSmallestNumber", spec := "enumerateSmallestNumber", unfollowed := true, recurses := true, plainKeys := false, apart := false, narrowed := true }
def EnumerateSmallestNumberUptoSaid : Prop := enumerateSmallestNumberUptoRow.holds Try.pinned (OpenSpec.upto enumerateSmallestNumberSpec)

/-- 'platformfwlaw19.EnumerateWrites', WHERE WHAT IT READS IS OF BULK AT MOST 1048576: true; the input reads as it did. -/
def enumerateWritesUptoRow : OpenClaim := { program := "ytedihfcbpgogoaa", sum := "ed1fb385eb6c5917389f17844f050188e3923c067748ead3afbccb79d92ee780", func := "platformfw/platformfwlaw19.EnumerateWrites", spec := "enumerateWrites", unfollowed := true, recurses := true, plainKeys := false, apart := false, narrowed := true }
def EnumerateWritesUptoSaid : Prop := enumerateWritesUptoRow.holds Try.pinned (OpenSpec.upto enumerateWritesSpec)

end Rows
end Go.Proofs.Ytedihfcbpgogoaa
