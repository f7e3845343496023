/-
  No cell of these rows narrows 'for every input' (looked for: loops, veiled, ifaces, maps, wideKeys, modest, calm, conditions, laid).
  DERIVED. THE GIVEN ROWS OF THIS SEAT. 6 by the template 'for every input the law returns true; each argument reads behind the call as it read before'; 0 by the template 'total and deterministic' (their statements: YtefgfmnnaglfmaaTotals.lean).
  GIVEN WITH THE SEED: the statements are not yours to turn. If you find one false, say at which input.
  Laid BY PROGRAM, IN A SANDBOX (cutbox-rows.mjs): the forced cells as the released guide's own fill.sh prints them over the translation 83d82474a88deacb… (all of the seat's roots in one cut). By AI agents, Wed Nov 11 2026. No macro, syntax, notation, axiom, sorry.
-/
import Derived.Test.YtefgfmnnaglfmaaChecked
import GoSem.Claim
import GoSem.ClaimJoined
import GoSem.ClaimMapViews
import Derived.JoinedTies
import Derived.KernelRfl
namespace Go.Proofs.Ytefgfmnnaglfmaa
/- THE CELL 'sum', in the pinned program and in every row, IS THE sha256 OF THE DUMP (.gsa) THAT YtefgfmnnaglfmaaProg.lean LOADS. Nothing in Lean hashes anything: it is a label: what it is worth is what the hold of that sum in a sandbox is worth. -/
noncomputable def Try.pinned : Pinned := { name := "ytefgfmnnaglfmaa", sum := "83d82474a88deacbdeb98ada7c74ad69ba3a9ca33eadbebac9dd6eb16f158186", checked := Try.checked }
namespace Rows
def none {H : Type} : Left H := { results := [], args := [] }

/-- 'platformfwlaw15.SyncobjFairness': WHATEVER THE INPUT: true; the input reads as it did. -/
def syncobjFairnessSpec : ChangeSpec := { name := "syncobjFairness", fn := fun _ => fun
  | [d1, d2] => { results := [.lit (.bool true)], args := [d1, d2] }
  | _ => none }
def syncobjFairnessRow : OpenClaim := { program := "ytefgfmnnaglfmaa", sum := "83d82474a88deacbdeb98ada7c74ad69ba3a9ca33eadbebac9dd6eb16f158186", func := "platformfw/platformfwlaw15.SyncobjFairness", spec := "syncobjFairness", apart := false }
def SyncobjFairnessSaid : Prop := syncobjFairnessRow.holds Try.pinned (OpenSpec.ofChange syncobjFairnessSpec)

/-- ITS FALSE NEIGHBOUR: 'it returns false'. Refute it at one input. -/
def syncobjFairnessWrong : ChangeSpec := { name := "syncobjFairness", fn := fun _ => fun
  | [d1, d2] => { results := [.lit (.bool false)], args := [d1, d2] }
  | _ => none }
def SyncobjFairnessWrongFalsely : Prop := syncobjFairnessRow.holds Try.pinned (OpenSpec.ofChange syncobjFairnessWrong)

/-- 'platformfwlaw15.SyncobjNoDeadlock': WHATEVER THE INPUT: true; the input reads as it did. -/
def syncobjNoDeadlockSpec : ChangeSpec := { name := "syncobjNoDeadlock", fn := fun _ => fun
  | [d] => { results := [.lit (.bool true)], args := [d] }
  | _ => none }
def syncobjNoDeadlockRow : OpenClaim := { program := "ytefgfmnnaglfmaa", sum := "83d82474a88deacbdeb98ada7c74ad69ba3a9ca33eadbebac9dd6eb16f158186", func := "platformfw/platformfwlaw15.SyncobjNoDeadlock", spec := "syncobjNoDeadlock", apart := false }
def SyncobjNoDeadlockSaid : Prop := syncobjNoDeadlockRow.holds Try.pinned (OpenSpec.ofChange syncobjNoDeadlockSpec)

/-- ITS FALSE NEIGHBOUR: 'it returns false'. Refute it at one input. -/
def syncobjNoDeadlockWrong : ChangeSpec := { name := "syncobjNoDeadlock", fn := fun _ => fun
  | [d] => { results := [.lit (.bool false)], args := [d] }
  | _ => none }
def SyncobjNoDeadlockWrongFalsely : Prop := syncobjNoDeadlockRow.holds Try.pinned (OpenSpec.ofChange syncobjNoDeadlockWrong)

/-- 'platformfwlaw15.SyncobjSignalsAreCounted': WHATEVER THE INPUT: true; the input reads as it did. -/
def syncobjSignalsAreCountedSpec : ChangeSpec := { name := "syncobjSignalsAreCounted", fn := fun _ => fun
  | [d1, d2, d3] => { results := [.lit (.bool true)], args := [d1, d2, d3] }
  | _ => none }
def syncobjSignalsAreCountedRow : OpenClaim := { program := "ytefgfmnnaglfmaa", sum := "83d82474a88deacbdeb98ada7c74ad69ba3a9ca33eadbebac9dd6eb16f158186", func := "platformfw/platformfwlaw15.SyncobjSignalsAreCounted", spec := "syncobjSignalsAreCounted", apart := false }
def SyncobjSignalsAreCountedSaid : Prop := syncobjSignalsAreCountedRow.holds Try.pinned (OpenSpec.ofChange syncobjSignalsAreCountedSpec)

/-- ITS FALSE NEIGHBOUR: 'it returns false'. Refute it at one input. -/
def syncobjSignalsAreCountedWrong : ChangeSpec := { name := "syncobjSignalsAreCounted", fn := fun _ => fun
  | [d1, d2, d3] => { results := [.lit (.bool false)], args := [d1, d2, d3] }
  | _ => none }
def SyncobjSignalsAreCountedWrongFalsely : Prop := syncobjSignalsAreCountedRow.holds Try.pinned (OpenSpec.ofChange syncobjSignalsAreCountedWrong)

/-- 'platformfwlaw15.SyncobjExpires': WHATEVER THE INPUT: true; the input reads as it did. -/
def syncobjExpiresSpec : ChangeSpec := { name := "syncobjExpires", fn := fun _ => fun
  | [d1, d2, d3] => { results := [.lit (.bool true)], args := [d1, d2, d3] }
  | _ => none }
def syncobjExpiresRow : OpenClaim := { program := "ytefgfmnnaglfmaa", sum := "83d82474a88deacbdeb98ada7c74ad69ba3a9ca33eadbebac9dd6eb16f158186", func := "platformfw/platformfwlaw15.SyncobjExpires", spec := "syncobjExpires", recurses := true, apart := false }
def SyncobjExpiresSaid : Prop := syncobjExpiresRow.holds Try.pinned (OpenSpec.ofChange syncobjExpiresSpec)

/-- ITS FALSE NEIGHBOUR: 'it returns false'. Refute it at one input. -/
def syncobjExpiresWrong : ChangeSpec := { name := "syncobjExpires", fn := fun _ => fun
  | [d1, d2, d3] => { results := [.lit (.bool false)], args := [d1, d2, d3] }
  | _ => none }
def SyncobjExpiresWrongFalsely : Prop := syncobjExpiresRow.holds Try.pinned (OpenSpec.ofChange syncobjExpiresWrong)

/-- 'platformfwlaw15.SyncobjExclusion': WHATEVER THE INPUT: true; the input reads as it did. -/
def syncobjExclusionSpec : ChangeSpec := { name := "syncobjExclusion", fn := fun _ => fun
  | [d] => { results := [.lit (.bool true)], args := [d] }
  | _ => none }
def syncobjExclusionRow : OpenClaim := { program := "ytefgfmnnaglfmaa", sum := "83d82474a88deacbdeb98ada7c74ad69ba3a9ca33eadbebac9dd6eb16f158186", func := "platformfw/platformfwlaw15.SyncobjExclusion", spec := "syncobjExclusion", unfollowed := true, recurses := true, apart := false }
def SyncobjExclusionSaid : Prop := syncobjExclusionRow.holds Try.pinned (OpenSpec.ofChange syncobjExclusionSpec)

/-- ITS FALSE NEIGHBOUR: 'it returns false'. Refute it at one input. -/
def syncobjExclusionWrong : ChangeSpec := { name := "syncobjExclusion", fn := fun _ => fun
  | [d] => { results := [.lit (.bool false)], args := [d] }
  | _ => none }
def SyncobjExclusionWrongFalsely : Prop := syncobjExclusionRow.holds Try.pinned (OpenSpec.ofChange syncobjExclusionWrong)

/-- 'platformfwlaw15.SyncobjMatchesModel': WHATEVER THE INPUT: true; the input reads as it did. -/
def syncobjMatchesModelSpec : ChangeSpec := { name := "syncobjMatchesModel", fn := fun _ => fun
  | [d] => { results := [.lit (.bool true)], args := [d] }
  | _ => none }
def syncobjMatchesModelRow : OpenClaim := { program := "ytefgfmnnaglfmaa", sum := "83d82474a88deacbdeb98ada7c74ad69ba3a9ca33eadbebac9dd6eb16f158186", func := "platformfw/platformfwlaw15.SyncobjMatchesModel", spec := "syncobjMatchesModel", unfollowed := true, recurses := true, apart := false }
def SyncobjMatchesModelSaid : Prop := syncobjMatchesModelRow.holds Try.pinned (OpenSpec.ofChange syncobjMatchesModelSpec)

/-- ITS FALSE NEIGHBOUR: 'it returns false'. Refute it at one input. -/
def syncobjMatchesModelWrong : ChangeSpec := { name := "syncobjMatchesModel", fn := fun _ => fun
  | [d] => { results := [.lit (.bool false)], args := [d] }
  | _ => none }
def SyncobjMatchesModelWrongFalsely : Prop := syncobjMatchesModelRow.holds Try.pinned (OpenSpec.ofChange syncobjMatchesModelWrong)

/- THE SECOND FORM. 'bulk': how many values and letters a reading holds, each counted each time it is reached (what is shared counts as often as it is met; a slice's spare places count too). A statement '..UptoSaid' is the law's where the arguments, and the package variables that the reading takes, are together of bulk at most 1048576: NARROWER than '..Said'. Prove '..Said' where nothing that the law and all that it calls make is longer than what came in: it says more and counts as full. Else prove '..UptoSaid'. A law counts once. -/
mutual
def uptoBulk {H : Type} : DataW H → Nat
  | .lit (.string bytes) => bytes.length + 1
  | .lit _ => 1
  | .nil => 1
  | .ptr d => uptoBulk d + 1
  | .slice elems spare => uptoBulkAll elems + uptoBulkAll spare + 1
  | .agg parts => uptoBulkAll parts + 1
  | .iface _ d => uptoBulk d + 1
  | .map entries => uptoBulkEntries entries + 1
  | .held _ => 1
def uptoBulkAll {H : Type} : List (DataW H) → Nat
  | [] => 0
  | d :: r => uptoBulk d + uptoBulkAll r
def uptoBulkEntries {H : Type} : List (Lit × DataW H) → Nat
  | [] => 0
  | x :: r => uptoBulkEntry x + uptoBulkEntries r
def uptoBulkEntry {H : Type} : Lit × DataW H → Nat
  | (.string bytes, d) => bytes.length + uptoBulk d + 1
  | (_, d) => uptoBulk d + 1
 end
def uptoSmall : (H : Type) → List (DataW H) → Bool := fun _ ds => decide (uptoBulkAll ds ≤ 1048576)
def OpenSpec.upto (s : _root_.Go.ChangeSpec) : _root_.Go.OpenSpec := { _root_.Go.OpenSpec.ofChange s with cond := some uptoSmall }

/-- 'platformfwlaw15.SyncobjFairness', WHERE WHAT IT READS IS OF BULK AT MOST 1048576: true; the input reads as it did. -/
def syncobjFairnessUptoRow : OpenClaim := { program := "ytefgfmnnaglfmaa", sum := "83d82474a88deacbdeb98ada7c74ad69ba3a9ca33eadbebac9dd6eb16f158186", func := "platformfw/platformfwlaw15.SyncobjFairness", spec := "syncobjFairness", apart := false, narrowed := true }
def SyncobjFairnessUptoSaid : Prop := syncobjFairnessUptoRow.holds Try.pinned (OpenSpec.upto syncobjFairnessSpec)

/-- 'platformfwlaw15.SyncobjNoDeadlock', WHERE WHAT IT READS IS OF BULK AT MOST 1048576: true; the input reads as it did. -/
def syncobjNoDeadlockUptoRow : OpenClaim := { program := "ytefgfmnnaglfmaa", sum := "83d82474a88deacbdeb98ada7c74ad69ba3a9ca33eadbebac9dd6eb16f158186", func := "platformfw/platformfwlaw15.SyncobjNoDeadlock", spec := "syncobjNoDeadlock", apart := false, narrowed := true }
def SyncobjNoDeadlockUptoSaid : Prop := syncobjNoDeadlockUptoRow.holds Try.pinned (OpenSpec.upto syncobjNoDeadlockSpec)

/-- 'platformfwlaw15.SyncobjSignalsAreCounted', WHERE WHAT IT READS IS OF BULK AT MOST 1048576: true; the input reads as it did. -/
def syncobjSignalsAreCountedUptoRow : OpenClaim := { program := "ytefgfmnnaglfmaa", sum := "83d82474a88deacbdeb98ada7c74ad69ba3a9ca33eadbebac9dd6eb16f158186", func := "platformfw/platformfwlaw15.SyncobjSignalsAreCounted", spec := "syncobjSignalsAreCounted", apart := false, narrowed := true }
def SyncobjSignalsAreCountedUptoSaid : Prop := syncobjSignalsAreCountedUptoRow.holds Try.pinned (OpenSpec.upto syncobjSignalsAreCountedSpec)

/-- 'platformfwlaw15.SyncobjExpires', WHERE WHAT IT READS IS OF BULK AT MOST 1048576: true; the input reads as it did. -/
def syncobjExpiresUptoRow : OpenClaim := { program := "ytefgfmnnaglfmaa", sum := "83d82474a88deacbdeb98ada7c74ad69ba3a9ca33eadbebac9dd6eb16f158186", func := "platformfw/platformfwlaw15.SyncobjExpires", spec := "syncobjExpires", recurses := true, apart := false, narrowed := true }
def SyncobjExpiresUptoSaid : Prop := syncobjExpiresUptoRow.holds Try.pinned (OpenSpec.upto syncobjExpiresSpec)

/-- 'platformfwlaw15.SyncobjExclusion', WHERE WHAT IT READS IS OF BULK AT MOST 1048576: true; the input reads as it did. -/
def syncobjExclusionUptoRow : OpenClaim := { program := "ytefgfmnnaglfmaa", sum := "83d82474a88deacbdeb98ada7c74ad69ba3a9ca33eadbebac9dd6eb16f158186", func := "platformfw/platformfwlaw15.SyncobjExclusion", spec := "syncobjExclusion", unfollowed := true, recurses := true, apart := false, narrowed := true }
def SyncobjExclusionUptoSaid : Prop := syncobjExclusionUptoRow.holds Try.pinned (OpenSpec.upto syncobjExclusionSpec)

/-- 'platformfwlaw15.SyncobjMatchesModel', WHERE WHAT IT READS IS OF BULK AT MOST 1048576: true; the input reads as it did. -/
def syncobjMatchesModelUptoRow : OpenClaim := { program := "ytefgfmnnaglfmaa", sum := "83d82474a88deacbdeb98ada7c74ad69ba3a9ca33eadbebac9dd6eb16f158186", func := "platformfw/platformfwlaw15.SyncobjMatchesModel", spec := "syncobjMatchesModel", unfollowed := true, recurses := true, apart := false, narrowed := true }
def SyncobjMatchesModelUptoSaid : Prop := syncobjMatchesModelUptoRow.holds Try.pinned (OpenSpec.upto syncobjMatchesModelSpec)

end Rows
end Go.Proofs.Ytefgfmnnaglfmaa
