/-
  No cell of these rows narrows 'for every input' (looked for: loops, veiled, ifaces, maps, wideKeys, modest, calm, conditions, laid).
  DERIVED. THE GIVEN ROWS OF THIS SEAT. 4 by the template 'for every input the law returns true; each argument reads behind the call as it read before'; 0 by the template 'total and deterministic' (their statements: YtfglopkglnpokaaGreatTotals.lean).
  GIVEN WITH THE SEED: the statements are not yours to turn. If you find one false, say at which input.
  Laid BY PROGRAM, IN A SANDBOX (cutbox-rows.mjs): the forced cells as the released guide's own fill.sh prints them over the translation 3913e30d8cf87142… (all of the seat's roots in one cut). By AI agents, Wed Nov 11 2026. No macro, syntax, notation, axiom, sorry.
-/
import Derived.Test.YtfglopkglnpokaaGreatChecked
import GoSem.Claim
import GoSem.ClaimJoined
import GoSem.ClaimMapViews
import Derived.JoinedTies
import Derived.KernelRfl
namespace Go.Proofs.YtfglopkglnpokaaGreat
/- THE CELL 'sum', in the pinned program and in every row, IS THE sha256 OF THE DUMP (.gsa) THAT YtfglopkglnpokaaGreatProg.lean LOADS. Nothing in Lean hashes anything: it is a label: what it is worth is what the hold of that sum in a sandbox is worth. -/
noncomputable def Tryz.pinned : Pinned := { name := "ytfglopkglnpokaagreat", sum := "3913e30d8cf87142f8844bf695820db60f674f2f0b1847ee4c0f96d7009c71aa", checked := Tryz.checked }
namespace Rows
def none {H : Type} : Left H := { results := [], args := [] }

/-- 'platformfwlaw41.VarstoreOpenAgrees': WHATEVER THE INPUT: true; the input reads as it did. -/
def varstoreOpenAgreesSpec : ChangeSpec := { name := "varstoreOpenAgrees", fn := fun _ => fun
  | [d1, d2, d3, d4] => { results := [.lit (.bool true)], args := [d1, d2, d3, d4] }
  | _ => none }
def varstoreOpenAgreesRow : OpenClaim := { program := "ytfglopkglnpokaagreat", sum := "3913e30d8cf87142f8844bf695820db60f674f2f0b1847ee4c0f96d7009c71aa", func := "platformfw/platformfwlaw41.VarstoreOpenAgrees", spec := "varstoreOpenAgrees", inPlace := ["internal/abi.NoEscape", "internal/bytealg.MakeNoZero", "maps.clone"], unfollowed := true, recurses := true, apart := false }
def VarstoreOpenAgreesSaid : Prop := varstoreOpenAgreesRow.holds Tryz.pinned (OpenSpec.ofChange varstoreOpenAgreesSpec)

/-- ITS FALSE NEIGHBOUR: 'it returns false'. Refute it at one input. -/
def varstoreOpenAgreesWrong : ChangeSpec := { name := "varstoreOpenAgrees", fn := fun _ => fun
  | [d1, d2, d3, d4] => { results := [.lit (.bool false)], args := [d1, d2, d3, d4] }
  | _ => none }
def VarstoreOpenAgreesWrongFalsely : Prop := varstoreOpenAgreesRow.holds Tryz.pinned (OpenSpec.ofChange varstoreOpenAgreesWrong)

/-- 'platformfwlaw41.VarstoreCallsAgree': WHATEVER THE INPUT: true; the input reads as it did. -/
def varstoreCallsAgreeSpec : ChangeSpec := { name := "varstoreCallsAgree", fn := fun _ => fun
  | [d1, d2] => { results := [.lit (.bool true)], args := [d1, d2] }
  | _ => none }
def varstoreCallsAgreeRow : OpenClaim := { program := "ytfglopkglnpokaagreat", sum := "3913e30d8cf87142f8844bf695820db60f674f2f0b1847ee4c0f96d7009c71aa", func := "platformfw/platformfwlaw41.VarstoreCallsAgree", spec := "varstoreCallsAgree", inPlace := ["internal/abi.NoEscape", "internal/bytealg.MakeNoZero", "maps.clone"], unfollowed := true, recurses := true, apart := false }
def VarstoreCallsAgreeSaid : Prop := varstoreCallsAgreeRow.holds Tryz.pinned (OpenSpec.ofChange varstoreCallsAgreeSpec)

/-- ITS FALSE NEIGHBOUR: 'it returns false'. Refute it at one input. -/
def varstoreCallsAgreeWrong : ChangeSpec := { name := "varstoreCallsAgree", fn := fun _ => fun
  | [d1, d2] => { results := [.lit (.bool false)], args := [d1, d2] }
  | _ => none }
def VarstoreCallsAgreeWrongFalsely : Prop := varstoreCallsAgreeRow.holds Tryz.pinned (OpenSpec.ofChange varstoreCallsAgreeWrong)

/-- 'platformfwlaw41.VarstoreArguments': WHATEVER THE INPUT: true; the input reads as it did. -/
def varstoreArgumentsSpec : ChangeSpec := { name := "varstoreArguments", fn := fun _ => fun
  | [d1, d2] => { results := [.lit (.bool true)], args := [d1, d2] }
  | _ => none }
def varstoreArgumentsRow : OpenClaim := { program := "ytfglopkglnpokaagreat", sum := "3913e30d8cf87142f8844bf695820db60f674f2f0b1847ee4c0f96d7009c71aa", func := "platformfw/platformfwlaw41.VarstoreArguments", spec := "varstoreArguments", inPlace := ["internal/abi.NoEscape", "internal/bytealg.MakeNoZero", "maps.clone"], unfollowed := true, recurses := true, apart := false }
def VarstoreArgumentsSaid : Prop := varstoreArgumentsRow.holds Tryz.pinned (OpenSpec.ofChange varstoreArgumentsSpec)

/-- ITS FALSE NEIGHBOUR: 'it returns false'. Refute it at one input. -/
def varstoreArgumentsWrong : ChangeSpec := { name := "varstoreArguments", fn := fun _ => fun
  | [d1, d2] => { results := [.lit (.bool false)], args := [d1, d2] }
  | _ => none }
def VarstoreArgumentsWrongFalsely : Prop := varstoreArgumentsRow.holds Tryz.pinned (OpenSpec.ofChange varstoreArgumentsWrong)

/-- 'platformfwlaw41.VarstoreContinuesAfterPowerLoss': WHATEVER THE INPUT: true; the input reads as it did. -/
def varstoreContinuesAfterPowerLossSpec : ChangeSpec := { name := "varstoreContinuesAfterPowerLoss", fn := fun _ => fun
  | [d1, d2, d3, d4, d5] => { results := [.lit (.bool true)], args := [d1, d2, d3, d4, d5] }
  | _ => none }
def varstoreContinuesAfterPowerLossRow : OpenClaim := { program := "ytfglopkglnpokaagreat", sum := "3913e30d8cf87142f8844bf695820db60f674f2f0b1847ee4c0f96d7009c71aa", func := "platformfw/platformfwlaw41.VarstoreContinuesAfterPowerLoss", spec := "varstoreContinuesAfterPowerLoss", inPlace := ["internal/abi.NoEscape", "internal/bytealg.MakeNoZero", "maps.clone"], unfollowed := true, recurses := true, apart := false }
def VarstoreContinuesAfterPowerLossSaid : Prop := varstoreContinuesAfterPowerLossRow.holds Tryz.pinned (OpenSpec.ofChange varstoreContinuesAfterPowerLossSpec)

/-- ITS FALSE NEIGHBOUR: 'it returns false'. Refute it at one input. -/
def varstoreContinuesAfterPowerLossWrong : ChangeSpec := { name := "varstoreContinuesAfterPowerLoss", fn := fun _ => fun
  | [d1, d2, d3, d4, d5] => { results := [.lit (.bool false)], args := [d1, d2, d3, d4, d5] }
  | _ => none }
def VarstoreContinuesAfterPowerLossWrongFalsely : Prop := varstoreContinuesAfterPowerLossRow.holds Tryz.pinned (OpenSpec.ofChange varstoreContinuesAfterPowerLossWrong)

/- THE SECOND FORM. 'bulk': how many values and letters a reading holds, each counted each time it is reached (what is shared counts as often as it is met; a slice's spare places count too). A statement '..UptoSaid' is the law's where the arguments, and the package variables that the reading takes, are together of bulk at most 1048576: NARROWER than '..Said'. Prove '..Said' where nothing that the law and all that it calls make is longer than what came in: it says more and counts as full. Else prove '..UptoSaid'. A law counts once. -/
mutual
def uptoBulk {H : Type} : DataW H → Nat
  | .lit (.string bytes) => bytes.length + 1
  | .lit _ => 1
  | .nil => 1
  | .ptr d => uptoBulk d + 1
  | .slice elems spare => uptoBulkAll elems + uptoBulkAll spare + 1
  | .agg parts => uptoBulkAll parts + 1
  | .iface _ d => uptoBulk d + 1
  | .map entries => uptoBulkEntries entries + 1
  | .held _ => 1
def uptoBulkAll {H : Type} : List (DataW H) → Nat
  | [] => 0
  | d :: r => uptoBulk d + uptoBulkAll r
def uptoBulkEntries {H : Type} : List (Lit × DataW H) → Nat
  | [] => 0
  | x :: r => uptoBulkEntry x + uptoBulkEntries r
def uptoBulkEntry {H : Type} : Lit × DataW H → Nat
  | (.string bytes, d) => bytes.length + uptoBulk d + 1
  | (_, d) => uptoBulk d + 1
 end
def uptoSmall : (H : Type) → List (DataW H) → Bool := fun _ ds => decide (uptoBulkAll ds ≤ 1048576)
def OpenSpec.upto (s : _root_.Go.ChangeSpec) : _root_.Go.OpenSpec := { _root_.Go.OpenSpec.ofChange s with cond := some uptoSmall }

/-- 'platformfwlaw41.VarstoreOpenAgrees', WHERE WHAT IT READS IS OF BULK AT MOST 1048576: true; the input reads as it did. -/
def varstoreOpenAgreesUptoRow : OpenClaim := { program := "ytfglopkglnpokaagreat", sum := "3913e30d8cf87142f8844bf695820db60f674f2f0b1847ee4c0f96d7009c71aa", func := "platformfw/platformfwlaw41.VarstoreOpenAgrees", spec := "varstoreOpenAgrees", inPlace := ["internal/abi.NoEscape", "internal/bytealg.MakeNoZero", "maps.clone"], unfollowed := true, recurses := true, apart := false, narrowed := true }
def VarstoreOpenAgreesUptoSaid : Prop := varstoreOpenAgreesUptoRow.holds Tryz.pinned (OpenSpec.upto varstoreOpenAgreesSpec)

/-- 'platformfwlaw41.VarstoreCallsAgree', WHERE WHAT IT READS IS OF BULK AT MOST 1048576: true; the input reads as it did. -/
def varstoreCallsAgreeUptoRow : OpenClaim := { program := "ytfglopkglnpokaagreat", sum := "3913e30d8cf87142f8844bf695820db60f674f2f0b1847ee4c0f96d7009c71aa", func := "platformfw/platformfwlaw41.VarstoreCallsAgree", spec := "varstoreCallsAgree", inPlace := ["internal/abi.NoEscape", "internal/bytealg.MakeNoZero", "maps.clone"], unfollowed := true, recurses := true, apart := false, narrowed := true }
def VarstoreCallsAgreeUptoSaid : Prop := varstoreCallsAgreeUptoRow.holds Tryz.pinned (OpenSpec.upto varstoreCallsAgreeSpec)

/-- 'platformfwlaw41.VarstoreArguments', WHERE WHAT IT READS IS OF BULK AT MOST 1048576: true; the input reads as it did. -/
def varstoreArgumentsUptoRow : OpenClaim := { program := "ytfglopkglnpokaagreat", sum := "3913e30d8cf87142f8844bf695820db60f674f2f0b1847ee4c0f96d7009c71aa", func := "platformfw/platformfwlaw41.VarstoreArguments", spec := "varstoreArguments", inPlace := ["internal/abi.NoEscape", "internal/bytealg.MakeNoZero", "maps.clone"], unfollowed := true, recurses := true, apart := false, narrowed := true }
def VarstoreArgumentsUptoSaid : Prop := varstoreArgumentsUptoRow.holds Tryz.pinned (OpenSpec.upto varstoreArgumentsSpec)

/-- 'platformfwlaw41.VarstoreContinuesAfterPowerLoss', WHERE WHAT IT READS IS OF BULK AT MOST 1048576: true; the input reads as it did. -/
def varstoreContinuesAfterPowerLossUptoRow : OpenClaim := { program := "ytfglopkglnpokaagreat", sum := "3913e30d8cf87142f8844bf695820db60f674f2f0b1847ee4c0f96d7009c71aa", func := "platformfw/platformfwlaw41.VarstoreContinuesAfterPowerLoss", spec := "varstoreContinuesAfterPowerLoss", inPlace := ["internal/abi.NoEscape", "internal/bytealg.MakeNoZero", "maps.clone"], unfollowed := true, recurses := true, apart := false, narrowed := true }
def VarstoreContinuesAfterPowerLossUptoSaid : Prop := varstoreContinuesAfterPowerLossUptoRow.holds Tryz.pinned (OpenSpec.upto varstoreContinuesAfterPowerLossSpec)

end Rows
end Go.Proofs.YtfglopkglnpokaaGreat
