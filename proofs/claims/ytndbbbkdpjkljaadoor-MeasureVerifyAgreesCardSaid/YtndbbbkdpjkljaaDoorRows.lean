/-
  NARROWER THAN 'FOR EVERY INPUT', by the rows' own cells (each row's printed sentence says how): MeasureSumAgrees: laid · MeasureMACAgrees: laid · MeasureLogAgrees: laid · MeasureReplayAgrees: laid · MeasureRegistersAreSeparate: laid · MeasureLogIsBounded: laid · MeasureExtendsPrefix: laid · MeasureReplays: laid · MeasureVerifyAgrees: laid · MeasureQuotes: laid.
  DERIVED. THE GIVEN ROWS OF THIS SEAT. 10 by the template 'for every input the law returns true; each argument reads behind the call as it read before'; 0 by the template 'total and deterministic' (their statements: YtndbbbkdpjkljaaDoorTotals.lean).
  GIVEN WITH THE SEED: the statements are not yours to turn. If you find one false, say at which input.
  Laid BY PROGRAM, IN A SANDBOX (cutbox-rows.mjs): the forced cells as the released guide's own fill.sh prints them over the translation 1a37b52ae452d0b5… (all of the seat's roots in one cut). By AI agents, Wed Nov 11 2026. No macro, syntax, notation, axiom, sorry.
-/
import Derived.Test.YtndbbbkdpjkljaaDoorChecked
import GoSem.Claim
import GoSem.ClaimJoined
import GoSem.ClaimMapViews
import Derived.JoinedTies
import Derived.KernelRfl
namespace Go.Proofs.YtndbbbkdpjkljaaDoor
/- THE CELL 'sum', in the pinned program and in every row, IS THE sha256 OF THE DUMP (.gsa) THAT YtndbbbkdpjkljaaDoorProg.lean LOADS. Nothing in Lean hashes anything: it is a label: what it is worth is what the hold of that sum in a sandbox is worth. -/
noncomputable def Tryd.pinned : Pinned := { name := "ytndbbbkdpjkljaadoor", sum := "1a37b52ae452d0b5999234f549b5cfdf4c8169afcaf84aed9de4d24a352b5cb4", checked := Tryd.checked }
namespace Rows
def none {H : Type} : Left H := { results := [], args := [] }

/- WHAT THE LISTED PACKAGE-LEVEL VARIABLES READ AS WHEN THE CALL BEGINS. Each datum BY PROGRAM (the guide's laid-datum.mjs) off the statement by which the dump's own 'gosem.cut.vars' lays the variable. In a bare row this is a premise. The card (YtndbbbkdpjkljaaDoorCards.lean) ties it to the program's text. -/
def laid_platformfw_measure_rounds {H : Type} : DataW H := .agg [.lit (.int .u32 1116352408), .lit (.int .u32 1899447441), .lit (.int .u32 3049323471), .lit (.int .u32 3921009573), .lit (.int .u32 961987163), .lit (.int .u32 1508970993), .lit (.int .u32 2453635748), .lit (.int .u32 2870763221), .lit (.int .u32 3624381080), .lit (.int .u32 310598401), .lit (.int .u32 607225278), .lit (.int .u32 1426881987), .lit (.int .u32 1925078388), .lit (.int .u32 2162078206), .lit (.int .u32 2614888103), .lit (.int .u32 3248222580), .lit (.int .u32 3835390401), .lit (.int .u32 4022224774), .lit (.int .u32 264347078), .lit (.int .u32 604807628), .lit (.int .u32 770255983), .lit (.int .u32 1249150122), .lit (.int .u32 1555081692), .lit (.int .u32 1996064986), .lit (.int .u32 2554220882), .lit (.int .u32 2821834349), .lit (.int .u32 2952996808), .lit (.int .u32 3210313671), .lit (.int .u32 3336571891), .lit (.int .u32 3584528711), .lit (.int .u32 113926993), .lit (.int .u32 338241895), .lit (.int .u32 666307205), .lit (.int .u32 773529912), .lit (.int .u32 1294757372), .lit (.int .u32 1396182291), .lit (.int .u32 1695183700), .lit (.int .u32 1986661051), .lit (.int .u32 2177026350), .lit (.int .u32 2456956037), .lit (.int .u32 2730485921), .lit (.int .u32 2820302411), .lit (.int .u32 3259730800), .lit (.int .u32 3345764771), .lit (.int .u32 3516065817), .lit (.int .u32 3600352804), .lit (.int .u32 4094571909), .lit (.int .u32 275423344), .lit (.int .u32 430227734), .lit (.int .u32 506948616), .lit (.int .u32 659060556), .lit (.int .u32 883997877), .lit (.int .u32 958139571), .lit (.int .u32 1322822218), .lit (.int .u32 1537002063), .lit (.int .u32 1747873779), .lit (.int .u32 1955562222), .lit (.int .u32 2024104815), .lit (.int .u32 2227730452), .lit (.int .u32 2361852424), .lit (.int .u32 2428436474), .lit (.int .u32 2756734187), .lit (.int .u32 3204031479), .lit (.int .u32 3329325298)]

/-- 'platformfwlaw42.MeasureSumAgrees': WHATEVER THE INPUT: true; the input reads as it did. -/
def measureSumAgreesSpec : ChangeSpec := { name := "measureSumAgrees", fn := fun _ => fun
  | [d1, d2, d3] => { results := [.lit (.bool true)], args := [d1, d2, d3] }
  | _ => none }
def measureSumAgreesRow : OpenClaim := { program := "ytndbbbkdpjkljaadoor", sum := "1a37b52ae452d0b5999234f549b5cfdf4c8169afcaf84aed9de4d24a352b5cb4", func := "platformfw/platformfwlaw42.MeasureSumAgrees", spec := "measureSumAgrees", named := ["platformfw/measure.rounds"], apart := false, laid := [("platformfw/measure.rounds", laid_platformfw_measure_rounds)] }
def MeasureSumAgreesSaid : Prop := measureSumAgreesRow.holds Tryd.pinned (OpenSpec.ofChange measureSumAgreesSpec)

/-- ITS FALSE NEIGHBOUR: 'it returns false'. Refute it at one input. -/
def measureSumAgreesWrong : ChangeSpec := { name := "measureSumAgrees", fn := fun _ => fun
  | [d1, d2, d3] => { results := [.lit (.bool false)], args := [d1, d2, d3] }
  | _ => none }
def MeasureSumAgreesWrongFalsely : Prop := measureSumAgreesRow.holds Tryd.pinned (OpenSpec.ofChange measureSumAgreesWrong)

/-- 'platformfwlaw42.MeasureMACAgrees': WHATEVER THE INPUT: true; the input reads as it did. -/
def measureMACAgreesSpec : ChangeSpec := { name := "measureMACAgrees", fn := fun _ => fun
  | [d1, d2, d3, d4] => { results := [.lit (.bool true)], args := [d1, d2, d3, d4] }
  | _ => none }
def measureMACAgreesRow : OpenClaim := { program := "ytndbbbkdpjkljaadoor", sum := "1a37b52ae452d0b5999234f549b5cfdf4c8169afcaf84aed9de4d24a352b5cb4", func := "platformfw/platformfwlaw42.MeasureMACAgrees", spec := "measureMACAgrees", named := ["platformfw/measure.rounds"], apart := false, laid := [("platformfw/measure.rounds", laid_platformfw_measure_rounds)] }
def MeasureMACAgreesSaid : Prop := measureMACAgreesRow.holds Tryd.pinned (OpenSpec.ofChange measureMACAgreesSpec)

/-- ITS FALSE NEIGHBOUR: 'it returns false'. Refute it at one input. -/
def measureMACAgreesWrong : ChangeSpec := { name := "measureMACAgrees", fn := fun _ => fun
  | [d1, d2, d3, d4] => { results := [.lit (.bool false)], args := [d1, d2, d3, d4] }
  | _ => none }
def MeasureMACAgreesWrongFalsely : Prop := measureMACAgreesRow.holds Tryd.pinned (OpenSpec.ofChange measureMACAgreesWrong)

/-- 'platformfwlaw42.MeasureLogAgrees': WHATEVER THE INPUT: true; the input reads as it did. -/
def measureLogAgreesSpec : ChangeSpec := { name := "measureLogAgrees", fn := fun _ => fun
  | [d] => { results := [.lit (.bool true)], args := [d] }
  | _ => none }
def measureLogAgreesRow : OpenClaim := { program := "ytndbbbkdpjkljaadoor", sum := "1a37b52ae452d0b5999234f549b5cfdf4c8169afcaf84aed9de4d24a352b5cb4", func := "platformfw/platformfwlaw42.MeasureLogAgrees", spec := "measureLogAgrees", named := ["platformfw/measure.rounds"], apart := false, laid := [("platformfw/measure.rounds", laid_platformfw_measure_rounds)] }
def MeasureLogAgreesSaid : Prop := measureLogAgreesRow.holds Tryd.pinned (OpenSpec.ofChange measureLogAgreesSpec)

/-- ITS FALSE NEIGHBOUR: 'it returns false'. Refute it at one input. -/
def measureLogAgreesWrong : ChangeSpec := { name := "measureLogAgrees", fn := fun _ => fun
  | [d] => { results := [.lit (.bool false)], args := [d] }
  | _ => none }
def MeasureLogAgreesWrongFalsely : Prop := measureLogAgreesRow.holds Tryd.pinned (OpenSpec.ofChange measureLogAgreesWrong)

/-- 'platformfwlaw42.MeasureReplayAgrees': WHATEVER THE INPUT: true; the input reads as it did. -/
def measureReplayAgreesSpec : ChangeSpec := { name := "measureReplayAgrees", fn := fun _ => fun
  | [d1, d2, d3, d4] => { results := [.lit (.bool true)], args := [d1, d2, d3, d4] }
  | _ => none }
def measureReplayAgreesRow : OpenClaim := { program := "ytndbbbkdpjkljaadoor", sum := "1a37b52ae452d0b5999234f549b5cfdf4c8169afcaf84aed9de4d24a352b5cb4", func := "platformfw/platformfwlaw42.MeasureReplayAgrees", spec := "measureReplayAgrees", named := ["platformfw/measure.rounds"], apart := false, laid := [("platformfw/measure.rounds", laid_platformfw_measure_rounds)] }
def MeasureReplayAgreesSaid : Prop := measureReplayAgreesRow.holds Tryd.pinned (OpenSpec.ofChange measureReplayAgreesSpec)

/-- ITS FALSE NEIGHBOUR: 'it returns false'. Refute it at one input. -/
def measureReplayAgreesWrong : ChangeSpec := { name := "measureReplayAgrees", fn := fun _ => fun
  | [d1, d2, d3, d4] => { results := [.lit (.bool false)], args := [d1, d2, d3, d4] }
  | _ => none }
def MeasureReplayAgreesWrongFalsely : Prop := measureReplayAgreesRow.holds Tryd.pinned (OpenSpec.ofChange measureReplayAgreesWrong)

/-- 'platformfwlaw42.MeasureRegistersAreSeparate': WHATEVER THE INPUT: true; the input reads as it did. -/
def measureRegistersAreSeparateSpec : ChangeSpec := { name := "measureRegistersAreSeparate", fn := fun _ => fun
  | [d] => { results := [.lit (.bool true)], args := [d] }
  | _ => none }
def measureRegistersAreSeparateRow : OpenClaim := { program := "ytndbbbkdpjkljaadoor", sum := "1a37b52ae452d0b5999234f549b5cfdf4c8169afcaf84aed9de4d24a352b5cb4", func := "platformfw/platformfwlaw42.MeasureRegistersAreSeparate", spec := "measureRegistersAreSeparate", named := ["platformfw/measure.rounds"], apart := false, laid := [("platformfw/measure.rounds", laid_platformfw_measure_rounds)] }
def MeasureRegistersAreSeparateSaid : Prop := measureRegistersAreSeparateRow.holds Tryd.pinned (OpenSpec.ofChange measureRegistersAreSeparateSpec)

/-- ITS FALSE NEIGHBOUR: 'it returns false'. Refute it at one input. -/
def measureRegistersAreSeparateWrong : ChangeSpec := { name := "measureRegistersAreSeparate", fn := fun _ => fun
  | [d] => { results := [.lit (.bool false)], args := [d] }
  | _ => none }
def MeasureRegistersAreSeparateWrongFalsely : Prop := measureRegistersAreSeparateRow.holds Tryd.pinned (OpenSpec.ofChange measureRegistersAreSeparateWrong)

/-- 'platformfwlaw42.MeasureLogIsBounded': WHATEVER THE INPUT: true; the input reads as it did. -/
def measureLogIsBoundedSpec : ChangeSpec := { name := "measureLogIsBounded", fn := fun _ => fun
  | [d] => { results := [.lit (.bool true)], args := [d] }
  | _ => none }
def measureLogIsBoundedRow : OpenClaim := { program := "ytndbbbkdpjkljaadoor", sum := "1a37b52ae452d0b5999234f549b5cfdf4c8169afcaf84aed9de4d24a352b5cb4", func := "platformfw/platformfwlaw42.MeasureLogIsBounded", spec := "measureLogIsBounded", named := ["platformfw/measure.rounds"], apart := false, laid := [("platformfw/measure.rounds", laid_platformfw_measure_rounds)] }
def MeasureLogIsBoundedSaid : Prop := measureLogIsBoundedRow.holds Tryd.pinned (OpenSpec.ofChange measureLogIsBoundedSpec)

/-- ITS FALSE NEIGHBOUR: 'it returns false'. Refute it at one input. -/
def measureLogIsBoundedWrong : ChangeSpec := { name := "measureLogIsBounded", fn := fun _ => fun
  | [d] => { results := [.lit (.bool false)], args := [d] }
  | _ => none }
def MeasureLogIsBoundedWrongFalsely : Prop := measureLogIsBoundedRow.holds Tryd.pinned (OpenSpec.ofChange measureLogIsBoundedWrong)

/-- 'platformfwlaw42.MeasureExtendsPrefix': WHATEVER THE INPUT: true; the input reads as it did. -/
def measureExtendsPrefixSpec : ChangeSpec := { name := "measureExtendsPrefix", fn := fun _ => fun
  | [d1, d2] => { results := [.lit (.bool true)], args := [d1, d2] }
  | _ => none }
def measureExtendsPrefixRow : OpenClaim := { program := "ytndbbbkdpjkljaadoor", sum := "1a37b52ae452d0b5999234f549b5cfdf4c8169afcaf84aed9de4d24a352b5cb4", func := "platformfw/platformfwlaw42.MeasureExtendsPrefix", spec := "measureExtendsPrefix", named := ["platformfw/measure.rounds"], apart := false, laid := [("platformfw/measure.rounds", laid_platformfw_measure_rounds)] }
def MeasureExtendsPrefixSaid : Prop := measureExtendsPrefixRow.holds Tryd.pinned (OpenSpec.ofChange measureExtendsPrefixSpec)

/-- ITS FALSE NEIGHBOUR: 'it returns false'. Refute it at one input. -/
def measureExtendsPrefixWrong : ChangeSpec := { name := "measureExtendsPrefix", fn := fun _ => fun
  | [d1, d2] => { results := [.lit (.bool false)], args := [d1, d2] }
  | _ => none }
def MeasureExtendsPrefixWrongFalsely : Prop := measureExtendsPrefixRow.holds Tryd.pinned (OpenSpec.ofChange measureExtendsPrefixWrong)

/-- 'platformfwlaw42.MeasureReplays': WHATEVER THE INPUT: true; the input reads as it did. -/
def measureReplaysSpec : ChangeSpec := { name := "measureReplays", fn := fun _ => fun
  | [d1, d2] => { results := [.lit (.bool true)], args := [d1, d2] }
  | _ => none }
def measureReplaysRow : OpenClaim := { program := "ytndbbbkdpjkljaadoor", sum := "1a37b52ae452d0b5999234f549b5cfdf4c8169afcaf84aed9de4d24a352b5cb4", func := "platformfw/platformfwlaw42.MeasureReplays", spec := "measureReplays", named := ["platformfw/measure.rounds"], apart := false, laid := [("platformfw/measure.rounds", laid_platformfw_measure_rounds)] }
def MeasureReplaysSaid : Prop := measureReplaysRow.holds Tryd.pinned (OpenSpec.ofChange measureReplaysSpec)

/-- ITS FALSE NEIGHBOUR: 'it returns false'. Refute it at one input. -/
def measureReplaysWrong : ChangeSpec := { name := "measureReplays", fn := fun _ => fun
  | [d1, d2] => { results := [.lit (.bool false)], args := [d1, d2] }
  | _ => none }
def MeasureReplaysWrongFalsely : Prop := measureReplaysRow.holds Tryd.pinned (OpenSpec.ofChange measureReplaysWrong)

/-- 'platformfwlaw42.MeasureVerifyAgrees': WHATEVER THE INPUT: true; the input reads as it did. -/
def measureVerifyAgreesSpec : ChangeSpec := { name := "measureVerifyAgrees", fn := fun _ => fun
  | [d1, d2, d3, d4, d5, d6, d7] => { results := [.lit (.bool true)], args := [d1, d2, d3, d4, d5, d6, d7] }
  | _ => none }
def measureVerifyAgreesRow : OpenClaim := { program := "ytndbbbkdpjkljaadoor", sum := "1a37b52ae452d0b5999234f549b5cfdf4c8169afcaf84aed9de4d24a352b5cb4", func := "platformfw/platformfwlaw42.MeasureVerifyAgrees", spec := "measureVerifyAgrees", named := ["platformfw/measure.rounds"], apart := false, laid := [("platformfw/measure.rounds", laid_platformfw_measure_rounds)] }
def MeasureVerifyAgreesSaid : Prop := measureVerifyAgreesRow.holds Tryd.pinned (OpenSpec.ofChange measureVerifyAgreesSpec)

/-- ITS FALSE NEIGHBOUR: 'it returns false'. Refute it at one input. -/
def measureVerifyAgreesWrong : ChangeSpec := { name := "measureVerifyAgrees", fn := fun _ => fun
  | [d1, d2, d3, d4, d5, d6, d7] => { results := [.lit (.bool false)], args := [d1, d2, d3, d4, d5, d6, d7] }
  | _ => none }
def MeasureVerifyAgreesWrongFalsely : Prop := measureVerifyAgreesRow.holds Tryd.pinned (OpenSpec.ofChange measureVerifyAgreesWrong)

/-- 'platformfwlaw42.MeasureQuotes': WHATEVER THE INPUT: true; the input reads as it did. -/
def measureQuotesSpec : ChangeSpec := { name := "measureQuotes", fn := fun _ => fun
  | [d1, d2, d3, d4] => { results := [.lit (.bool true)], args := [d1, d2, d3, d4] }
  | _ => none }
def measureQuotesRow : OpenClaim := { program := "ytndbbbkdpjkljaadoor", sum := "1a37b52ae452d0b5999234f549b5cfdf4c8169afcaf84aed9de4d24a352b5cb4", func := "platformfw/platformfwlaw42.MeasureQuotes", spec := "measureQuotes", named := ["platformfw/measure.rounds"], apart := false, laid := [("platformfw/measure.rounds", laid_platformfw_measure_rounds)] }
def MeasureQuotesSaid : Prop := measureQuotesRow.holds Tryd.pinned (OpenSpec.ofChange measureQuotesSpec)

/-- ITS FALSE NEIGHBOUR: 'it returns false'. Refute it at one input. -/
def measureQuotesWrong : ChangeSpec := { name := "measureQuotes", fn := fun _ => fun
  | [d1, d2, d3, d4] => { results := [.lit (.bool false)], args := [d1, d2, d3, d4] }
  | _ => none }
def MeasureQuotesWrongFalsely : Prop := measureQuotesRow.holds Tryd.pinned (OpenSpec.ofChange measureQuotesWrong)

/- THE SECOND FORM. 'bulk': how many values and letters a reading holds, each counted each time it is reached (what is shared counts as often as it is met; a slice's spare places count too). A statement '..UptoSaid' is the law's where the arguments, and the package variables that the reading takes, are together of bulk at most 1048576: NARROWER than '..Said'. Prove '..Said' where nothing that the law and all that it calls make is longer than what came in: it says more and counts as full. Else prove '..UptoSaid'. A law counts once. -/
mutual
def uptoBulk {H : Type} : DataW H → Nat
  | .lit (.string bytes) => bytes.length + 1
  | .lit _ => 1
  | .nil => 1
  | .ptr d => uptoBulk d + 1
  | .slice elems spare => uptoBulkAll elems + uptoBulkAll spare + 1
  | .agg parts => uptoBulkAll parts + 1
  | .iface _ d => uptoBulk d + 1
  | .map entries => uptoBulkEntries entries + 1
  | .held _ => 1
def uptoBulkAll {H : Type} : List (DataW H) → Nat
  | [] => 0
  | d :: r => uptoBulk d + uptoBulkAll r
def uptoBulkEntries {H : Type} : List (Lit × DataW H) → Nat
  | [] => 0
  | x :: r => uptoBulkEntry x + uptoBulkEntries r
def uptoBulkEntry {H : Type} : Lit × DataW H → Nat
  | (.string bytes, d) => bytes.length + uptoBulk d + 1
  | (_, d) => uptoBulk d + 1
 end
def uptoSmall : (H : Type) → List (DataW H) → Bool := fun _ ds => decide (uptoBulkAll ds ≤ 1048576)
def OpenSpec.upto (s : _root_.Go.ChangeSpec) : _root_.Go.OpenSpec := { _root_.Go.OpenSpec.ofChange s with cond := some uptoSmall }

/-- 'platformfwlaw42.MeasureSumAgrees', WHERE WHAT IT READS IS OF BULK AT MOST 1048576: true; the input reads as it did. -/
def measureSumAgreesUptoRow : OpenClaim := { program := "ytndbbbkdpjkljaadoor", sum := "1a37b52ae452d0b5999234f549b5cfdf4c8169afcaf84aed9de4d24a352b5cb4", func := "platformfw/platformfwlaw42.MeasureSumAgrees", spec := "measureSumAgrees", named := ["platformfw/measure.rounds"], apart := false, laid := [("platformfw/measure.rounds", laid_platformfw_measure_rounds)], narrowed := true }
def MeasureSumAgreesUptoSaid : Prop := measureSumAgreesUptoRow.holds Tryd.pinned (OpenSpec.upto measureSumAgreesSpec)

/-- 'platformfwlaw42.MeasureMACAgrees', WHERE WHAT IT READS IS OF BULK AT MOST 1048576: true; the input reads as it did. -/
def measureMACAgreesUptoRow : OpenClaim := { program := "ytndbbbkdpjkljaadoor", sum := "1a37b52ae452d0b5999234f549b5cfdf4c8169afcaf84aed9de4d24a352b5cb4", func := "platformfw/platformfwlaw42.MeasureMACAgrees", spec := "measureMACAgrees", named := ["platformfw/measure.rounds"], apart := false, laid := [("platformfw/measure.rounds", laid_platformfw_measure_rounds)], narrowed := true }
def MeasureMACAgreesUptoSaid : Prop := measureMACAgreesUptoRow.holds Tryd.pinned (OpenSpec.upto measureMACAgreesSpec)

/-- 'platformfwlaw42.MeasureLogAgrees', WHERE WHAT IT READS IS OF BULK AT MOST 1048576: true; the input reads as it did. -/
def measureLogAgreesUptoRow : OpenClaim := { program := "ytndbbbkdpjkljaadoor", sum := "1a37b52ae452d0b5999234f549b5cfdf4c8169afcaf84aed9de4d24a352b5cb4", func := "platformfw/platformfwlaw42.MeasureLogAgrees", spec := "measureLogAgrees", named := ["platformfw/measure.rounds"], apart := false, laid := [("platformfw/measure.rounds", laid_platformfw_measure_rounds)], narrowed := true }
def MeasureLogAgreesUptoSaid : Prop := measureLogAgreesUptoRow.holds Tryd.pinned (OpenSpec.upto measureLogAgreesSpec)

/-- 'platformfwlaw42.MeasureReplayAgrees', WHERE WHAT IT READS IS OF BULK AT MOST 1048576: true; the input reads as it did. -/
def measureReplayAgreesUptoRow : OpenClaim := { program := "ytndbbbkdpjkljaadoor", sum := "1a37b52ae452d0b5999234f549b5cfdf4c8169afcaf84aed9de4d24a352b5cb4", func := "platformfw/platformfwlaw42.MeasureReplayAgrees", spec := "measureReplayAgrees", named := ["platformfw/measure.rounds"], apart := false, laid := [("platformfw/measure.rounds", laid_platformfw_measure_rounds)], narrowed := true }
def MeasureReplayAgreesUptoSaid : Prop := measureReplayAgreesUptoRow.holds Tryd.pinned (OpenSpec.upto measureReplayAgreesSpec)

/-- 'platformfwlaw42.MeasureRegistersAreSeparate', WHERE WHAT IT READS IS OF BULK AT MOST 1048576: true; the input reads as it did. -/
def measureRegistersAreSeparateUptoRow : OpenClaim := { program := "ytndbbbkdpjkljaadoor", sum := "1a37b52ae452d0b5999234f549b5cfdf4c8169afcaf84aed9de4d24a352b5cb4", func := "platformfw/platformfwlaw42.MeasureRegistersAreSeparate", spec := "measureRegistersAreSeparate", named := ["platformfw/measure.rounds"], apart := false, laid := [("platformfw/measure.rounds", laid_platformfw_measure_rounds)], narrowed := true }
def MeasureRegistersAreSeparateUptoSaid : Prop := measureRegistersAreSeparateUptoRow.holds Tryd.pinned (OpenSpec.upto measureRegistersAreSeparateSpec)

/-- 'platformfwlaw42.MeasureLogIsBounded', WHERE WHAT IT READS IS OF BULK AT MOST 1048576: true; the input reads as it did. -/
def measureLogIsBoundedUptoRow : OpenClaim := { program := "ytndbbbkdpjkljaadoor", sum := "1a37b52ae452d0b5999234f549b5cfdf4c8169afcaf84aed9de4d24a352b5cb4", func := "platformfw/platformfwlaw42.MeasureLogIsBounded", spec := "measureLogIsBounded", named := ["platformfw/measure.rounds"], apart := false, laid := [("platformfw/measure.rounds", laid_platformfw_measure_rounds)], narrowed := true }
def MeasureLogIsBoundedUptoSaid : Prop := measureLogIsBoundedUptoRow.holds Tryd.pinned (OpenSpec.upto measureLogIsBoundedSpec)

/-- 'platformfwlaw42.MeasureExtendsPrefix', WHERE WHAT IT READS IS OF BULK AT MOST 1048576: true; the input reads as it did. -/
def measureExtendsPrefixUptoRow : OpenClaim := { program := "ytndbbbkdpjkljaadoor", sum := "1a37b52ae452d0b5999234f549b5cfdf4c8169afcaf84aed9de4d24a352b5cb4", func := "platformfw/platformfwlaw42.MeasureExtendsPrefix", spec := "measureExtendsPrefix", named := ["platformfw/measure.rounds"], apart := false, laid := [("platformfw/measure.rounds", laid_platformfw_measure_rounds)], narrowed := true }
def MeasureExtendsPrefixUptoSaid : Prop := measureExtendsPrefixUptoRow.holds Tryd.pinned (OpenSpec.upto measureExtendsPrefixSpec)

/-- 'platformfwlaw42.MeasureReplays', WHERE WHAT IT READS IS OF BULK AT MOST 1048576: true; the input reads as it did. -/
def measureReplaysUptoRow : OpenClaim := { program := "ytndbbbkdpjkljaadoor", sum := "1a37b52ae452d0b5999234f549b5cfdf4c8169afcaf84aed9de4d24a352b5cb4", func := "platformfw/platformfwlaw42.MeasureReplays", spec := "measureReplays", named := ["platformfw/measure.rounds"], apart := false, laid := [("platformfw/measure.rounds", laid_platformfw_measure_rounds)], narrowed := true }
def MeasureReplaysUptoSaid : Prop := measureReplaysUptoRow.holds Tryd.pinned (OpenSpec.upto measureReplaysSpec)

/-- 'platformfwlaw42.MeasureVerifyAgrees', WHERE WHAT IT READS IS OF BULK AT MOST 1048576: true; the input reads as it did. -/
def measureVerifyAgreesUptoRow : OpenClaim := { program := "ytndbbbkdpjkljaadoor", sum := "1a37b52ae452d0b5999234f549b5cfdf4c8169afcaf84aed9de4d24a352b5cb4", func := "platformfw/platformfwlaw42.MeasureVerifyAgrees", spec := "measureVerifyAgrees", named := ["platformfw/measure.rounds"], apart := false, laid := [("platformfw/measure.rounds", laid_platformfw_measure_rounds)], narrowed := true }
def MeasureVerifyAgreesUptoSaid : Prop := measureVerifyAgreesUptoRow.holds Tryd.pinned (OpenSpec.upto measureVerifyAgreesSpec)

/-- 'platformfwlaw42.MeasureQuotes', WHERE WHAT IT READS IS OF BULK AT MOST 1048576: true; the input reads as it did. -/
def measureQuotesUptoRow : OpenClaim := { program := "ytndbbbkdpjkljaadoor", sum := "1a37b52ae452d0b5999234f549b5cfdf4c8169afcaf84aed9de4d24a352b5cb4", func := "platformfw/platformfwlaw42.MeasureQuotes", spec := "measureQuotes", named := ["platformfw/measure.rounds"], apart := false, laid := [("platformfw/measure.rounds", laid_platformfw_measure_rounds)], narrowed := true }
def MeasureQuotesUptoSaid : Prop := measureQuotesUptoRow.holds Tryd.pinned (OpenSpec.upto measureQuotesSpec)

end Rows
end Go.Proofs.YtndbbbkdpjkljaaDoor
