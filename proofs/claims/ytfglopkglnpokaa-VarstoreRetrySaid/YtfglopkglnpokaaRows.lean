/-
  No cell of these rows narrows 'for every input' (looked for: loops, veiled, ifaces, maps, wideKeys, modest, calm, conditions, laid).
  DERIVED. THE GIVEN ROWS OF THIS SEAT. 6 by the template 'for every input the law returns true; each argument reads behind the call as it read before'; 0 by the template 'total and deterministic' (their statements: YtfglopkglnpokaaTotals.lean).
  GIVEN WITH THE SEED: the statements are not yours to turn. If you find one false, say at which input.
  Laid BY PROGRAM, IN A SANDBOX (cutbox-rows.mjs): the forced cells as the released guide's own fill.sh prints them over the translation cb512dff4506ca95… (all of the seat's roots in one cut). By AI agents, Wed Nov 11 2026. No macro, syntax, notation, axiom, sorry.
-/
import Derived.Test.YtfglopkglnpokaaChecked
import GoSem.Claim
import GoSem.ClaimJoined
import GoSem.ClaimMapViews
import Derived.JoinedTies
import Derived.KernelRfl
namespace Go.Proofs.Ytfglopkglnpokaa
/- THE CELL 'sum', in the pinned program and in every row, IS THE sha256 OF THE DUMP (.gsa) THAT YtfglopkglnpokaaProg.lean LOADS. Nothing in Lean hashes anything: it is a label: what it is worth is what the hold of that sum in a sandbox is worth. -/
noncomputable def Try.pinned : Pinned := { name := "ytfglopkglnpokaa", sum := "cb512dff4506ca9581c70c0da926cd64a6cfe60f0114b8c56680f597d9198947", checked := Try.checked }
namespace Rows
def none {H : Type} : Left H := { results := [], args := [] }

/-- 'platformfwlaw41.VarstoreWearIsLevel': WHATEVER THE INPUT: true; the input reads as it did. -/
def varstoreWearIsLevelSpec : ChangeSpec := { name := "varstoreWearIsLevel", fn := fun _ => fun
  | [d1, d2] => { results := [.lit (.bool true)], args := [d1, d2] }
  | _ => none }
def varstoreWearIsLevelRow : OpenClaim := { program := "ytfglopkglnpokaa", sum := "cb512dff4506ca9581c70c0da926cd64a6cfe60f0114b8c56680f597d9198947", func := "platformfw/platformfwlaw41.VarstoreWearIsLevel", spec := "varstoreWearIsLevel", inPlace := ["internal/abi.NoEscape", "internal/bytealg.MakeNoZero", "maps.clone"], unfollowed := true, recurses := true, apart := false }
def VarstoreWearIsLevelSaid : Prop := varstoreWearIsLevelRow.holds Try.pinned (OpenSpec.ofChange varstoreWearIsLevelSpec)

/-- ITS FALSE NEIGHBOUR: 'it returns false'. Refute it at one input. -/
def varstoreWearIsLevelWrong : ChangeSpec := { name := "varstoreWearIsLevel", fn := fun _ => fun
  | [d1, d2] => { results := [.lit (.bool false)], args := [d1, d2] }
  | _ => none }
def VarstoreWearIsLevelWrongFalsely : Prop := varstoreWearIsLevelRow.holds Try.pinned (OpenSpec.ofChange varstoreWearIsLevelWrong)

/-- 'platformfwlaw41.VarstoreActsLikeMap': WHATEVER THE INPUT: true; the input reads as it did. -/
def varstoreActsLikeMapSpec : ChangeSpec := { name := "varstoreActsLikeMap", fn := fun _ => fun
  | [d1, d2] => { results := [.lit (.bool true)], args := [d1, d2] }
  | _ => none }
def varstoreActsLikeMapRow : OpenClaim := { program := "ytfglopkglnpokaa", sum := "cb512dff4506ca9581c70c0da926cd64a6cfe60f0114b8c56680f597d9198947", func := "platformfw/platformfwlaw41.VarstoreActsLikeMap", spec := "varstoreActsLikeMap", inPlace := ["internal/abi.NoEscape", "internal/bytealg.MakeNoZero", "maps.clone"], unfollowed := true, recurses := true, apart := false }
def VarstoreActsLikeMapSaid : Prop := varstoreActsLikeMapRow.holds Try.pinned (OpenSpec.ofChange varstoreActsLikeMapSpec)

/-- ITS FALSE NEIGHBOUR: 'it returns false'. Refute it at one input. -/
def varstoreActsLikeMapWrong : ChangeSpec := { name := "varstoreActsLikeMap", fn := fun _ => fun
  | [d1, d2] => { results := [.lit (.bool false)], args := [d1, d2] }
  | _ => none }
def VarstoreActsLikeMapWrongFalsely : Prop := varstoreActsLikeMapRow.holds Try.pinned (OpenSpec.ofChange varstoreActsLikeMapWrong)

/-- 'platformfwlaw41.VarstoreCapacity': WHATEVER THE INPUT: true; the input reads as it did. -/
def varstoreCapacitySpec : ChangeSpec := { name := "varstoreCapacity", fn := fun _ => fun
  | [d1, d2] => { results := [.lit (.bool true)], args := [d1, d2] }
  | _ => none }
def varstoreCapacityRow : OpenClaim := { program := "ytfglopkglnpokaa", sum := "cb512dff4506ca9581c70c0da926cd64a6cfe60f0114b8c56680f597d9198947", func := "platformfw/platformfwlaw41.VarstoreCapacity", spec := "varstoreCapacity", inPlace := ["internal/abi.NoEscape", "internal/bytealg.MakeNoZero", "maps.clone"], unfollowed := true, recurses := true, apart := false }
def VarstoreCapacitySaid : Prop := varstoreCapacityRow.holds Try.pinned (OpenSpec.ofChange varstoreCapacitySpec)

/-- ITS FALSE NEIGHBOUR: 'it returns false'. Refute it at one input. -/
def varstoreCapacityWrong : ChangeSpec := { name := "varstoreCapacity", fn := fun _ => fun
  | [d1, d2] => { results := [.lit (.bool false)], args := [d1, d2] }
  | _ => none }
def VarstoreCapacityWrongFalsely : Prop := varstoreCapacityRow.holds Try.pinned (OpenSpec.ofChange varstoreCapacityWrong)

/-- 'platformfwlaw41.VarstorePowerLossIsAtomic': WHATEVER THE INPUT: true; the input reads as it did. -/
def varstorePowerLossIsAtomicSpec : ChangeSpec := { name := "varstorePowerLossIsAtomic", fn := fun _ => fun
  | [d1, d2, d3, d4, d5] => { results := [.lit (.bool true)], args := [d1, d2, d3, d4, d5] }
  | _ => none }
def varstorePowerLossIsAtomicRow : OpenClaim := { program := "ytfglopkglnpokaa", sum := "cb512dff4506ca9581c70c0da926cd64a6cfe60f0114b8c56680f597d9198947", func := "platformfw/platformfwlaw41.VarstorePowerLossIsAtomic", spec := "varstorePowerLossIsAtomic", inPlace := ["internal/abi.NoEscape", "internal/bytealg.MakeNoZero", "maps.clone"], unfollowed := true, recurses := true, apart := false }
def VarstorePowerLossIsAtomicSaid : Prop := varstorePowerLossIsAtomicRow.holds Try.pinned (OpenSpec.ofChange varstorePowerLossIsAtomicSpec)

/-- ITS FALSE NEIGHBOUR: 'it returns false'. Refute it at one input. -/
def varstorePowerLossIsAtomicWrong : ChangeSpec := { name := "varstorePowerLossIsAtomic", fn := fun _ => fun
  | [d1, d2, d3, d4, d5] => { results := [.lit (.bool false)], args := [d1, d2, d3, d4, d5] }
  | _ => none }
def VarstorePowerLossIsAtomicWrongFalsely : Prop := varstorePowerLossIsAtomicRow.holds Try.pinned (OpenSpec.ofChange varstorePowerLossIsAtomicWrong)

/-- 'platformfwlaw41.VarstoreReopens': WHATEVER THE INPUT: true; the input reads as it did. -/
def varstoreReopensSpec : ChangeSpec := { name := "varstoreReopens", fn := fun _ => fun
  | [d1, d2, d3] => { results := [.lit (.bool true)], args := [d1, d2, d3] }
  | _ => none }
def varstoreReopensRow : OpenClaim := { program := "ytfglopkglnpokaa", sum := "cb512dff4506ca9581c70c0da926cd64a6cfe60f0114b8c56680f597d9198947", func := "platformfw/platformfwlaw41.VarstoreReopens", spec := "varstoreReopens", inPlace := ["internal/abi.NoEscape", "internal/bytealg.MakeNoZero", "maps.clone"], unfollowed := true, recurses := true, apart := false }
def VarstoreReopensSaid : Prop := varstoreReopensRow.holds Try.pinned (OpenSpec.ofChange varstoreReopensSpec)

/-- ITS FALSE NEIGHBOUR: 'it returns false'. Refute it at one input. -/
def varstoreReopensWrong : ChangeSpec := { name := "varstoreReopens", fn := fun _ => fun
  | [d1, d2, d3] => { results := [.lit (.bool false)], args := [d1, d2, d3] }
  | _ => none }
def VarstoreReopensWrongFalsely : Prop := varstoreReopensRow.holds Try.pinned (OpenSpec.ofChange varstoreReopensWrong)

/-- 'platformfwlaw41.VarstoreRetry': WHATEVER THE INPUT: true; the input reads as it did. -/
def varstoreRetrySpec : ChangeSpec := { name := "varstoreRetry", fn := fun _ => fun
  | [d1, d2, d3, d4, d5] => { results := [.lit (.bool true)], args := [d1, d2, d3, d4, d5] }
  | _ => none }
def varstoreRetryRow : OpenClaim := { program := "ytfglopkglnpokaa", sum := "cb512dff4506ca9581c70c0da926cd64a6cfe60f0114b8c56680f597d9198947", func := "platformfw/platformfwlaw41.VarstoreRetry", spec := "varstoreRetry", inPlace := ["internal/abi.NoEscape", "internal/bytealg.MakeNoZero", "maps.clone"], unfollowed := true, recurses := true, apart := false }
def VarstoreRetrySaid : Prop := varstoreRetryRow.holds Try.pinned (OpenSpec.ofChange varstoreRetrySpec)

/-- ITS FALSE NEIGHBOUR: 'it returns false'. Refute it at one input. -/
def varstoreRetryWrong : ChangeSpec := { name := "varstoreRetry", fn := fun _ => fun
  | [d1, d2, d3, d4, d5] => { results := [.lit (.bool false)], args := [d1, d2, d3, d4, d5] }
  | _ => none }
def VarstoreRetryWrongFalsely : Prop := varstoreRetryRow.holds Try.pinned (OpenSpec.ofChange varstoreRetryWrong)

/- THE SECOND FORM. 'bulk': how many values and letters a reading holds, each counted each time it is reached (what is shared counts as often as it is met; a slice's spare places count too). A statement '..UptoSaid' is the law's where the arguments, and the package variables that the reading takes, are together of bulk at most 1048576: NARROWER than '..Said'. Prove '..Said' where nothing that the law and all that it calls make is longer than what came in: it says more and counts as full. Else prove '..UptoSaid'. A law counts once. -/
mutual
def uptoBulk {H : Type} : DataW H → Nat
  | .lit (.string bytes) => bytes.length + 1
  | .lit _ => 1
  | .nil => 1
  | .ptr d => uptoBulk d + 1
  | .slice elems spare => uptoBulkAll elems + uptoBulkAll spare + 1
  | .agg parts => uptoBulkAll parts + 1
  | .iface _ d => uptoBulk d + 1
  | .map entries => uptoBulkEntries entries + 1
  | .held _ => 1
def uptoBulkAll {H : Type} : List (DataW H) → Nat
  | [] => 0
  | d :: r => uptoBulk d + uptoBulkAll r
def uptoBulkEntries {H : Type} : List (Lit × DataW H) → Nat
  | [] => 0
  | x :: r => uptoBulkEntry x + uptoBulkEntries r
def uptoBulkEntry {H : Type} : Lit × DataW H → Nat
  | (.string bytes, d) => bytes.length + uptoBulk d + 1
  | (_, d) => uptoBulk d + 1
 end
def uptoSmall : (H : Type) → List (DataW H) → Bool := fun _ ds => decide (uptoBulkAll ds ≤ 1048576)
def OpenSpec.upto (s : _root_.Go.ChangeSpec) : _root_.Go.OpenSpec := { _root_.Go.OpenSpec.ofChange s with cond := some uptoSmall }

/-- 'platformfwlaw41.VarstoreWearIsLevel', WHERE WHAT IT READS IS OF BULK AT MOST 1048576: true; the input reads as it did. -/
def varstoreWearIsLevelUptoRow : OpenClaim := { program := "ytfglopkglnpokaa", sum := "cb512dff4506ca9581c70c0da926cd64a6cfe60f0114b8c56680f597d9198947", func := "platformfw/platformfwlaw41.VarstoreWearIsLevel", spec := "varstoreWearIsLevel", inPlace := ["internal/abi.NoEscape", "internal/bytealg.MakeNoZero", "maps.clone"], unfollowed := true, recurses := true, apart := false, narrowed := true }
def VarstoreWearIsLevelUptoSaid : Prop := varstoreWearIsLevelUptoRow.holds Try.pinned (OpenSpec.upto varstoreWearIsLevelSpec)

/-- 'platformfwlaw41.VarstoreActsLikeMap', WHERE WHAT IT READS IS OF BULK AT MOST 1048576: true; the input reads as it did. -/
def varstoreActsLikeMapUptoRow : OpenClaim := { program := "ytfglopkglnpokaa", sum := "cb512dff4506ca9581c70c0da926cd64a6cfe60f0114b8c56680f597d9198947", func := "platformfw/platformfwlaw41.VarstoreActsLikeMap", spec := "varstoreActsLikeMap", inPlace := ["internal/abi.NoEscape", "internal/bytealg.MakeNoZero", "maps.clone"], unfollowed := true, recurses := true, apart := false, narrowed := true }
def VarstoreActsLikeMapUptoSaid : Prop := varstoreActsLikeMapUptoRow.holds Try.pinned (OpenSpec.upto varstoreActsLikeMapSpec)

/-- 'platformfwlaw41.VarstoreCapacity', WHERE WHAT IT READS IS OF BULK AT MOST 1048576: true; the input reads as it did. -/
def varstoreCapacityUptoRow : OpenClaim := { program := "ytfglopkglnpokaa", sum := "cb512dff4506ca9581c70c0da926cd64a6cfe60f0114b8c56680f597d9198947", func := "platformfw/platformfwlaw41.VarstoreCapacity", spec := "varstoreCapacity", inPlace := ["internal/abi.NoEscape", "internal/bytealg.MakeNoZero", "maps.clone"], unfollowed := true, recurses := true, apart := false, narrowed := true }
def VarstoreCapacityUptoSaid : Prop := varstoreCapacityUptoRow.holds Try.pinned (OpenSpec.upto varstoreCapacitySpec)

/-- 'platformfwlaw41.VarstorePowerLossIsAtomic', WHERE WHAT IT READS IS OF BULK AT MOST 1048576: true; the input reads as it did. -/
def varstorePowerLossIsAtomicUptoRow : OpenClaim := { program := "ytfglopkglnpokaa", sum := "cb512dff4506ca9581c70c0da926cd64a6cfe60f0114b8c56680f597d9198947", func := "platformfw/platformfwlaw41.VarstorePowerLossIsAtomic", spec := "varstorePowerLossIsAtomic", inPlace := ["internal/abi.NoEscape", "internal/bytealg.MakeNoZero", "maps.clone"], unfollowed := true, recurses := true, apart := false, narrowed := true }
def VarstorePowerLossIsAtomicUptoSaid : Prop := varstorePowerLossIsAtomicUptoRow.holds Try.pinned (OpenSpec.upto varstorePowerLossIsAtomicSpec)

/-- 'platformfwlaw41.VarstoreReopens', WHERE WHAT IT READS IS OF BULK AT MOST 1048576: true; the input reads as it did. -/
def varstoreReopensUptoRow : OpenClaim := { program := "ytfglopkglnpokaa", sum := "cb512dff4506ca9581c70c0da926cd64a6cfe60f0114b8c56680f597d9198947", func := "platformfw/platformfwlaw41.VarstoreReopens", spec := "varstoreReopens", inPlace := ["internal/abi.NoEscape", "internal/bytealg.MakeNoZero", "maps.clone"], unfollowed := true, recurses := true, apart := false, narrowed := true }
def VarstoreReopensUptoSaid : Prop := varstoreReopensUptoRow.holds Try.pinned (OpenSpec.upto varstoreReopensSpec)

/-- 'platformfwlaw41.VarstoreRetry', WHERE WHAT IT READS IS OF BULK AT MOST 1048576: true; the input reads as it did. -/
def varstoreRetryUptoRow : OpenClaim := { program := "ytfglopkglnpokaa", sum := "cb512dff4506ca9581c70c0da926cd64a6cfe60f0114b8c56680f597d9198947", func := "platformfw/platformfwlaw41.VarstoreRetry", spec := "varstoreRetry", inPlace := ["internal/abi.NoEscape", "internal/bytealg.MakeNoZero", "maps.clone"], unfollowed := true, recurses := true, apart := false, narrowed := true }
def VarstoreRetryUptoSaid : Prop := varstoreRetryUptoRow.holds Try.pinned (OpenSpec.upto varstoreRetrySpec)

end Rows
end Go.Proofs.Ytfglopkglnpokaa
