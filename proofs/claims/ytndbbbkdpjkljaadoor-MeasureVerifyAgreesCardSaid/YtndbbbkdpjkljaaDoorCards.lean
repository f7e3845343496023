/-
  DERIVED. GIVEN WITH THE SEED: THE CARDS: each row of YtndbbbkdpjkljaaDoorRows.lean that lists a variable, with what it lists TIED to the program's text (the seventh form; the later family's looks); each row that meets fmt, with fmt's text TOLD by the authors' own Lean function (tested against real Go, not proved from fmt's source: count such statements apart). THE CARD IS WHAT COUNTS. Prove the row's statement (the work); the ties are given (YtndbbbkdpjkljaaDoorTie.lean); close each card by the builder's one call (the guide's Derived/Test/ToyasCard.lean, 'card_holds'). Laid BY PROGRAM, IN A SANDBOX (cutbox-door.mjs). By AI agents, Wed Nov 11 2026. No macro, syntax, notation, axiom, sorry.
-/
import Derived.Test.YtndbbbkdpjkljaaDoorRows
import GoSem.ClaimSeven
namespace Go.Proofs.YtndbbbkdpjkljaaDoor
namespace Rows

/-- THE TIED CARD OF 'platformfwlaw42.MeasureSumAgrees'. -/
def measureSumAgreesCard : Claim7 := { stood := { row := measureSumAgreesRow, standIns := [], harness := (true, "2dc5a093f443321c4a50166c4ed5af34f145653af1ed1f762f8cf8b9ea154db6"), looks := false }, kinds := [], alts := [], laidByText := true, laidKinds := [.data], laidTests := true, laidLooks := .later }
def MeasureSumAgreesCardSaid : Prop := Claim7.holds Tryd.pinned (.plain (OpenSpec.ofChange measureSumAgreesSpec)) measureSumAgreesCard

/-- THE TIED CARD OF 'platformfwlaw42.MeasureMACAgrees'. -/
def measureMACAgreesCard : Claim7 := { stood := { row := measureMACAgreesRow, standIns := [], harness := (true, "2dc5a093f443321c4a50166c4ed5af34f145653af1ed1f762f8cf8b9ea154db6"), looks := false }, kinds := [], alts := [], laidByText := true, laidKinds := [.data], laidTests := true, laidLooks := .later }
def MeasureMACAgreesCardSaid : Prop := Claim7.holds Tryd.pinned (.plain (OpenSpec.ofChange measureMACAgreesSpec)) measureMACAgreesCard

/-- THE TIED CARD OF 'platformfwlaw42.MeasureLogAgrees'. -/
def measureLogAgreesCard : Claim7 := { stood := { row := measureLogAgreesRow, standIns := [], harness := (true, "2dc5a093f443321c4a50166c4ed5af34f145653af1ed1f762f8cf8b9ea154db6"), looks := false }, kinds := [], alts := [], laidByText := true, laidKinds := [.data], laidTests := true, laidLooks := .later }
def MeasureLogAgreesCardSaid : Prop := Claim7.holds Tryd.pinned (.plain (OpenSpec.ofChange measureLogAgreesSpec)) measureLogAgreesCard

/-- THE TIED CARD OF 'platformfwlaw42.MeasureReplayAgrees'. -/
def measureReplayAgreesCard : Claim7 := { stood := { row := measureReplayAgreesRow, standIns := [], harness := (true, "2dc5a093f443321c4a50166c4ed5af34f145653af1ed1f762f8cf8b9ea154db6"), looks := false }, kinds := [], alts := [], laidByText := true, laidKinds := [.data], laidTests := true, laidLooks := .later }
def MeasureReplayAgreesCardSaid : Prop := Claim7.holds Tryd.pinned (.plain (OpenSpec.ofChange measureReplayAgreesSpec)) measureReplayAgreesCard

/-- THE TIED CARD OF 'platformfwlaw42.MeasureRegistersAreSeparate'. -/
def measureRegistersAreSeparateCard : Claim7 := { stood := { row := measureRegistersAreSeparateRow, standIns := [], harness := (true, "2dc5a093f443321c4a50166c4ed5af34f145653af1ed1f762f8cf8b9ea154db6"), looks := false }, kinds := [], alts := [], laidByText := true, laidKinds := [.data], laidTests := true, laidLooks := .later }
def MeasureRegistersAreSeparateCardSaid : Prop := Claim7.holds Tryd.pinned (.plain (OpenSpec.ofChange measureRegistersAreSeparateSpec)) measureRegistersAreSeparateCard

/-- THE TIED CARD OF 'platformfwlaw42.MeasureLogIsBounded'. -/
def measureLogIsBoundedCard : Claim7 := { stood := { row := measureLogIsBoundedRow, standIns := [], harness := (true, "2dc5a093f443321c4a50166c4ed5af34f145653af1ed1f762f8cf8b9ea154db6"), looks := false }, kinds := [], alts := [], laidByText := true, laidKinds := [.data], laidTests := true, laidLooks := .later }
def MeasureLogIsBoundedCardSaid : Prop := Claim7.holds Tryd.pinned (.plain (OpenSpec.ofChange measureLogIsBoundedSpec)) measureLogIsBoundedCard

/-- THE TIED CARD OF 'platformfwlaw42.MeasureExtendsPrefix'. -/
def measureExtendsPrefixCard : Claim7 := { stood := { row := measureExtendsPrefixRow, standIns := [], harness := (true, "2dc5a093f443321c4a50166c4ed5af34f145653af1ed1f762f8cf8b9ea154db6"), looks := false }, kinds := [], alts := [], laidByText := true, laidKinds := [.data], laidTests := true, laidLooks := .later }
def MeasureExtendsPrefixCardSaid : Prop := Claim7.holds Tryd.pinned (.plain (OpenSpec.ofChange measureExtendsPrefixSpec)) measureExtendsPrefixCard

/-- THE TIED CARD OF 'platformfwlaw42.MeasureReplays'. -/
def measureReplaysCard : Claim7 := { stood := { row := measureReplaysRow, standIns := [], harness := (true, "2dc5a093f443321c4a50166c4ed5af34f145653af1ed1f762f8cf8b9ea154db6"), looks := false }, kinds := [], alts := [], laidByText := true, laidKinds := [.data], laidTests := true, laidLooks := .later }
def MeasureReplaysCardSaid : Prop := Claim7.holds Tryd.pinned (.plain (OpenSpec.ofChange measureReplaysSpec)) measureReplaysCard

/-- THE TIED CARD OF 'platformfwlaw42.MeasureVerifyAgrees'. -/
def measureVerifyAgreesCard : Claim7 := { stood := { row := measureVerifyAgreesRow, standIns := [], harness := (true, "2dc5a093f443321c4a50166c4ed5af34f145653af1ed1f762f8cf8b9ea154db6"), looks := false }, kinds := [], alts := [], laidByText := true, laidKinds := [.data], laidTests := true, laidLooks := .later }
def MeasureVerifyAgreesCardSaid : Prop := Claim7.holds Tryd.pinned (.plain (OpenSpec.ofChange measureVerifyAgreesSpec)) measureVerifyAgreesCard

/-- THE TIED CARD OF 'platformfwlaw42.MeasureQuotes'. -/
def measureQuotesCard : Claim7 := { stood := { row := measureQuotesRow, standIns := [], harness := (true, "2dc5a093f443321c4a50166c4ed5af34f145653af1ed1f762f8cf8b9ea154db6"), looks := false }, kinds := [], alts := [], laidByText := true, laidKinds := [.data], laidTests := true, laidLooks := .later }
def MeasureQuotesCardSaid : Prop := Claim7.holds Tryd.pinned (.plain (OpenSpec.ofChange measureQuotesSpec)) measureQuotesCard

/-- THE SECOND FORM's CARD OF 'platformfwlaw42.MeasureSumAgrees'. -/
def measureSumAgreesUptoCard : Claim7 := { stood := { row := measureSumAgreesUptoRow, standIns := [], harness := (true, "2dc5a093f443321c4a50166c4ed5af34f145653af1ed1f762f8cf8b9ea154db6"), looks := false }, kinds := [], alts := [], laidByText := true, laidKinds := [.data], laidTests := true, laidLooks := .later }
def MeasureSumAgreesUptoCardSaid : Prop := Claim7.holds Tryd.pinned (.plain (OpenSpec.upto measureSumAgreesSpec)) measureSumAgreesUptoCard

/-- THE SECOND FORM's CARD OF 'platformfwlaw42.MeasureMACAgrees'. -/
def measureMACAgreesUptoCard : Claim7 := { stood := { row := measureMACAgreesUptoRow, standIns := [], harness := (true, "2dc5a093f443321c4a50166c4ed5af34f145653af1ed1f762f8cf8b9ea154db6"), looks := false }, kinds := [], alts := [], laidByText := true, laidKinds := [.data], laidTests := true, laidLooks := .later }
def MeasureMACAgreesUptoCardSaid : Prop := Claim7.holds Tryd.pinned (.plain (OpenSpec.upto measureMACAgreesSpec)) measureMACAgreesUptoCard

/-- THE SECOND FORM's CARD OF 'platformfwlaw42.MeasureLogAgrees'. -/
def measureLogAgreesUptoCard : Claim7 := { stood := { row := measureLogAgreesUptoRow, standIns := [], harness := (true, "2dc5a093f443321c4a50166c4ed5af34f145653af1ed1f762f8cf8b9ea154db6"), looks := false }, kinds := [], alts := [], laidByText := true, laidKinds := [.data], laidTests := true, laidLooks := .later }
def MeasureLogAgreesUptoCardSaid : Prop := Claim7.holds Tryd.pinned (.plain (OpenSpec.upto measureLogAgreesSpec)) measureLogAgreesUptoCard

/-- THE SECOND FORM's CARD OF 'platformfwlaw42.MeasureReplayAgrees'. -/
def measureReplayAgreesUptoCard : Claim7 := { stood := { row := measureReplayAgreesUptoRow, standIns := [], harness := (true, "2dc5a093f443321c4a50166c4ed5af34f145653af1ed1f762f8cf8b9ea154db6"), looks := false }, kinds := [], alts := [], laidByText := true, laidKinds := [.data], laidTests := true, laidLooks := .later }
def MeasureReplayAgreesUptoCardSaid : Prop := Claim7.holds Tryd.pinned (.plain (OpenSpec.upto measureReplayAgreesSpec)) measureReplayAgreesUptoCard

/-- THE SECOND FORM's CARD OF 'platformfwlaw42.MeasureRegistersAreSeparate'. -/
def measureRegistersAreSeparateUptoCard : Claim7 := { stood := { row := measureRegistersAreSeparateUptoRow, standIns := [], harness := (true, "2dc5a093f443321c4a50166c4ed5af34f145653af1ed1f762f8cf8b9ea154db6"), looks := false }, kinds := [], alts := [], laidByText := true, laidKinds := [.data], laidTests := true, laidLooks := .later }
def MeasureRegistersAreSeparateUptoCardSaid : Prop := Claim7.holds Tryd.pinned (.plain (OpenSpec.upto measureRegistersAreSeparateSpec)) measureRegistersAreSeparateUptoCard

/-- THE SECOND FORM's CARD OF 'platformfwlaw42.MeasureLogIsBounded'. -/
def measureLogIsBoundedUptoCard : Claim7 := { stood := { row := measureLogIsBoundedUptoRow, standIns := [], harness := (true, "2dc5a093f443321c4a50166c4ed5af34f145653af1ed1f762f8cf8b9ea154db6"), looks := false }, kinds := [], alts := [], laidByText := true, laidKinds := [.data], laidTests := true, laidLooks := .later }
def MeasureLogIsBoundedUptoCardSaid : Prop := Claim7.holds Tryd.pinned (.plain (OpenSpec.upto measureLogIsBoundedSpec)) measureLogIsBoundedUptoCard

/-- THE SECOND FORM's CARD OF 'platformfwlaw42.MeasureExtendsPrefix'. -/
def measureExtendsPrefixUptoCard : Claim7 := { stood := { row := measureExtendsPrefixUptoRow, standIns := [], harness := (true, "2dc5a093f443321c4a50166c4ed5af34f145653af1ed1f762f8cf8b9ea154db6"), looks := false }, kinds := [], alts := [], laidByText := true, laidKinds := [.data], laidTests := true, laidLooks := .later }
def MeasureExtendsPrefixUptoCardSaid : Prop := Claim7.holds Tryd.pinned (.plain (OpenSpec.upto measureExtendsPrefixSpec)) measureExtendsPrefixUptoCard

/-- THE SECOND FORM's CARD OF 'platformfwlaw42.MeasureReplays'. -/
def measureReplaysUptoCard : Claim7 := { stood := { row := measureReplaysUptoRow, standIns := [], harness := (true, "2dc5a093f443321c4a50166c4ed5af34f145653af1ed1f762f8cf8b9ea154db6"), looks := false }, kinds := [], alts := [], laidByText := true, laidKinds := [.data], laidTests := true, laidLooks := .later }
def MeasureReplaysUptoCardSaid : Prop := Claim7.holds Tryd.pinned (.plain (OpenSpec.upto measureReplaysSpec)) measureReplaysUptoCard

/-- THE SECOND FORM's CARD OF 'platformfwlaw42.MeasureVerifyAgrees'. -/
def measureVerifyAgreesUptoCard : Claim7 := { stood := { row := measureVerifyAgreesUptoRow, standIns := [], harness := (true, "2dc5a093f443321c4a50166c4ed5af34f145653af1ed1f762f8cf8b9ea154db6"), looks := false }, kinds := [], alts := [], laidByText := true, laidKinds := [.data], laidTests := true, laidLooks := .later }
def MeasureVerifyAgreesUptoCardSaid : Prop := Claim7.holds Tryd.pinned (.plain (OpenSpec.upto measureVerifyAgreesSpec)) measureVerifyAgreesUptoCard

/-- THE SECOND FORM's CARD OF 'platformfwlaw42.MeasureQuotes'. -/
def measureQuotesUptoCard : Claim7 := { stood := { row := measureQuotesUptoRow, standIns := [], harness := (true, "2dc5a093f443321c4a50166c4ed5af34f145653af1ed1f762f8cf8b9ea154db6"), looks := false }, kinds := [], alts := [], laidByText := true, laidKinds := [.data], laidTests := true, laidLooks := .later }
def MeasureQuotesUptoCardSaid : Prop := Claim7.holds Tryd.pinned (.plain (OpenSpec.upto measureQuotesSpec)) measureQuotesUptoCard
end Rows
end Go.Proofs.YtndbbbkdpjkljaaDoor
