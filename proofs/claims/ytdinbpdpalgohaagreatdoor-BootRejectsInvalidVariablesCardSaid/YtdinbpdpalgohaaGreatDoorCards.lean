/-
  DERIVED. GIVEN WITH THE SEED: THE CARDS: each row of YtdinbpdpalgohaaGreatDoorRows.lean that lists a variable, with what it lists TIED to the program's text (the seventh form; the later family's looks); each row that meets fmt, with fmt's text TOLD by the authors' own Lean function (tested against real Go, not proved from fmt's source: count such statements apart). THE CARD IS WHAT COUNTS. Prove the row's statement (the work); the ties are given (YtdinbpdpalgohaaGreatDoorTie.lean); close each card by the builder's one call (the guide's Derived/Test/ToyasCard.lean, 'card_holds'). Laid BY PROGRAM, IN A SANDBOX (cutbox-door.mjs). By AI agents, Wed Nov 11 2026. No macro, syntax, notation, axiom, sorry.
-/
import Derived.Test.YtdinbpdpalgohaaGreatDoorRows
import GoSem.ClaimSeven
namespace Go.Proofs.YtdinbpdpalgohaaGreatDoor
namespace Rows

/-- THE TIED CARD OF 'platformfwlaw43.BootAttemptsAreLimited'. -/
def bootAttemptsAreLimitedCard : Claim7 := { stood := { row := bootAttemptsAreLimitedRow, standIns := [], harness := (true, "8254de4b87fb32d2d058826330c9dfaae702631857fa2e864238b01fc584fe39"), looks := true }, kinds := [], alts := [], laidByText := true, laidKinds := [.data], laidTests := true, laidLooks := .later }
def BootAttemptsAreLimitedCardSaid : Prop := Claim7.holds Tryz.pinned (.plain (OpenSpec.ofChange bootAttemptsAreLimitedSpec)) bootAttemptsAreLimitedCard

/-- THE TIED CARD OF 'platformfwlaw43.BootDeniedIsNeverStarted'. -/
def bootDeniedIsNeverStartedCard : Claim7 := { stood := { row := bootDeniedIsNeverStartedRow, standIns := [], harness := (true, "8254de4b87fb32d2d058826330c9dfaae702631857fa2e864238b01fc584fe39"), looks := true }, kinds := [], alts := [], laidByText := true, laidKinds := [.data], laidTests := true, laidLooks := .later }
def BootDeniedIsNeverStartedCardSaid : Prop := Claim7.holds Tryz.pinned (.plain (OpenSpec.ofChange bootDeniedIsNeverStartedSpec)) bootDeniedIsNeverStartedCard

/-- THE TIED CARD OF 'platformfwlaw43.BootStartsFirstPermitted'. -/
def bootStartsFirstPermittedCard : Claim7 := { stood := { row := bootStartsFirstPermittedRow, standIns := [], harness := (true, "8254de4b87fb32d2d058826330c9dfaae702631857fa2e864238b01fc584fe39"), looks := true }, kinds := [], alts := [], laidByText := true, laidKinds := [.data], laidTests := true, laidLooks := .later }
def BootStartsFirstPermittedCardSaid : Prop := Claim7.holds Tryz.pinned (.plain (OpenSpec.ofChange bootStartsFirstPermittedSpec)) bootStartsFirstPermittedCard

/-- THE TIED CARD OF 'platformfwlaw43.BootNextIsUsedOnce'. -/
def bootNextIsUsedOnceCard : Claim7 := { stood := { row := bootNextIsUsedOnceRow, standIns := [], harness := (true, "8254de4b87fb32d2d058826330c9dfaae702631857fa2e864238b01fc584fe39"), looks := true }, kinds := [], alts := [], laidByText := true, laidKinds := [.data], laidTests := true, laidLooks := .later }
def BootNextIsUsedOnceCardSaid : Prop := Claim7.holds Tryz.pinned (.plain (OpenSpec.ofChange bootNextIsUsedOnceSpec)) bootNextIsUsedOnceCard

/-- THE TIED CARD OF 'platformfwlaw43.BootCallsAgree'. -/
def bootCallsAgreeCard : Claim7 := { stood := { row := bootCallsAgreeRow, standIns := [], harness := (true, "8254de4b87fb32d2d058826330c9dfaae702631857fa2e864238b01fc584fe39"), looks := true }, kinds := [], alts := [], laidByText := true, laidKinds := [.data], laidTests := true, laidLooks := .later }
def BootCallsAgreeCardSaid : Prop := Claim7.holds Tryz.pinned (.plain (OpenSpec.ofChange bootCallsAgreeSpec)) bootCallsAgreeCard

/-- THE TIED CARD OF 'platformfwlaw43.BootRejectsInvalidVariables'. -/
def bootRejectsInvalidVariablesCard : Claim7 := { stood := { row := bootRejectsInvalidVariablesRow, standIns := [], harness := (true, "8254de4b87fb32d2d058826330c9dfaae702631857fa2e864238b01fc584fe39"), looks := true }, kinds := [], alts := [], laidByText := true, laidKinds := [.data], laidTests := true, laidLooks := .later }
def BootRejectsInvalidVariablesCardSaid : Prop := Claim7.holds Tryz.pinned (.plain (OpenSpec.ofChange bootRejectsInvalidVariablesSpec)) bootRejectsInvalidVariablesCard

/-- THE TIED CARD OF 'platformfwlaw43.BootSurvivesCompaction'. -/
def bootSurvivesCompactionCard : Claim7 := { stood := { row := bootSurvivesCompactionRow, standIns := [], harness := (true, "8254de4b87fb32d2d058826330c9dfaae702631857fa2e864238b01fc584fe39"), looks := true }, kinds := [], alts := [], laidByText := true, laidKinds := [.data], laidTests := true, laidLooks := .later }
def BootSurvivesCompactionCardSaid : Prop := Claim7.holds Tryz.pinned (.plain (OpenSpec.ofChange bootSurvivesCompactionSpec)) bootSurvivesCompactionCard

/-- THE TIED CARD OF 'platformfwlaw43.BootIsAttested'. -/
def bootIsAttestedCard : Claim7 := { stood := { row := bootIsAttestedRow, standIns := [], harness := (true, "8254de4b87fb32d2d058826330c9dfaae702631857fa2e864238b01fc584fe39"), looks := true }, kinds := [], alts := [], laidByText := true, laidKinds := [.data], laidTests := true, laidLooks := .later }
def BootIsAttestedCardSaid : Prop := Claim7.holds Tryz.pinned (.plain (OpenSpec.ofChange bootIsAttestedSpec)) bootIsAttestedCard

/-- THE SECOND FORM's CARD OF 'platformfwlaw43.BootAttemptsAreLimited'. -/
def bootAttemptsAreLimitedUptoCard : Claim7 := { stood := { row := bootAttemptsAreLimitedUptoRow, standIns := [], harness := (true, "8254de4b87fb32d2d058826330c9dfaae702631857fa2e864238b01fc584fe39"), looks := true }, kinds := [], alts := [], laidByText := true, laidKinds := [.data], laidTests := true, laidLooks := .later }
def BootAttemptsAreLimitedUptoCardSaid : Prop := Claim7.holds Tryz.pinned (.plain (OpenSpec.upto bootAttemptsAreLimitedSpec)) bootAttemptsAreLimitedUptoCard

/-- THE SECOND FORM's CARD OF 'platformfwlaw43.BootDeniedIsNeverStarted'. -/
def bootDeniedIsNeverStartedUptoCard : Claim7 := { stood := { row := bootDeniedIsNeverStartedUptoRow, standIns := [], harness := (true, "8254de4b87fb32d2d058826330c9dfaae702631857fa2e864238b01fc584fe39"), looks := true }, kinds := [], alts := [], laidByText := true, laidKinds := [.data], laidTests := true, laidLooks := .later }
def BootDeniedIsNeverStartedUptoCardSaid : Prop := Claim7.holds Tryz.pinned (.plain (OpenSpec.upto bootDeniedIsNeverStartedSpec)) bootDeniedIsNeverStartedUptoCard

/-- THE SECOND FORM's CARD OF 'platformfwlaw43.BootStartsFirstPermitted'. -/
def bootStartsFirstPermittedUptoCard : Claim7 := { stood := { row := bootStartsFirstPermittedUptoRow, standIns := [], harness := (true, "8254de4b87fb32d2d058826330c9dfaae702631857fa2e864238b01fc584fe39"), looks := true }, kinds := [], alts := [], laidByText := true, laidKinds := [.data], laidTests := true, laidLooks := .later }
def BootStartsFirstPermittedUptoCardSaid : Prop := Claim7.holds Tryz.pinned (.plain (OpenSpec.upto bootStartsFirstPermittedSpec)) bootStartsFirstPermittedUptoCard

/-- THE SECOND FORM's CARD OF 'platformfwlaw43.BootNextIsUsedOnce'. -/
def bootNextIsUsedOnceUptoCard : Claim7 := { stood := { row := bootNextIsUsedOnceUptoRow, standIns := [], harness := (true, "8254de4b87fb32d2d058826330c9dfaae702631857fa2e864238b01fc584fe39"), looks := true }, kinds := [], alts := [], laidByText := true, laidKinds := [.data], laidTests := true, laidLooks := .later }
def BootNextIsUsedOnceUptoCardSaid : Prop := Claim7.holds Tryz.pinned (.plain (OpenSpec.upto bootNextIsUsedOnceSpec)) bootNextIsUsedOnceUptoCard

/-- THE SECOND FORM's CARD OF 'platformfwlaw43.BootCallsAgree'. -/
def bootCallsAgreeUptoCard : Claim7 := { stood := { row := bootCallsAgreeUptoRow, standIns := [], harness := (true, "8254de4b87fb32d2d058826330c9dfaae702631857fa2e864238b01fc584fe39"), looks := true }, kinds := [], alts := [], laidByText := true, laidKinds := [.data], laidTests := true, laidLooks := .later }
def BootCallsAgreeUptoCardSaid : Prop := Claim7.holds Tryz.pinned (.plain (OpenSpec.upto bootCallsAgreeSpec)) bootCallsAgreeUptoCard

/-- THE SECOND FORM's CARD OF 'platformfwlaw43.BootRejectsInvalidVariables'. -/
def bootRejectsInvalidVariablesUptoCard : Claim7 := { stood := { row := bootRejectsInvalidVariablesUptoRow, standIns := [], harness := (true, "8254de4b87fb32d2d058826330c9dfaae702631857fa2e864238b01fc584fe39"), looks := true }, kinds := [], alts := [], laidByText := true, laidKinds := [.data], laidTests := true, laidLooks := .later }
def BootRejectsInvalidVariablesUptoCardSaid : Prop := Claim7.holds Tryz.pinned (.plain (OpenSpec.upto bootRejectsInvalidVariablesSpec)) bootRejectsInvalidVariablesUptoCard

/-- THE SECOND FORM's CARD OF 'platformfwlaw43.BootSurvivesCompaction'. -/
def bootSurvivesCompactionUptoCard : Claim7 := { stood := { row := bootSurvivesCompactionUptoRow, standIns := [], harness := (true, "8254de4b87fb32d2d058826330c9dfaae702631857fa2e864238b01fc584fe39"), looks := true }, kinds := [], alts := [], laidByText := true, laidKinds := [.data], laidTests := true, laidLooks := .later }
def BootSurvivesCompactionUptoCardSaid : Prop := Claim7.holds Tryz.pinned (.plain (OpenSpec.upto bootSurvivesCompactionSpec)) bootSurvivesCompactionUptoCard

/-- THE SECOND FORM's CARD OF 'platformfwlaw43.BootIsAttested'. -/
def bootIsAttestedUptoCard : Claim7 := { stood := { row := bootIsAttestedUptoRow, standIns := [], harness := (true, "8254de4b87fb32d2d058826330c9dfaae702631857fa2e864238b01fc584fe39"), looks := true }, kinds := [], alts := [], laidByText := true, laidKinds := [.data], laidTests := true, laidLooks := .later }
def BootIsAttestedUptoCardSaid : Prop := Claim7.holds Tryz.pinned (.plain (OpenSpec.upto bootIsAttestedSpec)) bootIsAttestedUptoCard
end Rows
end Go.Proofs.YtdinbpdpalgohaaGreatDoor
