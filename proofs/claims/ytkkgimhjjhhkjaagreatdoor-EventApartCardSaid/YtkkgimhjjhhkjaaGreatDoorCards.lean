/-
  DERIVED. GIVEN WITH THE SEED: THE CARDS: each row of YtkkgimhjjhhkjaaGreatDoorRows.lean that lists a variable, with what it lists TIED to the program's text (the seventh form; the later family's looks); each row that meets fmt, with fmt's text TOLD by the authors' own Lean function (tested against real Go, not proved from fmt's source: count such statements apart). THE CARD IS WHAT COUNTS. Prove the row's statement (the work); the ties are given (YtkkgimhjjhhkjaaGreatDoorTie.lean); close each card by the builder's one call (the guide's Derived/Test/ToyasCard.lean, 'card_holds'). Laid BY PROGRAM, IN A SANDBOX (cutbox-door.mjs). By AI agents, Wed Nov 11 2026. No macro, syntax, notation, axiom, sorry.
-/
import Derived.Test.YtkkgimhjjhhkjaaGreatDoorRows
import GoSem.ClaimSeven
namespace Go.Proofs.YtkkgimhjjhhkjaaGreatDoor
namespace Rows

/-- THE TIED CARD OF 'aviarylaw03.EventTexts'. -/
def eventTextsCard : Claim7 := { stood := { row := eventTextsRow, standIns := [], harness := (true, "0150942e4d6a33cbf8c26b8c7e2b95a27ce24187e737de4bb64ba314a9293772"), looks := true }, kinds := [], alts := [], laidByText := true, laidKinds := [.data, .data, .data, .handle, .sentinel, .sentinel], laidTests := true, laidLooks := .later }
def EventTextsCardSaid : Prop := Claim7.holds Tryz.pinned (.plain (OpenSpec.ofChange eventTextsSpec)) eventTextsCard

/-- THE TIED CARD OF 'aviarylaw03.EventReads'. -/
def eventReadsCard : Claim7 := { stood := { row := eventReadsRow, standIns := [], harness := (true, "0150942e4d6a33cbf8c26b8c7e2b95a27ce24187e737de4bb64ba314a9293772"), looks := true }, kinds := [], alts := [], laidByText := true, laidKinds := [.data, .data, .data, .handle, .sentinel, .sentinel], laidTests := true, laidLooks := .later }
def EventReadsCardSaid : Prop := Claim7.holds Tryz.pinned (.plain (OpenSpec.ofChange eventReadsSpec)) eventReadsCard

/-- THE TIED CARD OF 'aviarylaw03.EventBack'. -/
def eventBackCard : Claim7 := { stood := { row := eventBackRow, standIns := [], harness := (true, "0150942e4d6a33cbf8c26b8c7e2b95a27ce24187e737de4bb64ba314a9293772"), looks := true }, kinds := [], alts := [], laidByText := true, laidKinds := [.data, .data, .data, .handle, .sentinel, .sentinel], laidTests := true, laidLooks := .later }
def EventBackCardSaid : Prop := Claim7.holds Tryz.pinned (.plain (OpenSpec.ofChange eventBackSpec)) eventBackCard

/-- THE TIED CARD OF 'aviarylaw03.EventApart'. -/
def eventApartCard : Claim7 := { stood := { row := eventApartRow, standIns := [], harness := (true, "0150942e4d6a33cbf8c26b8c7e2b95a27ce24187e737de4bb64ba314a9293772"), looks := true }, kinds := [], alts := [], laidByText := true, laidKinds := [.data, .data, .data, .handle, .sentinel, .sentinel], laidTests := true, laidLooks := .later }
def EventApartCardSaid : Prop := Claim7.holds Tryz.pinned (.plain (OpenSpec.ofChange eventApartSpec)) eventApartCard

/-- THE TIED CARD OF 'aviarylaw03.EventSets'. -/
def eventSetsCard : Claim7 := { stood := { row := eventSetsRow, standIns := [], harness := (true, "0150942e4d6a33cbf8c26b8c7e2b95a27ce24187e737de4bb64ba314a9293772"), looks := true }, kinds := [], alts := [], laidByText := true, laidKinds := [.data, .data, .data, .handle, .sentinel, .sentinel], laidTests := true, laidLooks := .later }
def EventSetsCardSaid : Prop := Claim7.holds Tryz.pinned (.plain (OpenSpec.ofChange eventSetsSpec)) eventSetsCard

/-- THE TIED CARD OF 'aviarylaw03.EventChanges'. -/
def eventChangesCard : Claim7 := { stood := { row := eventChangesRow, standIns := [], harness := (true, "0150942e4d6a33cbf8c26b8c7e2b95a27ce24187e737de4bb64ba314a9293772"), looks := true }, kinds := [], alts := [], laidByText := true, laidKinds := [.data, .data, .data, .handle, .sentinel, .sentinel], laidTests := true, laidLooks := .later }
def EventChangesCardSaid : Prop := Claim7.holds Tryz.pinned (.plain (OpenSpec.ofChange eventChangesSpec)) eventChangesCard

/-- THE TIED CARD OF 'aviarylaw03.EventKeeps'. -/
def eventKeepsCard : Claim7 := { stood := { row := eventKeepsRow, standIns := [], harness := (true, "0150942e4d6a33cbf8c26b8c7e2b95a27ce24187e737de4bb64ba314a9293772"), looks := true }, kinds := [], alts := [], laidByText := true, laidKinds := [.data, .data, .data, .handle, .sentinel, .sentinel], laidTests := true, laidLooks := .later }
def EventKeepsCardSaid : Prop := Claim7.holds Tryz.pinned (.plain (OpenSpec.ofChange eventKeepsSpec)) eventKeepsCard

/-- THE SECOND FORM's CARD OF 'aviarylaw03.EventTexts'. -/
def eventTextsUptoCard : Claim7 := { stood := { row := eventTextsUptoRow, standIns := [], harness := (true, "0150942e4d6a33cbf8c26b8c7e2b95a27ce24187e737de4bb64ba314a9293772"), looks := true }, kinds := [], alts := [], laidByText := true, laidKinds := [.data, .data, .data, .handle, .sentinel, .sentinel], laidTests := true, laidLooks := .later }
def EventTextsUptoCardSaid : Prop := Claim7.holds Tryz.pinned (.plain (OpenSpec.upto eventTextsSpec)) eventTextsUptoCard

/-- THE SECOND FORM's CARD OF 'aviarylaw03.EventReads'. -/
def eventReadsUptoCard : Claim7 := { stood := { row := eventReadsUptoRow, standIns := [], harness := (true, "0150942e4d6a33cbf8c26b8c7e2b95a27ce24187e737de4bb64ba314a9293772"), looks := true }, kinds := [], alts := [], laidByText := true, laidKinds := [.data, .data, .data, .handle, .sentinel, .sentinel], laidTests := true, laidLooks := .later }
def EventReadsUptoCardSaid : Prop := Claim7.holds Tryz.pinned (.plain (OpenSpec.upto eventReadsSpec)) eventReadsUptoCard

/-- THE SECOND FORM's CARD OF 'aviarylaw03.EventBack'. -/
def eventBackUptoCard : Claim7 := { stood := { row := eventBackUptoRow, standIns := [], harness := (true, "0150942e4d6a33cbf8c26b8c7e2b95a27ce24187e737de4bb64ba314a9293772"), looks := true }, kinds := [], alts := [], laidByText := true, laidKinds := [.data, .data, .data, .handle, .sentinel, .sentinel], laidTests := true, laidLooks := .later }
def EventBackUptoCardSaid : Prop := Claim7.holds Tryz.pinned (.plain (OpenSpec.upto eventBackSpec)) eventBackUptoCard

/-- THE SECOND FORM's CARD OF 'aviarylaw03.EventApart'. -/
def eventApartUptoCard : Claim7 := { stood := { row := eventApartUptoRow, standIns := [], harness := (true, "0150942e4d6a33cbf8c26b8c7e2b95a27ce24187e737de4bb64ba314a9293772"), looks := true }, kinds := [], alts := [], laidByText := true, laidKinds := [.data, .data, .data, .handle, .sentinel, .sentinel], laidTests := true, laidLooks := .later }
def EventApartUptoCardSaid : Prop := Claim7.holds Tryz.pinned (.plain (OpenSpec.upto eventApartSpec)) eventApartUptoCard

/-- THE SECOND FORM's CARD OF 'aviarylaw03.EventSets'. -/
def eventSetsUptoCard : Claim7 := { stood := { row := eventSetsUptoRow, standIns := [], harness := (true, "0150942e4d6a33cbf8c26b8c7e2b95a27ce24187e737de4bb64ba314a9293772"), looks := true }, kinds := [], alts := [], laidByText := true, laidKinds := [.data, .data, .data, .handle, .sentinel, .sentinel], laidTests := true, laidLooks := .later }
def EventSetsUptoCardSaid : Prop := Claim7.holds Tryz.pinned (.plain (OpenSpec.upto eventSetsSpec)) eventSetsUptoCard

/-- THE SECOND FORM's CARD OF 'aviarylaw03.EventChanges'. -/
def eventChangesUptoCard : Claim7 := { stood := { row := eventChangesUptoRow, standIns := [], harness := (true, "0150942e4d6a33cbf8c26b8c7e2b95a27ce24187e737de4bb64ba314a9293772"), looks := true }, kinds := [], alts := [], laidByText := true, laidKinds := [.data, .data, .data, .handle, .sentinel, .sentinel], laidTests := true, laidLooks := .later }
def EventChangesUptoCardSaid : Prop := Claim7.holds Tryz.pinned (.plain (OpenSpec.upto eventChangesSpec)) eventChangesUptoCard

/-- THE SECOND FORM's CARD OF 'aviarylaw03.EventKeeps'. -/
def eventKeepsUptoCard : Claim7 := { stood := { row := eventKeepsUptoRow, standIns := [], harness := (true, "0150942e4d6a33cbf8c26b8c7e2b95a27ce24187e737de4bb64ba314a9293772"), looks := true }, kinds := [], alts := [], laidByText := true, laidKinds := [.data, .data, .data, .handle, .sentinel, .sentinel], laidTests := true, laidLooks := .later }
def EventKeepsUptoCardSaid : Prop := Claim7.holds Tryz.pinned (.plain (OpenSpec.upto eventKeepsSpec)) eventKeepsUptoCard
end Rows
end Go.Proofs.YtkkgimhjjhhkjaaGreatDoor
