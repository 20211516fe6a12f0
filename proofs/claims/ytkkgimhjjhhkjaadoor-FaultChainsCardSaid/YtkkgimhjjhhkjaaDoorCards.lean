/-
  DERIVED. GIVEN WITH THE SEED: THE CARDS: each row of YtkkgimhjjhhkjaaDoorRows.lean that lists a variable, with what it lists TIED to the program's text (the seventh form; the later family's looks); each row that meets fmt, with fmt's text TOLD by the authors' own Lean function (tested against real Go, not proved from fmt's source: count such statements apart). THE CARD IS WHAT COUNTS. Prove the row's statement (the work); the ties are given (YtkkgimhjjhhkjaaDoorTie.lean); close each card by the builder's one call (the guide's Derived/Test/ToyasCard.lean, 'card_holds'). Laid BY PROGRAM, IN A SANDBOX (cutbox-door.mjs). By AI agents, Wed Nov 11 2026. No macro, syntax, notation, axiom, sorry.
-/
import Derived.Test.YtkkgimhjjhhkjaaDoorRows
import GoSem.ClaimSeven
namespace Go.Proofs.YtkkgimhjjhhkjaaDoor
namespace Rows

/-- THE TIED CARD OF 'aviarylaw01.FaultIs'. -/
def faultIsCard : Claim7 := { stood := { row := faultIsRow, standIns := [], harness := (true, "e435bfb7d5ff93dc82b3dd390475c7db070d00e9518720dc0a364ac9223650df"), looks := true }, kinds := [], alts := [], laidByText := true, laidKinds := [.data, .data, .data, .data, .handle, .pinned], laidTests := true, laidLooks := .later }
def FaultIsCardSaid : Prop := Claim7.holds Tryd.pinned (.plain (OpenSpec.ofChange faultIsSpec)) faultIsCard

/-- THE TIED CARD OF 'aviarylaw01.FaultLeast'. -/
def faultLeastCard : Claim7 := { stood := { row := faultLeastRow, standIns := [], harness := (true, "e435bfb7d5ff93dc82b3dd390475c7db070d00e9518720dc0a364ac9223650df"), looks := true }, kinds := [], alts := [], laidByText := true, laidKinds := [.data, .data, .data, .data, .handle, .pinned], laidTests := true, laidLooks := .later }
def FaultLeastCardSaid : Prop := Claim7.holds Tryd.pinned (.plain (OpenSpec.ofChange faultLeastSpec)) faultLeastCard

/-- THE TIED CARD OF 'aviarylaw01.FaultPieces'. -/
def faultPiecesCard : Claim7 := { stood := { row := faultPiecesRow, standIns := [], harness := (true, "e435bfb7d5ff93dc82b3dd390475c7db070d00e9518720dc0a364ac9223650df"), looks := true }, kinds := [], alts := [], laidByText := true, laidKinds := [.data, .data, .data, .data, .handle, .pinned], laidTests := true, laidLooks := .later }
def FaultPiecesCardSaid : Prop := Claim7.holds Tryd.pinned (.plain (OpenSpec.ofChange faultPiecesSpec)) faultPiecesCard

/-- THE TIED CARD OF 'aviarylaw01.FaultShifts'. -/
def faultShiftsCard : Claim7 := { stood := { row := faultShiftsRow, standIns := [], harness := (true, "e435bfb7d5ff93dc82b3dd390475c7db070d00e9518720dc0a364ac9223650df"), looks := true }, kinds := [], alts := [], laidByText := true, laidKinds := [.data, .data, .data, .data, .handle, .pinned], laidTests := true, laidLooks := .later }
def FaultShiftsCardSaid : Prop := Claim7.holds Tryd.pinned (.plain (OpenSpec.ofChange faultShiftsSpec)) faultShiftsCard

/-- THE TIED CARD OF 'aviarylaw01.FaultChains'. -/
def faultChainsCard : Claim7 := { stood := { row := faultChainsRow, standIns := [], harness := (true, "e435bfb7d5ff93dc82b3dd390475c7db070d00e9518720dc0a364ac9223650df"), looks := true }, kinds := [], alts := [], laidByText := true, laidKinds := [.data, .data, .data, .data, .handle, .pinned], laidTests := true, laidLooks := .later }
def FaultChainsCardSaid : Prop := Claim7.holds Tryd.pinned (.plain (OpenSpec.ofChange faultChainsSpec)) faultChainsCard

/-- THE SECOND FORM's CARD OF 'aviarylaw01.FaultIs'. -/
def faultIsUptoCard : Claim7 := { stood := { row := faultIsUptoRow, standIns := [], harness := (true, "e435bfb7d5ff93dc82b3dd390475c7db070d00e9518720dc0a364ac9223650df"), looks := true }, kinds := [], alts := [], laidByText := true, laidKinds := [.data, .data, .data, .data, .handle, .pinned], laidTests := true, laidLooks := .later }
def FaultIsUptoCardSaid : Prop := Claim7.holds Tryd.pinned (.plain (OpenSpec.upto faultIsSpec)) faultIsUptoCard

/-- THE SECOND FORM's CARD OF 'aviarylaw01.FaultLeast'. -/
def faultLeastUptoCard : Claim7 := { stood := { row := faultLeastUptoRow, standIns := [], harness := (true, "e435bfb7d5ff93dc82b3dd390475c7db070d00e9518720dc0a364ac9223650df"), looks := true }, kinds := [], alts := [], laidByText := true, laidKinds := [.data, .data, .data, .data, .handle, .pinned], laidTests := true, laidLooks := .later }
def FaultLeastUptoCardSaid : Prop := Claim7.holds Tryd.pinned (.plain (OpenSpec.upto faultLeastSpec)) faultLeastUptoCard

/-- THE SECOND FORM's CARD OF 'aviarylaw01.FaultPieces'. -/
def faultPiecesUptoCard : Claim7 := { stood := { row := faultPiecesUptoRow, standIns := [], harness := (true, "e435bfb7d5ff93dc82b3dd390475c7db070d00e9518720dc0a364ac9223650df"), looks := true }, kinds := [], alts := [], laidByText := true, laidKinds := [.data, .data, .data, .data, .handle, .pinned], laidTests := true, laidLooks := .later }
def FaultPiecesUptoCardSaid : Prop := Claim7.holds Tryd.pinned (.plain (OpenSpec.upto faultPiecesSpec)) faultPiecesUptoCard

/-- THE SECOND FORM's CARD OF 'aviarylaw01.FaultShifts'. -/
def faultShiftsUptoCard : Claim7 := { stood := { row := faultShiftsUptoRow, standIns := [], harness := (true, "e435bfb7d5ff93dc82b3dd390475c7db070d00e9518720dc0a364ac9223650df"), looks := true }, kinds := [], alts := [], laidByText := true, laidKinds := [.data, .data, .data, .data, .handle, .pinned], laidTests := true, laidLooks := .later }
def FaultShiftsUptoCardSaid : Prop := Claim7.holds Tryd.pinned (.plain (OpenSpec.upto faultShiftsSpec)) faultShiftsUptoCard

/-- THE SECOND FORM's CARD OF 'aviarylaw01.FaultChains'. -/
def faultChainsUptoCard : Claim7 := { stood := { row := faultChainsUptoRow, standIns := [], harness := (true, "e435bfb7d5ff93dc82b3dd390475c7db070d00e9518720dc0a364ac9223650df"), looks := true }, kinds := [], alts := [], laidByText := true, laidKinds := [.data, .data, .data, .data, .handle, .pinned], laidTests := true, laidLooks := .later }
def FaultChainsUptoCardSaid : Prop := Claim7.holds Tryd.pinned (.plain (OpenSpec.upto faultChainsSpec)) faultChainsUptoCard
end Rows
end Go.Proofs.YtkkgimhjjhhkjaaDoor
