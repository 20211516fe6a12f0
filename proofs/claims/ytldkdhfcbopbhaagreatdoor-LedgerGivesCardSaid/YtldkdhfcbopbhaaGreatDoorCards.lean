/-
  DERIVED. GIVEN WITH THE SEED: THE CARDS: each row of YtldkdhfcbopbhaaGreatDoorRows.lean that lists a variable, with what it lists TIED to the program's text (the seventh form; the later family's looks); each row that meets fmt, with fmt's text TOLD by the authors' own Lean function (tested against real Go, not proved from fmt's source: count such statements apart). THE CARD IS WHAT COUNTS. Prove the row's statement (the work); the ties are given (YtldkdhfcbopbhaaGreatDoorTie.lean); close each card by the builder's one call (the guide's Derived/Test/ToyasCard.lean, 'card_holds'). Laid BY PROGRAM, IN A SANDBOX (cutbox-door.mjs). By AI agents, Wed Nov 11 2026. No macro, syntax, notation, axiom, sorry.
-/
import Derived.Test.YtldkdhfcbopbhaaGreatDoorRows
import GoSem.ClaimSeven
namespace Go.Proofs.YtldkdhfcbopbhaaGreatDoor
namespace Rows

/-- THE TIED CARD OF 'aviarylaw21.LedgerRuns'. -/
def ledgerRunsCard : Claim7 := { stood := { row := ledgerRunsRow, standIns := [], harness := (true, "b51be9d007814ad52c4fe2fd2029cf5493c5b1d385a162c2fd7b36754287bc1c"), looks := true }, kinds := [], alts := [], laidByText := true, laidKinds := [.handle], laidTests := true, laidLooks := .later }
def LedgerRunsCardSaid : Prop := Claim7.holds Tryz.pinned (.plain (OpenSpec.ofChange ledgerRunsSpec)) ledgerRunsCard

/-- THE TIED CARD OF 'aviarylaw21.LedgerGives'. -/
def ledgerGivesCard : Claim7 := { stood := { row := ledgerGivesRow, standIns := [], harness := (true, "b51be9d007814ad52c4fe2fd2029cf5493c5b1d385a162c2fd7b36754287bc1c"), looks := true }, kinds := [], alts := [], laidByText := true, laidKinds := [.handle], laidTests := true, laidLooks := .later }
def LedgerGivesCardSaid : Prop := Claim7.holds Tryz.pinned (.plain (OpenSpec.ofChange ledgerGivesSpec)) ledgerGivesCard

/-- THE SECOND FORM's CARD OF 'aviarylaw21.LedgerRuns'. -/
def ledgerRunsUptoCard : Claim7 := { stood := { row := ledgerRunsUptoRow, standIns := [], harness := (true, "b51be9d007814ad52c4fe2fd2029cf5493c5b1d385a162c2fd7b36754287bc1c"), looks := true }, kinds := [], alts := [], laidByText := true, laidKinds := [.handle], laidTests := true, laidLooks := .later }
def LedgerRunsUptoCardSaid : Prop := Claim7.holds Tryz.pinned (.plain (OpenSpec.upto ledgerRunsSpec)) ledgerRunsUptoCard

/-- THE SECOND FORM's CARD OF 'aviarylaw21.LedgerGives'. -/
def ledgerGivesUptoCard : Claim7 := { stood := { row := ledgerGivesUptoRow, standIns := [], harness := (true, "b51be9d007814ad52c4fe2fd2029cf5493c5b1d385a162c2fd7b36754287bc1c"), looks := true }, kinds := [], alts := [], laidByText := true, laidKinds := [.handle], laidTests := true, laidLooks := .later }
def LedgerGivesUptoCardSaid : Prop := Claim7.holds Tryz.pinned (.plain (OpenSpec.upto ledgerGivesSpec)) ledgerGivesUptoCard
end Rows
end Go.Proofs.YtldkdhfcbopbhaaGreatDoor
