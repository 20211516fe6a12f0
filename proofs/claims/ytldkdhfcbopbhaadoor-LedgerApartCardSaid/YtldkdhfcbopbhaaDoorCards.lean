/-
  DERIVED. GIVEN WITH THE SEED: THE CARDS: each row of YtldkdhfcbopbhaaDoorRows.lean that lists a variable, with what it lists TIED to the program's text (the seventh form; the later family's looks); each row that meets fmt, with fmt's text TOLD by the authors' own Lean function (tested against real Go, not proved from fmt's source: count such statements apart). THE CARD IS WHAT COUNTS. Prove the row's statement (the work); the ties are given (YtldkdhfcbopbhaaDoorTie.lean); close each card by the builder's one call (the guide's Derived/Test/ToyasCard.lean, 'card_holds'). Laid BY PROGRAM, IN A SANDBOX (cutbox-door.mjs). By AI agents, Wed Nov 11 2026. No macro, syntax, notation, axiom, sorry.
-/
import Derived.Test.YtldkdhfcbopbhaaDoorRows
import GoSem.ClaimSeven
namespace Go.Proofs.YtldkdhfcbopbhaaDoor
namespace Rows

/-- THE TIED CARD OF 'aviarylaw21.LedgerNone'. -/
def ledgerNoneCard : Claim7 := { stood := { row := ledgerNoneRow, standIns := [], harness := (true, "57de75facbb96c941c8459ed6c0792289456d1cc024c7321c58727fc4ec96230"), looks := true }, kinds := [], alts := [], laidByText := true, laidKinds := [.handle], laidTests := true, laidLooks := .later }
def LedgerNoneCardSaid : Prop := Claim7.holds Tryd.pinned (.plain (OpenSpec.ofChange ledgerNoneSpec)) ledgerNoneCard

/-- THE TIED CARD OF 'aviarylaw21.LedgerApart'. -/
def ledgerApartCard : Claim7 := { stood := { row := ledgerApartRow, standIns := [], harness := (true, "57de75facbb96c941c8459ed6c0792289456d1cc024c7321c58727fc4ec96230"), looks := true }, kinds := [], alts := [], laidByText := true, laidKinds := [.handle], laidTests := true, laidLooks := .later }
def LedgerApartCardSaid : Prop := Claim7.holds Tryd.pinned (.plain (OpenSpec.ofChange ledgerApartSpec)) ledgerApartCard

/-- THE SECOND FORM's CARD OF 'aviarylaw21.LedgerNone'. -/
def ledgerNoneUptoCard : Claim7 := { stood := { row := ledgerNoneUptoRow, standIns := [], harness := (true, "57de75facbb96c941c8459ed6c0792289456d1cc024c7321c58727fc4ec96230"), looks := true }, kinds := [], alts := [], laidByText := true, laidKinds := [.handle], laidTests := true, laidLooks := .later }
def LedgerNoneUptoCardSaid : Prop := Claim7.holds Tryd.pinned (.plain (OpenSpec.upto ledgerNoneSpec)) ledgerNoneUptoCard

/-- THE SECOND FORM's CARD OF 'aviarylaw21.LedgerApart'. -/
def ledgerApartUptoCard : Claim7 := { stood := { row := ledgerApartUptoRow, standIns := [], harness := (true, "57de75facbb96c941c8459ed6c0792289456d1cc024c7321c58727fc4ec96230"), looks := true }, kinds := [], alts := [], laidByText := true, laidKinds := [.handle], laidTests := true, laidLooks := .later }
def LedgerApartUptoCardSaid : Prop := Claim7.holds Tryd.pinned (.plain (OpenSpec.upto ledgerApartSpec)) ledgerApartUptoCard
end Rows
end Go.Proofs.YtldkdhfcbopbhaaDoor
