/-
  DERIVED. GIVEN WITH THE SEED: THE CARDS: each row of YtciajnknnoecaaaDoorRows.lean that lists a variable, with what it lists TIED to the program's text (the seventh form; the later family's looks); each row that meets fmt, with fmt's text TOLD by the authors' own Lean function (tested against real Go, not proved from fmt's source: count such statements apart). THE CARD IS WHAT COUNTS. Prove the row's statement (the work); the ties are given (YtciajnknnoecaaaDoorTie.lean); close each card by the builder's one call (the guide's Derived/Test/ToyasCard.lean, 'card_holds'). Laid BY PROGRAM, IN A SANDBOX (cutbox-door.mjs). By AI agents, Wed Nov 11 2026. No macro, syntax, notation, axiom, sorry.
-/
import Derived.Test.YtciajnknnoecaaaDoorRows
import GoSem.ClaimSeven
namespace Go.Proofs.YtciajnknnoecaaaDoor
namespace Rows

/-- THE TIED CARD OF 'aviarylaw02.ValueBack'. -/
def valueBackCard : Claim7 := { stood := { row := valueBackRow, standIns := [], harness := (true, "037fae09c715b99551f6ffc39b6317c5ab1dc24c9da9650da149487dbb9d414c"), looks := true }, kinds := [], alts := [], laidByText := true, laidKinds := [.data, .data, .data, .sentinel, .sentinel], laidTests := true, laidLooks := .later }
def ValueBackCardSaid : Prop := Claim7.holds Tryd.pinned (.plain (OpenSpec.ofChange valueBackSpec)) valueBackCard

/-- THE TIED CARD OF 'aviarylaw02.ValueLine'. -/
def valueLineCard : Claim7 := { stood := { row := valueLineRow, standIns := [], harness := (true, "037fae09c715b99551f6ffc39b6317c5ab1dc24c9da9650da149487dbb9d414c"), looks := true }, kinds := [], alts := [], laidByText := true, laidKinds := [.data, .data, .data, .sentinel, .sentinel], laidTests := true, laidLooks := .later }
def ValueLineCardSaid : Prop := Claim7.holds Tryd.pinned (.plain (OpenSpec.ofChange valueLineSpec)) valueLineCard

/-- THE TIED CARD OF 'aviarylaw02.ValueApart'. -/
def valueApartCard : Claim7 := { stood := { row := valueApartRow, standIns := [], harness := (true, "037fae09c715b99551f6ffc39b6317c5ab1dc24c9da9650da149487dbb9d414c"), looks := true }, kinds := [], alts := [], laidByText := true, laidKinds := [.data, .data, .data, .sentinel, .sentinel], laidTests := true, laidLooks := .later }
def ValueApartCardSaid : Prop := Claim7.holds Tryd.pinned (.plain (OpenSpec.ofChange valueApartSpec)) valueApartCard

/-- THE TIED CARD OF 'aviarylaw02.ValueTexts'. -/
def valueTextsCard : Claim7 := { stood := { row := valueTextsRow, standIns := [], harness := (true, "037fae09c715b99551f6ffc39b6317c5ab1dc24c9da9650da149487dbb9d414c"), looks := true }, kinds := [], alts := [], laidByText := true, laidKinds := [.data, .data, .data, .handle, .sentinel, .sentinel], laidTests := true, laidLooks := .later }
def ValueTextsCardSaid : Prop := Claim7.holds Tryd.pinned (.plain (OpenSpec.ofChange valueTextsSpec)) valueTextsCard

/-- THE TIED CARD OF 'aviarylaw02.ValueReads'. -/
def valueReadsCard : Claim7 := { stood := { row := valueReadsRow, standIns := [], harness := (true, "037fae09c715b99551f6ffc39b6317c5ab1dc24c9da9650da149487dbb9d414c"), looks := true }, kinds := [], alts := [], laidByText := true, laidKinds := [.data, .data, .data, .handle, .sentinel, .sentinel], laidTests := true, laidLooks := .later }
def ValueReadsCardSaid : Prop := Claim7.holds Tryd.pinned (.plain (OpenSpec.ofChange valueReadsSpec)) valueReadsCard

/-- THE TIED CARD OF 'aviarylaw02.ValueOrders'. -/
def valueOrdersCard : Claim7 := { stood := { row := valueOrdersRow, standIns := [], harness := (true, "037fae09c715b99551f6ffc39b6317c5ab1dc24c9da9650da149487dbb9d414c"), looks := true }, kinds := [], alts := [], laidByText := true, laidKinds := [.data, .data, .data, .handle, .sentinel, .sentinel], laidTests := true, laidLooks := .later }
def ValueOrdersCardSaid : Prop := Claim7.holds Tryd.pinned (.plain (OpenSpec.ofChange valueOrdersSpec)) valueOrdersCard

/-- THE TIED CARD OF 'aviarylaw02.ValueQuotes'. -/
def valueQuotesCard : Claim7 := { stood := { row := valueQuotesRow, standIns := [], harness := (true, "037fae09c715b99551f6ffc39b6317c5ab1dc24c9da9650da149487dbb9d414c"), looks := true }, kinds := [], alts := [], laidByText := true, laidKinds := [.data, .data, .data, .handle, .sentinel, .sentinel], laidTests := true, laidLooks := .later }
def ValueQuotesCardSaid : Prop := Claim7.holds Tryd.pinned (.plain (OpenSpec.ofChange valueQuotesSpec)) valueQuotesCard

/-- THE SECOND FORM's CARD OF 'aviarylaw02.ValueBack'. -/
def valueBackUptoCard : Claim7 := { stood := { row := valueBackUptoRow, standIns := [], harness := (true, "037fae09c715b99551f6ffc39b6317c5ab1dc24c9da9650da149487dbb9d414c"), looks := true }, kinds := [], alts := [], laidByText := true, laidKinds := [.data, .data, .data, .sentinel, .sentinel], laidTests := true, laidLooks := .later }
def ValueBackUptoCardSaid : Prop := Claim7.holds Tryd.pinned (.plain (OpenSpec.upto valueBackSpec)) valueBackUptoCard

/-- THE SECOND FORM's CARD OF 'aviarylaw02.ValueLine'. -/
def valueLineUptoCard : Claim7 := { stood := { row := valueLineUptoRow, standIns := [], harness := (true, "037fae09c715b99551f6ffc39b6317c5ab1dc24c9da9650da149487dbb9d414c"), looks := true }, kinds := [], alts := [], laidByText := true, laidKinds := [.data, .data, .data, .sentinel, .sentinel], laidTests := true, laidLooks := .later }
def ValueLineUptoCardSaid : Prop := Claim7.holds Tryd.pinned (.plain (OpenSpec.upto valueLineSpec)) valueLineUptoCard

/-- THE SECOND FORM's CARD OF 'aviarylaw02.ValueApart'. -/
def valueApartUptoCard : Claim7 := { stood := { row := valueApartUptoRow, standIns := [], harness := (true, "037fae09c715b99551f6ffc39b6317c5ab1dc24c9da9650da149487dbb9d414c"), looks := true }, kinds := [], alts := [], laidByText := true, laidKinds := [.data, .data, .data, .sentinel, .sentinel], laidTests := true, laidLooks := .later }
def ValueApartUptoCardSaid : Prop := Claim7.holds Tryd.pinned (.plain (OpenSpec.upto valueApartSpec)) valueApartUptoCard

/-- THE SECOND FORM's CARD OF 'aviarylaw02.ValueTexts'. -/
def valueTextsUptoCard : Claim7 := { stood := { row := valueTextsUptoRow, standIns := [], harness := (true, "037fae09c715b99551f6ffc39b6317c5ab1dc24c9da9650da149487dbb9d414c"), looks := true }, kinds := [], alts := [], laidByText := true, laidKinds := [.data, .data, .data, .handle, .sentinel, .sentinel], laidTests := true, laidLooks := .later }
def ValueTextsUptoCardSaid : Prop := Claim7.holds Tryd.pinned (.plain (OpenSpec.upto valueTextsSpec)) valueTextsUptoCard

/-- THE SECOND FORM's CARD OF 'aviarylaw02.ValueReads'. -/
def valueReadsUptoCard : Claim7 := { stood := { row := valueReadsUptoRow, standIns := [], harness := (true, "037fae09c715b99551f6ffc39b6317c5ab1dc24c9da9650da149487dbb9d414c"), looks := true }, kinds := [], alts := [], laidByText := true, laidKinds := [.data, .data, .data, .handle, .sentinel, .sentinel], laidTests := true, laidLooks := .later }
def ValueReadsUptoCardSaid : Prop := Claim7.holds Tryd.pinned (.plain (OpenSpec.upto valueReadsSpec)) valueReadsUptoCard

/-- THE SECOND FORM's CARD OF 'aviarylaw02.ValueOrders'. -/
def valueOrdersUptoCard : Claim7 := { stood := { row := valueOrdersUptoRow, standIns := [], harness := (true, "037fae09c715b99551f6ffc39b6317c5ab1dc24c9da9650da149487dbb9d414c"), looks := true }, kinds := [], alts := [], laidByText := true, laidKinds := [.data, .data, .data, .handle, .sentinel, .sentinel], laidTests := true, laidLooks := .later }
def ValueOrdersUptoCardSaid : Prop := Claim7.holds Tryd.pinned (.plain (OpenSpec.upto valueOrdersSpec)) valueOrdersUptoCard

/-- THE SECOND FORM's CARD OF 'aviarylaw02.ValueQuotes'. -/
def valueQuotesUptoCard : Claim7 := { stood := { row := valueQuotesUptoRow, standIns := [], harness := (true, "037fae09c715b99551f6ffc39b6317c5ab1dc24c9da9650da149487dbb9d414c"), looks := true }, kinds := [], alts := [], laidByText := true, laidKinds := [.data, .data, .data, .handle, .sentinel, .sentinel], laidTests := true, laidLooks := .later }
def ValueQuotesUptoCardSaid : Prop := Claim7.holds Tryd.pinned (.plain (OpenSpec.upto valueQuotesSpec)) valueQuotesUptoCard
end Rows
end Go.Proofs.YtciajnknnoecaaaDoor
