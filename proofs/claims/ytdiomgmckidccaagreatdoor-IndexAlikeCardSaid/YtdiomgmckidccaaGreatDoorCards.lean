/-
  DERIVED. GIVEN WITH THE SEED: THE CARDS: each row of YtdiomgmckidccaaGreatDoorRows.lean that lists a variable, with what it lists TIED to the program's text (the seventh form; the later family's looks); each row that meets fmt, with fmt's text TOLD by the authors' own Lean function (tested against real Go, not proved from fmt's source: count such statements apart). THE CARD IS WHAT COUNTS. Prove the row's statement (the work); the ties are given (YtdiomgmckidccaaGreatDoorTie.lean); close each card by the builder's one call (the guide's Derived/Test/ToyasCard.lean, 'card_holds'). Laid BY PROGRAM, IN A SANDBOX (cutbox-door.mjs). By AI agents, Wed Nov 11 2026. No macro, syntax, notation, axiom, sorry.
-/
import Derived.Test.YtdiomgmckidccaaGreatDoorRows
import GoSem.ClaimSeven
namespace Go.Proofs.YtdiomgmckidccaaGreatDoor
namespace Rows

/-- THE TIED CARD OF 'aviarylaw08.IndexRuns'. -/
def indexRunsCard : Claim7 := { stood := { row := indexRunsRow, standIns := [], harness := (true, "f0c8a45ab1b13b998c283719d3c71a0d80acab74eb0e6d6a69f3db1b40014e56"), looks := true }, kinds := [], alts := [], laidByText := true, laidKinds := [.handle], laidTests := true, laidLooks := .later }
def IndexRunsCardSaid : Prop := Claim7.holds Tryz.pinned (.plain (OpenSpec.ofChange indexRunsSpec)) indexRunsCard

/-- THE TIED CARD OF 'aviarylaw08.IndexNone'. -/
def indexNoneCard : Claim7 := { stood := { row := indexNoneRow, standIns := [], harness := (true, "f0c8a45ab1b13b998c283719d3c71a0d80acab74eb0e6d6a69f3db1b40014e56"), looks := true }, kinds := [], alts := [], laidByText := true, laidKinds := [.handle], laidTests := true, laidLooks := .later }
def IndexNoneCardSaid : Prop := Claim7.holds Tryz.pinned (.plain (OpenSpec.ofChange indexNoneSpec)) indexNoneCard

/-- THE TIED CARD OF 'aviarylaw08.IndexAlike'. -/
def indexAlikeCard : Claim7 := { stood := { row := indexAlikeRow, standIns := [], harness := (true, "f0c8a45ab1b13b998c283719d3c71a0d80acab74eb0e6d6a69f3db1b40014e56"), looks := true }, kinds := [], alts := [], laidByText := true, laidKinds := [.handle], laidTests := true, laidLooks := .later }
def IndexAlikeCardSaid : Prop := Claim7.holds Tryz.pinned (.plain (OpenSpec.ofChange indexAlikeSpec)) indexAlikeCard

/-- THE TIED CARD OF 'aviarylaw08.IndexMatches'. -/
def indexMatchesCard : Claim7 := { stood := { row := indexMatchesRow, standIns := [], harness := (true, "f0c8a45ab1b13b998c283719d3c71a0d80acab74eb0e6d6a69f3db1b40014e56"), looks := true }, kinds := [], alts := [], laidByText := true, laidKinds := [.handle], laidTests := true, laidLooks := .later }
def IndexMatchesCardSaid : Prop := Claim7.holds Tryz.pinned (.plain (OpenSpec.ofChange indexMatchesSpec)) indexMatchesCard

/-- THE SECOND FORM's CARD OF 'aviarylaw08.IndexRuns'. -/
def indexRunsUptoCard : Claim7 := { stood := { row := indexRunsUptoRow, standIns := [], harness := (true, "f0c8a45ab1b13b998c283719d3c71a0d80acab74eb0e6d6a69f3db1b40014e56"), looks := true }, kinds := [], alts := [], laidByText := true, laidKinds := [.handle], laidTests := true, laidLooks := .later }
def IndexRunsUptoCardSaid : Prop := Claim7.holds Tryz.pinned (.plain (OpenSpec.upto indexRunsSpec)) indexRunsUptoCard

/-- THE SECOND FORM's CARD OF 'aviarylaw08.IndexNone'. -/
def indexNoneUptoCard : Claim7 := { stood := { row := indexNoneUptoRow, standIns := [], harness := (true, "f0c8a45ab1b13b998c283719d3c71a0d80acab74eb0e6d6a69f3db1b40014e56"), looks := true }, kinds := [], alts := [], laidByText := true, laidKinds := [.handle], laidTests := true, laidLooks := .later }
def IndexNoneUptoCardSaid : Prop := Claim7.holds Tryz.pinned (.plain (OpenSpec.upto indexNoneSpec)) indexNoneUptoCard

/-- THE SECOND FORM's CARD OF 'aviarylaw08.IndexAlike'. -/
def indexAlikeUptoCard : Claim7 := { stood := { row := indexAlikeUptoRow, standIns := [], harness := (true, "f0c8a45ab1b13b998c283719d3c71a0d80acab74eb0e6d6a69f3db1b40014e56"), looks := true }, kinds := [], alts := [], laidByText := true, laidKinds := [.handle], laidTests := true, laidLooks := .later }
def IndexAlikeUptoCardSaid : Prop := Claim7.holds Tryz.pinned (.plain (OpenSpec.upto indexAlikeSpec)) indexAlikeUptoCard

/-- THE SECOND FORM's CARD OF 'aviarylaw08.IndexMatches'. -/
def indexMatchesUptoCard : Claim7 := { stood := { row := indexMatchesUptoRow, standIns := [], harness := (true, "f0c8a45ab1b13b998c283719d3c71a0d80acab74eb0e6d6a69f3db1b40014e56"), looks := true }, kinds := [], alts := [], laidByText := true, laidKinds := [.handle], laidTests := true, laidLooks := .later }
def IndexMatchesUptoCardSaid : Prop := Claim7.holds Tryz.pinned (.plain (OpenSpec.upto indexMatchesSpec)) indexMatchesUptoCard
end Rows
end Go.Proofs.YtdiomgmckidccaaGreatDoor
