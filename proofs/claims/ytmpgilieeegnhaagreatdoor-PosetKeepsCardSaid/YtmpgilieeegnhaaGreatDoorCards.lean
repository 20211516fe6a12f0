/-
  DERIVED. GIVEN WITH THE SEED: THE CARDS: each row of YtmpgilieeegnhaaGreatDoorRows.lean that lists a variable, with what it lists TIED to the program's text (the seventh form; the later family's looks); each row that meets fmt, with fmt's text TOLD by the authors' own Lean function (tested against real Go, not proved from fmt's source: count such statements apart). THE CARD IS WHAT COUNTS. Prove the row's statement (the work); the ties are given (YtmpgilieeegnhaaGreatDoorTie.lean); close each card by the builder's one call (the guide's Derived/Test/ToyasCard.lean, 'card_holds'). Laid BY PROGRAM, IN A SANDBOX (cutbox-door.mjs). By AI agents, Wed Nov 11 2026. No macro, syntax, notation, axiom, sorry.
-/
import Derived.Test.YtmpgilieeegnhaaGreatDoorRows
import GoSem.ClaimSeven
namespace Go.Proofs.YtmpgilieeegnhaaGreatDoor
namespace Rows

/-- THE TIED CARD OF 'aviarylaw07.PosetRuns'. -/
def posetRunsCard : Claim7 := { stood := { row := posetRunsRow, standIns := [], harness := (true, "6a66dce9585a010b0cd6f069746d3c8f26f57f88d4967e6dca18444480ad8dfe"), looks := true }, kinds := [], alts := [], laidByText := true, laidKinds := [.handle], laidTests := true, laidLooks := .later }
def PosetRunsCardSaid : Prop := Claim7.holds Tryz.pinned (.plain (OpenSpec.ofChange posetRunsSpec)) posetRunsCard

/-- THE TIED CARD OF 'aviarylaw07.PosetRoots'. -/
def posetRootsCard : Claim7 := { stood := { row := posetRootsRow, standIns := [], harness := (true, "6a66dce9585a010b0cd6f069746d3c8f26f57f88d4967e6dca18444480ad8dfe"), looks := true }, kinds := [], alts := [], laidByText := true, laidKinds := [.handle], laidTests := true, laidLooks := .later }
def PosetRootsCardSaid : Prop := Claim7.holds Tryz.pinned (.plain (OpenSpec.ofChange posetRootsSpec)) posetRootsCard

/-- THE TIED CARD OF 'aviarylaw07.PosetOrder'. -/
def posetOrderCard : Claim7 := { stood := { row := posetOrderRow, standIns := [], harness := (true, "6a66dce9585a010b0cd6f069746d3c8f26f57f88d4967e6dca18444480ad8dfe"), looks := true }, kinds := [], alts := [], laidByText := true, laidKinds := [.handle], laidTests := true, laidLooks := .later }
def PosetOrderCardSaid : Prop := Claim7.holds Tryz.pinned (.plain (OpenSpec.ofChange posetOrderSpec)) posetOrderCard

/-- THE TIED CARD OF 'aviarylaw07.PosetNone'. -/
def posetNoneCard : Claim7 := { stood := { row := posetNoneRow, standIns := [], harness := (true, "6a66dce9585a010b0cd6f069746d3c8f26f57f88d4967e6dca18444480ad8dfe"), looks := true }, kinds := [], alts := [], laidByText := true, laidKinds := [.handle], laidTests := true, laidLooks := .later }
def PosetNoneCardSaid : Prop := Claim7.holds Tryz.pinned (.plain (OpenSpec.ofChange posetNoneSpec)) posetNoneCard

/-- THE TIED CARD OF 'aviarylaw07.PosetKeeps'. -/
def posetKeepsCard : Claim7 := { stood := { row := posetKeepsRow, standIns := [], harness := (true, "6a66dce9585a010b0cd6f069746d3c8f26f57f88d4967e6dca18444480ad8dfe"), looks := true }, kinds := [], alts := [], laidByText := true, laidKinds := [.handle], laidTests := true, laidLooks := .later }
def PosetKeepsCardSaid : Prop := Claim7.holds Tryz.pinned (.plain (OpenSpec.ofChange posetKeepsSpec)) posetKeepsCard

/-- THE SECOND FORM's CARD OF 'aviarylaw07.PosetRuns'. -/
def posetRunsUptoCard : Claim7 := { stood := { row := posetRunsUptoRow, standIns := [], harness := (true, "6a66dce9585a010b0cd6f069746d3c8f26f57f88d4967e6dca18444480ad8dfe"), looks := true }, kinds := [], alts := [], laidByText := true, laidKinds := [.handle], laidTests := true, laidLooks := .later }
def PosetRunsUptoCardSaid : Prop := Claim7.holds Tryz.pinned (.plain (OpenSpec.upto posetRunsSpec)) posetRunsUptoCard

/-- THE SECOND FORM's CARD OF 'aviarylaw07.PosetRoots'. -/
def posetRootsUptoCard : Claim7 := { stood := { row := posetRootsUptoRow, standIns := [], harness := (true, "6a66dce9585a010b0cd6f069746d3c8f26f57f88d4967e6dca18444480ad8dfe"), looks := true }, kinds := [], alts := [], laidByText := true, laidKinds := [.handle], laidTests := true, laidLooks := .later }
def PosetRootsUptoCardSaid : Prop := Claim7.holds Tryz.pinned (.plain (OpenSpec.upto posetRootsSpec)) posetRootsUptoCard

/-- THE SECOND FORM's CARD OF 'aviarylaw07.PosetOrder'. -/
def posetOrderUptoCard : Claim7 := { stood := { row := posetOrderUptoRow, standIns := [], harness := (true, "6a66dce9585a010b0cd6f069746d3c8f26f57f88d4967e6dca18444480ad8dfe"), looks := true }, kinds := [], alts := [], laidByText := true, laidKinds := [.handle], laidTests := true, laidLooks := .later }
def PosetOrderUptoCardSaid : Prop := Claim7.holds Tryz.pinned (.plain (OpenSpec.upto posetOrderSpec)) posetOrderUptoCard

/-- THE SECOND FORM's CARD OF 'aviarylaw07.PosetNone'. -/
def posetNoneUptoCard : Claim7 := { stood := { row := posetNoneUptoRow, standIns := [], harness := (true, "6a66dce9585a010b0cd6f069746d3c8f26f57f88d4967e6dca18444480ad8dfe"), looks := true }, kinds := [], alts := [], laidByText := true, laidKinds := [.handle], laidTests := true, laidLooks := .later }
def PosetNoneUptoCardSaid : Prop := Claim7.holds Tryz.pinned (.plain (OpenSpec.upto posetNoneSpec)) posetNoneUptoCard

/-- THE SECOND FORM's CARD OF 'aviarylaw07.PosetKeeps'. -/
def posetKeepsUptoCard : Claim7 := { stood := { row := posetKeepsUptoRow, standIns := [], harness := (true, "6a66dce9585a010b0cd6f069746d3c8f26f57f88d4967e6dca18444480ad8dfe"), looks := true }, kinds := [], alts := [], laidByText := true, laidKinds := [.handle], laidTests := true, laidLooks := .later }
def PosetKeepsUptoCardSaid : Prop := Claim7.holds Tryz.pinned (.plain (OpenSpec.upto posetKeepsSpec)) posetKeepsUptoCard
end Rows
end Go.Proofs.YtmpgilieeegnhaaGreatDoor
