/- What stands ahead of all contracts. -/
import Derived.Test.YtmpgilieeegnhaaGreatDoorPewZa
import Derived.Test.YtmpgilieeegnhaaGreatDoorM
set_option maxRecDepth 100000
namespace Go.Proofs.YtmpgilieeegnhaaGreatDoor
open Go Go.Pev
/-- A bound, a filter. -/
abbrev Bd := ByteArray × Int × Int × Int × Bool × ByteArray × Bool × Bool
abbrev Fil := Bool × List Bd
abbrev Item := Int × Fil
abbrev Op7 := Int × Int × Fil
/-- With errors.As. -/
theorem noSpecsG : SpecsOk Tryz.prog (tabsG []) := ⟨(fun g sp h => by cases h), .inr (asOk [])⟩
noncomputable def L0 : List (Nat × Pev.CSpec) := []
theorem s0 : SpecsOk Tryz.prog (tabsG L0) := noSpecsG
end Go.Proofs.YtmpgilieeegnhaaGreatDoor
