/- A filter of its own, of data or of a row that is lent. -/
import Derived.Test.YtmpgilieeegnhaaGreatDoorGf
set_option maxRecDepth 100000
namespace Go.Proofs.YtmpgilieeegnhaaGreatDoor
open Go Go.Pev
noncomputable def twinB_sp : CSpec :=
  { f := (fun args => match args with
      | .ag [.bool b, .rowv e s l] :: m => twinL_sp.f (.ag [.bool b, .rowv e s l] :: m)
      | args => twinR_sp.f args)
    own := some 0
    reg := true }
theorem twinB_ok : EnterOk Tryz.prog 25 ∧ CSpecOk Tryz.prog cfgG 25 twinB_sp := ⟨twinL_ok.1, by
  intro args res h
  simp only [twinB_sp] at h
  split at h
  · exact twinL_ok.2 _ _ h
  · exact twinR_ok.2 _ _ h⟩
noncomputable def L_twinB : List (Nat × CSpec) := (25, twinB_sp) :: L_twinL
theorem s_twinB : SpecsOk Tryz.prog (tabsG L_twinB) := oneSpecGT s_twinL twinB_ok
end Go.Proofs.YtmpgilieeegnhaaGreatDoor
