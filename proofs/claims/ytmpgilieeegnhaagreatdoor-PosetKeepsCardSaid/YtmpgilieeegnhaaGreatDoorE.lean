/- A world where the listed variables hold what is listed; what a row's condition and its world's shape give a walk. -/
import Derived.Test.YtmpgilieeegnhaaGreatDoorA
import Derived.Test.YtmpgilieeegnhaaGreatDoorRows
import Derived.ChangeSame
import Derived.ChangeVars
import Derived.JoinedOf
import Derived.LaidLaws
import Derived.LaidHandle
import Derived.LaidSub
import Derived.HandedShaped
import Derived.Shelf.Vars
import Derived.Lib.LaidIn
import Derived.KernelRfl
namespace Go.Proofs.YtmpgilieeegnhaaGreatDoor
open Go Go.Pev
theorem own : ownKnob Tryz.prog.godebug = none := by kernel_rfl
def put (g : Nat) (cs : Array Value) (h : Array Obj) : Array Obj := h.modify g fun
  | .cells _ t frozen => .cells cs t frozen
  | o => o
noncomputable def laidWorld (os : Os) : World :=
  let w0 := World.holding Tryz.prog os ⟨#[], #[], []⟩
  { w0 with heap := put 0 #[.iface 145 (.agg #[.pointer (some ⟨1, 40, none⟩)])] (w0.heap) }
def laid5 : List (String × DataW Unit) := []
def laid6 : List (String × DataW Unit) := [("errors.errorType", Rows.laid_errors_errorType)]
set_option maxRecDepth 100000 in
theorem laid6_met (os : Os) (args : Array Value) : laidMetH Tryz.prog laid6 ((laidWorld os).forCall (fun _ _ => 0) ⟨#[], args, []⟩).memory :=
  laidMetH_of_parts (laidMet_of_run' 8 (by kernel_rfl) (by kernel_rfl)) (by kernel_rfl)
theorem glob_of_met {W : World} (_ : laidMet Tryz.prog laid5 W) (hs : W.ShapedOpen Tryz.prog) : Glob cfgT (fun _ => False) W := by
  exact Glob.none rfl
theorem glob6_of_laid {W : World} (h : laidMetH Tryz.prog laid6 W) (hs : W.ShapedOpen Tryz.prog) : Glob cfgG (fun _ => False) W := by
  obtain ⟨h1, h2⟩ : laidMet Tryz.prog laid5 W ∧ handlesMet Tryz.prog [("errors.errorType", Rows.laid_errors_errorType)] W := h
  exact Glob.cons (C := cfg) (GV.of_handle (u := 145) (ty := 40) rfl rfl (by kernel_rfl) (by kernel_rfl) (by kernel_rfl) h2) (glob_of_met h1 hs)
theorem laidOut : laidOutB Tryz.prog = true := by kernel_rfl
end Go.Proofs.YtmpgilieeegnhaaGreatDoor
