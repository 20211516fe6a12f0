/- pick's contract with the closures that ask pick themselves. -/
import Derived.Test.YtmpgilieeegnhaaGreatDoorGd
set_option maxRecDepth 100000
namespace Go.Proofs.YtmpgilieeegnhaaGreatDoor
open Go Go.Pev
noncomputable def pick37 (p : Option Nat) (c0 : Option (Option Nat)) (lk : List Nat) (H : List Pev.Node) : Option (List Int × List Pev.Node) := pickF p lk H fun x H => poset_Poset_Roots_1 x c0 lk H
noncomputable def pick44 (p : Option Nat) (c0 : Option (Option Nat)) (c1 : Option Int) (lk : List Nat) (H : List Pev.Node) : Option (List Int × List Pev.Node) := pickF p lk H fun x H => poset_Poset_Parents_1 x c0 c1 lk H
noncomputable def pick47 (p : Option Nat) (c0 : Option (Option Nat)) (c1 : Option Int) (lk : List Nat) (H : List Pev.Node) : Option (List Int × List Pev.Node) := pickF p lk H fun x H => poset_Poset_Children_1 x c0 c1 lk H
noncomputable def pick37_sp : CSpec := genSpecR [.d (.rf .ptr), .fnc 37 [.pt (.rf .ptr)], .hin] [.row 3 (.int .i64), .reg] none true (fun x => pick37 x.1 x.2.1 x.2.2.1 x.2.2.2.1)
noncomputable def pick44_sp : CSpec := genSpecR [.d (.rf .ptr), .fnc 44 [.pt (.rf .ptr), .pt (.int .i64)], .hin] [.row 3 (.int .i64), .reg] none true (fun x => pick44 x.1 x.2.1 x.2.2.1 x.2.2.2.1 x.2.2.2.2.1)
noncomputable def pick47_sp : CSpec := genSpecR [.d (.rf .ptr), .fnc 47 [.pt (.rf .ptr), .pt (.int .i64)], .hin] [.row 3 (.int .i64), .reg] none true (fun x => pick47 x.1 x.2.1 x.2.2.1 x.2.2.2.1 x.2.2.2.2.1)
theorem roots1_c {x : Int} {c0 : Option (Option Nat)} {lk : List Nat} {H H' : List Pev.Node} {b : Bool} (hx : poset_Poset_Roots_1 x c0 lk H = some (b, H')) : Contract Tryz.prog cfgG 37 ((.int .i64 x :: [.pel (.rf .ptr) c0]) ++ [.hin lk H]) (.outs (.bool b) .undef H') := by
  refine poset_Poset_Roots_1_ok.2 _ _ ?_
  have hd : decAP [.d (.int .i64), .d (.pt (.rf .ptr)), .hin] ((.int .i64 x :: [.pel (.rf .ptr) c0]) ++ [.hin lk H]) = some (x, c0, lk, H, ()) := rfl
  simp only [poset_Poset_Roots_1_sp, genSpecR, hd, hx]
  rfl
theorem parents1_c {x : Int} {c0 : Option (Option Nat)} {c1 : Option Int} {lk : List Nat} {H H' : List Pev.Node} {b : Bool} (hx : poset_Poset_Parents_1 x c0 c1 lk H = some (b, H')) : Contract Tryz.prog cfgG 44 ((.int .i64 x :: [.pel (.rf .ptr) c0, .pel (.int .i64) c1]) ++ [.hin lk H]) (.outs (.bool b) .undef H') := by
  refine poset_Poset_Parents_1_ok.2 _ _ ?_
  have hd : decAP [.d (.int .i64), .d (.pt (.rf .ptr)), .d (.pt (.int .i64)), .hin] ((.int .i64 x :: [.pel (.rf .ptr) c0, .pel (.int .i64) c1]) ++ [.hin lk H]) = some (x, c0, c1, lk, H, ()) := rfl
  simp only [poset_Poset_Parents_1_sp, genSpecR, hd, hx]
  rfl
theorem children1_c {x : Int} {c0 : Option (Option Nat)} {c1 : Option Int} {lk : List Nat} {H H' : List Pev.Node} {b : Bool} (hx : poset_Poset_Children_1 x c0 c1 lk H = some (b, H')) : Contract Tryz.prog cfgG 47 ((.int .i64 x :: [.pel (.rf .ptr) c0, .pel (.int .i64) c1]) ++ [.hin lk H]) (.outs (.bool b) .undef H') := by
  refine poset_Poset_Children_1_ok.2 _ _ ?_
  have hd : decAP [.d (.int .i64), .d (.pt (.rf .ptr)), .d (.pt (.int .i64)), .hin] ((.int .i64 x :: [.pel (.rf .ptr) c0, .pel (.int .i64) c1]) ++ [.hin lk H]) = some (x, c0, c1, lk, H, ()) := rfl
  simp only [poset_Poset_Children_1_sp, genSpecR, hd, hx]
  rfl
theorem pick37_ok : CSpecOk Tryz.prog cfgG 36 pick37_sp := handSpecR (by
  intro x r h
  obtain ⟨p, c0, lk, H, ⟨⟩⟩ := x
  exact pickF_ok (f := 37) (cs := [.pel (.rf .ptr) c0]) poset_Poset_Roots_1_ok.1 rfl (fun _ _ _ _ hx => roots1_c hx) h)
theorem pick44_ok : CSpecOk Tryz.prog cfgG 36 pick44_sp := handSpecR (by
  intro x r h
  obtain ⟨p, c0, c1, lk, H, ⟨⟩⟩ := x
  exact pickF_ok (f := 44) (cs := [.pel (.rf .ptr) c0, .pel (.int .i64) c1]) poset_Poset_Parents_1_ok.1 rfl (fun _ _ _ _ hx => parents1_c hx) h)
theorem pick47_ok : CSpecOk Tryz.prog cfgG 36 pick47_sp := handSpecR (by
  intro x r h
  obtain ⟨p, c0, c1, lk, H, ⟨⟩⟩ := x
  exact pickF_ok (f := 47) (cs := [.pel (.rf .ptr) c0, .pel (.int .i64) c1]) poset_Poset_Children_1_ok.1 rfl (fun _ _ _ _ hx => children1_c hx) h)
noncomputable def pickB_sp : CSpec := twoSp 37 pick37_sp (twoSp 44 pick44_sp pick47_sp)
noncomputable def L_pickB : List (Nat × CSpec) := (36, pickB_sp) :: L_poset_Poset_Children_1
theorem s_pickB : SpecsOk Tryz.prog (tabsG L_pickB) := oneSpecGT s_poset_Poset_Children_1 ⟨e36, twoSp_ok pick37_ok (twoSp_ok pick44_ok pick47_ok)⟩
end Go.Proofs.YtmpgilieeegnhaaGreatDoor
