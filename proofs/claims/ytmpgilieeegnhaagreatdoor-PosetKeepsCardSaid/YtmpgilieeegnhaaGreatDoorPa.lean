/- pick's contract with the closures that look at pairs alone. -/
import Derived.Test.YtmpgilieeegnhaaGreatDoorPk
import Derived.Test.YtmpgilieeegnhaaGreatDoorGc
set_option maxRecDepth 100000
namespace Go.Proofs.YtmpgilieeegnhaaGreatDoor
open Go Go.Pev
/-- The numbers of which something holds. -/
noncomputable def pickF (p : Option Nat) (lk : List Nat) (H : List Pev.Node) (hp : Int → List Pev.Node → Option (Bool × List Pev.Node)) : Option (List Int × List Pev.Node) := (allR p lk H).bind fun r => delF (notF hp) r.1 r.2
theorem pickF_ok {f : Nat} {cs : List AV} {p : Option Nat} {lk : List Nat} {H : List Pev.Node} {hp : Int → List Pev.Node → Option (Bool × List Pev.Node)} {r : List Int × List Pev.Node} (ef : EnterOk Tryz.prog f) (hcs : cs.all AV.pure1 = true)
    (hf : ∀ x H b H', hp x H = some (b, H') → Contract Tryz.prog cfgG f ((.int .i64 x :: cs) ++ [.hin lk H]) (.outs (.bool b) .undef H'))
    (h : pickF p lk H hp = some r) : Contract Tryz.prog cfgG 36 [.rf .ptr p, .fnc f cs, .hin lk H] (.outs (.rowv 3 (.int .i64) r.1) .undef r.2) := by
  obtain ⟨⟨l, H1⟩, h1, h2⟩ := Option.bind_eq_some_iff.1 h
  obtain ⟨m, H2⟩ := r
  refine pick_ok ef hcs (allR_ok.2 [.rf .ptr p, .hin lk H] _ ?_) hf h2
  have hd : decAP [.d (.rf .ptr), .hin] [.rf .ptr p, .hin lk H] = some (p, lk, H, ()) := rfl
  simp only [allR_sp, genSpecR, hd, h1]
  rfl
noncomputable def pick38 (p : Option Nat) (c0 : Option (Option Nat)) (c1 : Option Int) (lk : List Nat) (H : List Pev.Node) : Option (List Int × List Pev.Node) := pickF p lk H fun x H => poset_Poset_Roots_1_1 x c0 c1 lk H
noncomputable def pick62 (p : Option Nat) (c0 : Option (Option Nat)) (c1 c2 : Option Int) (lk : List Nat) (H : List Pev.Node) : Option (List Int × List Pev.Node) := pickF p lk H fun x H => poset_Poset_just_1 x c0 c1 c2 lk H
noncomputable def pick38_sp : CSpec := genSpecR [.d (.rf .ptr), .fnc 38 [.pt (.rf .ptr), .pt (.int .i64)], .hin] [.row 3 (.int .i64), .reg] none true (fun x => pick38 x.1 x.2.1 x.2.2.1 x.2.2.2.1 x.2.2.2.2.1)
noncomputable def pick62_sp : CSpec := genSpecR [.d (.rf .ptr), .fnc 62 [.pt (.rf .ptr), .pt (.int .i64), .pt (.int .i64)], .hin] [.row 3 (.int .i64), .reg] none true (fun x => pick62 x.1 x.2.1 x.2.2.1 x.2.2.2.1 x.2.2.2.2.1 x.2.2.2.2.2.1)
theorem roots11_c {x : Int} {c0 : Option (Option Nat)} {c1 : Option Int} {lk : List Nat} {H H' : List Pev.Node} {b : Bool} (hx : poset_Poset_Roots_1_1 x c0 c1 lk H = some (b, H')) : Contract Tryz.prog cfgG 38 ((.int .i64 x :: [.pel (.rf .ptr) c0, .pel (.int .i64) c1]) ++ [.hin lk H]) (.outs (.bool b) .undef H') := by
  refine poset_Poset_Roots_1_1_ok.2 _ _ ?_
  have hd : decAP [.d (.int .i64), .d (.pt (.rf .ptr)), .d (.pt (.int .i64)), .hin] ((.int .i64 x :: [.pel (.rf .ptr) c0, .pel (.int .i64) c1]) ++ [.hin lk H]) = some (x, c0, c1, lk, H, ()) := rfl
  simp only [poset_Poset_Roots_1_1_sp, genSpecR, hd, hx]
  rfl
theorem just1_c {x : Int} {c0 : Option (Option Nat)} {c1 c2 : Option Int} {lk : List Nat} {H H' : List Pev.Node} {b : Bool} (hx : poset_Poset_just_1 x c0 c1 c2 lk H = some (b, H')) : Contract Tryz.prog cfgG 62 ((.int .i64 x :: [.pel (.rf .ptr) c0, .pel (.int .i64) c1, .pel (.int .i64) c2]) ++ [.hin lk H]) (.outs (.bool b) .undef H') := by
  refine poset_Poset_just_1_ok.2 _ _ ?_
  have hd : decAP [.d (.int .i64), .d (.pt (.rf .ptr)), .d (.pt (.int .i64)), .d (.pt (.int .i64)), .hin] ((.int .i64 x :: [.pel (.rf .ptr) c0, .pel (.int .i64) c1, .pel (.int .i64) c2]) ++ [.hin lk H]) = some (x, c0, c1, c2, lk, H, ()) := rfl
  simp only [poset_Poset_just_1_sp, genSpecR, hd, hx]
  rfl
theorem pick38_ok : CSpecOk Tryz.prog cfgG 36 pick38_sp := handSpecR (by
  intro x r h
  obtain ⟨p, c0, c1, lk, H, ⟨⟩⟩ := x
  exact pickF_ok (f := 38) (cs := [.pel (.rf .ptr) c0, .pel (.int .i64) c1]) poset_Poset_Roots_1_1_ok.1 rfl (fun _ _ _ _ hx => roots11_c hx) h)
theorem pick62_ok : CSpecOk Tryz.prog cfgG 36 pick62_sp := handSpecR (by
  intro x r h
  obtain ⟨p, c0, c1, c2, lk, H, ⟨⟩⟩ := x
  exact pickF_ok (f := 62) (cs := [.pel (.rf .ptr) c0, .pel (.int .i64) c1, .pel (.int .i64) c2]) poset_Poset_just_1_ok.1 rfl (fun _ _ _ _ hx => just1_c hx) h)
/-- One of two, by the closure's number. -/
noncomputable def twoSp (f : Nat) (a b : CSpec) : CSpec :=
  { f := (fun args => match args with
      | _ :: .fnc g _ :: _ => (match Nat.beq g f with | true => a.f args | false => b.f args)
      | _ => .fail)
    own := none
    reg := true }
theorem twoSp_ok {f : Nat} {a b : CSpec} (ha : CSpecOk Tryz.prog cfgG 36 a) (hb : CSpecOk Tryz.prog cfgG 36 b) : CSpecOk Tryz.prog cfgG 36 (twoSp f a b) := by
  intro args res h
  simp only [twoSp] at h
  split at h
  · split at h
    · exact ha _ _ h
    · exact hb _ _ h
  · cases h
noncomputable def pickA_sp : CSpec := twoSp 38 pick38_sp pick62_sp
theorem e36 : EnterOk Tryz.prog 36 := enter Tryz.func36 (by kernel_rfl) (by kernel_rfl)
noncomputable def L_pickA : List (Nat × CSpec) := (36, pickA_sp) :: L_poset_Poset_just_1
theorem s_pickA : SpecsOk Tryz.prog (tabsG L_pickA) := oneSpecGT s_poset_Poset_just_1 ⟨e36, twoSp_ok pick38_ok pick62_ok⟩
end Go.Proofs.YtmpgilieeegnhaaGreatDoor
