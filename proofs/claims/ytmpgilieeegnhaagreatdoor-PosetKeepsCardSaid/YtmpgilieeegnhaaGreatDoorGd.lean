/- Trees of functions, their loops and contracts: printed by PewGen (own tool). -/
import Derived.Test.YtmpgilieeegnhaaGreatDoorPa
set_option maxRecDepth 100000
namespace Go.Proofs.YtmpgilieeegnhaaGreatDoor
open Go Go.Pev
noncomputable def poset_Poset_Roots_1_A : Anns := { l := [], orc := [], N := 1000, rng := [], ro := [], outs := some false, nils := [] }
noncomputable def poset_Poset_Roots_1_t (p0 : Int) (p1 : (Option (Option Nat))) (lk : (List Nat)) (H : (List Pev.Node)) : FT (Bool × (List Pev.Node)) := (.opt p1 fun x3 => (.opt (pick38 x3 p1 (some p0) (itLocks [] ++ lk) H) fun x4 => (.ret ((Int.ofNat (List.length x4.fst) == 0, x4.snd)))))
noncomputable def poset_Poset_Roots_1 (p0 : Int) (p1 : (Option (Option Nat))) (lk : (List Nat)) (H : (List Pev.Node)) : Option (Bool × (List Pev.Node)) := (poset_Poset_Roots_1_t p0 p1 lk H).fin
noncomputable def poset_Poset_Roots_1_sp : CSpec := genSpecR [.d (.int .i64), .d (.pt (.rf .ptr)), .hin] [.d .bool, .reg] none true (fun x => poset_Poset_Roots_1 x.1 x.2.1 x.2.2.1 x.2.2.2.1)
theorem poset_Poset_Roots_1_ok : EnterOk Tryz.prog 37 ∧ CSpecOk Tryz.prog cfgG 37 poset_Poset_Roots_1_sp := ⟨enter Tryz.func37 (by kernel_rfl) (by kernel_rfl), genSpecR_ok (A := poset_Poset_Roots_1_A) (ap := [.d (.int .i64), .d (.pt (.rf .ptr)), .hin]) (l := [.d .bool, .reg]) (own := none) (reg := true) (bd := fun (x : (ATy [.d (.int .i64), .d (.pt (.rf .ptr)), .hin])) => poset_Poset_Roots_1_t x.1 x.2.1 x.2.2.1 x.2.2.2.1) (fitG L_pickA) s_pickA mixed (by kernel_rfl) (loopsAll (l := []) (by kernel_rfl) trivial) (fun _ => rfl) (by
  intro x
  obtain ⟨p0, p1, lk, H, ⟨⟩⟩ := x
  kernel_rfl)⟩
noncomputable def L_poset_Poset_Roots_1 : List (Nat × CSpec) := (37, poset_Poset_Roots_1_sp) :: L_pickA
theorem s_poset_Poset_Roots_1 : SpecsOk Tryz.prog (tabsG L_poset_Poset_Roots_1) := oneSpecGT s_pickA poset_Poset_Roots_1_ok
noncomputable def poset_Poset_just_A : Anns := { l := [], orc := [], N := 1000, rng := [], ro := [], outs := some false, nils := [] }
noncomputable def poset_Poset_just_t (p0 : (Option Nat)) (p1 : Int) (p2 : Int) (lk : (List Nat)) (H : (List Pev.Node)) : FT (Bool × (List Pev.Node)) := (.opt (poset_Poset_above p0 p1 p2 (itLocks [] ++ lk) H) fun x3 => (.br x3.fst (.opt (pick62 p0 (some p0) (some p1) (some p2) (itLocks [] ++ lk) x3.snd) fun x4 => (.ret ((Int.ofNat (List.length x4.fst) == 0, x4.snd)))) (.ret ((false, x3.snd)))))
noncomputable def poset_Poset_just (p0 : (Option Nat)) (p1 : Int) (p2 : Int) (lk : (List Nat)) (H : (List Pev.Node)) : Option (Bool × (List Pev.Node)) := (poset_Poset_just_t p0 p1 p2 lk H).fin
noncomputable def poset_Poset_just_sp : CSpec := genSpecR [.d (.rf .ptr), .d (.int .i64), .d (.int .i64), .hin] [.d .bool, .reg] none true (fun x => poset_Poset_just x.1 x.2.1 x.2.2.1 x.2.2.2.1 x.2.2.2.2.1)
theorem poset_Poset_just_ok : EnterOk Tryz.prog 45 ∧ CSpecOk Tryz.prog cfgG 45 poset_Poset_just_sp := ⟨enter Tryz.func45 (by kernel_rfl) (by kernel_rfl), genSpecR_ok (A := poset_Poset_just_A) (ap := [.d (.rf .ptr), .d (.int .i64), .d (.int .i64), .hin]) (l := [.d .bool, .reg]) (own := none) (reg := true) (bd := fun (x : (ATy [.d (.rf .ptr), .d (.int .i64), .d (.int .i64), .hin])) => poset_Poset_just_t x.1 x.2.1 x.2.2.1 x.2.2.2.1 x.2.2.2.2.1) (fitG L_poset_Poset_Roots_1) s_poset_Poset_Roots_1 mixed (by kernel_rfl) (loopsAll (l := []) (by kernel_rfl) trivial) (fun _ => rfl) (by
  intro x
  obtain ⟨p0, p1, p2, lk, H, ⟨⟩⟩ := x
  kernel_rfl)⟩
noncomputable def L_poset_Poset_just : List (Nat × CSpec) := (45, poset_Poset_just_sp) :: L_poset_Poset_Roots_1
theorem s_poset_Poset_just : SpecsOk Tryz.prog (tabsG L_poset_Poset_just) := oneSpecGT s_poset_Poset_Roots_1 poset_Poset_just_ok
noncomputable def poset_Poset_Parents_1_A : Anns := { l := [], orc := [], N := 1000, rng := [], ro := [], outs := some false, nils := [] }
noncomputable def poset_Poset_Parents_1_t (p0 : Int) (p1 : (Option (Option Nat))) (p2 : (Option Int)) (lk : (List Nat)) (H : (List Pev.Node)) : FT (Bool × (List Pev.Node)) := (.opt p1 fun x4 => (.opt p2 fun x5 => (.opt (poset_Poset_just x4 p0 x5 (itLocks [] ++ lk) H) fun x6 => (.ret x6))))
noncomputable def poset_Poset_Parents_1 (p0 : Int) (p1 : (Option (Option Nat))) (p2 : (Option Int)) (lk : (List Nat)) (H : (List Pev.Node)) : Option (Bool × (List Pev.Node)) := (poset_Poset_Parents_1_t p0 p1 p2 lk H).fin
noncomputable def poset_Poset_Parents_1_sp : CSpec := genSpecR [.d (.int .i64), .d (.pt (.rf .ptr)), .d (.pt (.int .i64)), .hin] [.d .bool, .reg] none true (fun x => poset_Poset_Parents_1 x.1 x.2.1 x.2.2.1 x.2.2.2.1 x.2.2.2.2.1)
theorem poset_Poset_Parents_1_ok : EnterOk Tryz.prog 44 ∧ CSpecOk Tryz.prog cfgG 44 poset_Poset_Parents_1_sp := ⟨enter Tryz.func44 (by kernel_rfl) (by kernel_rfl), genSpecR_ok (A := poset_Poset_Parents_1_A) (ap := [.d (.int .i64), .d (.pt (.rf .ptr)), .d (.pt (.int .i64)), .hin]) (l := [.d .bool, .reg]) (own := none) (reg := true) (bd := fun (x : (ATy [.d (.int .i64), .d (.pt (.rf .ptr)), .d (.pt (.int .i64)), .hin])) => poset_Poset_Parents_1_t x.1 x.2.1 x.2.2.1 x.2.2.2.1 x.2.2.2.2.1) (fitG L_poset_Poset_just) s_poset_Poset_just mixed (by kernel_rfl) (loopsAll (l := []) (by kernel_rfl) trivial) (fun _ => rfl) (by
  intro x
  obtain ⟨p0, p1, p2, lk, H, ⟨⟩⟩ := x
  kernel_rfl)⟩
noncomputable def L_poset_Poset_Parents_1 : List (Nat × CSpec) := (44, poset_Poset_Parents_1_sp) :: L_poset_Poset_just
theorem s_poset_Poset_Parents_1 : SpecsOk Tryz.prog (tabsG L_poset_Poset_Parents_1) := oneSpecGT s_poset_Poset_just poset_Poset_Parents_1_ok
noncomputable def poset_Poset_Children_1_A : Anns := { l := [], orc := [], N := 1000, rng := [], ro := [], outs := some false, nils := [] }
noncomputable def poset_Poset_Children_1_t (p0 : Int) (p1 : (Option (Option Nat))) (p2 : (Option Int)) (lk : (List Nat)) (H : (List Pev.Node)) : FT (Bool × (List Pev.Node)) := (.opt p1 fun x4 => (.opt p2 fun x5 => (.opt (poset_Poset_just x4 x5 p0 (itLocks [] ++ lk) H) fun x6 => (.ret x6))))
noncomputable def poset_Poset_Children_1 (p0 : Int) (p1 : (Option (Option Nat))) (p2 : (Option Int)) (lk : (List Nat)) (H : (List Pev.Node)) : Option (Bool × (List Pev.Node)) := (poset_Poset_Children_1_t p0 p1 p2 lk H).fin
noncomputable def poset_Poset_Children_1_sp : CSpec := genSpecR [.d (.int .i64), .d (.pt (.rf .ptr)), .d (.pt (.int .i64)), .hin] [.d .bool, .reg] none true (fun x => poset_Poset_Children_1 x.1 x.2.1 x.2.2.1 x.2.2.2.1 x.2.2.2.2.1)
theorem poset_Poset_Children_1_ok : EnterOk Tryz.prog 47 ∧ CSpecOk Tryz.prog cfgG 47 poset_Poset_Children_1_sp := ⟨enter Tryz.func47 (by kernel_rfl) (by kernel_rfl), genSpecR_ok (A := poset_Poset_Children_1_A) (ap := [.d (.int .i64), .d (.pt (.rf .ptr)), .d (.pt (.int .i64)), .hin]) (l := [.d .bool, .reg]) (own := none) (reg := true) (bd := fun (x : (ATy [.d (.int .i64), .d (.pt (.rf .ptr)), .d (.pt (.int .i64)), .hin])) => poset_Poset_Children_1_t x.1 x.2.1 x.2.2.1 x.2.2.2.1 x.2.2.2.2.1) (fitG L_poset_Poset_Parents_1) s_poset_Poset_Parents_1 mixed (by kernel_rfl) (loopsAll (l := []) (by kernel_rfl) trivial) (fun _ => rfl) (by
  intro x
  obtain ⟨p0, p1, p2, lk, H, ⟨⟩⟩ := x
  kernel_rfl)⟩
noncomputable def L_poset_Poset_Children_1 : List (Nat × CSpec) := (47, poset_Poset_Children_1_sp) :: L_poset_Poset_Parents_1
theorem s_poset_Poset_Children_1 : SpecsOk Tryz.prog (tabsG L_poset_Poset_Children_1) := oneSpecGT s_poset_Poset_Parents_1 poset_Poset_Children_1_ok
end Go.Proofs.YtmpgilieeegnhaaGreatDoor
