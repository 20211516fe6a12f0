/- Trees of functions, their loops and contracts: printed by PewGen (own tool). -/
import Derived.Test.YtmpgilieeegnhaaGreatDoorGb
set_option maxRecDepth 100000
namespace Go.Proofs.YtmpgilieeegnhaaGreatDoor
open Go Go.Pev
noncomputable def allR_A : Anns := { l := [], orc := [], N := 1000, rng := [], ro := [(0, (0, (3, (.int .i64))))], outs := some false, nils := [] }
noncomputable def allR_t (p0 : (Option Nat)) (lk : (List Nat)) (H : (List Pev.Node)) : FT ((List Int) × (List Pev.Node)) := (.br p0.isNone (.ret (([], H))) (.br p0.isSome (.br p0.isSome (.opt (getBox 80 shPos H (p0.getD 0)) fun _ => (.opt (getBox 80 shPos H (p0.getD 0)) fun x5 => (.opt (sortedG (some H.length) (H ++ [Node.box 78 (Sh.rf RK.map) x5])) fun x6 => (.ret x6)))) .fail) .fail))
noncomputable def allR (p0 : (Option Nat)) (lk : (List Nat)) (H : (List Pev.Node)) : Option ((List Int) × (List Pev.Node)) := (allR_t p0 lk H).fin
noncomputable def allR_sp : CSpec := genSpecR [.d (.rf .ptr), .hin] [.row 3 (.int .i64), .reg] none true (fun x => allR x.1 x.2.1 x.2.2.1)
theorem allR_ok : EnterOk Tryz.prog 24 ∧ CSpecOk Tryz.prog cfgG 24 allR_sp := ⟨enter Tryz.func24 (by kernel_rfl) (by kernel_rfl), genSpecR_ok (A := allR_A) (ap := [.d (.rf .ptr), .hin]) (l := [.row 3 (.int .i64), .reg]) (own := none) (reg := true) (bd := fun (x : (ATy [.d (.rf .ptr), .hin])) => allR_t x.1 x.2.1 x.2.2.1) (fitG L_poset_Poset_Covered) s_poset_Poset_Covered mixed (by kernel_rfl) (loopsAll (l := []) (by kernel_rfl) trivial) (fun _ => rfl) (by
  intro x
  obtain ⟨p0, lk, H, ⟨⟩⟩ := x
  kernel_rfl)⟩
noncomputable def L_allR : List (Nat × CSpec) := (24, allR_sp) :: L_poset_Poset_Covered
theorem s_allR : SpecsOk Tryz.prog (tabsG L_allR) := oneSpecGT s_poset_Poset_Covered allR_ok
noncomputable def poset_Poset_Roots_1_1_A : Anns := { l := [], orc := [], N := 1000, rng := [], ro := [], outs := some false, nils := [] }
noncomputable def poset_Poset_Roots_1_1_t (p0 : Int) (p1 : (Option (Option Nat))) (p2 : (Option Int)) (lk : (List Nat)) (H : (List Pev.Node)) : FT (Bool × (List Pev.Node)) := (.opt p1 fun x4 => (.opt p2 fun x5 => (.opt (poset_Poset_above x4 p0 x5 (itLocks [] ++ lk) H) fun x6 => (.ret x6))))
noncomputable def poset_Poset_Roots_1_1 (p0 : Int) (p1 : (Option (Option Nat))) (p2 : (Option Int)) (lk : (List Nat)) (H : (List Pev.Node)) : Option (Bool × (List Pev.Node)) := (poset_Poset_Roots_1_1_t p0 p1 p2 lk H).fin
noncomputable def poset_Poset_Roots_1_1_sp : CSpec := genSpecR [.d (.int .i64), .d (.pt (.rf .ptr)), .d (.pt (.int .i64)), .hin] [.d .bool, .reg] none true (fun x => poset_Poset_Roots_1_1 x.1 x.2.1 x.2.2.1 x.2.2.2.1 x.2.2.2.2.1)
theorem poset_Poset_Roots_1_1_ok : EnterOk Tryz.prog 38 ∧ CSpecOk Tryz.prog cfgG 38 poset_Poset_Roots_1_1_sp := ⟨enter Tryz.func38 (by kernel_rfl) (by kernel_rfl), genSpecR_ok (A := poset_Poset_Roots_1_1_A) (ap := [.d (.int .i64), .d (.pt (.rf .ptr)), .d (.pt (.int .i64)), .hin]) (l := [.d .bool, .reg]) (own := none) (reg := true) (bd := fun (x : (ATy [.d (.int .i64), .d (.pt (.rf .ptr)), .d (.pt (.int .i64)), .hin])) => poset_Poset_Roots_1_1_t x.1 x.2.1 x.2.2.1 x.2.2.2.1 x.2.2.2.2.1) (fitG L_allR) s_allR mixed (by kernel_rfl) (loopsAll (l := []) (by kernel_rfl) trivial) (fun _ => rfl) (by
  intro x
  obtain ⟨p0, p1, p2, lk, H, ⟨⟩⟩ := x
  kernel_rfl)⟩
noncomputable def L_poset_Poset_Roots_1_1 : List (Nat × CSpec) := (38, poset_Poset_Roots_1_1_sp) :: L_allR
theorem s_poset_Poset_Roots_1_1 : SpecsOk Tryz.prog (tabsG L_poset_Poset_Roots_1_1) := oneSpecGT s_allR poset_Poset_Roots_1_1_ok
noncomputable def poset_Poset_just_1_A : Anns := { l := [], orc := [], N := 1000, rng := [], ro := [], outs := some false, nils := [] }
noncomputable def poset_Poset_just_1_t (p0 : Int) (p1 : (Option (Option Nat))) (p2 : (Option Int)) (p3 : (Option Int)) (lk : (List Nat)) (H : (List Pev.Node)) : FT (Bool × (List Pev.Node)) := (.opt p1 fun x7 => (.opt p2 fun x8 => (.opt (poset_Poset_above x7 x8 p0 (itLocks [] ++ lk) H) fun x9 => (.br x9.fst (.opt p1 fun x10 => (.opt p3 fun x11 => (.opt (poset_Poset_above x10 p0 x11 (itLocks [] ++ lk) x9.snd) fun x12 => (.ret x12)))) (.ret ((false, x9.snd)))))))
noncomputable def poset_Poset_just_1 (p0 : Int) (p1 : (Option (Option Nat))) (p2 : (Option Int)) (p3 : (Option Int)) (lk : (List Nat)) (H : (List Pev.Node)) : Option (Bool × (List Pev.Node)) := (poset_Poset_just_1_t p0 p1 p2 p3 lk H).fin
noncomputable def poset_Poset_just_1_sp : CSpec := genSpecR [.d (.int .i64), .d (.pt (.rf .ptr)), .d (.pt (.int .i64)), .d (.pt (.int .i64)), .hin] [.d .bool, .reg] none true (fun x => poset_Poset_just_1 x.1 x.2.1 x.2.2.1 x.2.2.2.1 x.2.2.2.2.1 x.2.2.2.2.2.1)
theorem poset_Poset_just_1_ok : EnterOk Tryz.prog 62 ∧ CSpecOk Tryz.prog cfgG 62 poset_Poset_just_1_sp := ⟨enter Tryz.func62 (by kernel_rfl) (by kernel_rfl), genSpecR_ok (A := poset_Poset_just_1_A) (ap := [.d (.int .i64), .d (.pt (.rf .ptr)), .d (.pt (.int .i64)), .d (.pt (.int .i64)), .hin]) (l := [.d .bool, .reg]) (own := none) (reg := true) (bd := fun (x : (ATy [.d (.int .i64), .d (.pt (.rf .ptr)), .d (.pt (.int .i64)), .d (.pt (.int .i64)), .hin])) => poset_Poset_just_1_t x.1 x.2.1 x.2.2.1 x.2.2.2.1 x.2.2.2.2.1 x.2.2.2.2.2.1) (fitG L_poset_Poset_Roots_1_1) s_poset_Poset_Roots_1_1 mixed (by kernel_rfl) (loopsAll (l := []) (by kernel_rfl) trivial) (fun _ => rfl) (by
  intro x
  obtain ⟨p0, p1, p2, p3, lk, H, ⟨⟩⟩ := x
  kernel_rfl)⟩
noncomputable def L_poset_Poset_just_1 : List (Nat × CSpec) := (62, poset_Poset_just_1_sp) :: L_poset_Poset_Roots_1_1
theorem s_poset_Poset_just_1 : SpecsOk Tryz.prog (tabsG L_poset_Poset_just_1) := oneSpecGT s_poset_Poset_Roots_1_1 poset_Poset_just_1_ok
end Go.Proofs.YtmpgilieeegnhaaGreatDoor
