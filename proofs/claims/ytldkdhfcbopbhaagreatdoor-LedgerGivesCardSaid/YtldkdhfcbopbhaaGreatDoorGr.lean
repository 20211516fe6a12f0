/- Trees of functions, their loops and contracts: printed by PewGen (own tool). -/
import Derived.Test.YtldkdhfcbopbhaaGreatDoorGa
set_option maxRecDepth 100000
namespace Go.Proofs.YtldkdhfcbopbhaaGreatDoor
open Go Go.Pev
noncomputable def ref03_Twin_A : Anns := { l := [], orc := [], N := 1000, rng := [], ro := [], outs := none, nils := [] }
noncomputable def ref03_Twin_t (p0 : (List (ByteArray × V))) : FT ((List (ByteArray × V))) := (.br (appLim 56 0 p0.length) (.ret p0) .fail)
noncomputable def ref03_Twin (p0 : (List (ByteArray × V))) : Option ((List (ByteArray × V))) := (ref03_Twin_t p0).fin
noncomputable def ref03_Twin_sp : CSpec := genSpec [shEvent] [shEvent] (fun x => ref03_Twin x)
theorem ref03_Twin_ok : EnterOk Tryz.prog 18 ∧ CSpecOk Tryz.prog cfgG 18 ref03_Twin_sp := ⟨enter Tryz.func18 (by kernel_rfl) (by kernel_rfl), genSpec_ok (A := ref03_Twin_A) (sa := [shEvent]) (sr := [shEvent]) (bd := fun (x : (ArgT [shEvent])) => ref03_Twin_t x) (fitG L_law21_few) s_law21_few mixed (by kernel_rfl) (loopsAll (l := []) (by kernel_rfl) trivial) (fun _ => rfl) (by
  intro x
  skip
  kernel_rfl)⟩
noncomputable def L_ref03_Twin : List (Nat × CSpec) := (18, ref03_Twin_sp) :: L_law21_few
theorem s_ref03_Twin : SpecsOk Tryz.prog (tabsG L_ref03_Twin) := oneSpecGT s_law21_few ref03_Twin_ok
noncomputable def ref05_Twin_A : Anns := { l := [], orc := [], N := 1000, rng := [], ro := [], outs := none, nils := [] }
noncomputable def ref05_Twin_t (p0 : Fil) : FT (Fil) := (.br (appLim 72 0 (List.length p0.snd)) (.ret ((p0.fst, [] ++ p0.snd))) .fail)
noncomputable def ref05_Twin (p0 : Fil) : Option (Fil) := (ref05_Twin_t p0).fin
noncomputable def ref05_Twin_sp : CSpec := genSpec [shFil] [shFil] (fun x => ref05_Twin x)
theorem ref05_Twin_ok : EnterOk Tryz.prog 20 ∧ CSpecOk Tryz.prog cfgG 20 ref05_Twin_sp := ⟨enter Tryz.func20 (by kernel_rfl) (by kernel_rfl), genSpec_ok (A := ref05_Twin_A) (sa := [shFil]) (sr := [shFil]) (bd := fun (x : (ArgT [shFil])) => ref05_Twin_t x) (fitG L_ref03_Twin) s_ref03_Twin mixed (by kernel_rfl) (loopsAll (l := []) (by kernel_rfl) trivial) (fun _ => rfl) (by
  intro x
  skip
  kernel_rfl)⟩
noncomputable def L_ref05_Twin : List (Nat × CSpec) := (20, ref05_Twin_sp) :: L_ref03_Twin
theorem s_ref05_Twin : SpecsOk Tryz.prog (tabsG L_ref05_Twin) := oneSpecGT s_ref03_Twin ref05_Twin_ok
noncomputable def ref02_Check_A : Anns := { l := [], orc := [], N := 1000, rng := [], ro := [], outs := none, nils := [] }
noncomputable def ref02_Check_t (p0 : V) : FT ((Bool × List (Int × Int) × Int)) := (.br (p0.fst == 1) (.br (!ByteArray.toList p0.snd.snd.fst == (ByteArray.mk #[]).toList) (.ret ((true, [], 3))) (.br p0.snd.snd.snd (.ret ((true, [], 3))) (.ret ((false, [], 0))))) (.br (p0.fst == 2) (.br (p0.snd.fst != 0) (.ret ((true, [], 3))) (.br p0.snd.snd.snd (.ret ((true, [], 3))) (.br (decide (Int.ofNat (ByteArray.size p0.snd.snd.fst) > 1000)) (.ret ((true, [], 2))) (.ret ((false, [], 0)))))) (.br (p0.fst == 3) (.br (!ByteArray.toList p0.snd.snd.fst == (ByteArray.mk #[]).toList) (.ret ((true, [], 3))) (.br (p0.snd.fst != 0) (.ret ((true, [], 3))) (.ret ((false, [], 0))))) (.ret ((true, [], 3))))))
noncomputable def ref02_Check (p0 : V) : Option ((Bool × List (Int × Int) × Int)) := (ref02_Check_t p0).fin
noncomputable def ref02_Check_sp : CSpec := genSpec [shVal] [shE] (fun x => ref02_Check x)
theorem ref02_Check_ok : EnterOk Tryz.prog 65 ∧ CSpecOk Tryz.prog cfgG 65 ref02_Check_sp := ⟨enter Tryz.func65 (by kernel_rfl) (by kernel_rfl), genSpec_ok (A := ref02_Check_A) (sa := [shVal]) (sr := [shE]) (bd := fun (x : (ArgT [shVal])) => ref02_Check_t x) (fitG L_ref05_Twin) s_ref05_Twin mixed (by kernel_rfl) (loopsAll (l := []) (by kernel_rfl) trivial) (fun _ => rfl) (by
  intro x
  skip
  kernel_rfl)⟩
noncomputable def L_ref02_Check : List (Nat × CSpec) := (65, ref02_Check_sp) :: L_ref05_Twin
theorem s_ref02_Check : SpecsOk Tryz.prog (tabsG L_ref02_Check) := oneSpecGT s_ref05_Twin ref02_Check_ok
noncomputable def ref03_Check_h0 : EP := ⟨[(0, .d shEvent), (2, .ref 2 0), (10, .d shEvent), (11, .d (.int .i64)), (12, .d (.int .i64))], [(2, .box 55 [.d .bool, .nsl, .d (.int .i64)])]⟩
noncomputable def ref03_Check_x0 : List (Exit × EP) := [(Exit.ret, ⟨[(2, .ref 2 0)], [(2, .box 55 [.d .bool, .d (.sl shPlace), .d (.int .i64)])]⟩), (Exit.exit 0, ⟨[(2, .ref 2 0)], [(2, .box 55 [.d .bool, .nsl, .d (.int .i64)])]⟩)]
abbrev ref03_Check_S0 : Type := (List (ByteArray × V)) × (List (ByteArray × V)) × Int × Int × Bool × Int × Unit
abbrev ref03_Check_Q0 : Type := (Bool × (List (Int × Int)) × Int × Unit) ⊕ (Bool × Int × Unit)
noncomputable def ref03_Check_b0 : ref03_Check_S0 → LT ref03_Check_S0 ref03_Check_Q0 := fun st => match st with
  | (a0, a10, a11, a12, r2_0, r2_1, ()) => (.br (decide (a12 < a11)) (.br (decide (0 ≤ a12)) (.br (decide (a12 < Int.ofNat a10.length)) (.opt (ref03_Name (getI a10 a12 (ByteArray.mk #[], 0, 0, ByteArray.mk #[], false)).fst) fun x16 => (.br (!x16) (.ret (.inl (true, ([(2, a12)]), 3, ()))) (.br (decide (a12 > 0)) (.br (decide (0 ≤ IntKind.i64.wrap (a12 - 1))) (.br (decide (IntKind.i64.wrap (a12 - 1) < Int.ofNat a0.length)) (.br (!Op.bytesLess (ByteArray.toList (getI a0 (IntKind.i64.wrap (a12 - 1)) (ByteArray.mk #[], 0, 0, ByteArray.mk #[], false)).fst) (ByteArray.toList (getI a10 a12 (ByteArray.mk #[], 0, 0, ByteArray.mk #[], false)).fst)) (.ret (.inl (true, ([(2, a12)]), 3, ()))) (.opt (ref02_Check (getI a10 a12 (ByteArray.mk #[], 0, 0, ByteArray.mk #[], false)).snd) fun x17 => (.br x17.fst (.opt (ref01_At 2 a12 x17) fun x18 => (.ret (.inl (x18.fst, x18.snd.fst, x18.snd.snd, ())))) (.next (a0, a10, a11, (IntKind.i64.wrap (a12 + 1)), r2_0, r2_1, ()))))) .fail) .fail) (.opt (ref02_Check (getI a10 a12 (ByteArray.mk #[], 0, 0, ByteArray.mk #[], false)).snd) fun x19 => (.br x19.fst (.opt (ref01_At 2 a12 x19) fun x20 => (.ret (.inl (x20.fst, x20.snd.fst, x20.snd.snd, ())))) (.next (a0, a10, a11, (IntKind.i64.wrap (a12 + 1)), r2_0, r2_1, ()))))))) .fail) .fail) (.ret (.inr (r2_0, r2_1, ()))))
noncomputable def ref03_Check_l0 (st : ref03_Check_S0) : Option ref03_Check_Q0 := LT.loop ref03_Check_b0 FUEL st
noncomputable def ref03_Check_A : Anns := { l := [(4, [.keep [0, 2, 10, 11, 12] [2]]), (100004, [.keep [2] [2]])], orc := [(4, genOrc ref03_Check_h0 ref03_Check_x0 ref03_Check_l0)], N := 1000, rng := [], ro := [], outs := none, nils := [] }
theorem ref03_Check_s0 : ∀ (st : ref03_Check_S0) m k, loopX ref03_Check_A (loopN Tryz.prog 44 0) (prep (tabsG L_ref02_Check) (annOf ref03_Check_A (loopN Tryz.prog 44 0))) (evalC Tryz.prog (tabsG L_ref02_Check) ref03_Check_A (loopN Tryz.prog 44 0)) (m + 1) (ref03_Check_h0.enc st) (outK (tabsG L_ref02_Check) ref03_Check_A (loopN Tryz.prog 44 0) k) = (ref03_Check_b0 st).run (exK ref03_Check_x0 k) (fun st' => loopX ref03_Check_A (loopN Tryz.prog 44 0) (prep (tabsG L_ref02_Check) (annOf ref03_Check_A (loopN Tryz.prog 44 0))) (evalC Tryz.prog (tabsG L_ref02_Check) ref03_Check_A (loopN Tryz.prog 44 0)) m (ref03_Check_h0.enc st') (outK (tabsG L_ref02_Check) ref03_Check_A (loopN Tryz.prog 44 0) k)) := by
  intro st m k
  obtain ⟨a0, a10, a11, a12, r2_0, r2_1, ⟨⟩⟩ := st
  kernel_rfl
theorem ref03_Check_o0 : OrcOk Tryz.prog (tabsG L_ref02_Check) ref03_Check_A (loopN Tryz.prog 44 0) := genOrc_ok (h := ref03_Check_h0) (xs := ref03_Check_x0) (F := ref03_Check_l0) (bd := ref03_Check_b0) (fun _ => FUEL) (by kernel_rfl) (fun _ _ h => h) ref03_Check_s0
noncomputable def ref03_Check_t (p0 : (List (ByteArray × V))) : FT ((Bool × List (Int × Int) × Int)) := (.br (decide (Int.ofNat p0.length > 16)) (.ret ((true, [], 2))) (.opt (ref03_Check_l0 (p0, p0, Int.ofNat p0.length, 0, false, 0, ())) fun x24 => (.alt x24 (fun x25 => (.ret ((x25.fst, x25.snd.fst, x25.snd.snd.fst)))) (fun _ => (.ret ((false, [], 0)))))))
noncomputable def ref03_Check (p0 : (List (ByteArray × V))) : Option ((Bool × List (Int × Int) × Int)) := (ref03_Check_t p0).fin
noncomputable def ref03_Check_sp : CSpec := genSpec [shEvent] [shE] (fun x => ref03_Check x)
theorem ref03_Check_ok : EnterOk Tryz.prog 44 ∧ CSpecOk Tryz.prog cfgG 44 ref03_Check_sp := ⟨enter Tryz.func44 (by kernel_rfl) (by kernel_rfl), genSpec_ok (A := ref03_Check_A) (sa := [shEvent]) (sr := [shE]) (bd := fun (x : (ArgT [shEvent])) => ref03_Check_t x) (fitG L_ref02_Check) s_ref02_Check mixed (by kernel_rfl) (loopsAll (l := [loopN Tryz.prog 44 0]) (by kernel_rfl) ⟨ref03_Check_o0, trivial⟩) (fun _ => rfl) (by
  intro x
  skip
  kernel_rfl)⟩
noncomputable def L_ref03_Check : List (Nat × CSpec) := (44, ref03_Check_sp) :: L_ref02_Check
theorem s_ref03_Check : SpecsOk Tryz.prog (tabsG L_ref03_Check) := oneSpecGT s_ref02_Check ref03_Check_ok
noncomputable def ref05_form_A : Anns := { l := [], orc := [], N := 1000, rng := [], ro := [], outs := none, nils := [] }
noncomputable def ref05_form_t (p0 : Bd) : FT (Bool) := (.br (p0.snd.fst == 1) (.br (decide (p0.snd.snd.fst ≤ p0.snd.snd.snd.fst)) (.br (!p0.snd.snd.snd.snd.fst) (.br (ByteArray.toList p0.snd.snd.snd.snd.snd.fst == (ByteArray.mk #[]).toList) (.br (!p0.snd.snd.snd.snd.snd.snd.fst) (.ret (!p0.snd.snd.snd.snd.snd.snd.snd)) (.ret false)) (.ret false)) (.ret false)) (.ret false)) (.br (p0.snd.fst == 2) (.br (p0.snd.snd.fst == 0) (.br (p0.snd.snd.snd.fst == 0) (.br (!p0.snd.snd.snd.snd.snd.snd.fst) (.br (!p0.snd.snd.snd.snd.snd.snd.snd) (.br (decide (Int.ofNat (ByteArray.size p0.snd.snd.snd.snd.snd.fst) < 1000)) (.ret true) (.br p0.snd.snd.snd.snd.fst (.ret (Int.ofNat (ByteArray.size p0.snd.snd.snd.snd.snd.fst) == 1000)) (.ret false))) (.ret false)) (.ret false)) (.ret false)) (.ret false)) (.br (p0.snd.fst == 3) (.br (p0.snd.snd.fst == 0) (.br (p0.snd.snd.snd.fst == 0) (.br (!p0.snd.snd.snd.snd.fst) (.br (ByteArray.toList p0.snd.snd.snd.snd.snd.fst == (ByteArray.mk #[]).toList) (.br p0.snd.snd.snd.snd.snd.snd.fst (.ret true) (.ret p0.snd.snd.snd.snd.snd.snd.snd)) (.ret false)) (.ret false)) (.ret false)) (.ret false)) (.ret false))))
noncomputable def ref05_form (p0 : Bd) : Option (Bool) := (ref05_form_t p0).fin
noncomputable def ref05_form_sp : CSpec := genSpec [shBound] [.bool] (fun x => ref05_form x)
theorem ref05_form_ok : EnterOk Tryz.prog 84 ∧ CSpecOk Tryz.prog cfgG 84 ref05_form_sp := ⟨enter Tryz.func84 (by kernel_rfl) (by kernel_rfl), genSpec_ok (A := ref05_form_A) (sa := [shBound]) (sr := [.bool]) (bd := fun (x : (ArgT [shBound])) => ref05_form_t x) (fitG L_ref03_Check) s_ref03_Check mixed (by kernel_rfl) (loopsAll (l := []) (by kernel_rfl) trivial) (fun _ => rfl) (by
  intro x
  skip
  kernel_rfl)⟩
noncomputable def L_ref05_form : List (Nat × CSpec) := (84, ref05_form_sp) :: L_ref03_Check
theorem s_ref05_form : SpecsOk Tryz.prog (tabsG L_ref05_form) := oneSpecGT s_ref03_Check ref05_form_ok
noncomputable def ref05_Bound_A : Anns := { l := [], orc := [], N := 1000, rng := [], ro := [], outs := none, nils := [] }
noncomputable def ref05_Bound_t (p0 : Bd) (p1 : ByteArray) : FT (Bool) := (.opt (ref03_Name p0.fst) fun x3 => (.br x3 (.br (Op.bytesLess p1.toList (ByteArray.toList p0.fst)) (.opt (ref05_form p0) fun x4 => (.ret x4)) (.ret false)) (.ret false)))
noncomputable def ref05_Bound (p0 : Bd) (p1 : ByteArray) : Option (Bool) := (ref05_Bound_t p0 p1).fin
noncomputable def ref05_Bound_sp : CSpec := genSpec [shBound, .str] [.bool] (fun x => ref05_Bound x.1 x.2)
theorem ref05_Bound_ok : EnterOk Tryz.prog 66 ∧ CSpecOk Tryz.prog cfgG 66 ref05_Bound_sp := ⟨enter Tryz.func66 (by kernel_rfl) (by kernel_rfl), genSpec_ok (A := ref05_Bound_A) (sa := [shBound, .str]) (sr := [.bool]) (bd := fun (x : (ArgT [shBound, .str])) => ref05_Bound_t x.1 x.2) (fitG L_ref05_form) s_ref05_form mixed (by kernel_rfl) (loopsAll (l := []) (by kernel_rfl) trivial) (fun _ => rfl) (by
  intro x
  obtain ⟨p0, p1⟩ := x
  kernel_rfl)⟩
noncomputable def L_ref05_Bound : List (Nat × CSpec) := (66, ref05_Bound_sp) :: L_ref05_form
theorem s_ref05_Bound : SpecsOk Tryz.prog (tabsG L_ref05_Bound) := oneSpecGT s_ref05_form ref05_Bound_ok
noncomputable def ref05_Check_h0 : EP := ⟨[(1, .ref 1 0), (2, .ref 2 0), (3, .d .str), (12, .d (.sl shBound)), (13, .d (.int .i64)), (14, .d (.int .i64))], [(1, .box 36 [.d .bool, .d (.sl shBound)]), (2, .box 55 [.d .bool, .nsl, .d (.int .i64)])]⟩
noncomputable def ref05_Check_x0 : List (Exit × EP) := [(Exit.ret, ⟨[(2, .ref 2 0)], [(2, .box 55 [.d .bool, .d (.sl shPlace), .d (.int .i64)])]⟩), (Exit.exit 0, ⟨[(2, .ref 2 0)], [(2, .box 55 [.d .bool, .nsl, .d (.int .i64)])]⟩)]
abbrev ref05_Check_S0 : Type := ByteArray × (List Bd) × Int × Int × Bool × (List Bd) × Bool × Int × Unit
abbrev ref05_Check_Q0 : Type := (Bool × (List (Int × Int)) × Int × Unit) ⊕ (Bool × Int × Unit)
noncomputable def ref05_Check_b0 : ref05_Check_S0 → LT ref05_Check_S0 ref05_Check_Q0 := fun st => match st with
  | (a3, a12, a13, a14, r1_0, r1_1, r2_0, r2_1, ()) => (.br (decide (a14 < a13)) (.br (decide (0 ≤ a14)) (.br (decide (a14 < Int.ofNat a12.length)) (.br r1_0 (.ret (.inl (true, ([]), 3, ()))) (.opt (ref05_Bound (getI a12 a14 (ByteArray.mk #[], 0, 0, 0, false, ByteArray.mk #[], false, false)) a3) fun x4 => (.br (!x4) (.ret (.inl (true, ([]), 3, ()))) (.next (((getI a12 a14 (ByteArray.mk #[], 0, 0, 0, false, ByteArray.mk #[], false, false)).fst), a12, a13, (IntKind.i64.wrap (a14 + 1)), r1_0, r1_1, r2_0, r2_1, ()))))) .fail) .fail) (.ret (.inr (r2_0, r2_1, ()))))
noncomputable def ref05_Check_l0 (st : ref05_Check_S0) : Option ref05_Check_Q0 := LT.loop ref05_Check_b0 FUEL st
noncomputable def ref05_Check_A : Anns := { l := [(5, [.keep [1, 2, 3, 12, 13, 14] [1, 2]]), (100005, [.keep [2] [2]])], orc := [(5, genOrc ref05_Check_h0 ref05_Check_x0 ref05_Check_l0)], N := 1000, rng := [], ro := [], outs := none, nils := [] }
theorem ref05_Check_s0 : ∀ (st : ref05_Check_S0) m k, loopX ref05_Check_A (loopN Tryz.prog 45 0) (prep (tabsG L_ref05_Bound) (annOf ref05_Check_A (loopN Tryz.prog 45 0))) (evalC Tryz.prog (tabsG L_ref05_Bound) ref05_Check_A (loopN Tryz.prog 45 0)) (m + 1) (ref05_Check_h0.enc st) (outK (tabsG L_ref05_Bound) ref05_Check_A (loopN Tryz.prog 45 0) k) = (ref05_Check_b0 st).run (exK ref05_Check_x0 k) (fun st' => loopX ref05_Check_A (loopN Tryz.prog 45 0) (prep (tabsG L_ref05_Bound) (annOf ref05_Check_A (loopN Tryz.prog 45 0))) (evalC Tryz.prog (tabsG L_ref05_Bound) ref05_Check_A (loopN Tryz.prog 45 0)) m (ref05_Check_h0.enc st') (outK (tabsG L_ref05_Bound) ref05_Check_A (loopN Tryz.prog 45 0) k)) := by
  intro st m k
  obtain ⟨a3, a12, a13, a14, r1_0, r1_1, r2_0, r2_1, ⟨⟩⟩ := st
  kernel_rfl
theorem ref05_Check_o0 : OrcOk Tryz.prog (tabsG L_ref05_Bound) ref05_Check_A (loopN Tryz.prog 45 0) := genOrc_ok (h := ref05_Check_h0) (xs := ref05_Check_x0) (F := ref05_Check_l0) (bd := ref05_Check_b0) (fun _ => FUEL) (by kernel_rfl) (fun _ _ h => h) ref05_Check_s0
noncomputable def ref05_Check_t (p0 : Fil) : FT ((Bool × List (Int × Int) × Int)) := (.br (decide (Int.ofNat (List.length p0.snd) > 16)) (.ret ((true, [], 2))) (.opt (ref05_Check_l0 (ByteArray.mk #[], p0.snd, Int.ofNat (List.length p0.snd), 0, p0.fst, p0.snd, false, 0, ())) fun x8 => (.alt x8 (fun x9 => (.ret ((x9.fst, x9.snd.fst, x9.snd.snd.fst)))) (fun _ => (.ret ((false, [], 0)))))))
noncomputable def ref05_Check (p0 : Fil) : Option ((Bool × List (Int × Int) × Int)) := (ref05_Check_t p0).fin
noncomputable def ref05_Check_sp : CSpec := genSpec [shFil] [shE] (fun x => ref05_Check x)
theorem ref05_Check_ok : EnterOk Tryz.prog 45 ∧ CSpecOk Tryz.prog cfgG 45 ref05_Check_sp := ⟨enter Tryz.func45 (by kernel_rfl) (by kernel_rfl), genSpec_ok (A := ref05_Check_A) (sa := [shFil]) (sr := [shE]) (bd := fun (x : (ArgT [shFil])) => ref05_Check_t x) (fitG L_ref05_Bound) s_ref05_Bound mixed (by kernel_rfl) (loopsAll (l := [loopN Tryz.prog 45 0]) (by kernel_rfl) ⟨ref05_Check_o0, trivial⟩) (fun _ => rfl) (by
  intro x
  skip
  kernel_rfl)⟩
noncomputable def L_ref05_Check : List (Nat × CSpec) := (45, ref05_Check_sp) :: L_ref05_Bound
theorem s_ref05_Check : SpecsOk Tryz.prog (tabsG L_ref05_Check) := oneSpecGT s_ref05_Bound ref05_Check_ok
noncomputable def ref03_Find_h0 : EP := ⟨[(1, .d .str), (7, .d shEvent), (8, .d (.int .i64)), (9, .d (.int .i64))], []⟩
noncomputable def ref03_Find_x0 : List (Exit × EP) := [(Exit.ret, ⟨[(4, .d (.int .i64))], []⟩), (Exit.exit 0, ⟨[], []⟩)]
abbrev ref03_Find_S0 : Type := ByteArray × (List (ByteArray × V)) × Int × Int × Unit
abbrev ref03_Find_Q0 : Type := (Int × Unit) ⊕ (Unit)
noncomputable def ref03_Find_b0 : ref03_Find_S0 → LT ref03_Find_S0 ref03_Find_Q0 := fun st => match st with
  | (a1, a7, a8, a9, ()) => (.br (decide (a9 < a8)) (.br (decide (0 ≤ a9)) (.br (decide (a9 < Int.ofNat a7.length)) (.br (ByteArray.toList (getI a7 a9 (ByteArray.mk #[], 0, 0, ByteArray.mk #[], false)).fst == a1.toList) (.ret (.inl (a9, ()))) (.next (a1, a7, a8, (IntKind.i64.wrap (a9 + 1)), ()))) .fail) .fail) (.ret (.inr ())))
noncomputable def ref03_Find_l0 (st : ref03_Find_S0) : Option ref03_Find_Q0 := LT.loop ref03_Find_b0 FUEL st
noncomputable def ref03_Find_A : Anns := { l := [(2, [.keep [1, 7, 8, 9] []]), (100002, [.keep [4] []])], orc := [(2, genOrc ref03_Find_h0 ref03_Find_x0 ref03_Find_l0)], N := 1000, rng := [], ro := [], outs := none, nils := [] }
theorem ref03_Find_s0 : ∀ (st : ref03_Find_S0) m k, loopX ref03_Find_A (loopN Tryz.prog 85 0) (prep (tabsG L_ref05_Check) (annOf ref03_Find_A (loopN Tryz.prog 85 0))) (evalC Tryz.prog (tabsG L_ref05_Check) ref03_Find_A (loopN Tryz.prog 85 0)) (m + 1) (ref03_Find_h0.enc st) (outK (tabsG L_ref05_Check) ref03_Find_A (loopN Tryz.prog 85 0) k) = (ref03_Find_b0 st).run (exK ref03_Find_x0 k) (fun st' => loopX ref03_Find_A (loopN Tryz.prog 85 0) (prep (tabsG L_ref05_Check) (annOf ref03_Find_A (loopN Tryz.prog 85 0))) (evalC Tryz.prog (tabsG L_ref05_Check) ref03_Find_A (loopN Tryz.prog 85 0)) m (ref03_Find_h0.enc st') (outK (tabsG L_ref05_Check) ref03_Find_A (loopN Tryz.prog 85 0) k)) := by
  intro st m k
  obtain ⟨a1, a7, a8, a9, ⟨⟩⟩ := st
  kernel_rfl
theorem ref03_Find_o0 : OrcOk Tryz.prog (tabsG L_ref05_Check) ref03_Find_A (loopN Tryz.prog 85 0) := genOrc_ok (h := ref03_Find_h0) (xs := ref03_Find_x0) (F := ref03_Find_l0) (bd := ref03_Find_b0) (fun _ => FUEL) (by kernel_rfl) (fun _ _ h => h) ref03_Find_s0
noncomputable def ref03_Find_t (p0 : (List (ByteArray × V))) (p1 : ByteArray) : FT (Int) := (.opt (ref03_Find_l0 (p1, p0, Int.ofNat p0.length, 0, ())) fun x4 => (.alt x4 (fun x5 => (.ret x5.fst)) (fun _ => (.ret (Int.negSucc 0)))))
noncomputable def ref03_Find (p0 : (List (ByteArray × V))) (p1 : ByteArray) : Option (Int) := (ref03_Find_t p0 p1).fin
noncomputable def ref03_Find_sp : CSpec := genSpec [shEvent, .str] [(.int .i64)] (fun x => ref03_Find x.1 x.2)
theorem ref03_Find_ok : EnterOk Tryz.prog 85 ∧ CSpecOk Tryz.prog cfgG 85 ref03_Find_sp := ⟨enter Tryz.func85 (by kernel_rfl) (by kernel_rfl), genSpec_ok (A := ref03_Find_A) (sa := [shEvent, .str]) (sr := [(.int .i64)]) (bd := fun (x : (ArgT [shEvent, .str])) => ref03_Find_t x.1 x.2) (fitG L_ref05_Check) s_ref05_Check mixed (by kernel_rfl) (loopsAll (l := [loopN Tryz.prog 85 0]) (by kernel_rfl) ⟨ref03_Find_o0, trivial⟩) (fun _ => rfl) (by
  intro x
  obtain ⟨p0, p1⟩ := x
  kernel_rfl)⟩
noncomputable def L_ref03_Find : List (Nat × CSpec) := (85, ref03_Find_sp) :: L_ref05_Check
theorem s_ref03_Find : SpecsOk Tryz.prog (tabsG L_ref03_Find) := oneSpecGT s_ref05_Check ref03_Find_ok
noncomputable def ref05_Means_h0 : EP := ⟨[(1, .d shEvent), (11, .d (.sl shBound)), (12, .d (.int .i64)), (13, .d (.int .i64))], []⟩
noncomputable def ref05_Means_x0 : List (Exit × EP) := [(Exit.ret, ⟨[(4, .d .bool)], []⟩), (Exit.exit 0, ⟨[], []⟩)]
abbrev ref05_Means_S0 : Type := (List (ByteArray × V)) × (List Bd) × Int × Int × Unit
abbrev ref05_Means_Q0 : Type := (Bool × Unit) ⊕ (Unit)
noncomputable def ref05_Means_b0 : ref05_Means_S0 → LT ref05_Means_S0 ref05_Means_Q0 := fun st => match st with
  | (a1, a11, a12, a13, ()) => (.br (decide (a13 < a12)) (.br (decide (0 ≤ a13)) (.br (decide (a13 < Int.ofNat a11.length)) (.opt (ref03_Find a1 (getI a11 a13 (ByteArray.mk #[], 0, 0, 0, false, ByteArray.mk #[], false, false)).fst) fun x7 => (.br (decide (x7 < 0)) (.ret (.inl (false, ()))) (.br (decide (0 ≤ x7)) (.br (decide (x7 < Int.ofNat a1.length)) (.opt (ref05_Holds (getI a11 a13 (ByteArray.mk #[], 0, 0, 0, false, ByteArray.mk #[], false, false)) (getI a1 x7 (ByteArray.mk #[], 0, 0, ByteArray.mk #[], false)).snd) fun x8 => (.br (!x8) (.ret (.inl (false, ()))) (.next (a1, a11, a12, (IntKind.i64.wrap (a13 + 1)), ())))) .fail) .fail))) .fail) .fail) (.ret (.inr ())))
noncomputable def ref05_Means_l0 (st : ref05_Means_S0) : Option ref05_Means_Q0 := LT.loop ref05_Means_b0 FUEL st
noncomputable def ref05_Means_A : Anns := { l := [(4, [.keep [1, 11, 12, 13] []]), (100004, [.keep [4] []])], orc := [(4, genOrc ref05_Means_h0 ref05_Means_x0 ref05_Means_l0)], N := 1000, rng := [], ro := [], outs := none, nils := [] }
theorem ref05_Means_s0 : ∀ (st : ref05_Means_S0) m k, loopX ref05_Means_A (loopN Tryz.prog 68 0) (prep (tabsG L_ref03_Find) (annOf ref05_Means_A (loopN Tryz.prog 68 0))) (evalC Tryz.prog (tabsG L_ref03_Find) ref05_Means_A (loopN Tryz.prog 68 0)) (m + 1) (ref05_Means_h0.enc st) (outK (tabsG L_ref03_Find) ref05_Means_A (loopN Tryz.prog 68 0) k) = (ref05_Means_b0 st).run (exK ref05_Means_x0 k) (fun st' => loopX ref05_Means_A (loopN Tryz.prog 68 0) (prep (tabsG L_ref03_Find) (annOf ref05_Means_A (loopN Tryz.prog 68 0))) (evalC Tryz.prog (tabsG L_ref03_Find) ref05_Means_A (loopN Tryz.prog 68 0)) m (ref05_Means_h0.enc st') (outK (tabsG L_ref03_Find) ref05_Means_A (loopN Tryz.prog 68 0) k)) := by
  intro st m k
  obtain ⟨a1, a11, a12, a13, ⟨⟩⟩ := st
  kernel_rfl
theorem ref05_Means_o0 : OrcOk Tryz.prog (tabsG L_ref03_Find) ref05_Means_A (loopN Tryz.prog 68 0) := genOrc_ok (h := ref05_Means_h0) (xs := ref05_Means_x0) (F := ref05_Means_l0) (bd := ref05_Means_b0) (fun _ => FUEL) (by kernel_rfl) (fun _ _ h => h) ref05_Means_s0
noncomputable def ref05_Means_t (p0 : Fil) (p1 : (List (ByteArray × V))) : FT (Bool) := (.br p0.fst (.ret false) (.opt (ref05_Means_l0 (p1, p0.snd, Int.ofNat (List.length p0.snd), 0, ())) fun x12 => (.alt x12 (fun x13 => (.ret x13.fst)) (fun _ => (.ret true)))))
noncomputable def ref05_Means (p0 : Fil) (p1 : (List (ByteArray × V))) : Option (Bool) := (ref05_Means_t p0 p1).fin
noncomputable def ref05_Means_sp : CSpec := genSpec [shFil, shEvent] [.bool] (fun x => ref05_Means x.1 x.2)
theorem ref05_Means_ok : EnterOk Tryz.prog 68 ∧ CSpecOk Tryz.prog cfgG 68 ref05_Means_sp := ⟨enter Tryz.func68 (by kernel_rfl) (by kernel_rfl), genSpec_ok (A := ref05_Means_A) (sa := [shFil, shEvent]) (sr := [.bool]) (bd := fun (x : (ArgT [shFil, shEvent])) => ref05_Means_t x.1 x.2) (fitG L_ref03_Find) s_ref03_Find mixed (by kernel_rfl) (loopsAll (l := [loopN Tryz.prog 68 0]) (by kernel_rfl) ⟨ref05_Means_o0, trivial⟩) (fun _ => rfl) (by
  intro x
  obtain ⟨p0, p1⟩ := x
  kernel_rfl)⟩
noncomputable def L_ref05_Means : List (Nat × CSpec) := (68, ref05_Means_sp) :: L_ref03_Find
theorem s_ref05_Means : SpecsOk Tryz.prog (tabsG L_ref05_Means) := oneSpecGT s_ref03_Find ref05_Means_ok
noncomputable def ref01_Has_h0 : EP := ⟨[(1, .d (.int .i64)), (7, .d (.sl (.int .i64))), (8, .d (.int .i64)), (9, .d (.int .i64))], []⟩
noncomputable def ref01_Has_x0 : List (Exit × EP) := [(Exit.ret, ⟨[(4, .d .bool)], []⟩), (Exit.exit 0, ⟨[], []⟩)]
abbrev ref01_Has_S0 : Type := Int × (List Int) × Int × Int × Unit
abbrev ref01_Has_Q0 : Type := (Bool × Unit) ⊕ (Unit)
noncomputable def ref01_Has_b0 : ref01_Has_S0 → LT ref01_Has_S0 ref01_Has_Q0 := fun st => match st with
  | (a1, a7, a8, a9, ()) => (.br (decide (a9 < a8)) (.br (decide (0 ≤ a9)) (.br (decide (a9 < Int.ofNat a7.length)) (.br (getI a7 a9 0 == a1) (.ret (.inl (true, ()))) (.next (a1, a7, a8, (IntKind.i64.wrap (a9 + 1)), ()))) .fail) .fail) (.ret (.inr ())))
noncomputable def ref01_Has_l0 (st : ref01_Has_S0) : Option ref01_Has_Q0 := LT.loop ref01_Has_b0 FUEL st
noncomputable def ref01_Has_A : Anns := { l := [(2, [.keep [1, 7, 8, 9] []]), (100002, [.keep [4] []])], orc := [(2, genOrc ref01_Has_h0 ref01_Has_x0 ref01_Has_l0)], N := 1000, rng := [], ro := [], outs := none, nils := [] }
theorem ref01_Has_s0 : ∀ (st : ref01_Has_S0) m k, loopX ref01_Has_A (loopN Tryz.prog 67 0) (prep (tabsG L_ref05_Means) (annOf ref01_Has_A (loopN Tryz.prog 67 0))) (evalC Tryz.prog (tabsG L_ref05_Means) ref01_Has_A (loopN Tryz.prog 67 0)) (m + 1) (ref01_Has_h0.enc st) (outK (tabsG L_ref05_Means) ref01_Has_A (loopN Tryz.prog 67 0) k) = (ref01_Has_b0 st).run (exK ref01_Has_x0 k) (fun st' => loopX ref01_Has_A (loopN Tryz.prog 67 0) (prep (tabsG L_ref05_Means) (annOf ref01_Has_A (loopN Tryz.prog 67 0))) (evalC Tryz.prog (tabsG L_ref05_Means) ref01_Has_A (loopN Tryz.prog 67 0)) m (ref01_Has_h0.enc st') (outK (tabsG L_ref05_Means) ref01_Has_A (loopN Tryz.prog 67 0) k)) := by
  intro st m k
  obtain ⟨a1, a7, a8, a9, ⟨⟩⟩ := st
  kernel_rfl
theorem ref01_Has_o0 : OrcOk Tryz.prog (tabsG L_ref05_Means) ref01_Has_A (loopN Tryz.prog 67 0) := genOrc_ok (h := ref01_Has_h0) (xs := ref01_Has_x0) (F := ref01_Has_l0) (bd := ref01_Has_b0) (fun _ => FUEL) (by kernel_rfl) (fun _ _ h => h) ref01_Has_s0
noncomputable def ref01_Has_t (p0 : (List Int)) (p1 : Int) : FT (Bool) := (.opt (ref01_Has_l0 (p1, p0, Int.ofNat p0.length, 0, ())) fun x4 => (.alt x4 (fun x5 => (.ret x5.fst)) (fun _ => (.ret false))))
noncomputable def ref01_Has (p0 : (List Int)) (p1 : Int) : Option (Bool) := (ref01_Has_t p0 p1).fin
noncomputable def ref01_Has_sp : CSpec := genSpec [(.sl (.int .i64)), (.int .i64)] [.bool] (fun x => ref01_Has x.1 x.2)
theorem ref01_Has_ok : EnterOk Tryz.prog 67 ∧ CSpecOk Tryz.prog cfgG 67 ref01_Has_sp := ⟨enter Tryz.func67 (by kernel_rfl) (by kernel_rfl), genSpec_ok (A := ref01_Has_A) (sa := [(.sl (.int .i64)), (.int .i64)]) (sr := [.bool]) (bd := fun (x : (ArgT [(.sl (.int .i64)), (.int .i64)])) => ref01_Has_t x.1 x.2) (fitG L_ref05_Means) s_ref05_Means mixed (by kernel_rfl) (loopsAll (l := [loopN Tryz.prog 67 0]) (by kernel_rfl) ⟨ref01_Has_o0, trivial⟩) (fun _ => rfl) (by
  intro x
  obtain ⟨p0, p1⟩ := x
  kernel_rfl)⟩
noncomputable def L_ref01_Has : List (Nat × CSpec) := (67, ref01_Has_sp) :: L_ref05_Means
theorem s_ref01_Has : SpecsOk Tryz.prog (tabsG L_ref01_Has) := oneSpecGT s_ref05_Means ref01_Has_ok
noncomputable def ref21_right_A : Anns := { l := [], orc := [], N := 1000, rng := [], ro := [], outs := none, nils := [] }
noncomputable def ref21_right_t (p0 : Int) (p1 : Int) : FT (Bool) := (.br (decide (p0 ≥ 0)) (.br (decide (p0 < 8)) (.br (decide (p1 ≥ 0)) (.ret (decide (p1 < 16))) (.ret false)) (.ret false)) (.ret false))
noncomputable def ref21_right (p0 : Int) (p1 : Int) : Option (Bool) := (ref21_right_t p0 p1).fin
noncomputable def ref21_right_sp : CSpec := genSpec [(.int .i64), (.int .i64)] [.bool] (fun x => ref21_right x.1 x.2)
theorem ref21_right_ok : EnterOk Tryz.prog 43 ∧ CSpecOk Tryz.prog cfgG 43 ref21_right_sp := ⟨enter Tryz.func43 (by kernel_rfl) (by kernel_rfl), genSpec_ok (A := ref21_right_A) (sa := [(.int .i64), (.int .i64)]) (sr := [.bool]) (bd := fun (x : (ArgT [(.int .i64), (.int .i64)])) => ref21_right_t x.1 x.2) (fitG L_ref01_Has) s_ref01_Has mixed (by kernel_rfl) (loopsAll (l := []) (by kernel_rfl) trivial) (fun _ => rfl) (by
  intro x
  obtain ⟨p0, p1⟩ := x
  kernel_rfl)⟩
noncomputable def L_ref21_right : List (Nat × CSpec) := (43, ref21_right_sp) :: L_ref01_Has
theorem s_ref21_right : SpecsOk Tryz.prog (tabsG L_ref21_right) := oneSpecGT s_ref01_Has ref21_right_ok
noncomputable def ref21_Count_h0 : EP := ⟨[(1, .d (.int .i64)), (2, .d (.int .i64)), (7, .d (.int .i64)), (10, .d (.sl shRF)), (11, .d (.int .i64)), (12, .d (.int .i64))], []⟩
noncomputable def ref21_Count_x0 : List (Exit × EP) := [(Exit.exit 0, ⟨[(7, .d (.int .i64))], []⟩)]
abbrev ref21_Count_S0 : Type := Int × Int × Int × (List RFact) × Int × Int × Unit
abbrev ref21_Count_Q0 : Type := (Int × Unit)
noncomputable def ref21_Count_b0 : ref21_Count_S0 → LT ref21_Count_S0 ref21_Count_Q0 := fun st => match st with
  | (a1, a2, a7, a10, a11, a12, ()) => (.br (decide (a12 < a11)) (.br (decide (0 ≤ a12)) (.br (decide (a12 < Int.ofNat a10.length)) (.br ((getI a10 a12 (0, 0, 0, [])).fst == a1) (.br ((getI a10 a12 (0, 0, 0, [])).snd.fst == a2) (.next (a1, a2, (IntKind.i64.wrap (a7 + 1)), a10, a11, (IntKind.i64.wrap (a12 + 1)), ())) (.next (a1, a2, a7, a10, a11, (IntKind.i64.wrap (a12 + 1)), ()))) (.next (a1, a2, a7, a10, a11, (IntKind.i64.wrap (a12 + 1)), ()))) .fail) .fail) (.ret (a7, ())))
noncomputable def ref21_Count_l0 (st : ref21_Count_S0) : Option ref21_Count_Q0 := LT.loop ref21_Count_b0 FUEL st
noncomputable def ref21_Count_A : Anns := { l := [(3, [.keep [1, 2, 7, 10, 11, 12] []]), (100003, [.keep [7] []])], orc := [(3, genOrc ref21_Count_h0 ref21_Count_x0 ref21_Count_l0)], N := 1000, rng := [], ro := [], outs := none, nils := [] }
theorem ref21_Count_s0 : ∀ (st : ref21_Count_S0) m k, loopX ref21_Count_A (loopN Tryz.prog 27 0) (prep (tabsG L_ref21_right) (annOf ref21_Count_A (loopN Tryz.prog 27 0))) (evalC Tryz.prog (tabsG L_ref21_right) ref21_Count_A (loopN Tryz.prog 27 0)) (m + 1) (ref21_Count_h0.enc st) (outK (tabsG L_ref21_right) ref21_Count_A (loopN Tryz.prog 27 0) k) = (ref21_Count_b0 st).run (exK ref21_Count_x0 k) (fun st' => loopX ref21_Count_A (loopN Tryz.prog 27 0) (prep (tabsG L_ref21_right) (annOf ref21_Count_A (loopN Tryz.prog 27 0))) (evalC Tryz.prog (tabsG L_ref21_right) ref21_Count_A (loopN Tryz.prog 27 0)) m (ref21_Count_h0.enc st') (outK (tabsG L_ref21_right) ref21_Count_A (loopN Tryz.prog 27 0) k)) := by
  intro st m k
  obtain ⟨a1, a2, a7, a10, a11, a12, ⟨⟩⟩ := st
  kernel_rfl
theorem ref21_Count_o0 : OrcOk Tryz.prog (tabsG L_ref21_right) ref21_Count_A (loopN Tryz.prog 27 0) := genOrc_ok (h := ref21_Count_h0) (xs := ref21_Count_x0) (F := ref21_Count_l0) (bd := ref21_Count_b0) (fun _ => FUEL) (by kernel_rfl) (fun _ _ h => h) ref21_Count_s0
noncomputable def ref21_Count_t (p0 : (List RFact)) (p1 : Int) (p2 : Int) : FT (Int) := (.opt (ref21_Count_l0 (p1, p2, 0, p0, Int.ofNat p0.length, 0, ())) fun x2 => (.ret x2.fst))
noncomputable def ref21_Count (p0 : (List RFact)) (p1 : Int) (p2 : Int) : Option (Int) := (ref21_Count_t p0 p1 p2).fin
noncomputable def ref21_Count_sp : CSpec := genSpec [(.sl shRF), (.int .i64), (.int .i64)] [(.int .i64)] (fun x => ref21_Count x.1 x.2.1 x.2.2)
theorem ref21_Count_ok : EnterOk Tryz.prog 27 ∧ CSpecOk Tryz.prog cfgG 27 ref21_Count_sp := ⟨enter Tryz.func27 (by kernel_rfl) (by kernel_rfl), genSpec_ok (A := ref21_Count_A) (sa := [(.sl shRF), (.int .i64), (.int .i64)]) (sr := [(.int .i64)]) (bd := fun (x : (ArgT [(.sl shRF), (.int .i64), (.int .i64)])) => ref21_Count_t x.1 x.2.1 x.2.2) (fitG L_ref21_right) s_ref21_right mixed (by kernel_rfl) (loopsAll (l := [loopN Tryz.prog 27 0]) (by kernel_rfl) ⟨ref21_Count_o0, trivial⟩) (fun _ => rfl) (by
  intro x
  obtain ⟨p0, p1, p2⟩ := x
  kernel_rfl)⟩
noncomputable def L_ref21_Count : List (Nat × CSpec) := (27, ref21_Count_sp) :: L_ref21_right
theorem s_ref21_Count : SpecsOk Tryz.prog (tabsG L_ref21_Count) := oneSpecGT s_ref21_right ref21_Count_ok
noncomputable def ref21_Accept_A : Anns := { l := [], orc := [], N := 1000, rng := [], ro := [], outs := none, nils := [] }
noncomputable def ref21_Accept_t (p0 : RLed) (p1 : Int) (p2 : Int) (p3 : (List (ByteArray × V))) : FT (RLed × Int × (Bool × List (Int × Int) × Int)) := (.opt (ref21_right p1 p2) fun x5 => (.br (!x5) (.ret ((p0, 0, true, [], 1))) (.opt (ref03_Check p3) fun x6 => (.br x6.fst (.ret ((p0, 0, x6))) (.br (decide (Int.ofNat (List.length p0.fst) ≥ 4096)) (.ret ((p0, 0, true, [], 11))) (.opt (ref21_Count p0.fst p1 p2) fun x7 => (.br (appLim 48 0 (List.length p0.fst)) (.opt (ref03_Twin p3) fun x8 => (.br (appLim 48 (List.length p0.fst) 1) (.ret (((p0.fst ++ [(p1, p2, x7, x8)], p0.snd), x7, false, [], 0))) .fail)) .fail)))))))
noncomputable def ref21_Accept (p0 : RLed) (p1 : Int) (p2 : Int) (p3 : (List (ByteArray × V))) : Option (RLed × Int × (Bool × List (Int × Int) × Int)) := (ref21_Accept_t p0 p1 p2 p3).fin
noncomputable def ref21_Accept_sp : CSpec := genSpec [shRL, (.int .i64), (.int .i64), shEvent] [shRL, (.int .i64), shE] (fun x => ref21_Accept x.1 x.2.1 x.2.2.1 x.2.2.2)
theorem ref21_Accept_ok : EnterOk Tryz.prog 19 ∧ CSpecOk Tryz.prog cfgG 19 ref21_Accept_sp := ⟨enter Tryz.func19 (by kernel_rfl) (by kernel_rfl), genSpec_ok (A := ref21_Accept_A) (sa := [shRL, (.int .i64), (.int .i64), shEvent]) (sr := [shRL, (.int .i64), shE]) (bd := fun (x : (ArgT [shRL, (.int .i64), (.int .i64), shEvent])) => ref21_Accept_t x.1 x.2.1 x.2.2.1 x.2.2.2) (fitG L_ref21_Count) s_ref21_Count mixed (by kernel_rfl) (loopsAll (l := []) (by kernel_rfl) trivial) (fun _ => rfl) (by
  intro x
  obtain ⟨p0, p1, p2, p3⟩ := x
  kernel_rfl)⟩
noncomputable def L_ref21_Accept : List (Nat × CSpec) := (19, ref21_Accept_sp) :: L_ref21_Count
theorem s_ref21_Accept : SpecsOk Tryz.prog (tabsG L_ref21_Accept) := oneSpecGT s_ref21_Count ref21_Accept_ok
noncomputable def ref21_Find_h0 : EP := ⟨[(1, .d (.int .i64)), (8, .d (.sl shRS)), (9, .d (.int .i64)), (10, .d (.int .i64))], []⟩
noncomputable def ref21_Find_x0 : List (Exit × EP) := [(Exit.ret, ⟨[(4, .d (.int .i64))], []⟩), (Exit.exit 0, ⟨[], []⟩)]
abbrev ref21_Find_S0 : Type := Int × (List RSub) × Int × Int × Unit
abbrev ref21_Find_Q0 : Type := (Int × Unit) ⊕ (Unit)
noncomputable def ref21_Find_b0 : ref21_Find_S0 → LT ref21_Find_S0 ref21_Find_Q0 := fun st => match st with
  | (a1, a8, a9, a10, ()) => (.br (decide (a10 < a9)) (.br (decide (0 ≤ a10)) (.br (decide (a10 < Int.ofNat a8.length)) (.br ((getI a8 a10 (0, (false, []), 0, false)).fst == a1) (.ret (.inl (a10, ()))) (.next (a1, a8, a9, (IntKind.i64.wrap (a10 + 1)), ()))) .fail) .fail) (.ret (.inr ())))
noncomputable def ref21_Find_l0 (st : ref21_Find_S0) : Option ref21_Find_Q0 := LT.loop ref21_Find_b0 FUEL st
noncomputable def ref21_Find_A : Anns := { l := [(2, [.keep [1, 8, 9, 10] []]), (100002, [.keep [4] []])], orc := [(2, genOrc ref21_Find_h0 ref21_Find_x0 ref21_Find_l0)], N := 1000, rng := [], ro := [], outs := none, nils := [] }
theorem ref21_Find_s0 : ∀ (st : ref21_Find_S0) m k, loopX ref21_Find_A (loopN Tryz.prog 46 0) (prep (tabsG L_ref21_Accept) (annOf ref21_Find_A (loopN Tryz.prog 46 0))) (evalC Tryz.prog (tabsG L_ref21_Accept) ref21_Find_A (loopN Tryz.prog 46 0)) (m + 1) (ref21_Find_h0.enc st) (outK (tabsG L_ref21_Accept) ref21_Find_A (loopN Tryz.prog 46 0) k) = (ref21_Find_b0 st).run (exK ref21_Find_x0 k) (fun st' => loopX ref21_Find_A (loopN Tryz.prog 46 0) (prep (tabsG L_ref21_Accept) (annOf ref21_Find_A (loopN Tryz.prog 46 0))) (evalC Tryz.prog (tabsG L_ref21_Accept) ref21_Find_A (loopN Tryz.prog 46 0)) m (ref21_Find_h0.enc st') (outK (tabsG L_ref21_Accept) ref21_Find_A (loopN Tryz.prog 46 0) k)) := by
  intro st m k
  obtain ⟨a1, a8, a9, a10, ⟨⟩⟩ := st
  kernel_rfl
theorem ref21_Find_o0 : OrcOk Tryz.prog (tabsG L_ref21_Accept) ref21_Find_A (loopN Tryz.prog 46 0) := genOrc_ok (h := ref21_Find_h0) (xs := ref21_Find_x0) (F := ref21_Find_l0) (bd := ref21_Find_b0) (fun _ => FUEL) (by kernel_rfl) (fun _ _ h => h) ref21_Find_s0
noncomputable def ref21_Find_t (p0 : RLed) (p1 : Int) : FT (Int) := (.opt (ref21_Find_l0 (p1, p0.snd.fst, Int.ofNat (List.length p0.snd.fst), 0, ())) fun x4 => (.alt x4 (fun x5 => (.ret x5.fst)) (fun _ => (.ret (Int.negSucc 0)))))
noncomputable def ref21_Find (p0 : RLed) (p1 : Int) : Option (Int) := (ref21_Find_t p0 p1).fin
noncomputable def ref21_Find_sp : CSpec := genSpec [shRL, (.int .i64)] [(.int .i64)] (fun x => ref21_Find x.1 x.2)
theorem ref21_Find_ok : EnterOk Tryz.prog 46 ∧ CSpecOk Tryz.prog cfgG 46 ref21_Find_sp := ⟨enter Tryz.func46 (by kernel_rfl) (by kernel_rfl), genSpec_ok (A := ref21_Find_A) (sa := [shRL, (.int .i64)]) (sr := [(.int .i64)]) (bd := fun (x : (ArgT [shRL, (.int .i64)])) => ref21_Find_t x.1 x.2) (fitG L_ref21_Accept) s_ref21_Accept mixed (by kernel_rfl) (loopsAll (l := [loopN Tryz.prog 46 0]) (by kernel_rfl) ⟨ref21_Find_o0, trivial⟩) (fun _ => rfl) (by
  intro x
  obtain ⟨p0, p1⟩ := x
  kernel_rfl)⟩
noncomputable def L_ref21_Find : List (Nat × CSpec) := (46, ref21_Find_sp) :: L_ref21_Accept
theorem s_ref21_Find : SpecsOk Tryz.prog (tabsG L_ref21_Find) := oneSpecGT s_ref21_Accept ref21_Find_ok
noncomputable def ref21_Open_A : Anns := { l := [], orc := [], N := 1000, rng := [], ro := [], outs := none, nils := [] }
noncomputable def ref21_Open_t (p0 : RLed) (p1 : Int) (p2 : Fil) : FT (RLed × (Bool × List (Int × Int) × Int)) := (.br (decide (p1 < 0)) (.ret ((p0, true, [], 1))) (.opt (ref05_Check p2) fun x4 => (.br x4.fst (.ret ((p0, x4))) (.opt (ref21_Find p0 p1) fun x5 => (.br (decide (x5 ≥ 0)) (.ret ((p0, true, [], 9))) (.br (decide (Int.ofNat (List.length p0.snd.fst) ≥ 512)) (.ret ((p0, true, [], 11))) (.br (appLim 56 0 (List.length p0.snd.fst)) (.opt (ref05_Twin p2) fun x6 => (.br (appLim 56 (List.length p0.snd.fst) 1) (.ret (((p0.fst, p0.snd.fst ++ [(p1, x6, Int.ofNat (List.length p0.fst), false)], p0.snd.snd), false, [], 0))) .fail)) .fail)))))))
noncomputable def ref21_Open (p0 : RLed) (p1 : Int) (p2 : Fil) : Option (RLed × (Bool × List (Int × Int) × Int)) := (ref21_Open_t p0 p1 p2).fin
noncomputable def ref21_Open_sp : CSpec := genSpec [shRL, (.int .i64), shFil] [shRL, shE] (fun x => ref21_Open x.1 x.2.1 x.2.2)
theorem ref21_Open_ok : EnterOk Tryz.prog 21 ∧ CSpecOk Tryz.prog cfgG 21 ref21_Open_sp := ⟨enter Tryz.func21 (by kernel_rfl) (by kernel_rfl), genSpec_ok (A := ref21_Open_A) (sa := [shRL, (.int .i64), shFil]) (sr := [shRL, shE]) (bd := fun (x : (ArgT [shRL, (.int .i64), shFil])) => ref21_Open_t x.1 x.2.1 x.2.2) (fitG L_ref21_Find) s_ref21_Find mixed (by kernel_rfl) (loopsAll (l := []) (by kernel_rfl) trivial) (fun _ => rfl) (by
  intro x
  obtain ⟨p0, p1, p2⟩ := x
  kernel_rfl)⟩
noncomputable def L_ref21_Open : List (Nat × CSpec) := (21, ref21_Open_sp) :: L_ref21_Find
theorem s_ref21_Open : SpecsOk Tryz.prog (tabsG L_ref21_Open) := oneSpecGT s_ref21_Find ref21_Open_ok
noncomputable def ref21_live_A : Anns := { l := [], orc := [], N := 1000, rng := [], ro := [], outs := none, nils := [] }
noncomputable def ref21_live_t (p0 : RLed) (p1 : Int) : FT (Int) := (.opt (ref21_Find p0 p1) fun x2 => (.br (decide (x2 ≥ 0)) (.br (decide (0 ≤ x2)) (.br (decide (x2 < Int.ofNat (List.length p0.snd.fst))) (.br ((getI p0.snd.fst x2 (0, (false, []), 0, false)).snd.snd.snd) (.ret (Int.negSucc 0)) (.ret x2)) .fail) .fail) (.ret x2)))
noncomputable def ref21_live (p0 : RLed) (p1 : Int) : Option (Int) := (ref21_live_t p0 p1).fin
noncomputable def ref21_live_sp : CSpec := genSpec [shRL, (.int .i64)] [(.int .i64)] (fun x => ref21_live x.1 x.2)
theorem ref21_live_ok : EnterOk Tryz.prog 47 ∧ CSpecOk Tryz.prog cfgG 47 ref21_live_sp := ⟨enter Tryz.func47 (by kernel_rfl) (by kernel_rfl), genSpec_ok (A := ref21_live_A) (sa := [shRL, (.int .i64)]) (sr := [(.int .i64)]) (bd := fun (x : (ArgT [shRL, (.int .i64)])) => ref21_live_t x.1 x.2) (fitG L_ref21_Open) s_ref21_Open mixed (by kernel_rfl) (loopsAll (l := []) (by kernel_rfl) trivial) (fun _ => rfl) (by
  intro x
  obtain ⟨p0, p1⟩ := x
  kernel_rfl)⟩
noncomputable def L_ref21_live : List (Nat × CSpec) := (47, ref21_live_sp) :: L_ref21_Open
theorem s_ref21_live : SpecsOk Tryz.prog (tabsG L_ref21_live) := oneSpecGT s_ref21_Open ref21_live_ok
noncomputable def ref21_Close_A : Anns := { l := [], orc := [], N := 1000, rng := [], ro := [], outs := none, nils := [] }
noncomputable def ref21_Close_t (p0 : RLed) (p1 : Int) : FT (RLed × (Bool × List (Int × Int) × Int)) := (.opt (ref21_live p0 p1) fun x2 => (.br (decide (x2 < 0)) (.ret ((p0, true, [], 10))) (.br (appLim 56 0 (List.length p0.snd.fst)) (.br (decide (0 ≤ x2)) (.br (decide (x2 < Int.ofNat (List.length p0.snd.fst))) (.br (decide (0 ≤ x2)) (.br (decide (x2 < Int.ofNat (List.length p0.snd.fst))) (.ret (((p0.fst, List.set p0.snd.fst x2.toNat ((getI p0.snd.fst x2 (0, (false, []), 0, false)).fst, (getI p0.snd.fst x2 (0, (false, []), 0, false)).snd.fst, (getI p0.snd.fst x2 (0, (false, []), 0, false)).snd.snd.fst, true), p0.snd.snd), false, [], 0))) .fail) .fail) .fail) .fail) .fail)))
noncomputable def ref21_Close (p0 : RLed) (p1 : Int) : Option (RLed × (Bool × List (Int × Int) × Int)) := (ref21_Close_t p0 p1).fin
noncomputable def ref21_Close_sp : CSpec := genSpec [shRL, (.int .i64)] [shRL, shE] (fun x => ref21_Close x.1 x.2)
theorem ref21_Close_ok : EnterOk Tryz.prog 23 ∧ CSpecOk Tryz.prog cfgG 23 ref21_Close_sp := ⟨enter Tryz.func23 (by kernel_rfl) (by kernel_rfl), genSpec_ok (A := ref21_Close_A) (sa := [shRL, (.int .i64)]) (sr := [shRL, shE]) (bd := fun (x : (ArgT [shRL, (.int .i64)])) => ref21_Close_t x.1 x.2) (fitG L_ref21_live) s_ref21_live mixed (by kernel_rfl) (loopsAll (l := []) (by kernel_rfl) trivial) (fun _ => rfl) (by
  intro x
  obtain ⟨p0, p1⟩ := x
  kernel_rfl)⟩
noncomputable def L_ref21_Close : List (Nat × CSpec) := (23, ref21_Close_sp) :: L_ref21_live
theorem s_ref21_Close : SpecsOk Tryz.prog (tabsG L_ref21_Close) := oneSpecGT s_ref21_live ref21_Close_ok
noncomputable def ref21_last_h0 : EP := ⟨[(1, .d (.int .i64)), (2, .d (.int .i64)), (3, .d (.int .i64)), (9, .d (.int .i64)), (13, .d (.sl shRG)), (14, .d (.int .i64)), (15, .d (.int .i64))], []⟩
noncomputable def ref21_last_x0 : List (Exit × EP) := [(Exit.exit 0, ⟨[(9, .d (.int .i64))], []⟩)]
abbrev ref21_last_S0 : Type := Int × Int × Int × Int × (List RGift) × Int × Int × Unit
abbrev ref21_last_Q0 : Type := (Int × Unit)
noncomputable def ref21_last_b0 : ref21_last_S0 → LT ref21_last_S0 ref21_last_Q0 := fun st => match st with
  | (a1, a2, a3, a9, a13, a14, a15, ()) => (.br (decide (a15 < a14)) (.br (decide (0 ≤ a15)) (.br (decide (a15 < Int.ofNat a13.length)) (.br ((getI a13 a15 (0, 0, 0, 0)).fst == a1) (.br ((getI a13 a15 (0, 0, 0, 0)).snd.fst == a2) (.br ((getI a13 a15 (0, 0, 0, 0)).snd.snd.fst == a3) (.next (a1, a2, a3, ((getI a13 a15 (0, 0, 0, 0)).snd.snd.snd), a13, a14, (IntKind.i64.wrap (a15 + 1)), ())) (.next (a1, a2, a3, a9, a13, a14, (IntKind.i64.wrap (a15 + 1)), ()))) (.next (a1, a2, a3, a9, a13, a14, (IntKind.i64.wrap (a15 + 1)), ()))) (.next (a1, a2, a3, a9, a13, a14, (IntKind.i64.wrap (a15 + 1)), ()))) .fail) .fail) (.ret (a9, ())))
noncomputable def ref21_last_l0 (st : ref21_last_S0) : Option ref21_last_Q0 := LT.loop ref21_last_b0 FUEL st
noncomputable def ref21_last_A : Anns := { l := [(3, [.keep [1, 2, 3, 9, 13, 14, 15] []]), (100003, [.keep [9] []])], orc := [(3, genOrc ref21_last_h0 ref21_last_x0 ref21_last_l0)], N := 1000, rng := [], ro := [], outs := none, nils := [] }
theorem ref21_last_s0 : ∀ (st : ref21_last_S0) m k, loopX ref21_last_A (loopN Tryz.prog 49 0) (prep (tabsG L_ref21_Close) (annOf ref21_last_A (loopN Tryz.prog 49 0))) (evalC Tryz.prog (tabsG L_ref21_Close) ref21_last_A (loopN Tryz.prog 49 0)) (m + 1) (ref21_last_h0.enc st) (outK (tabsG L_ref21_Close) ref21_last_A (loopN Tryz.prog 49 0) k) = (ref21_last_b0 st).run (exK ref21_last_x0 k) (fun st' => loopX ref21_last_A (loopN Tryz.prog 49 0) (prep (tabsG L_ref21_Close) (annOf ref21_last_A (loopN Tryz.prog 49 0))) (evalC Tryz.prog (tabsG L_ref21_Close) ref21_last_A (loopN Tryz.prog 49 0)) m (ref21_last_h0.enc st') (outK (tabsG L_ref21_Close) ref21_last_A (loopN Tryz.prog 49 0) k)) := by
  intro st m k
  obtain ⟨a1, a2, a3, a9, a13, a14, a15, ⟨⟩⟩ := st
  kernel_rfl
theorem ref21_last_o0 : OrcOk Tryz.prog (tabsG L_ref21_Close) ref21_last_A (loopN Tryz.prog 49 0) := genOrc_ok (h := ref21_last_h0) (xs := ref21_last_x0) (F := ref21_last_l0) (bd := ref21_last_b0) (fun _ => FUEL) (by kernel_rfl) (fun _ _ h => h) ref21_last_s0
noncomputable def ref21_last_t (p0 : RLed) (p1 : Int) (p2 : Int) (p3 : Int) : FT (Int) := (.opt (ref21_last_l0 (p1, p2, p3, -1, p0.snd.snd, Int.ofNat (List.length p0.snd.snd), 0, ())) fun x2 => (.ret x2.fst))
noncomputable def ref21_last (p0 : RLed) (p1 : Int) (p2 : Int) (p3 : Int) : Option (Int) := (ref21_last_t p0 p1 p2 p3).fin
noncomputable def ref21_last_sp : CSpec := genSpec [shRL, (.int .i64), (.int .i64), (.int .i64)] [(.int .i64)] (fun x => ref21_last x.1 x.2.1 x.2.2.1 x.2.2.2)
theorem ref21_last_ok : EnterOk Tryz.prog 49 ∧ CSpecOk Tryz.prog cfgG 49 ref21_last_sp := ⟨enter Tryz.func49 (by kernel_rfl) (by kernel_rfl), genSpec_ok (A := ref21_last_A) (sa := [shRL, (.int .i64), (.int .i64), (.int .i64)]) (sr := [(.int .i64)]) (bd := fun (x : (ArgT [shRL, (.int .i64), (.int .i64), (.int .i64)])) => ref21_last_t x.1 x.2.1 x.2.2.1 x.2.2.2) (fitG L_ref21_Close) s_ref21_Close mixed (by kernel_rfl) (loopsAll (l := [loopN Tryz.prog 49 0]) (by kernel_rfl) ⟨ref21_last_o0, trivial⟩) (fun _ => rfl) (by
  intro x
  obtain ⟨p0, p1, p2, p3⟩ := x
  kernel_rfl)⟩
noncomputable def L_ref21_last : List (Nat × CSpec) := (49, ref21_last_sp) :: L_ref21_Close
theorem s_ref21_last : SpecsOk Tryz.prog (tabsG L_ref21_last) := oneSpecGT s_ref21_Close ref21_last_ok
noncomputable def ref21_Meant_h0 : EP := ⟨[(2, .d (.int .i64)), (3, .d (.int .i64)), (5, .ref 5 0), (9, .own 9009), (13, .d (.sl shRF)), (14, .d (.int .i64)), (15, .d (.int .i64))], [(5, .box 36 [.d .bool, .d (.sl shBound)]), (9009, .row 3 (.int .i64))]⟩
noncomputable def ref21_Meant_x0 : List (Exit × EP) := [(Exit.exit 0, ⟨[(9, .own 9009)], [(9009, .row 3 (.int .i64))]⟩)]
abbrev ref21_Meant_S0 : Type := Int × Int × (List RFact) × Int × Int × Bool × (List Bd) × (List Int) × Unit
abbrev ref21_Meant_Q0 : Type := ((List Int) × Unit)
noncomputable def ref21_Meant_b0 : ref21_Meant_S0 → LT ref21_Meant_S0 ref21_Meant_Q0 := fun st => match st with
  | (a2, a3, a13, a14, a15, r5_0, r5_1, r9009, ()) => (.br (decide (a15 < a14)) (.br (decide (0 ≤ a15)) (.br (decide (a15 < Int.ofNat a13.length)) (.br ((getI a13 a15 (0, 0, 0, [])).fst == a2) (.br ((getI a13 a15 (0, 0, 0, [])).snd.fst == a3) (.opt (ref05_Means (r5_0, r5_1) (getI a13 a15 (0, 0, 0, [])).snd.snd.snd) fun x8 => (.br x8 (.br (appLim 8 r9009.length 1) (.next (a2, a3, a13, a14, (IntKind.i64.wrap (a15 + 1)), r5_0, r5_1, (r9009 ++ [(getI a13 a15 (0, 0, 0, [])).snd.snd.fst]), ())) .fail) (.next (a2, a3, a13, a14, (IntKind.i64.wrap (a15 + 1)), r5_0, r5_1, r9009, ())))) (.next (a2, a3, a13, a14, (IntKind.i64.wrap (a15 + 1)), r5_0, r5_1, r9009, ()))) (.next (a2, a3, a13, a14, (IntKind.i64.wrap (a15 + 1)), r5_0, r5_1, r9009, ()))) .fail) .fail) (.ret (r9009, ())))
noncomputable def ref21_Meant_l0 (st : ref21_Meant_S0) : Option ref21_Meant_Q0 := LT.loop ref21_Meant_b0 FUEL st
noncomputable def ref21_Meant_A : Anns := { l := [(3, [.keep [2, 3, 5, 9, 13, 14, 15] [5, 39, 9009], .ownS 9 9009 3, .keep [2, 3, 5, 9, 13, 14, 15] [5, 9009]]), (100003, [.keep [9] [9009]])], orc := [(3, genOrc ref21_Meant_h0 ref21_Meant_x0 ref21_Meant_l0)], N := 1000, rng := [], ro := [], outs := none, nils := [] }
theorem ref21_Meant_s0 : ∀ (st : ref21_Meant_S0) m k, loopX ref21_Meant_A (loopN Tryz.prog 50 0) (prep (tabsG L_ref21_last) (annOf ref21_Meant_A (loopN Tryz.prog 50 0))) (evalC Tryz.prog (tabsG L_ref21_last) ref21_Meant_A (loopN Tryz.prog 50 0)) (m + 1) (ref21_Meant_h0.enc st) (outK (tabsG L_ref21_last) ref21_Meant_A (loopN Tryz.prog 50 0) k) = (ref21_Meant_b0 st).run (exK ref21_Meant_x0 k) (fun st' => loopX ref21_Meant_A (loopN Tryz.prog 50 0) (prep (tabsG L_ref21_last) (annOf ref21_Meant_A (loopN Tryz.prog 50 0))) (evalC Tryz.prog (tabsG L_ref21_last) ref21_Meant_A (loopN Tryz.prog 50 0)) m (ref21_Meant_h0.enc st') (outK (tabsG L_ref21_last) ref21_Meant_A (loopN Tryz.prog 50 0) k)) := by
  intro st m k
  obtain ⟨a2, a3, a13, a14, a15, r5_0, r5_1, r9009, ⟨⟩⟩ := st
  kernel_rfl
theorem ref21_Meant_o0 : OrcOk Tryz.prog (tabsG L_ref21_last) ref21_Meant_A (loopN Tryz.prog 50 0) := genOrc_ok (h := ref21_Meant_h0) (xs := ref21_Meant_x0) (F := ref21_Meant_l0) (bd := ref21_Meant_b0) (fun _ => FUEL) (by kernel_rfl) (fun _ _ h => h) ref21_Meant_s0
noncomputable def ref21_Meant_t (p0 : RLed) (p1 : Fil) (p2 : Int) (p3 : Int) : FT ((List Int)) := (.opt (ref21_Meant_l0 (p2, p3, p0.fst, Int.ofNat (List.length p0.fst), 0, p1.fst, p1.snd, [], ())) fun x10 => (.ret x10.fst))
noncomputable def ref21_Meant (p0 : RLed) (p1 : Fil) (p2 : Int) (p3 : Int) : Option ((List Int)) := (ref21_Meant_t p0 p1 p2 p3).fin
noncomputable def ref21_Meant_sp : CSpec := genSpec [shRL, shFil, (.int .i64), (.int .i64)] [(.sl (.int .i64))] (fun x => ref21_Meant x.1 x.2.1 x.2.2.1 x.2.2.2)
theorem ref21_Meant_ok : EnterOk Tryz.prog 50 ∧ CSpecOk Tryz.prog cfgG 50 ref21_Meant_sp := ⟨enter Tryz.func50 (by kernel_rfl) (by kernel_rfl), genSpec_ok (A := ref21_Meant_A) (sa := [shRL, shFil, (.int .i64), (.int .i64)]) (sr := [(.sl (.int .i64))]) (bd := fun (x : (ArgT [shRL, shFil, (.int .i64), (.int .i64)])) => ref21_Meant_t x.1 x.2.1 x.2.2.1 x.2.2.2) (fitG L_ref21_last) s_ref21_last mixed (by kernel_rfl) (loopsAll (l := [loopN Tryz.prog 50 0]) (by kernel_rfl) ⟨ref21_Meant_o0, trivial⟩) (fun _ => rfl) (by
  intro x
  obtain ⟨p0, p1, p2, p3⟩ := x
  kernel_rfl)⟩
noncomputable def L_ref21_Meant : List (Nat × CSpec) := (50, ref21_Meant_sp) :: L_ref21_last
theorem s_ref21_Meant : SpecsOk Tryz.prog (tabsG L_ref21_Meant) := oneSpecGT s_ref21_last ref21_Meant_ok
noncomputable def ref21_may_h0 : EP := ⟨[(4, .d (.int .i64)), (12, .d (.int .i64)), (13, .d (.int .i64)), (40, .d (.sl (.int .i64))), (41, .d (.int .i64)), (42, .d (.int .i64))], []⟩
noncomputable def ref21_may_x0 : List (Exit × EP) := [(Exit.ret, ⟨[(4, .d (.int .i64)), (10, .d .bool), (12, .d (.int .i64))], []⟩), (Exit.exit 0, ⟨[(4, .d (.int .i64)), (12, .d (.int .i64))], []⟩)]
abbrev ref21_may_S0 : Type := Int × Int × Int × (List Int) × Int × Int × Unit
abbrev ref21_may_Q0 : Type := (Int × Bool × Int × Unit) ⊕ (Int × Int × Unit)
noncomputable def ref21_may_b0 : ref21_may_S0 → LT ref21_may_S0 ref21_may_Q0 := fun st => match st with
  | (a4, a12, a13, a40, a41, a42, ()) => (.br (decide (a42 < a41)) (.br (decide (0 ≤ a42)) (.br (decide (a42 < Int.ofNat a40.length)) (.br (decide (a12 ≥ 0)) (.br (decide (getI a40 a42 0 > a12)) (.br (decide (getI a40 a42 0 < a4)) (.ret (.inl (a4, false, a12, ()))) (.br (decide (a12 < 0)) (.br (decide (getI a40 a42 0 ≥ a13)) (.br (decide (getI a40 a42 0 < a4)) (.ret (.inl (a4, false, a12, ()))) (.next (a4, a12, a13, a40, a41, (IntKind.i64.wrap (a42 + 1)), ()))) (.next (a4, a12, a13, a40, a41, (IntKind.i64.wrap (a42 + 1)), ()))) (.next (a4, a12, a13, a40, a41, (IntKind.i64.wrap (a42 + 1)), ())))) (.br (decide (a12 < 0)) (.br (decide (getI a40 a42 0 ≥ a13)) (.br (decide (getI a40 a42 0 < a4)) (.ret (.inl (a4, false, a12, ()))) (.next (a4, a12, a13, a40, a41, (IntKind.i64.wrap (a42 + 1)), ()))) (.next (a4, a12, a13, a40, a41, (IntKind.i64.wrap (a42 + 1)), ()))) (.next (a4, a12, a13, a40, a41, (IntKind.i64.wrap (a42 + 1)), ())))) (.br (decide (a12 < 0)) (.br (decide (getI a40 a42 0 ≥ a13)) (.br (decide (getI a40 a42 0 < a4)) (.ret (.inl (a4, false, a12, ()))) (.next (a4, a12, a13, a40, a41, (IntKind.i64.wrap (a42 + 1)), ()))) (.next (a4, a12, a13, a40, a41, (IntKind.i64.wrap (a42 + 1)), ()))) (.next (a4, a12, a13, a40, a41, (IntKind.i64.wrap (a42 + 1)), ())))) .fail) .fail) (.ret (.inr (a4, a12, ()))))
noncomputable def ref21_may_l0 (st : ref21_may_S0) : Option ref21_may_Q0 := LT.loop ref21_may_b0 FUEL st
noncomputable def ref21_may_A : Anns := { l := [(7, [.keep [4, 12, 13, 40, 41, 42] []]), (100007, [.keep [4, 10, 12] []])], orc := [(7, genOrc ref21_may_h0 ref21_may_x0 ref21_may_l0)], N := 1000, rng := [], ro := [], outs := none, nils := [] }
theorem ref21_may_s0 : ∀ (st : ref21_may_S0) m k, loopX ref21_may_A (loopN Tryz.prog 48 0) (prep (tabsG L_ref21_Meant) (annOf ref21_may_A (loopN Tryz.prog 48 0))) (evalC Tryz.prog (tabsG L_ref21_Meant) ref21_may_A (loopN Tryz.prog 48 0)) (m + 1) (ref21_may_h0.enc st) (outK (tabsG L_ref21_Meant) ref21_may_A (loopN Tryz.prog 48 0) k) = (ref21_may_b0 st).run (exK ref21_may_x0 k) (fun st' => loopX ref21_may_A (loopN Tryz.prog 48 0) (prep (tabsG L_ref21_Meant) (annOf ref21_may_A (loopN Tryz.prog 48 0))) (evalC Tryz.prog (tabsG L_ref21_Meant) ref21_may_A (loopN Tryz.prog 48 0)) m (ref21_may_h0.enc st') (outK (tabsG L_ref21_Meant) ref21_may_A (loopN Tryz.prog 48 0) k)) := by
  intro st m k
  obtain ⟨a4, a12, a13, a40, a41, a42, ⟨⟩⟩ := st
  kernel_rfl
theorem ref21_may_o0 : OrcOk Tryz.prog (tabsG L_ref21_Meant) ref21_may_A (loopN Tryz.prog 48 0) := genOrc_ok (h := ref21_may_h0) (xs := ref21_may_x0) (F := ref21_may_l0) (bd := ref21_may_b0) (fun _ => FUEL) (by kernel_rfl) (fun _ _ h => h) ref21_may_s0
noncomputable def ref21_may_t (p0 : RLed) (p1 : RSub) (p2 : Int) (p3 : Int) (p4 : Int) : FT (Bool) := (.opt (ref21_Meant p0 p1.snd.fst p2 p3) fun x12 => (.opt (ref01_Has x12 p4) fun x13 => (.br (!x13) (.ret false) (.opt (ref21_last p0 p1.fst p2 p3) fun x14 => (.br (decide (0 ≤ p1.snd.snd.fst)) (.br (decide (p1.snd.snd.fst ≤ Int.ofNat (List.length p0.fst))) (.opt (ref21_Count (List.take (p1.snd.snd.fst - 0).toNat (List.drop (Int.toNat 0) p0.fst)) p2 p3) fun x15 => (.opt (ref21_may_l0 (p4, x14, x15, x12, Int.ofNat x12.length, 0, ())) fun x16 => (.alt x16 (fun x17 => (.ret x17.snd.fst)) (fun x18 => (.ret (decide (x18.fst > x18.snd.fst))))))) .fail) .fail)))))
noncomputable def ref21_may (p0 : RLed) (p1 : RSub) (p2 : Int) (p3 : Int) (p4 : Int) : Option (Bool) := (ref21_may_t p0 p1 p2 p3 p4).fin
noncomputable def ref21_may_sp : CSpec := genSpec [shRL, shRS, (.int .i64), (.int .i64), (.int .i64)] [.bool] (fun x => ref21_may x.1 x.2.1 x.2.2.1 x.2.2.2.1 x.2.2.2.2)
theorem ref21_may_ok : EnterOk Tryz.prog 48 ∧ CSpecOk Tryz.prog cfgG 48 ref21_may_sp := ⟨enter Tryz.func48 (by kernel_rfl) (by kernel_rfl), genSpec_ok (A := ref21_may_A) (sa := [shRL, shRS, (.int .i64), (.int .i64), (.int .i64)]) (sr := [.bool]) (bd := fun (x : (ArgT [shRL, shRS, (.int .i64), (.int .i64), (.int .i64)])) => ref21_may_t x.1 x.2.1 x.2.2.1 x.2.2.2.1 x.2.2.2.2) (fitG L_ref21_Meant) s_ref21_Meant mixed (by kernel_rfl) (loopsAll (l := [loopN Tryz.prog 48 0]) (by kernel_rfl) ⟨ref21_may_o0, trivial⟩) (fun _ => rfl) (by
  intro x
  obtain ⟨p0, p1, p2, p3, p4⟩ := x
  kernel_rfl)⟩
noncomputable def L_ref21_may : List (Nat × CSpec) := (48, ref21_may_sp) :: L_ref21_Meant
theorem s_ref21_may : SpecsOk Tryz.prog (tabsG L_ref21_may) := oneSpecGT s_ref21_Meant ref21_may_ok
noncomputable def ref21_Give_A : Anns := { l := [], orc := [], N := 1000, rng := [], ro := [], outs := none, nils := [] }
noncomputable def ref21_Give_t (p0 : RLed) (p1 : Int) (p2 : Int) (p3 : Int) (p4 : Int) : FT (RLed × (Bool × List (Int × Int) × Int)) := (.opt (ref21_live p0 p1) fun x5 => (.br (decide (x5 < 0)) (.ret ((p0, true, [], 10))) (.opt (ref21_right p2 p3) fun x6 => (.br (!x6) (.ret ((p0, true, [], 1))) (.br (decide (p4 < 0)) (.ret ((p0, true, [], 10))) (.opt (ref21_Count p0.fst p2 p3) fun x7 => (.br (decide (p4 ≥ x7)) (.ret ((p0, true, [], 10))) (.br (decide (0 ≤ x5)) (.br (decide (x5 < Int.ofNat (List.length p0.snd.fst))) (.opt (ref21_may p0 (getI p0.snd.fst x5 (0, (false, []), 0, false)) p2 p3 p4) fun x8 => (.br (!x8) (.ret ((p0, true, [], 20))) (.br (appLim 32 0 (List.length p0.snd.snd)) (.br (appLim 32 (List.length p0.snd.snd) 1) (.ret (((p0.fst, p0.snd.fst, p0.snd.snd ++ [(p1, p2, p3, p4)]), false, [], 0))) .fail) .fail))) .fail) .fail))))))))
noncomputable def ref21_Give (p0 : RLed) (p1 : Int) (p2 : Int) (p3 : Int) (p4 : Int) : Option (RLed × (Bool × List (Int × Int) × Int)) := (ref21_Give_t p0 p1 p2 p3 p4).fin
noncomputable def ref21_Give_sp : CSpec := genSpec [shRL, (.int .i64), (.int .i64), (.int .i64), (.int .i64)] [shRL, shE] (fun x => ref21_Give x.1 x.2.1 x.2.2.1 x.2.2.2.1 x.2.2.2.2)
theorem ref21_Give_ok : EnterOk Tryz.prog 24 ∧ CSpecOk Tryz.prog cfgG 24 ref21_Give_sp := ⟨enter Tryz.func24 (by kernel_rfl) (by kernel_rfl), genSpec_ok (A := ref21_Give_A) (sa := [shRL, (.int .i64), (.int .i64), (.int .i64), (.int .i64)]) (sr := [shRL, shE]) (bd := fun (x : (ArgT [shRL, (.int .i64), (.int .i64), (.int .i64), (.int .i64)])) => ref21_Give_t x.1 x.2.1 x.2.2.1 x.2.2.2.1 x.2.2.2.2) (fitG L_ref21_may) s_ref21_may mixed (by kernel_rfl) (loopsAll (l := []) (by kernel_rfl) trivial) (fun _ => rfl) (by
  intro x
  obtain ⟨p0, p1, p2, p3, p4⟩ := x
  kernel_rfl)⟩
noncomputable def L_ref21_Give : List (Nat × CSpec) := (24, ref21_Give_sp) :: L_ref21_may
theorem s_ref21_Give : SpecsOk Tryz.prog (tabsG L_ref21_Give) := oneSpecGT s_ref21_may ref21_Give_ok
noncomputable def ref21_Due_h0 : EP := ⟨[(9, .ref 9 0), (11, .d (.int .i64)), (12, .own 9012), (57, .d (.sl (.int .i64))), (58, .d (.int .i64)), (59, .d (.int .i64))], [(9, .box 55 [.d .bool, .nsl, .d (.int .i64)]), (9012, .row 3 (.int .i64))]⟩
noncomputable def ref21_Due_x0 : List (Exit × EP) := [(Exit.exit 1, ⟨[(9, .ref 9 0), (12, .own 9012)], [(9, .box 55 [.d .bool, .nsl, .d (.int .i64)]), (9012, .row 3 (.int .i64))]⟩)]
abbrev ref21_Due_S0 : Type := Int × (List Int) × Int × Int × Bool × Int × (List Int) × Unit
abbrev ref21_Due_Q0 : Type := (Bool × Int × (List Int) × Unit)
noncomputable def ref21_Due_b0 : ref21_Due_S0 → LT ref21_Due_S0 ref21_Due_Q0 := fun st => match st with
  | (a11, a57, a58, a59, r9_0, r9_1, r9012, ()) => (.br (decide (a59 < a58)) (.br (decide (0 ≤ a59)) (.br (decide (a59 < Int.ofNat a57.length)) (.br (decide (getI a57 a59 0 ≥ a11)) (.br (appLim 8 r9012.length 1) (.next (a11, a57, a58, (IntKind.i64.wrap (a59 + 1)), r9_0, r9_1, (r9012 ++ [getI a57 a59 0]), ())) .fail) (.next (a11, a57, a58, (IntKind.i64.wrap (a59 + 1)), r9_0, r9_1, r9012, ()))) .fail) .fail) (.ret (r9_0, r9_1, r9012, ())))
noncomputable def ref21_Due_l0 (st : ref21_Due_S0) : Option ref21_Due_Q0 := LT.loop ref21_Due_b0 FUEL st
noncomputable def ref21_Due_A : Anns := { l := [(11, [.keep [9, 11, 12, 57, 58, 59] [9, 69, 9012], .ownS 12 9012 3, .keep [9, 11, 12, 57, 58, 59] [9, 9012]]), (100011, [.keep [9, 12] [9, 9012]])], orc := [(11, genOrc ref21_Due_h0 ref21_Due_x0 ref21_Due_l0)], N := 1000, rng := [], ro := [], outs := none, nils := [] }
theorem ref21_Due_s0 : ∀ (st : ref21_Due_S0) m k, loopX ref21_Due_A (loopN Tryz.prog 25 0) (prep (tabsG L_ref21_Give) (annOf ref21_Due_A (loopN Tryz.prog 25 0))) (evalC Tryz.prog (tabsG L_ref21_Give) ref21_Due_A (loopN Tryz.prog 25 0)) (m + 1) (ref21_Due_h0.enc st) (outK (tabsG L_ref21_Give) ref21_Due_A (loopN Tryz.prog 25 0) k) = (ref21_Due_b0 st).run (exK ref21_Due_x0 k) (fun st' => loopX ref21_Due_A (loopN Tryz.prog 25 0) (prep (tabsG L_ref21_Give) (annOf ref21_Due_A (loopN Tryz.prog 25 0))) (evalC Tryz.prog (tabsG L_ref21_Give) ref21_Due_A (loopN Tryz.prog 25 0)) m (ref21_Due_h0.enc st') (outK (tabsG L_ref21_Give) ref21_Due_A (loopN Tryz.prog 25 0) k)) := by
  intro st m k
  obtain ⟨a11, a57, a58, a59, r9_0, r9_1, r9012, ⟨⟩⟩ := st
  kernel_rfl
theorem ref21_Due_o0 : OrcOk Tryz.prog (tabsG L_ref21_Give) ref21_Due_A (loopN Tryz.prog 25 0) := genOrc_ok (h := ref21_Due_h0) (xs := ref21_Due_x0) (F := ref21_Due_l0) (bd := ref21_Due_b0) (fun _ => FUEL) (by kernel_rfl) (fun _ _ h => h) ref21_Due_s0
noncomputable def ref21_Due_t (p0 : RLed) (p1 : Int) (p2 : Int) (p3 : Int) : FT ((List Int) × (Bool × List (Int × Int) × Int)) := (.opt (ref21_live p0 p1) fun x15 => (.br (decide (x15 < 0)) (.ret (([], true, [], 10))) (.opt (ref21_right p2 p3) fun x16 => (.br (!x16) (.ret (([], true, [], 1))) (.opt (ref21_last p0 p1 p2 p3) fun x17 => (.br (IntKind.i64.wrap (x17 + 1) == 0) (.br (decide (0 ≤ x15)) (.br (decide (x15 < Int.ofNat (List.length p0.snd.fst))) (.br (decide (0 ≤ (getI p0.snd.fst x15 (0, (false, []), 0, false)).snd.snd.fst)) (.br (decide ((getI p0.snd.fst x15 (0, (false, []), 0, false)).snd.snd.fst ≤ Int.ofNat (List.length p0.fst))) (.opt (ref21_Count (List.take ((getI p0.snd.fst x15 (0, (false, []), 0, false)).snd.snd.fst - 0).toNat (List.drop (Int.toNat 0) p0.fst)) p2 p3) fun x18 => (.br (decide (0 ≤ x15)) (.br (decide (x15 < Int.ofNat (List.length p0.snd.fst))) (.opt (ref21_Meant p0 (getI p0.snd.fst x15 (0, (false, []), 0, false)).snd.fst p2 p3) fun x19 => (.opt (ref21_Due_l0 (x18, x19, Int.ofNat x19.length, 0, false, 0, [], ())) fun x20 => (.ret ((x20.snd.snd.fst, false, [], 0))))) .fail) .fail)) .fail) .fail) .fail) .fail) (.br (decide (0 ≤ x15)) (.br (decide (x15 < Int.ofNat (List.length p0.snd.fst))) (.opt (ref21_Meant p0 (getI p0.snd.fst x15 (0, (false, []), 0, false)).snd.fst p2 p3) fun x21 => (.opt (ref21_Due_l0 (IntKind.i64.wrap (x17 + 1), x21, Int.ofNat x21.length, 0, false, 0, [], ())) fun x22 => (.ret ((x22.snd.snd.fst, false, [], 0))))) .fail) .fail)))))))
noncomputable def ref21_Due (p0 : RLed) (p1 : Int) (p2 : Int) (p3 : Int) : Option ((List Int) × (Bool × List (Int × Int) × Int)) := (ref21_Due_t p0 p1 p2 p3).fin
noncomputable def ref21_Due_sp : CSpec := genSpec [shRL, (.int .i64), (.int .i64), (.int .i64)] [(.sl (.int .i64)), shE] (fun x => ref21_Due x.1 x.2.1 x.2.2.1 x.2.2.2)
theorem ref21_Due_ok : EnterOk Tryz.prog 25 ∧ CSpecOk Tryz.prog cfgG 25 ref21_Due_sp := ⟨enter Tryz.func25 (by kernel_rfl) (by kernel_rfl), genSpec_ok (A := ref21_Due_A) (sa := [shRL, (.int .i64), (.int .i64), (.int .i64)]) (sr := [(.sl (.int .i64)), shE]) (bd := fun (x : (ArgT [shRL, (.int .i64), (.int .i64), (.int .i64)])) => ref21_Due_t x.1 x.2.1 x.2.2.1 x.2.2.2) (fitG L_ref21_Give) s_ref21_Give mixed (by kernel_rfl) (loopsAll (l := [loopN Tryz.prog 25 0]) (by kernel_rfl) ⟨ref21_Due_o0, trivial⟩) (fun _ => rfl) (by
  intro x
  obtain ⟨p0, p1, p2, p3⟩ := x
  kernel_rfl)⟩
noncomputable def L_ref21_Due : List (Nat × CSpec) := (25, ref21_Due_sp) :: L_ref21_Give
theorem s_ref21_Due : SpecsOk Tryz.prog (tabsG L_ref21_Due) := oneSpecGT s_ref21_Give ref21_Due_ok
end Go.Proofs.YtldkdhfcbopbhaaGreatDoor
