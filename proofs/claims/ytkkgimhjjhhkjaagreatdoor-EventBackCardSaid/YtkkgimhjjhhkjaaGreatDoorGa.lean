/- Trees of functions, their loops and contracts: printed by PevGen (own tool). -/
import Derived.Test.YtkkgimhjjhhkjaaGreatDoorSp
set_option maxRecDepth 100000
namespace Go.Proofs.YtkkgimhjjhhkjaaGreatDoor
open Go Go.Pev
noncomputable def fault_At_A : Anns := ⟨[], [], 1000⟩
noncomputable def fault_At_t (p0 : Int) (p1 : Int) (p2 : Err) : FT (Err) := (.br (Option.isNone p2) (.ret none) (.opt p2 fun x2 => (.ret (some ((p0, p1) :: x2.fst, x2.snd)))))
noncomputable def fault_At (p0 : Int) (p1 : Int) (p2 : Err) : Option (Err) := (fault_At_t p0 p1 p2).fin
noncomputable def fault_At_sp : CSpec := genSpec [(.int .i64), (.int .i64), .err] [.err] (fun x => fault_At x.1 x.2.1 x.2.2)
theorem fault_At_ok : EnterOk Tryz.prog 35 ∧ CSpecOk Tryz.prog cfgG 35 fault_At_sp := ⟨enter Tryz.func35 (by kernel_rfl) (by kernel_rfl), genSpec_ok (A := fault_At_A) (sa := [(.int .i64), (.int .i64), .err]) (sr := [.err]) (bd := fun (x : ArgT [(.int .i64), (.int .i64), .err]) => fault_At_t x.1 x.2.1 x.2.2) (fitG L0) s0 mixed (by kernel_rfl) (loopsAll (l := []) (by kernel_rfl) trivial) (fun _ => rfl) (by
  intro x
  obtain ⟨p0, p1, p2⟩ := x
  kernel_rfl)⟩
noncomputable def L_fault_At : List (Nat × CSpec) := (35, fault_At_sp) :: L0
theorem s_fault_At : SpecsOk Tryz.prog (tabsG L_fault_At) := oneSpecGT s0 fault_At_ok
noncomputable def fault_first_A : Anns := ⟨[], [], 1000⟩
noncomputable def fault_first_t (p0 : Err) : FT ((Option ((Int × Int) × Err))) := (.br ((errHead p0).isSome) (.opt (errHead p0) fun x2 => (.ret (some x2))) (.ret none))
noncomputable def fault_first (p0 : Err) : Option ((Option ((Int × Int) × Err))) := (fault_first_t p0).fin
noncomputable def fault_first_sp : CSpec := genSpec [.err] [(.pt (.pair shPlace .err))] (fun x => fault_first x)
theorem fault_first_ok : EnterOk Tryz.prog 74 ∧ CSpecOk Tryz.prog cfgG 74 fault_first_sp := ⟨enter Tryz.func74 (by kernel_rfl) (by kernel_rfl), genSpec_ok (A := fault_first_A) (sa := [.err]) (sr := [(.pt (.pair shPlace .err))]) (bd := fun (x : ArgT [.err]) => fault_first_t x) (fitG L_fault_At) s_fault_At mixed (by kernel_rfl) (loopsAll (l := []) (by kernel_rfl) trivial) (fun _ => rfl) (by
  intro x
  skip
  kernel_rfl)⟩
noncomputable def L_fault_first : List (Nat × CSpec) := (74, fault_first_sp) :: L_fault_At
theorem s_fault_first : SpecsOk Tryz.prog (tabsG L_fault_first) := oneSpecGT s_fault_At fault_first_ok
noncomputable def fault_Shift_A : Anns := ⟨[], [], 1000⟩
noncomputable def fault_Shift_t (p0 : Err) (p1 : Int) (p2 : Int) : FT (Err) := (.opt (fault_first p0) fun x6 => (.br x6.isNone (.ret p0) (.opt x6 fun x7 => (.br (x7.fst.fst != p1) (.ret p0) (.opt x6 fun x8 => (.opt x6 fun x9 => (.opt (fault_At p1 (IntKind.i64.wrap (x8.fst.snd + p2)) x9.snd) fun x10 => (.ret x10))))))))
noncomputable def fault_Shift (p0 : Err) (p1 : Int) (p2 : Int) : Option (Err) := (fault_Shift_t p0 p1 p2).fin
noncomputable def fault_Shift_sp : CSpec := genSpec [.err, (.int .i64), (.int .i64)] [.err] (fun x => fault_Shift x.1 x.2.1 x.2.2)
theorem fault_Shift_ok : EnterOk Tryz.prog 45 ∧ CSpecOk Tryz.prog cfgG 45 fault_Shift_sp := ⟨enter Tryz.func45 (by kernel_rfl) (by kernel_rfl), genSpec_ok (A := fault_Shift_A) (sa := [.err, (.int .i64), (.int .i64)]) (sr := [.err]) (bd := fun (x : ArgT [.err, (.int .i64), (.int .i64)]) => fault_Shift_t x.1 x.2.1 x.2.2) (fitG L_fault_first) s_fault_first mixed (by kernel_rfl) (loopsAll (l := []) (by kernel_rfl) trivial) (fun _ => rfl) (by
  intro x
  obtain ⟨p0, p1, p2⟩ := x
  kernel_rfl)⟩
noncomputable def L_fault_Shift : List (Nat × CSpec) := (45, fault_Shift_sp) :: L_fault_first
theorem s_fault_Shift : SpecsOk Tryz.prog (tabsG L_fault_Shift) := oneSpecGT s_fault_first fault_Shift_ok
noncomputable def fault_First_h0 : EP := ⟨[(5, .d (.sl .err)), (6, .d (.int .i64)), (7, .d (.int .i64))], []⟩
noncomputable def fault_First_x0 : List (Exit × EP) := [(Exit.ret, ⟨[(2, .d .err)], []⟩), (Exit.exit 0, ⟨[], []⟩)]
abbrev fault_First_S0 : Type := (List Err) × Int × Int × Unit
abbrev fault_First_Q0 : Type := (Err × Unit) ⊕ (Unit)
noncomputable def fault_First_b0 : fault_First_S0 → LT fault_First_S0 fault_First_Q0 := fun st => match st with
  | (a5, a6, a7, ()) => (.br (decide (a7 < a6)) (.br (decide (0 ≤ a7)) (.br (decide (a7 < Int.ofNat a5.length)) (.br (!Option.isNone (getI a5 a7 none)) (.ret (.inl ((getI a5 a7 none), ()))) (.next (a5, a6, (IntKind.i64.wrap (a7 + 1)), ()))) .fail) .fail) (.ret (.inr ())))
noncomputable def fault_First_l0 (st : fault_First_S0) : Option fault_First_Q0 := LT.loop fault_First_b0 FUEL st
noncomputable def fault_First_A : Anns := ⟨[(2, [.keep [5, 6, 7] []]), (100002, [.keep [2] []])], [(2, genOrc fault_First_h0 fault_First_x0 fault_First_l0)], 1000⟩
theorem fault_First_s0 : ∀ (st : fault_First_S0) m k, loopE (prep (tabsG L_fault_Shift) (annOf fault_First_A (loopN Tryz.prog 50 0))) (evalC Tryz.prog (tabsG L_fault_Shift) fault_First_A (loopN Tryz.prog 50 0)) (m + 1) (fault_First_h0.enc st) (outK (tabsG L_fault_Shift) fault_First_A (loopN Tryz.prog 50 0) k) = (fault_First_b0 st).run (exK fault_First_x0 k) (fun st' => loopE (prep (tabsG L_fault_Shift) (annOf fault_First_A (loopN Tryz.prog 50 0))) (evalC Tryz.prog (tabsG L_fault_Shift) fault_First_A (loopN Tryz.prog 50 0)) m (fault_First_h0.enc st') (outK (tabsG L_fault_Shift) fault_First_A (loopN Tryz.prog 50 0) k)) := by
  intro st m k
  obtain ⟨a5, a6, a7, ⟨⟩⟩ := st
  kernel_rfl
theorem fault_First_o0 : OrcOk Tryz.prog (tabsG L_fault_Shift) fault_First_A (loopN Tryz.prog 50 0) := genOrc_ok (h := fault_First_h0) (xs := fault_First_x0) (F := fault_First_l0) (bd := fault_First_b0) (fun _ => FUEL) (by kernel_rfl) (fun _ _ h => h) fault_First_s0
noncomputable def fault_First_t (p0 : (List Err)) : FT (Err) := (.opt (fault_First_l0 (p0, Int.ofNat p0.length, 0, ())) fun x3 => (.alt x3 (fun x5 => (.ret x5.fst)) (fun x6 => (.ret none))))
noncomputable def fault_First (p0 : (List Err)) : Option (Err) := (fault_First_t p0).fin
noncomputable def fault_First_sp : CSpec := genSpec [(.sl .err)] [.err] (fun x => fault_First x)
theorem fault_First_ok : EnterOk Tryz.prog 50 ∧ CSpecOk Tryz.prog cfgG 50 fault_First_sp := ⟨enter Tryz.func50 (by kernel_rfl) (by kernel_rfl), genSpec_ok (A := fault_First_A) (sa := [(.sl .err)]) (sr := [.err]) (bd := fun (x : ArgT [(.sl .err)]) => fault_First_t x) (fitG L_fault_Shift) s_fault_Shift mixed (by kernel_rfl) (loopsAll (l := [loopN Tryz.prog 50 0]) (by kernel_rfl) ⟨fault_First_o0, trivial⟩) (fun _ => rfl) (by
  intro x
  skip
  kernel_rfl)⟩
noncomputable def L_fault_First : List (Nat × CSpec) := (50, fault_First_sp) :: L_fault_Shift
theorem s_fault_First : SpecsOk Tryz.prog (tabsG L_fault_First) := oneSpecGT s_fault_Shift fault_First_ok
noncomputable def ref01_N_A : Anns := ⟨[], [], 1000⟩
noncomputable def ref01_N_t (p0 : Int) : FT ((Bool × List (Int × Int) × Int)) := (.ret ((true, [], p0)))
noncomputable def ref01_N (p0 : Int) : Option ((Bool × List (Int × Int) × Int)) := (ref01_N_t p0).fin
noncomputable def ref01_N_sp : CSpec := genSpec [(.int .i64)] [shE] (fun x => ref01_N x)
theorem ref01_N_ok : EnterOk Tryz.prog 28 ∧ CSpecOk Tryz.prog cfgG 28 ref01_N_sp := ⟨enter Tryz.func28 (by kernel_rfl) (by kernel_rfl), genSpec_ok (A := ref01_N_A) (sa := [(.int .i64)]) (sr := [shE]) (bd := fun (x : ArgT [(.int .i64)]) => ref01_N_t x) (fitG L_fault_First) s_fault_First mixed (by kernel_rfl) (loopsAll (l := []) (by kernel_rfl) trivial) (fun _ => rfl) (by
  intro x
  skip
  kernel_rfl)⟩
noncomputable def L_ref01_N : List (Nat × CSpec) := (28, ref01_N_sp) :: L_fault_First
theorem s_ref01_N : SpecsOk Tryz.prog (tabsG L_ref01_N) := oneSpecGT s_fault_First ref01_N_ok
noncomputable def ref01_At_A : Anns := ⟨[], [], 1000⟩
noncomputable def ref01_At_t (p0 : Int) (p1 : Int) (p2 : (Bool × List (Int × Int) × Int)) : FT ((Bool × List (Int × Int) × Int)) := (.br (!p2.fst) (.ret p2) (.br (appLim 16 1 (List.length p2.snd.fst)) (.ret ((true, (p0, p1) :: p2.snd.fst, p2.snd.snd))) .fail))
noncomputable def ref01_At (p0 : Int) (p1 : Int) (p2 : (Bool × List (Int × Int) × Int)) : Option ((Bool × List (Int × Int) × Int)) := (ref01_At_t p0 p1 p2).fin
noncomputable def ref01_At_sp : CSpec := genSpec [(.int .i64), (.int .i64), shE] [shE] (fun x => ref01_At x.1 x.2.1 x.2.2)
theorem ref01_At_ok : EnterOk Tryz.prog 37 ∧ CSpecOk Tryz.prog cfgG 37 ref01_At_sp := ⟨enter Tryz.func37 (by kernel_rfl) (by kernel_rfl), genSpec_ok (A := ref01_At_A) (sa := [(.int .i64), (.int .i64), shE]) (sr := [shE]) (bd := fun (x : ArgT [(.int .i64), (.int .i64), shE]) => ref01_At_t x.1 x.2.1 x.2.2) (fitG L_ref01_N) s_ref01_N mixed (by kernel_rfl) (loopsAll (l := []) (by kernel_rfl) trivial) (fun _ => rfl) (by
  intro x
  obtain ⟨p0, p1, p2⟩ := x
  kernel_rfl)⟩
noncomputable def L_ref01_At : List (Nat × CSpec) := (37, ref01_At_sp) :: L_ref01_N
theorem s_ref01_At : SpecsOk Tryz.prog (tabsG L_ref01_At) := oneSpecGT s_ref01_N ref01_At_ok
noncomputable def ref01_Same_h0 : EP := ⟨[(2, .ref 2 0), (3, .ref 3 0), (29, .d (.int .i64)), (30, .d (.int .i64))], [(2, .box 33 [.d .bool, .d (.sl shPlace), .d (.int .i64)]), (3, .box 33 [.d .bool, .d (.sl shPlace), .d (.int .i64)])]⟩
noncomputable def ref01_Same_x0 : List (Exit × EP) := [(Exit.ret, ⟨[(4, .d .bool)], []⟩), (Exit.exit 0, ⟨[], []⟩)]
abbrev ref01_Same_S0 : Type := Int × Int × Bool × (List (Int × Int)) × Int × Bool × (List (Int × Int)) × Int × Unit
abbrev ref01_Same_Q0 : Type := (Bool × Unit) ⊕ (Unit)
noncomputable def ref01_Same_b0 : ref01_Same_S0 → LT ref01_Same_S0 ref01_Same_Q0 := fun st => match st with
  | (a29, a30, r2_0, r2_1, r2_2, r3_0, r3_1, r3_2, ()) => (.br (decide (a30 < a29)) (.br (decide (0 ≤ a30)) (.br (decide (a30 < Int.ofNat r2_1.length)) (.br (decide (0 ≤ a30)) (.br (decide (a30 < Int.ofNat r3_1.length)) (.br (!eqB shPlace (getI r2_1 a30 (0, 0)) (getI r3_1 a30 (0, 0))) (.ret (.inl (false, ()))) (.next (a29, (IntKind.i64.wrap (a30 + 1)), r2_0, r2_1, r2_2, r3_0, r3_1, r3_2, ()))) .fail) .fail) .fail) .fail) (.ret (.inr ())))
noncomputable def ref01_Same_l0 (st : ref01_Same_S0) : Option ref01_Same_Q0 := LT.loop ref01_Same_b0 FUEL st
noncomputable def ref01_Same_A : Anns := ⟨[(4, [.keep [2, 3, 29, 30] [2, 3]]), (100004, [.keep [4] []])], [(4, genOrc ref01_Same_h0 ref01_Same_x0 ref01_Same_l0)], 1000⟩
theorem ref01_Same_s0 : ∀ (st : ref01_Same_S0) m k, loopE (prep (tabsG L_ref01_At) (annOf ref01_Same_A (loopN Tryz.prog 33 0))) (evalC Tryz.prog (tabsG L_ref01_At) ref01_Same_A (loopN Tryz.prog 33 0)) (m + 1) (ref01_Same_h0.enc st) (outK (tabsG L_ref01_At) ref01_Same_A (loopN Tryz.prog 33 0) k) = (ref01_Same_b0 st).run (exK ref01_Same_x0 k) (fun st' => loopE (prep (tabsG L_ref01_At) (annOf ref01_Same_A (loopN Tryz.prog 33 0))) (evalC Tryz.prog (tabsG L_ref01_At) ref01_Same_A (loopN Tryz.prog 33 0)) m (ref01_Same_h0.enc st') (outK (tabsG L_ref01_At) ref01_Same_A (loopN Tryz.prog 33 0) k)) := by
  intro st m k
  obtain ⟨a29, a30, r2_0, r2_1, r2_2, r3_0, r3_1, r3_2, ⟨⟩⟩ := st
  kernel_rfl
theorem ref01_Same_o0 : OrcOk Tryz.prog (tabsG L_ref01_At) ref01_Same_A (loopN Tryz.prog 33 0) := genOrc_ok (h := ref01_Same_h0) (xs := ref01_Same_x0) (F := ref01_Same_l0) (bd := ref01_Same_b0) (fun _ => FUEL) (by kernel_rfl) (fun _ _ h => h) ref01_Same_s0
noncomputable def ref01_Same_t (p0 : (Bool × List (Int × Int) × Int)) (p1 : (Bool × List (Int × Int) × Int)) : FT (Bool) := (.br (!p0.fst == p1.fst) (.ret false) (.br (p0.snd.snd != p1.snd.snd) (.ret false) (.br (Int.ofNat (List.length p0.snd.fst) != Int.ofNat (List.length p1.snd.fst)) (.ret false) (.opt (ref01_Same_l0 (Int.ofNat (List.length p0.snd.fst), 0, p0.fst, p0.snd.fst, p0.snd.snd, p1.fst, p1.snd.fst, p1.snd.snd, ())) fun x3 => (.alt x3 (fun x5 => (.ret x5.fst)) (fun x6 => (.ret true)))))))
noncomputable def ref01_Same (p0 : (Bool × List (Int × Int) × Int)) (p1 : (Bool × List (Int × Int) × Int)) : Option (Bool) := (ref01_Same_t p0 p1).fin
noncomputable def ref01_Same_sp : CSpec := genSpec [shE, shE] [.bool] (fun x => ref01_Same x.1 x.2)
theorem ref01_Same_ok : EnterOk Tryz.prog 33 ∧ CSpecOk Tryz.prog cfgG 33 ref01_Same_sp := ⟨enter Tryz.func33 (by kernel_rfl) (by kernel_rfl), genSpec_ok (A := ref01_Same_A) (sa := [shE, shE]) (sr := [.bool]) (bd := fun (x : ArgT [shE, shE]) => ref01_Same_t x.1 x.2) (fitG L_ref01_At) s_ref01_At mixed (by kernel_rfl) (loopsAll (l := [loopN Tryz.prog 33 0]) (by kernel_rfl) ⟨ref01_Same_o0, trivial⟩) (fun _ => rfl) (by
  intro x
  obtain ⟨p0, p1⟩ := x
  kernel_rfl)⟩
noncomputable def L_ref01_Same : List (Nat × CSpec) := (33, ref01_Same_sp) :: L_ref01_At
theorem s_ref01_Same : SpecsOk Tryz.prog (tabsG L_ref01_Same) := oneSpecGT s_ref01_At ref01_Same_ok
noncomputable def ref01_Shift_A : Anns := ⟨[], [], 1000⟩
noncomputable def ref01_Shift_t (p0 : (Bool × List (Int × Int) × Int)) (p1 : Int) (p2 : Int) : FT ((Bool × List (Int × Int) × Int)) := (.br (Int.ofNat (List.length p0.snd.fst) == 0) (.ret p0) (.br (decide (0 < Int.ofNat (List.length p0.snd.fst))) (.br ((getI p0.snd.fst 0 (0, 0)).fst != p1) (.ret p0) (.br (appLim 16 0 (List.length p0.snd.fst)) (.br (decide (0 < Int.ofNat ([] ++ p0.snd.fst).length)) (.br (decide (0 < Int.ofNat ([] ++ p0.snd.fst).length)) (.br (decide (0 < Int.ofNat ([] ++ p0.snd.fst).length)) (.br (decide (0 < Int.ofNat ([] ++ p0.snd.fst).length)) (.ret ((p0.fst, ([] ++ p0.snd.fst).set (Int.toNat 0) ((getI ([] ++ p0.snd.fst) 0 (0, 0)).fst, IntKind.i64.wrap ((getI ([] ++ p0.snd.fst) 0 (0, 0)).snd + p2)), p0.snd.snd))) .fail) .fail) .fail) .fail) .fail)) .fail))
noncomputable def ref01_Shift (p0 : (Bool × List (Int × Int) × Int)) (p1 : Int) (p2 : Int) : Option ((Bool × List (Int × Int) × Int)) := (ref01_Shift_t p0 p1 p2).fin
noncomputable def ref01_Shift_sp : CSpec := genSpec [shE, (.int .i64), (.int .i64)] [shE] (fun x => ref01_Shift x.1 x.2.1 x.2.2)
theorem ref01_Shift_ok : EnterOk Tryz.prog 49 ∧ CSpecOk Tryz.prog cfgG 49 ref01_Shift_sp := ⟨enter Tryz.func49 (by kernel_rfl) (by kernel_rfl), genSpec_ok (A := ref01_Shift_A) (sa := [shE, (.int .i64), (.int .i64)]) (sr := [shE]) (bd := fun (x : ArgT [shE, (.int .i64), (.int .i64)]) => ref01_Shift_t x.1 x.2.1 x.2.2) (fitG L_ref01_Same) s_ref01_Same mixed (by kernel_rfl) (loopsAll (l := []) (by kernel_rfl) trivial) (fun _ => rfl) (by
  intro x
  obtain ⟨p0, p1, p2⟩ := x
  kernel_rfl)⟩
noncomputable def L_ref01_Shift : List (Nat × CSpec) := (49, ref01_Shift_sp) :: L_ref01_Same
theorem s_ref01_Shift : SpecsOk Tryz.prog (tabsG L_ref01_Shift) := oneSpecGT s_ref01_Same ref01_Shift_ok
noncomputable def ref01_First_h0 : EP := ⟨[(2, .ref 2 0), (5, .d (.sl shE)), (6, .d (.int .i64)), (7, .d (.int .i64))], [(2, .box 33 [.d .bool, .nsl, .d (.int .i64)])]⟩
noncomputable def ref01_First_x0 : List (Exit × EP) := [(Exit.ret, ⟨[(2, .ref 2 0)], [(2, .box 33 [.d .bool, .d (.sl shPlace), .d (.int .i64)])]⟩), (Exit.exit 0, ⟨[(2, .ref 2 0)], [(2, .box 33 [.d .bool, .nsl, .d (.int .i64)])]⟩)]
abbrev ref01_First_S0 : Type := (List (Bool × List (Int × Int) × Int)) × Int × Int × Bool × Int × Unit
abbrev ref01_First_Q0 : Type := (Bool × (List (Int × Int)) × Int × Unit) ⊕ (Bool × Int × Unit)
noncomputable def ref01_First_b0 : ref01_First_S0 → LT ref01_First_S0 ref01_First_Q0 := fun st => match st with
  | (a5, a6, a7, r2_0, r2_1, ()) => (.br (decide (a7 < a6)) (.br (decide (0 ≤ a7)) (.br (decide (a7 < Int.ofNat a5.length)) (.br ((getI a5 a7 (false, [], 0)).fst) (.ret (.inl (((getI a5 a7 (false, [], 0)).fst), ((getI a5 a7 (false, [], 0)).snd.fst), ((getI a5 a7 (false, [], 0)).snd.snd), ()))) (.next (a5, a6, (IntKind.i64.wrap (a7 + 1)), r2_0, r2_1, ()))) .fail) .fail) (.ret (.inr (r2_0, r2_1, ()))))
noncomputable def ref01_First_l0 (st : ref01_First_S0) : Option ref01_First_Q0 := LT.loop ref01_First_b0 FUEL st
noncomputable def ref01_First_A : Anns := ⟨[(2, [.keep [2, 5, 6, 7] [2]]), (100002, [.keep [2] [2]])], [(2, genOrc ref01_First_h0 ref01_First_x0 ref01_First_l0)], 1000⟩
theorem ref01_First_s0 : ∀ (st : ref01_First_S0) m k, loopE (prep (tabsG L_ref01_Shift) (annOf ref01_First_A (loopN Tryz.prog 57 0))) (evalC Tryz.prog (tabsG L_ref01_Shift) ref01_First_A (loopN Tryz.prog 57 0)) (m + 1) (ref01_First_h0.enc st) (outK (tabsG L_ref01_Shift) ref01_First_A (loopN Tryz.prog 57 0) k) = (ref01_First_b0 st).run (exK ref01_First_x0 k) (fun st' => loopE (prep (tabsG L_ref01_Shift) (annOf ref01_First_A (loopN Tryz.prog 57 0))) (evalC Tryz.prog (tabsG L_ref01_Shift) ref01_First_A (loopN Tryz.prog 57 0)) m (ref01_First_h0.enc st') (outK (tabsG L_ref01_Shift) ref01_First_A (loopN Tryz.prog 57 0) k)) := by
  intro st m k
  obtain ⟨a5, a6, a7, r2_0, r2_1, ⟨⟩⟩ := st
  kernel_rfl
theorem ref01_First_o0 : OrcOk Tryz.prog (tabsG L_ref01_Shift) ref01_First_A (loopN Tryz.prog 57 0) := genOrc_ok (h := ref01_First_h0) (xs := ref01_First_x0) (F := ref01_First_l0) (bd := ref01_First_b0) (fun _ => FUEL) (by kernel_rfl) (fun _ _ h => h) ref01_First_s0
noncomputable def ref01_First_t (p0 : (List (Bool × List (Int × Int) × Int))) : FT ((Bool × List (Int × Int) × Int)) := (.opt (ref01_First_l0 (p0, Int.ofNat p0.length, 0, false, 0, ())) fun x3 => (.alt x3 (fun x5 => (.ret ((x5.fst, x5.snd.fst, x5.snd.snd.fst)))) (fun x6 => (.ret ((false, [], 0))))))
noncomputable def ref01_First (p0 : (List (Bool × List (Int × Int) × Int))) : Option ((Bool × List (Int × Int) × Int)) := (ref01_First_t p0).fin
noncomputable def ref01_First_sp : CSpec := genSpec [(.sl shE)] [shE] (fun x => ref01_First x)
theorem ref01_First_ok : EnterOk Tryz.prog 57 ∧ CSpecOk Tryz.prog cfgG 57 ref01_First_sp := ⟨enter Tryz.func57 (by kernel_rfl) (by kernel_rfl), genSpec_ok (A := ref01_First_A) (sa := [(.sl shE)]) (sr := [shE]) (bd := fun (x : ArgT [(.sl shE)]) => ref01_First_t x) (fitG L_ref01_Shift) s_ref01_Shift mixed (by kernel_rfl) (loopsAll (l := [loopN Tryz.prog 57 0]) (by kernel_rfl) ⟨ref01_First_o0, trivial⟩) (fun _ => rfl) (by
  intro x
  skip
  kernel_rfl)⟩
noncomputable def L_ref01_First : List (Nat × CSpec) := (57, ref01_First_sp) :: L_ref01_Shift
theorem s_ref01_First : SpecsOk Tryz.prog (tabsG L_ref01_First) := oneSpecGT s_ref01_Shift ref01_First_ok
noncomputable def law01_Of_h0 : EP := ⟨[(0, .d .err), (2, .ref 2 0), (3, .ref 3 0), (10, .d (.int .i64))], [(2, .box 33 [.d .bool, .nsl, .d (.int .i64)]), (3, .box 33 [.d .bool, .own 9525, .d (.int .i64)]), (9525, .row 103 shPlace)]⟩
noncomputable def law01_Of_x0 : List (Exit × EP) := [(Exit.exit 0, ⟨[(0, .d .err), (2, .ref 2 0), (3, .ref 3 0)], [(2, .box 33 [.d .bool, .nsl, .d (.int .i64)]), (3, .box 33 [.d .bool, .own 9525, .d (.int .i64)]), (9525, .row 103 shPlace)]⟩)]
abbrev law01_Of_S0 : Type := Err × Int × Bool × Int × Bool × Int × (List (Int × Int)) × Unit
abbrev law01_Of_Q0 : Type := (Err × Bool × Int × Bool × Int × (List (Int × Int)) × Unit)
noncomputable def law01_Of_b0 : law01_Of_S0 → LT law01_Of_S0 law01_Of_Q0 := fun st => match st with
  | (a0, a10, r2_0, r2_1, r3_0, r3_1, r9525, ()) => (.br (decide (a10 < 200)) (.br ((errHead a0).isSome) (.opt (errHead a0) fun x6 => (.br (appLim 16 r9525.length 1) (.next (x6.snd, (IntKind.i64.wrap (a10 + 1)), r2_0, r2_1, r3_0, r3_1, (r9525 ++ [x6.fst]), ())) .fail)) (.ret (a0, r2_0, r2_1, r3_0, r3_1, r9525, ()))) (.ret (a0, r2_0, r2_1, r3_0, r3_1, r9525, ())))
noncomputable def law01_Of_l0 (st : law01_Of_S0) : Option law01_Of_Q0 := LT.loop law01_Of_b0 FUEL st
noncomputable def law01_Of_A : Anns := ⟨[(5, [.keep [0, 2, 3, 10] [2, 3, 27], .ownB 3 1 9525 103, .keep [0, 2, 3, 10] [2, 3, 9525]]), (100005, [.keep [0, 2, 3] [2, 3, 9525]])], [(5, genOrc law01_Of_h0 law01_Of_x0 law01_Of_l0)], 1000⟩
theorem law01_Of_s0 : ∀ (st : law01_Of_S0) m k, loopE (prep (tabsG L_ref01_First) (annOf law01_Of_A (loopN Tryz.prog 34 0))) (evalC Tryz.prog (tabsG L_ref01_First) law01_Of_A (loopN Tryz.prog 34 0)) (m + 1) (law01_Of_h0.enc st) (outK (tabsG L_ref01_First) law01_Of_A (loopN Tryz.prog 34 0) k) = (law01_Of_b0 st).run (exK law01_Of_x0 k) (fun st' => loopE (prep (tabsG L_ref01_First) (annOf law01_Of_A (loopN Tryz.prog 34 0))) (evalC Tryz.prog (tabsG L_ref01_First) law01_Of_A (loopN Tryz.prog 34 0)) m (law01_Of_h0.enc st') (outK (tabsG L_ref01_First) law01_Of_A (loopN Tryz.prog 34 0) k)) := by
  intro st m k
  obtain ⟨a0, a10, r2_0, r2_1, r3_0, r3_1, r9525, ⟨⟩⟩ := st
  kernel_rfl
theorem law01_Of_o0 : OrcOk Tryz.prog (tabsG L_ref01_First) law01_Of_A (loopN Tryz.prog 34 0) := genOrc_ok (h := law01_Of_h0) (xs := law01_Of_x0) (F := law01_Of_l0) (bd := law01_Of_b0) (fun _ => FUEL) (by kernel_rfl) (fun _ _ h => h) law01_Of_s0
noncomputable def law01_Of_t (p0 : Err) : FT ((Bool × List (Int × Int) × Int)) := (.br (Option.isNone p0) (.ret ((false, [], 0))) (.opt (law01_Of_l0 (p0, 0, false, 0, true, 0, [], ())) fun x9 => (.br (Option.isSome x9.fst) (.opt x9.fst fun x10 => (.ret ((x9.snd.snd.snd.fst, x9.snd.snd.snd.snd.snd.fst, x10.snd)))) (.ret ((x9.snd.snd.snd.fst, x9.snd.snd.snd.snd.snd.fst, x9.snd.snd.snd.snd.fst))))))
noncomputable def law01_Of (p0 : Err) : Option ((Bool × List (Int × Int) × Int)) := (law01_Of_t p0).fin
noncomputable def law01_Of_sp : CSpec := genSpec [.err] [shE] (fun x => law01_Of x)
theorem law01_Of_ok : EnterOk Tryz.prog 34 ∧ CSpecOk Tryz.prog cfgG 34 law01_Of_sp := ⟨enter Tryz.func34 (by kernel_rfl) (by kernel_rfl), genSpec_ok (A := law01_Of_A) (sa := [.err]) (sr := [shE]) (bd := fun (x : ArgT [.err]) => law01_Of_t x) (fitG L_ref01_First) s_ref01_First mixed (by kernel_rfl) (loopsAll (l := [loopN Tryz.prog 34 0]) (by kernel_rfl) ⟨law01_Of_o0, trivial⟩) (fun _ => rfl) (by
  intro x
  skip
  kernel_rfl)⟩
noncomputable def L_law01_Of : List (Nat × CSpec) := (34, law01_Of_sp) :: L_ref01_First
theorem s_law01_Of : SpecsOk Tryz.prog (tabsG L_law01_Of) := oneSpecGT s_ref01_First law01_Of_ok
noncomputable def event_letter_A : Anns := ⟨[], [], 1000⟩
noncomputable def event_letter_t (p0 : Int) : FT (Bool) := (.br (p0 == 95) (.ret true) (.br (decide (p0 ≥ 97)) (.br (decide (p0 ≤ 122)) (.ret true) (.br (decide (p0 ≥ 48)) (.ret (decide (p0 ≤ 57))) (.ret false))) (.br (decide (p0 ≥ 48)) (.ret (decide (p0 ≤ 57))) (.ret false))))
noncomputable def event_letter (p0 : Int) : Option (Bool) := (event_letter_t p0).fin
noncomputable def event_letter_sp : CSpec := genSpec [(.int .u8)] [.bool] (fun x => event_letter x)
theorem event_letter_ok : EnterOk Tryz.prog 67 ∧ CSpecOk Tryz.prog cfgG 67 event_letter_sp := ⟨enter Tryz.func67 (by kernel_rfl) (by kernel_rfl), genSpec_ok (A := event_letter_A) (sa := [(.int .u8)]) (sr := [.bool]) (bd := fun (x : ArgT [(.int .u8)]) => event_letter_t x) (fitG L_law01_Of) s_law01_Of mixed (by kernel_rfl) (loopsAll (l := []) (by kernel_rfl) trivial) (fun _ => rfl) (by
  intro x
  skip
  kernel_rfl)⟩
noncomputable def L_event_letter : List (Nat × CSpec) := (67, event_letter_sp) :: L_law01_Of
theorem s_event_letter : SpecsOk Tryz.prog (tabsG L_event_letter) := oneSpecGT s_law01_Of event_letter_ok
noncomputable def event_run_h0 : EP := ⟨[(0, .d .str), (1, .d (.int .i64))], []⟩
noncomputable def event_run_x0 : List (Exit × EP) := [(Exit.exit 0, ⟨[(1, .d (.int .i64))], []⟩)]
abbrev event_run_S0 : Type := ByteArray × Int × Unit
abbrev event_run_Q0 : Type := (Int × Unit)
noncomputable def event_run_b0 : event_run_S0 → LT event_run_S0 event_run_Q0 := fun st => match st with
  | (a0, a1, ()) => (.br (decide (a1 < Int.ofNat a0.size)) (.br (decide (0 ≤ a1)) (.br (decide (a1 < Int.ofNat a0.size)) (.opt (event_letter (Int.ofNat (a0.data.toList.getD a1.toNat 0).toNat)) fun x4 => (.br x4 (.next (a0, (IntKind.i64.wrap (a1 + 1)), ())) (.ret (a1, ())))) .fail) .fail) (.ret (a1, ())))
noncomputable def event_run_l0 (st : event_run_S0) : Option event_run_Q0 := LT.loop event_run_b0 FUEL st
noncomputable def event_run_A : Anns := ⟨[(1, [.keep [0, 1] []]), (100001, [.keep [1] []])], [(1, genOrc event_run_h0 event_run_x0 event_run_l0)], 1000⟩
theorem event_run_s0 : ∀ (st : event_run_S0) m k, loopE (prep (tabsG L_event_letter) (annOf event_run_A (loopN Tryz.prog 39 0))) (evalC Tryz.prog (tabsG L_event_letter) event_run_A (loopN Tryz.prog 39 0)) (m + 1) (event_run_h0.enc st) (outK (tabsG L_event_letter) event_run_A (loopN Tryz.prog 39 0) k) = (event_run_b0 st).run (exK event_run_x0 k) (fun st' => loopE (prep (tabsG L_event_letter) (annOf event_run_A (loopN Tryz.prog 39 0))) (evalC Tryz.prog (tabsG L_event_letter) event_run_A (loopN Tryz.prog 39 0)) m (event_run_h0.enc st') (outK (tabsG L_event_letter) event_run_A (loopN Tryz.prog 39 0) k)) := by
  intro st m k
  obtain ⟨a0, a1, ⟨⟩⟩ := st
  kernel_rfl
theorem event_run_o0 : OrcOk Tryz.prog (tabsG L_event_letter) event_run_A (loopN Tryz.prog 39 0) := genOrc_ok (h := event_run_h0) (xs := event_run_x0) (F := event_run_l0) (bd := event_run_b0) (fun _ => FUEL) (by kernel_rfl) (fun _ _ h => h) event_run_s0
noncomputable def event_run_t (p0 : ByteArray) (p1 : Int) : FT (Int) := (.opt (event_run_l0 (p0, p1, ())) fun x6 => (.ret x6.fst))
noncomputable def event_run (p0 : ByteArray) (p1 : Int) : Option (Int) := (event_run_t p0 p1).fin
noncomputable def event_run_sp : CSpec := genSpec [.str, (.int .i64)] [(.int .i64)] (fun x => event_run x.1 x.2)
theorem event_run_ok : EnterOk Tryz.prog 39 ∧ CSpecOk Tryz.prog cfgG 39 event_run_sp := ⟨enter Tryz.func39 (by kernel_rfl) (by kernel_rfl), genSpec_ok (A := event_run_A) (sa := [.str, (.int .i64)]) (sr := [(.int .i64)]) (bd := fun (x : ArgT [.str, (.int .i64)]) => event_run_t x.1 x.2) (fitG L_event_letter) s_event_letter mixed (by kernel_rfl) (loopsAll (l := [loopN Tryz.prog 39 0]) (by kernel_rfl) ⟨event_run_o0, trivial⟩) (fun _ => rfl) (by
  intro x
  obtain ⟨p0, p1⟩ := x
  kernel_rfl)⟩
noncomputable def L_event_run : List (Nat × CSpec) := (39, event_run_sp) :: L_event_letter
theorem s_event_run : SpecsOk Tryz.prog (tabsG L_event_run) := oneSpecGT s_event_letter event_run_ok
noncomputable def event_Name_A : Anns := ⟨[], [], 1000⟩
noncomputable def event_Name_t (p0 : ByteArray) : FT (Bool) := (.br (decide (Int.ofNat p0.size ≥ 1)) (.br (decide (Int.ofNat p0.size ≤ 16)) (.br (decide (0 < Int.ofNat p0.size)) (.br (decide (Int.ofNat (p0.data.toList.getD (Int.toNat 0) 0).toNat ≥ 97)) (.br (decide (0 < Int.ofNat p0.size)) (.br (decide (Int.ofNat (p0.data.toList.getD (Int.toNat 0) 0).toNat ≤ 122)) (.opt (event_run p0 0) fun x2 => (.ret (x2 == Int.ofNat p0.size))) (.ret false)) .fail) (.ret false)) .fail) (.ret false)) (.ret false))
noncomputable def event_Name (p0 : ByteArray) : Option (Bool) := (event_Name_t p0).fin
noncomputable def event_Name_sp : CSpec := genSpec [.str] [.bool] (fun x => event_Name x)
theorem event_Name_ok : EnterOk Tryz.prog 17 ∧ CSpecOk Tryz.prog cfgG 17 event_Name_sp := ⟨enter Tryz.func17 (by kernel_rfl) (by kernel_rfl), genSpec_ok (A := event_Name_A) (sa := [.str]) (sr := [.bool]) (bd := fun (x : ArgT [.str]) => event_Name_t x) (fitG L_event_run) s_event_run mixed (by kernel_rfl) (loopsAll (l := []) (by kernel_rfl) trivial) (fun _ => rfl) (by
  intro x
  skip
  kernel_rfl)⟩
noncomputable def L_event_Name : List (Nat × CSpec) := (17, event_Name_sp) :: L_event_run
theorem s_event_Name : SpecsOk Tryz.prog (tabsG L_event_Name) := oneSpecGT s_event_run event_Name_ok
noncomputable def event_Check_h0 : EP := ⟨[(3, .d .str), (11, .d (.sl shAttr)), (12, .d (.int .i64)), (13, .d (.int .i64))], []⟩
noncomputable def event_Check_x0 : List (Exit × EP) := [(Exit.ret, ⟨[(2, .d .err)], []⟩), (Exit.exit 0, ⟨[], []⟩)]
abbrev event_Check_S0 : Type := ByteArray × (List (ByteArray × V)) × Int × Int × Unit
abbrev event_Check_Q0 : Type := (Err × Unit) ⊕ (Unit)
noncomputable def event_Check_b0 : event_Check_S0 → LT event_Check_S0 event_Check_Q0 := fun st => match st with
  | (a3, a11, a12, a13, ()) => (.br (decide (a13 < a12)) (.br (decide (0 ≤ a13)) (.br (decide (a13 < Int.ofNat a11.length)) (.opt (event_Name (getI a11 a13 (ByteArray.mk #[], 0, 0, ByteArray.mk #[], false)).fst) fun x10 => (.br (!x10) (.ret (.inl ((some ([(2, a13)], 3)), ()))) (.br (Op.bytesLess (ByteArray.toList (getI a11 a13 (ByteArray.mk #[], 0, 0, ByteArray.mk #[], false)).fst) a3.toList || ByteArray.toList (getI a11 a13 (ByteArray.mk #[], 0, 0, ByteArray.mk #[], false)).fst == a3.toList) (.ret (.inl ((some ([(2, a13)], 3)), ()))) (.opt (value_Check (getI a11 a13 (ByteArray.mk #[], 0, 0, ByteArray.mk #[], false)).snd) fun x11 => (.br (!x11.isNone) (.opt (fault_At 2 a13 x11) fun x12 => (.ret (.inl (x12, ())))) (.next (((getI a11 a13 (ByteArray.mk #[], 0, 0, ByteArray.mk #[], false)).fst), a11, a12, (IntKind.i64.wrap (a13 + 1)), ()))))))) .fail) .fail) (.ret (.inr ())))
noncomputable def event_Check_l0 (st : event_Check_S0) : Option event_Check_Q0 := LT.loop event_Check_b0 FUEL st
noncomputable def event_Check_A : Anns := ⟨[(5, [.keep [3, 11, 12, 13] []]), (100005, [.keep [2] []])], [(5, genOrc event_Check_h0 event_Check_x0 event_Check_l0)], 1000⟩
theorem event_Check_s0 : ∀ (st : event_Check_S0) m k, loopE (prep (tabsG L_event_Name) (annOf event_Check_A (loopN Tryz.prog 15 0))) (evalC Tryz.prog (tabsG L_event_Name) event_Check_A (loopN Tryz.prog 15 0)) (m + 1) (event_Check_h0.enc st) (outK (tabsG L_event_Name) event_Check_A (loopN Tryz.prog 15 0) k) = (event_Check_b0 st).run (exK event_Check_x0 k) (fun st' => loopE (prep (tabsG L_event_Name) (annOf event_Check_A (loopN Tryz.prog 15 0))) (evalC Tryz.prog (tabsG L_event_Name) event_Check_A (loopN Tryz.prog 15 0)) m (event_Check_h0.enc st') (outK (tabsG L_event_Name) event_Check_A (loopN Tryz.prog 15 0) k)) := by
  intro st m k
  obtain ⟨a3, a11, a12, a13, ⟨⟩⟩ := st
  kernel_rfl
theorem event_Check_o0 : OrcOk Tryz.prog (tabsG L_event_Name) event_Check_A (loopN Tryz.prog 15 0) := genOrc_ok (h := event_Check_h0) (xs := event_Check_x0) (F := event_Check_l0) (bd := event_Check_b0) (fun _ => FUEL) (by kernel_rfl) (fun _ _ h => h) event_Check_s0
noncomputable def event_Check_t (p0 : (List (ByteArray × V))) : FT (Err) := (.br (decide (Int.ofNat p0.length > 16)) (.ret (some ([], 2))) (.opt (event_Check_l0 (ByteArray.mk #[], p0, Int.ofNat p0.length, 0, ())) fun x15 => (.alt x15 (fun x17 => (.ret x17.fst)) (fun x18 => (.ret none)))))
noncomputable def event_Check (p0 : (List (ByteArray × V))) : Option (Err) := (event_Check_t p0).fin
noncomputable def event_Check_sp : CSpec := genSpec [(.sl shAttr)] [.err] (fun x => event_Check x)
theorem event_Check_ok : EnterOk Tryz.prog 15 ∧ CSpecOk Tryz.prog cfgG 15 event_Check_sp := ⟨enter Tryz.func15 (by kernel_rfl) (by kernel_rfl), genSpec_ok (A := event_Check_A) (sa := [(.sl shAttr)]) (sr := [.err]) (bd := fun (x : ArgT [(.sl shAttr)]) => event_Check_t x) (fitG L_event_Name) s_event_Name mixed (by kernel_rfl) (loopsAll (l := [loopN Tryz.prog 15 0]) (by kernel_rfl) ⟨event_Check_o0, trivial⟩) (fun _ => rfl) (by
  intro x
  skip
  kernel_rfl)⟩
noncomputable def L_event_Check : List (Nat × CSpec) := (15, event_Check_sp) :: L_event_Name
theorem s_event_Check : SpecsOk Tryz.prog (tabsG L_event_Check) := oneSpecGT s_event_Name event_Check_ok
noncomputable def event_Text_h0 : EP := ⟨[(5, .own 9005), (15, .d (.sl shAttr)), (16, .d (.int .i64)), (17, .d (.int .i64))], [(9005, .row 9 .str)]⟩
noncomputable def event_Text_x0 : List (Exit × EP) := [(Exit.exit 0, ⟨[(5, .own 9005)], [(9005, .row 9 .str)]⟩)]
abbrev event_Text_S0 : Type := (List (ByteArray × V)) × Int × Int × (List ByteArray) × Unit
abbrev event_Text_Q0 : Type := ((List ByteArray) × Unit)
noncomputable def event_Text_b0 : event_Text_S0 → LT event_Text_S0 event_Text_Q0 := fun st => match st with
  | (a15, a16, a17, r9005, ()) => (.br (decide (a17 < a16)) (.br (decide (0 ≤ a17)) (.br (decide (a17 < Int.ofNat a15.length)) (.opt (value_Text (getI a15 a17 (ByteArray.mk #[], 0, 0, ByteArray.mk #[], false)).snd) fun x7 => (.br (decide (ByteArray.size (getI a15 a17 (ByteArray.mk #[], 0, 0, ByteArray.mk #[], false)).fst + (ByteArray.mk #[61]).size ≤ 9223372036854775807)) (.br (decide (((getI a15 a17 (ByteArray.mk #[], 0, 0, ByteArray.mk #[], false)).fst ++ ByteArray.mk #[61]).size + ByteArray.size x7.fst ≤ 9223372036854775807)) (.br (appLim 16 r9005.length 1) (.next (a15, a16, (IntKind.i64.wrap (a17 + 1)), (r9005 ++ [(getI a15 a17 (ByteArray.mk #[], 0, 0, ByteArray.mk #[], false)).fst ++ ByteArray.mk #[61] ++ x7.fst]), ())) .fail) .fail) .fail)) .fail) .fail) (.ret (r9005, ())))
noncomputable def event_Text_l0 (st : event_Text_S0) : Option event_Text_Q0 := LT.loop event_Text_b0 FUEL st
noncomputable def event_Text_A : Anns := ⟨[(6, [.keep [5, 15, 16, 17] [34], .ownS 5 9005 9, .keep [5, 15, 16, 17] [9005]]), (100006, [.keep [5] [9005]])], [(6, genOrc event_Text_h0 event_Text_x0 event_Text_l0)], 1000⟩
theorem event_Text_s0 : ∀ (st : event_Text_S0) m k, loopE (prep (tabsG L_event_Check) (annOf event_Text_A (loopN Tryz.prog 11 0))) (evalC Tryz.prog (tabsG L_event_Check) event_Text_A (loopN Tryz.prog 11 0)) (m + 1) (event_Text_h0.enc st) (outK (tabsG L_event_Check) event_Text_A (loopN Tryz.prog 11 0) k) = (event_Text_b0 st).run (exK event_Text_x0 k) (fun st' => loopE (prep (tabsG L_event_Check) (annOf event_Text_A (loopN Tryz.prog 11 0))) (evalC Tryz.prog (tabsG L_event_Check) event_Text_A (loopN Tryz.prog 11 0)) m (event_Text_h0.enc st') (outK (tabsG L_event_Check) event_Text_A (loopN Tryz.prog 11 0) k)) := by
  intro st m k
  obtain ⟨a15, a16, a17, r9005, ⟨⟩⟩ := st
  kernel_rfl
theorem event_Text_o0 : OrcOk Tryz.prog (tabsG L_event_Check) event_Text_A (loopN Tryz.prog 11 0) := genOrc_ok (h := event_Text_h0) (xs := event_Text_x0) (F := event_Text_l0) (bd := event_Text_b0) (fun _ => FUEL) (by kernel_rfl) (fun _ _ h => h) event_Text_s0
noncomputable def event_Text_t (p0 : (List (ByteArray × V))) : FT (ByteArray × Err) := (.opt (event_Check p0) fun x11 => (.br (!x11.isNone) (.ret ((ByteArray.mk #[], x11))) (.opt (event_Text_l0 (p0, Int.ofNat p0.length, 0, [], ())) fun x12 => (.opt (joinF x12.fst (ByteArray.mk #[44, 32])) fun x13 => (.ret ((x13, none)))))))
noncomputable def event_Text (p0 : (List (ByteArray × V))) : Option (ByteArray × Err) := (event_Text_t p0).fin
noncomputable def event_Text_sp : CSpec := genSpec [(.sl shAttr)] [.str, .err] (fun x => event_Text x)
theorem event_Text_ok : EnterOk Tryz.prog 11 ∧ CSpecOk Tryz.prog cfgG 11 event_Text_sp := ⟨enter Tryz.func11 (by kernel_rfl) (by kernel_rfl), genSpec_ok (A := event_Text_A) (sa := [(.sl shAttr)]) (sr := [.str, .err]) (bd := fun (x : ArgT [(.sl shAttr)]) => event_Text_t x) (fitG L_event_Check) s_event_Check mixed (by kernel_rfl) (loopsAll (l := [loopN Tryz.prog 11 0]) (by kernel_rfl) ⟨event_Text_o0, trivial⟩) (fun _ => rfl) (by
  intro x
  skip
  kernel_rfl)⟩
noncomputable def L_event_Text : List (Nat × CSpec) := (11, event_Text_sp) :: L_event_Check
theorem s_event_Text : SpecsOk Tryz.prog (tabsG L_event_Text) := oneSpecGT s_event_Check event_Text_ok
noncomputable def event_comma_h0 : EP := ⟨[(0, .d .str), (1, .d (.int .i64)), (5, .d .bool)], []⟩
noncomputable def event_comma_x0 : List (Exit × EP) := [(Exit.ret, ⟨[(0, .d .str), (4, .d (.int .i64))], []⟩), (Exit.exit 0, ⟨[(0, .d .str)], []⟩)]
abbrev event_comma_S0 : Type := ByteArray × Int × Bool × Unit
abbrev event_comma_Q0 : Type := (ByteArray × Int × Unit) ⊕ (ByteArray × Unit)
noncomputable def event_comma_b0 : event_comma_S0 → LT event_comma_S0 event_comma_Q0 := fun st => match st with
  | (a0, a1, a5, ()) => (.br (decide (a1 < Int.ofNat a0.size)) (.br (decide (0 ≤ a1)) (.br (decide (a1 < Int.ofNat a0.size)) (.br a5 (.br (Int.ofNat (a0.data.toList.getD a1.toNat 0).toNat == 92) (.next (a0, (IntKind.i64.wrap (IntKind.i64.wrap (a1 + 1) + 1)), a5, ())) (.br (Int.ofNat (a0.data.toList.getD a1.toNat 0).toNat == 34) (.next (a0, (IntKind.i64.wrap (a1 + 1)), (!a5), ())) (.br (Int.ofNat (a0.data.toList.getD a1.toNat 0).toNat == 44) (.br (!a5) (.ret (.inl (a0, a1, ()))) (.next (a0, (IntKind.i64.wrap (a1 + 1)), a5, ()))) (.next (a0, (IntKind.i64.wrap (a1 + 1)), a5, ()))))) (.br (Int.ofNat (a0.data.toList.getD a1.toNat 0).toNat == 34) (.next (a0, (IntKind.i64.wrap (a1 + 1)), (!a5), ())) (.br (Int.ofNat (a0.data.toList.getD a1.toNat 0).toNat == 44) (.br (!a5) (.ret (.inl (a0, a1, ()))) (.next (a0, (IntKind.i64.wrap (a1 + 1)), a5, ()))) (.next (a0, (IntKind.i64.wrap (a1 + 1)), a5, ()))))) .fail) .fail) (.ret (.inr (a0, ()))))
noncomputable def event_comma_l0 (st : event_comma_S0) : Option event_comma_Q0 := LT.loop event_comma_b0 FUEL st
noncomputable def event_comma_A : Anns := ⟨[(2, [.keep [0, 1, 5] []]), (100002, [.keep [0, 4] []])], [(2, genOrc event_comma_h0 event_comma_x0 event_comma_l0)], 1000⟩
theorem event_comma_s0 : ∀ (st : event_comma_S0) m k, loopE (prep (tabsG L_event_Text) (annOf event_comma_A (loopN Tryz.prog 42 0))) (evalC Tryz.prog (tabsG L_event_Text) event_comma_A (loopN Tryz.prog 42 0)) (m + 1) (event_comma_h0.enc st) (outK (tabsG L_event_Text) event_comma_A (loopN Tryz.prog 42 0) k) = (event_comma_b0 st).run (exK event_comma_x0 k) (fun st' => loopE (prep (tabsG L_event_Text) (annOf event_comma_A (loopN Tryz.prog 42 0))) (evalC Tryz.prog (tabsG L_event_Text) event_comma_A (loopN Tryz.prog 42 0)) m (event_comma_h0.enc st') (outK (tabsG L_event_Text) event_comma_A (loopN Tryz.prog 42 0) k)) := by
  intro st m k
  obtain ⟨a0, a1, a5, ⟨⟩⟩ := st
  kernel_rfl
theorem event_comma_o0 : OrcOk Tryz.prog (tabsG L_event_Text) event_comma_A (loopN Tryz.prog 42 0) := genOrc_ok (h := event_comma_h0) (xs := event_comma_x0) (F := event_comma_l0) (bd := event_comma_b0) (fun _ => FUEL) (by kernel_rfl) (fun _ _ h => h) event_comma_s0
noncomputable def event_comma_t (p0 : ByteArray) (p1 : Int) : FT (Int) := (.opt (event_comma_l0 (p0, p1, false, ())) fun x3 => (.alt x3 (fun x5 => (.ret x5.snd.fst)) (fun x6 => (.ret (Int.ofNat (ByteArray.size x6.fst))))))
noncomputable def event_comma (p0 : ByteArray) (p1 : Int) : Option (Int) := (event_comma_t p0 p1).fin
noncomputable def event_comma_sp : CSpec := genSpec [.str, (.int .i64)] [(.int .i64)] (fun x => event_comma x.1 x.2)
theorem event_comma_ok : EnterOk Tryz.prog 42 ∧ CSpecOk Tryz.prog cfgG 42 event_comma_sp := ⟨enter Tryz.func42 (by kernel_rfl) (by kernel_rfl), genSpec_ok (A := event_comma_A) (sa := [.str, (.int .i64)]) (sr := [(.int .i64)]) (bd := fun (x : ArgT [.str, (.int .i64)]) => event_comma_t x.1 x.2) (fitG L_event_Text) s_event_Text mixed (by kernel_rfl) (loopsAll (l := [loopN Tryz.prog 42 0]) (by kernel_rfl) ⟨event_comma_o0, trivial⟩) (fun _ => rfl) (by
  intro x
  obtain ⟨p0, p1⟩ := x
  kernel_rfl)⟩
noncomputable def L_event_comma : List (Nat × CSpec) := (42, event_comma_sp) :: L_event_Text
theorem s_event_comma : SpecsOk Tryz.prog (tabsG L_event_comma) := oneSpecGT s_event_Text event_comma_ok
noncomputable def event_bad_A : Anns := ⟨[], [], 1000⟩
noncomputable def event_bad_t (p0 : Int) : FT (Err) := (.ret (some ([(1, p0)], 4)))
noncomputable def event_bad (p0 : Int) : Option (Err) := (event_bad_t p0).fin
noncomputable def event_bad_sp : CSpec := genSpec [(.int .i64)] [.err] (fun x => event_bad x)
theorem event_bad_ok : EnterOk Tryz.prog 41 ∧ CSpecOk Tryz.prog cfgG 41 event_bad_sp := ⟨enter Tryz.func41 (by kernel_rfl) (by kernel_rfl), genSpec_ok (A := event_bad_A) (sa := [(.int .i64)]) (sr := [.err]) (bd := fun (x : ArgT [(.int .i64)]) => event_bad_t x) (fitG L_event_comma) s_event_comma mixed (by kernel_rfl) (loopsAll (l := []) (by kernel_rfl) trivial) (fun _ => rfl) (by
  intro x
  skip
  kernel_rfl)⟩
noncomputable def L_event_bad : List (Nat × CSpec) := (41, event_bad_sp) :: L_event_comma
theorem s_event_bad : SpecsOk Tryz.prog (tabsG L_event_bad) := oneSpecGT s_event_comma event_bad_ok
noncomputable def event_Read_h0 : EP := ⟨[(0, .d .str), (4, .own 9004), (5, .d .str), (6, .d (.int .i64))], [(9004, .row 50 shAttr)]⟩
noncomputable def event_Read_x0 : List (Exit × EP) := [(Exit.ret, ⟨[(2, .nsl), (3, .d .err), (4, .own 9004)], [(9004, .row 50 shAttr)]⟩), (Exit.exit 0, ⟨[(4, .own 85)], [(85, .row 50 shAttr)]⟩), (Exit.ret, ⟨[(2, .nsl), (3, .d .err), (4, .own 85)], [(85, .row 50 shAttr)]⟩), (Exit.exit 0, ⟨[(4, .own 9004)], [(9004, .row 50 shAttr)]⟩)]
abbrev event_Read_S0 : Type := ByteArray × ByteArray × Int × (List (ByteArray × V)) × Unit
abbrev event_Read_Q0 : Type := (Err × (List (ByteArray × V)) × Unit) ⊕ ((List (ByteArray × V)) × Unit) ⊕ (Err × (List (ByteArray × V)) × Unit) ⊕ ((List (ByteArray × V)) × Unit)
noncomputable def event_Read_b0 : event_Read_S0 → LT event_Read_S0 event_Read_Q0 := fun st => match st with
  | (a0, a5, a6, r9004, ()) => (.br (decide (Int.ofNat a0.size > 0)) (.opt (event_run a0 a6) fun x31 => (.br (decide (0 ≤ a6)) (.br (decide (a6 ≤ x31)) (.br (decide (x31 ≤ Int.ofNat a0.size)) (.opt (event_Name (a0.extract a6.toNat x31.toNat)) fun x32 => (.br (!x32) (.ret (.inl ((some ([(1, a6)], 4)), r9004, ()))) (.br (Op.bytesLess (a0.extract a6.toNat x31.toNat).toList a5.toList || (a0.extract a6.toNat x31.toNat).toList == a5.toList) (.ret (.inl ((some ([(1, a6)], 4)), r9004, ()))) (.br (Int.ofNat r9004.length == 16) (.ret (.inl ((some ([(1, a6)], 4)), r9004, ()))) (.br (x31 == Int.ofNat a0.size) (.ret (.inl ((some ([(1, x31)], 4)), r9004, ()))) (.br (decide (0 ≤ x31)) (.br (decide (x31 < Int.ofNat a0.size)) (.br (Int.ofNat (a0.data.toList.getD x31.toNat 0).toNat != 61) (.ret (.inl ((some ([(1, x31)], 4)), r9004, ()))) (.opt (event_comma a0 (IntKind.i64.wrap (x31 + 1))) fun x33 => (.br (decide (0 ≤ IntKind.i64.wrap (x31 + 1))) (.br (decide (IntKind.i64.wrap (x31 + 1) ≤ x33)) (.br (decide (x33 ≤ Int.ofNat a0.size)) (.opt (value_Read (a0.extract (IntKind.i64.wrap (x31 + 1)).toNat x33.toNat)) fun x34 => (.opt (isF x34.snd (some ([], 2))) fun x35 => (.br x35 (.ret (.inl ((some ([(1, IntKind.i64.wrap (x31 + 1))], 4)), r9004, ()))) (.br (!Option.isNone x34.snd) (.opt (fault_Shift x34.snd 1 (IntKind.i64.wrap (x31 + 1))) fun x36 => (.ret (.inl (x36, r9004, ())))) (.br (appLim 56 r9004.length 1) (.br (x33 == Int.ofNat a0.size) (.ret (.inr (.inl ((r9004 ++ [(a0.extract a6.toNat x31.toNat, x34.fst)]), ())))) (.br (IntKind.i64.wrap (x33 + 1) == Int.ofNat a0.size) (.ret (.inr (.inr (.inl ((some ([(1, IntKind.i64.wrap (x33 + 1))], 4)), (r9004 ++ [(a0.extract a6.toNat x31.toNat, x34.fst)]), ()))))) (.br (decide (0 ≤ IntKind.i64.wrap (x33 + 1))) (.br (decide (IntKind.i64.wrap (x33 + 1) < Int.ofNat a0.size)) (.br (Int.ofNat (a0.data.toList.getD (IntKind.i64.wrap (x33 + 1)).toNat 0).toNat != 32) (.ret (.inr (.inr (.inl ((some ([(1, IntKind.i64.wrap (x33 + 1))], 4)), (r9004 ++ [(a0.extract a6.toNat x31.toNat, x34.fst)]), ()))))) (.next (a0, (a0.extract a6.toNat x31.toNat), (IntKind.i64.wrap (x33 + 2)), (r9004 ++ [(a0.extract a6.toNat x31.toNat, x34.fst)]), ()))) .fail) .fail))) .fail))))) .fail) .fail) .fail))) .fail) .fail)))))) .fail) .fail) .fail)) (.ret (.inr (.inr (.inr (r9004, ()))))))
noncomputable def event_Read_l0 (st : event_Read_S0) : Option event_Read_Q0 := LT.loop event_Read_b0 FUEL st
noncomputable def event_Read_A : Anns := ⟨[(6, [.keep [0, 4, 5, 6] [85], .ownS 4 9004 50, .keep [0, 4, 5, 6] [9004]]), (100006, [.keep [2, 3, 4] [85, 9004]])], [(6, genOrc event_Read_h0 event_Read_x0 event_Read_l0)], 1000⟩
theorem event_Read_s0 : ∀ (st : event_Read_S0) m k, loopE (prep (tabsG L_event_bad) (annOf event_Read_A (loopN Tryz.prog 19 0))) (evalC Tryz.prog (tabsG L_event_bad) event_Read_A (loopN Tryz.prog 19 0)) (m + 1) (event_Read_h0.enc st) (outK (tabsG L_event_bad) event_Read_A (loopN Tryz.prog 19 0) k) = (event_Read_b0 st).run (exK event_Read_x0 k) (fun st' => loopE (prep (tabsG L_event_bad) (annOf event_Read_A (loopN Tryz.prog 19 0))) (evalC Tryz.prog (tabsG L_event_bad) event_Read_A (loopN Tryz.prog 19 0)) m (event_Read_h0.enc st') (outK (tabsG L_event_bad) event_Read_A (loopN Tryz.prog 19 0) k)) := by
  intro st m k
  obtain ⟨a0, a5, a6, r9004, ⟨⟩⟩ := st
  kernel_rfl
theorem event_Read_o0 : OrcOk Tryz.prog (tabsG L_event_bad) event_Read_A (loopN Tryz.prog 19 0) := genOrc_ok (h := event_Read_h0) (xs := event_Read_x0) (F := event_Read_l0) (bd := event_Read_b0) (fun _ => FUEL) (by kernel_rfl) (fun _ _ h => h) event_Read_s0
noncomputable def event_Read_t (p0 : ByteArray) : FT ((List (ByteArray × V)) × Err) := (.br (decide (Int.ofNat p0.size > 8000)) (.ret (([], some ([], 2)))) (.opt (event_Read_l0 (p0, ByteArray.mk #[], 0, [], ())) fun x41 => (.alt x41 (fun x43 => (.ret (([], x43.fst)))) (fun x44 => (.alt x44 (fun x44 => (.ret ((x44.fst, none)))) (fun x45 => (.alt x45 (fun x45 => (.ret (([], x45.fst)))) (fun x46 => (.ret ((x46.fst, none)))))))))))
noncomputable def event_Read (p0 : ByteArray) : Option ((List (ByteArray × V)) × Err) := (event_Read_t p0).fin
noncomputable def event_Read_sp : CSpec := genSpec [.str] [(.sl shAttr), .err] (fun x => event_Read x)
theorem event_Read_ok : EnterOk Tryz.prog 19 ∧ CSpecOk Tryz.prog cfgG 19 event_Read_sp := ⟨enter Tryz.func19 (by kernel_rfl) (by kernel_rfl), genSpec_ok (A := event_Read_A) (sa := [.str]) (sr := [(.sl shAttr), .err]) (bd := fun (x : ArgT [.str]) => event_Read_t x) (fitG L_event_bad) s_event_bad mixed (by kernel_rfl) (loopsAll (l := [loopN Tryz.prog 19 0]) (by kernel_rfl) ⟨event_Read_o0, trivial⟩) (fun _ => rfl) (by
  intro x
  skip
  kernel_rfl)⟩
noncomputable def L_event_Read : List (Nat × CSpec) := (19, event_Read_sp) :: L_event_bad
theorem s_event_Read : SpecsOk Tryz.prog (tabsG L_event_Read) := oneSpecGT s_event_bad event_Read_ok
noncomputable def ref03_Twin_A : Anns := ⟨[], [], 1000⟩
noncomputable def ref03_Twin_t (p0 : (List (ByteArray × V))) : FT ((List (ByteArray × V))) := (.br (appLim 56 0 p0.length) (.ret p0) .fail)
noncomputable def ref03_Twin (p0 : (List (ByteArray × V))) : Option ((List (ByteArray × V))) := (ref03_Twin_t p0).fin
noncomputable def ref03_Twin_sp : CSpec := genSpec [(.sl shAttr)] [(.sl shAttr)] (fun x => ref03_Twin x)
theorem ref03_Twin_ok : EnterOk Tryz.prog 12 ∧ CSpecOk Tryz.prog cfgG 12 ref03_Twin_sp := ⟨enter Tryz.func12 (by kernel_rfl) (by kernel_rfl), genSpec_ok (A := ref03_Twin_A) (sa := [(.sl shAttr)]) (sr := [(.sl shAttr)]) (bd := fun (x : ArgT [(.sl shAttr)]) => ref03_Twin_t x) (fitG L_event_Read) s_event_Read mixed (by kernel_rfl) (loopsAll (l := []) (by kernel_rfl) trivial) (fun _ => rfl) (by
  intro x
  skip
  kernel_rfl)⟩
noncomputable def L_ref03_Twin : List (Nat × CSpec) := (12, ref03_Twin_sp) :: L_event_Read
theorem s_ref03_Twin : SpecsOk Tryz.prog (tabsG L_ref03_Twin) := oneSpecGT s_event_Read ref03_Twin_ok
noncomputable def ref03_letter_A : Anns := ⟨[], [], 1000⟩
noncomputable def ref03_letter_t (p0 : Int) : FT (Bool) := (.br (decide (p0 ≥ 97)) (.br (decide (p0 ≤ 122)) (.ret true) (.br (decide (p0 ≥ 48)) (.br (decide (p0 ≤ 57)) (.ret true) (.ret (p0 == 95))) (.ret (p0 == 95)))) (.br (decide (p0 ≥ 48)) (.br (decide (p0 ≤ 57)) (.ret true) (.ret (p0 == 95))) (.ret (p0 == 95))))
noncomputable def ref03_letter (p0 : Int) : Option (Bool) := (ref03_letter_t p0).fin
noncomputable def ref03_letter_sp : CSpec := genSpec [(.int .u8)] [.bool] (fun x => ref03_letter x)
theorem ref03_letter_ok : EnterOk Tryz.prog 40 ∧ CSpecOk Tryz.prog cfgG 40 ref03_letter_sp := ⟨enter Tryz.func40 (by kernel_rfl) (by kernel_rfl), genSpec_ok (A := ref03_letter_A) (sa := [(.int .u8)]) (sr := [.bool]) (bd := fun (x : ArgT [(.int .u8)]) => ref03_letter_t x) (fitG L_ref03_Twin) s_ref03_Twin mixed (by kernel_rfl) (loopsAll (l := []) (by kernel_rfl) trivial) (fun _ => rfl) (by
  intro x
  skip
  kernel_rfl)⟩
noncomputable def L_ref03_letter : List (Nat × CSpec) := (40, ref03_letter_sp) :: L_ref03_Twin
theorem s_ref03_letter : SpecsOk Tryz.prog (tabsG L_ref03_letter) := oneSpecGT s_ref03_Twin ref03_letter_ok
noncomputable def ref03_Name_h0 : EP := ⟨[(0, .d .str), (3, .d (.int .i64))], []⟩
noncomputable def ref03_Name_x0 : List (Exit × EP) := [(Exit.ret, ⟨[(2, .d .bool)], []⟩), (Exit.exit 0, ⟨[], []⟩)]
abbrev ref03_Name_S0 : Type := ByteArray × Int × Unit
abbrev ref03_Name_Q0 : Type := (Bool × Unit) ⊕ (Unit)
noncomputable def ref03_Name_b0 : ref03_Name_S0 → LT ref03_Name_S0 ref03_Name_Q0 := fun st => match st with
  | (a0, a3, ()) => (.br (decide (a3 < Int.ofNat a0.size)) (.br (decide (0 ≤ a3)) (.br (decide (a3 < Int.ofNat a0.size)) (.opt (ref03_letter (Int.ofNat (a0.data.toList.getD a3.toNat 0).toNat)) fun x4 => (.br (!x4) (.ret (.inl (false, ()))) (.next (a0, (IntKind.i64.wrap (a3 + 1)), ())))) .fail) .fail) (.ret (.inr ())))
noncomputable def ref03_Name_l0 (st : ref03_Name_S0) : Option ref03_Name_Q0 := LT.loop ref03_Name_b0 FUEL st
noncomputable def ref03_Name_A : Anns := ⟨[(4, [.keep [0, 3] []]), (100004, [.keep [2] []])], [(4, genOrc ref03_Name_h0 ref03_Name_x0 ref03_Name_l0)], 1000⟩
theorem ref03_Name_s0 : ∀ (st : ref03_Name_S0) m k, loopE (prep (tabsG L_ref03_letter) (annOf ref03_Name_A (loopN Tryz.prog 18 0))) (evalC Tryz.prog (tabsG L_ref03_letter) ref03_Name_A (loopN Tryz.prog 18 0)) (m + 1) (ref03_Name_h0.enc st) (outK (tabsG L_ref03_letter) ref03_Name_A (loopN Tryz.prog 18 0) k) = (ref03_Name_b0 st).run (exK ref03_Name_x0 k) (fun st' => loopE (prep (tabsG L_ref03_letter) (annOf ref03_Name_A (loopN Tryz.prog 18 0))) (evalC Tryz.prog (tabsG L_ref03_letter) ref03_Name_A (loopN Tryz.prog 18 0)) m (ref03_Name_h0.enc st') (outK (tabsG L_ref03_letter) ref03_Name_A (loopN Tryz.prog 18 0) k)) := by
  intro st m k
  obtain ⟨a0, a3, ⟨⟩⟩ := st
  kernel_rfl
theorem ref03_Name_o0 : OrcOk Tryz.prog (tabsG L_ref03_letter) ref03_Name_A (loopN Tryz.prog 18 0) := genOrc_ok (h := ref03_Name_h0) (xs := ref03_Name_x0) (F := ref03_Name_l0) (bd := ref03_Name_b0) (fun _ => FUEL) (by kernel_rfl) (fun _ _ h => h) ref03_Name_s0
noncomputable def ref03_Name_t (p0 : ByteArray) : FT (Bool) := (.br (decide (Int.ofNat p0.size < 1)) (.ret false) (.br (decide (Int.ofNat p0.size > 16)) (.ret false) (.br (decide (0 < Int.ofNat p0.size)) (.br (decide (Int.ofNat (p0.data.toList.getD (Int.toNat 0) 0).toNat < 97)) (.ret false) (.br (decide (0 < Int.ofNat p0.size)) (.br (decide (Int.ofNat (p0.data.toList.getD (Int.toNat 0) 0).toNat > 122)) (.ret false) (.opt (ref03_Name_l0 (p0, 0, ())) fun x7 => (.alt x7 (fun x9 => (.ret x9.fst)) (fun x10 => (.ret true))))) .fail)) .fail)))
noncomputable def ref03_Name (p0 : ByteArray) : Option (Bool) := (ref03_Name_t p0).fin
noncomputable def ref03_Name_sp : CSpec := genSpec [.str] [.bool] (fun x => ref03_Name x)
theorem ref03_Name_ok : EnterOk Tryz.prog 18 ∧ CSpecOk Tryz.prog cfgG 18 ref03_Name_sp := ⟨enter Tryz.func18 (by kernel_rfl) (by kernel_rfl), genSpec_ok (A := ref03_Name_A) (sa := [.str]) (sr := [.bool]) (bd := fun (x : ArgT [.str]) => ref03_Name_t x) (fitG L_ref03_letter) s_ref03_letter mixed (by kernel_rfl) (loopsAll (l := [loopN Tryz.prog 18 0]) (by kernel_rfl) ⟨ref03_Name_o0, trivial⟩) (fun _ => rfl) (by
  intro x
  skip
  kernel_rfl)⟩
noncomputable def L_ref03_Name : List (Nat × CSpec) := (18, ref03_Name_sp) :: L_ref03_letter
theorem s_ref03_Name : SpecsOk Tryz.prog (tabsG L_ref03_Name) := oneSpecGT s_ref03_letter ref03_Name_ok
noncomputable def ref03_Check_h0 : EP := ⟨[(0, .d (.sl shAttr)), (2, .ref 2 0), (10, .d (.sl shAttr)), (11, .d (.int .i64)), (12, .d (.int .i64))], [(2, .box 33 [.d .bool, .nsl, .d (.int .i64)])]⟩
noncomputable def ref03_Check_x0 : List (Exit × EP) := [(Exit.ret, ⟨[(2, .ref 2 0)], [(2, .box 33 [.d .bool, .d (.sl shPlace), .d (.int .i64)])]⟩), (Exit.exit 0, ⟨[(2, .ref 2 0)], [(2, .box 33 [.d .bool, .nsl, .d (.int .i64)])]⟩)]
abbrev ref03_Check_S0 : Type := (List (ByteArray × V)) × (List (ByteArray × V)) × Int × Int × Bool × Int × Unit
abbrev ref03_Check_Q0 : Type := (Bool × (List (Int × Int)) × Int × Unit) ⊕ (Bool × Int × Unit)
noncomputable def ref03_Check_b0 : ref03_Check_S0 → LT ref03_Check_S0 ref03_Check_Q0 := fun st => match st with
  | (a0, a10, a11, a12, r2_0, r2_1, ()) => (.br (decide (a12 < a11)) (.br (decide (0 ≤ a12)) (.br (decide (a12 < Int.ofNat a10.length)) (.opt (ref03_Name (getI a10 a12 (ByteArray.mk #[], 0, 0, ByteArray.mk #[], false)).fst) fun x16 => (.br (!x16) (.ret (.inl (true, ([(2, a12)]), 3, ()))) (.br (decide (a12 > 0)) (.br (decide (0 ≤ IntKind.i64.wrap (a12 - 1))) (.br (decide (IntKind.i64.wrap (a12 - 1) < Int.ofNat a0.length)) (.br (!Op.bytesLess (ByteArray.toList (getI a0 (IntKind.i64.wrap (a12 - 1)) (ByteArray.mk #[], 0, 0, ByteArray.mk #[], false)).fst) (ByteArray.toList (getI a10 a12 (ByteArray.mk #[], 0, 0, ByteArray.mk #[], false)).fst)) (.ret (.inl (true, ([(2, a12)]), 3, ()))) (.opt (ref02_Check (getI a10 a12 (ByteArray.mk #[], 0, 0, ByteArray.mk #[], false)).snd) fun x17 => (.br x17.fst (.opt (ref01_At 2 a12 x17) fun x18 => (.ret (.inl (x18.fst, x18.snd.fst, x18.snd.snd, ())))) (.next (a0, a10, a11, (IntKind.i64.wrap (a12 + 1)), r2_0, r2_1, ()))))) .fail) .fail) (.opt (ref02_Check (getI a10 a12 (ByteArray.mk #[], 0, 0, ByteArray.mk #[], false)).snd) fun x19 => (.br x19.fst (.opt (ref01_At 2 a12 x19) fun x20 => (.ret (.inl (x20.fst, x20.snd.fst, x20.snd.snd, ())))) (.next (a0, a10, a11, (IntKind.i64.wrap (a12 + 1)), r2_0, r2_1, ()))))))) .fail) .fail) (.ret (.inr (r2_0, r2_1, ()))))
noncomputable def ref03_Check_l0 (st : ref03_Check_S0) : Option ref03_Check_Q0 := LT.loop ref03_Check_b0 FUEL st
noncomputable def ref03_Check_A : Anns := ⟨[(4, [.keep [0, 2, 10, 11, 12] [2]]), (100004, [.keep [2] [2]])], [(4, genOrc ref03_Check_h0 ref03_Check_x0 ref03_Check_l0)], 1000⟩
theorem ref03_Check_s0 : ∀ (st : ref03_Check_S0) m k, loopE (prep (tabsG L_ref03_Name) (annOf ref03_Check_A (loopN Tryz.prog 16 0))) (evalC Tryz.prog (tabsG L_ref03_Name) ref03_Check_A (loopN Tryz.prog 16 0)) (m + 1) (ref03_Check_h0.enc st) (outK (tabsG L_ref03_Name) ref03_Check_A (loopN Tryz.prog 16 0) k) = (ref03_Check_b0 st).run (exK ref03_Check_x0 k) (fun st' => loopE (prep (tabsG L_ref03_Name) (annOf ref03_Check_A (loopN Tryz.prog 16 0))) (evalC Tryz.prog (tabsG L_ref03_Name) ref03_Check_A (loopN Tryz.prog 16 0)) m (ref03_Check_h0.enc st') (outK (tabsG L_ref03_Name) ref03_Check_A (loopN Tryz.prog 16 0) k)) := by
  intro st m k
  obtain ⟨a0, a10, a11, a12, r2_0, r2_1, ⟨⟩⟩ := st
  kernel_rfl
theorem ref03_Check_o0 : OrcOk Tryz.prog (tabsG L_ref03_Name) ref03_Check_A (loopN Tryz.prog 16 0) := genOrc_ok (h := ref03_Check_h0) (xs := ref03_Check_x0) (F := ref03_Check_l0) (bd := ref03_Check_b0) (fun _ => FUEL) (by kernel_rfl) (fun _ _ h => h) ref03_Check_s0
noncomputable def ref03_Check_t (p0 : (List (ByteArray × V))) : FT ((Bool × List (Int × Int) × Int)) := (.br (decide (Int.ofNat p0.length > 16)) (.ret ((true, [], 2))) (.opt (ref03_Check_l0 (p0, p0, Int.ofNat p0.length, 0, false, 0, ())) fun x23 => (.alt x23 (fun x25 => (.ret ((x25.fst, x25.snd.fst, x25.snd.snd.fst)))) (fun x26 => (.ret ((false, [], 0)))))))
noncomputable def ref03_Check (p0 : (List (ByteArray × V))) : Option ((Bool × List (Int × Int) × Int)) := (ref03_Check_t p0).fin
noncomputable def ref03_Check_sp : CSpec := genSpec [(.sl shAttr)] [shE] (fun x => ref03_Check x)
theorem ref03_Check_ok : EnterOk Tryz.prog 16 ∧ CSpecOk Tryz.prog cfgG 16 ref03_Check_sp := ⟨enter Tryz.func16 (by kernel_rfl) (by kernel_rfl), genSpec_ok (A := ref03_Check_A) (sa := [(.sl shAttr)]) (sr := [shE]) (bd := fun (x : ArgT [(.sl shAttr)]) => ref03_Check_t x) (fitG L_ref03_Name) s_ref03_Name mixed (by kernel_rfl) (loopsAll (l := [loopN Tryz.prog 16 0]) (by kernel_rfl) ⟨ref03_Check_o0, trivial⟩) (fun _ => rfl) (by
  intro x
  skip
  kernel_rfl)⟩
noncomputable def L_ref03_Check : List (Nat × CSpec) := (16, ref03_Check_sp) :: L_ref03_Name
theorem s_ref03_Check : SpecsOk Tryz.prog (tabsG L_ref03_Check) := oneSpecGT s_ref03_Name ref03_Check_ok
noncomputable def ref03_Text_h0 : EP := ⟨[(3, .d .str), (6, .d (.sl shAttr)), (7, .d (.int .i64)), (8, .d (.int .i64))], []⟩
noncomputable def ref03_Text_x0 : List (Exit × EP) := [(Exit.exit 0, ⟨[(3, .d .str)], []⟩)]
abbrev ref03_Text_S0 : Type := ByteArray × (List (ByteArray × V)) × Int × Int × Unit
abbrev ref03_Text_Q0 : Type := (ByteArray × Unit)
noncomputable def ref03_Text_b0 : ref03_Text_S0 → LT ref03_Text_S0 ref03_Text_Q0 := fun st => match st with
  | (a3, a6, a7, a8, ()) => (.br (decide (a8 < a7)) (.br (decide (0 ≤ a8)) (.br (decide (a8 < Int.ofNat a6.length)) (.br (decide (a8 > 0)) (.br (decide (a3.size + (ByteArray.mk #[44, 32]).size ≤ 9223372036854775807)) (.br (decide (ByteArray.size (getI a6 a8 (ByteArray.mk #[], 0, 0, ByteArray.mk #[], false)).fst + (ByteArray.mk #[61]).size ≤ 9223372036854775807)) (.opt (ref02_Text (getI a6 a8 (ByteArray.mk #[], 0, 0, ByteArray.mk #[], false)).snd) fun x7 => (.br (decide (((getI a6 a8 (ByteArray.mk #[], 0, 0, ByteArray.mk #[], false)).fst ++ ByteArray.mk #[61]).size + x7.size ≤ 9223372036854775807)) (.br (decide ((a3 ++ ByteArray.mk #[44, 32]).size + ((getI a6 a8 (ByteArray.mk #[], 0, 0, ByteArray.mk #[], false)).fst ++ ByteArray.mk #[61] ++ x7).size ≤ 9223372036854775807)) (.next ((a3 ++ ByteArray.mk #[44, 32] ++ ((getI a6 a8 (ByteArray.mk #[], 0, 0, ByteArray.mk #[], false)).fst ++ ByteArray.mk #[61] ++ x7)), a6, a7, (IntKind.i64.wrap (a8 + 1)), ())) .fail) .fail)) .fail) .fail) (.br (decide (ByteArray.size (getI a6 a8 (ByteArray.mk #[], 0, 0, ByteArray.mk #[], false)).fst + (ByteArray.mk #[61]).size ≤ 9223372036854775807)) (.opt (ref02_Text (getI a6 a8 (ByteArray.mk #[], 0, 0, ByteArray.mk #[], false)).snd) fun x8 => (.br (decide (((getI a6 a8 (ByteArray.mk #[], 0, 0, ByteArray.mk #[], false)).fst ++ ByteArray.mk #[61]).size + x8.size ≤ 9223372036854775807)) (.br (decide (a3.size + ((getI a6 a8 (ByteArray.mk #[], 0, 0, ByteArray.mk #[], false)).fst ++ ByteArray.mk #[61] ++ x8).size ≤ 9223372036854775807)) (.next ((a3 ++ ((getI a6 a8 (ByteArray.mk #[], 0, 0, ByteArray.mk #[], false)).fst ++ ByteArray.mk #[61] ++ x8)), a6, a7, (IntKind.i64.wrap (a8 + 1)), ())) .fail) .fail)) .fail)) .fail) .fail) (.ret (a3, ())))
noncomputable def ref03_Text_l0 (st : ref03_Text_S0) : Option ref03_Text_Q0 := LT.loop ref03_Text_b0 FUEL st
noncomputable def ref03_Text_A : Anns := ⟨[(3, [.keep [3, 6, 7, 8] []]), (100003, [.keep [3] []])], [(3, genOrc ref03_Text_h0 ref03_Text_x0 ref03_Text_l0)], 1000⟩
theorem ref03_Text_s0 : ∀ (st : ref03_Text_S0) m k, loopE (prep (tabsG L_ref03_Check) (annOf ref03_Text_A (loopN Tryz.prog 32 0))) (evalC Tryz.prog (tabsG L_ref03_Check) ref03_Text_A (loopN Tryz.prog 32 0)) (m + 1) (ref03_Text_h0.enc st) (outK (tabsG L_ref03_Check) ref03_Text_A (loopN Tryz.prog 32 0) k) = (ref03_Text_b0 st).run (exK ref03_Text_x0 k) (fun st' => loopE (prep (tabsG L_ref03_Check) (annOf ref03_Text_A (loopN Tryz.prog 32 0))) (evalC Tryz.prog (tabsG L_ref03_Check) ref03_Text_A (loopN Tryz.prog 32 0)) m (ref03_Text_h0.enc st') (outK (tabsG L_ref03_Check) ref03_Text_A (loopN Tryz.prog 32 0) k)) := by
  intro st m k
  obtain ⟨a3, a6, a7, a8, ⟨⟩⟩ := st
  kernel_rfl
theorem ref03_Text_o0 : OrcOk Tryz.prog (tabsG L_ref03_Check) ref03_Text_A (loopN Tryz.prog 32 0) := genOrc_ok (h := ref03_Text_h0) (xs := ref03_Text_x0) (F := ref03_Text_l0) (bd := ref03_Text_b0) (fun _ => FUEL) (by kernel_rfl) (fun _ _ h => h) ref03_Text_s0
noncomputable def ref03_Text_t (p0 : (List (ByteArray × V))) : FT (ByteArray) := (.opt (ref03_Text_l0 (ByteArray.mk #[], p0, Int.ofNat p0.length, 0, ())) fun x10 => (.ret x10.fst))
noncomputable def ref03_Text (p0 : (List (ByteArray × V))) : Option (ByteArray) := (ref03_Text_t p0).fin
noncomputable def ref03_Text_sp : CSpec := genSpec [(.sl shAttr)] [.str] (fun x => ref03_Text x)
theorem ref03_Text_ok : EnterOk Tryz.prog 32 ∧ CSpecOk Tryz.prog cfgG 32 ref03_Text_sp := ⟨enter Tryz.func32 (by kernel_rfl) (by kernel_rfl), genSpec_ok (A := ref03_Text_A) (sa := [(.sl shAttr)]) (sr := [.str]) (bd := fun (x : ArgT [(.sl shAttr)]) => ref03_Text_t x) (fitG L_ref03_Check) s_ref03_Check mixed (by kernel_rfl) (loopsAll (l := [loopN Tryz.prog 32 0]) (by kernel_rfl) ⟨ref03_Text_o0, trivial⟩) (fun _ => rfl) (by
  intro x
  skip
  kernel_rfl)⟩
noncomputable def L_ref03_Text : List (Nat × CSpec) := (32, ref03_Text_sp) :: L_ref03_Check
theorem s_ref03_Text : SpecsOk Tryz.prog (tabsG L_ref03_Text) := oneSpecGT s_ref03_Check ref03_Text_ok
noncomputable def ref03_DocText_A : Anns := ⟨[], [], 1000⟩
noncomputable def ref03_DocText_t (p0 : (List (ByteArray × V))) : FT (ByteArray × (Bool × List (Int × Int) × Int)) := (.opt (ref03_Check p0) fun x3 => (.br x3.fst (.ret ((ByteArray.mk #[], x3))) (.opt (ref03_Text p0) fun x4 => (.ret ((x4, false, [], 0))))))
noncomputable def ref03_DocText (p0 : (List (ByteArray × V))) : Option (ByteArray × (Bool × List (Int × Int) × Int)) := (ref03_DocText_t p0).fin
noncomputable def ref03_DocText_sp : CSpec := genSpec [(.sl shAttr)] [.str, shE] (fun x => ref03_DocText x)
theorem ref03_DocText_ok : EnterOk Tryz.prog 13 ∧ CSpecOk Tryz.prog cfgG 13 ref03_DocText_sp := ⟨enter Tryz.func13 (by kernel_rfl) (by kernel_rfl), genSpec_ok (A := ref03_DocText_A) (sa := [(.sl shAttr)]) (sr := [.str, shE]) (bd := fun (x : ArgT [(.sl shAttr)]) => ref03_DocText_t x) (fitG L_ref03_Text) s_ref03_Text mixed (by kernel_rfl) (loopsAll (l := []) (by kernel_rfl) trivial) (fun _ => rfl) (by
  intro x
  skip
  kernel_rfl)⟩
noncomputable def L_ref03_DocText : List (Nat × CSpec) := (13, ref03_DocText_sp) :: L_ref03_Text
theorem s_ref03_DocText : SpecsOk Tryz.prog (tabsG L_ref03_DocText) := oneSpecGT s_ref03_Text ref03_DocText_ok
noncomputable def ref03_fault_A : Anns := ⟨[], [], 1000⟩
noncomputable def ref03_fault_t (p0 : Int) : FT ((List (ByteArray × V)) × (Bool × List (Int × Int) × Int)) := (.ret (([], true, [(1, p0)], 4)))
noncomputable def ref03_fault (p0 : Int) : Option ((List (ByteArray × V)) × (Bool × List (Int × Int) × Int)) := (ref03_fault_t p0).fin
noncomputable def ref03_fault_sp : CSpec := genSpec [(.int .i64)] [(.sl shAttr), shE] (fun x => ref03_fault x)
theorem ref03_fault_ok : EnterOk Tryz.prog 46 ∧ CSpecOk Tryz.prog cfgG 46 ref03_fault_sp := ⟨enter Tryz.func46 (by kernel_rfl) (by kernel_rfl), genSpec_ok (A := ref03_fault_A) (sa := [(.int .i64)]) (sr := [(.sl shAttr), shE]) (bd := fun (x : ArgT [(.int .i64)]) => ref03_fault_t x) (fitG L_ref03_DocText) s_ref03_DocText mixed (by kernel_rfl) (loopsAll (l := []) (by kernel_rfl) trivial) (fun _ => rfl) (by
  intro x
  skip
  kernel_rfl)⟩
noncomputable def L_ref03_fault : List (Nat × CSpec) := (46, ref03_fault_sp) :: L_ref03_DocText
theorem s_ref03_fault : SpecsOk Tryz.prog (tabsG L_ref03_fault) := oneSpecGT s_ref03_DocText ref03_fault_ok
noncomputable def ref03_Comma_h0 : EP := ⟨[(0, .d .str), (1, .d (.int .i64)), (5, .d .bool)], []⟩
noncomputable def ref03_Comma_x0 : List (Exit × EP) := [(Exit.ret, ⟨[(0, .d .str), (4, .d (.int .i64))], []⟩), (Exit.exit 0, ⟨[(0, .d .str)], []⟩)]
abbrev ref03_Comma_S0 : Type := ByteArray × Int × Bool × Unit
abbrev ref03_Comma_Q0 : Type := (ByteArray × Int × Unit) ⊕ (ByteArray × Unit)
noncomputable def ref03_Comma_b0 : ref03_Comma_S0 → LT ref03_Comma_S0 ref03_Comma_Q0 := fun st => match st with
  | (a0, a1, a5, ()) => (.br (decide (a1 < Int.ofNat a0.size)) (.br (decide (0 ≤ a1)) (.br (decide (a1 < Int.ofNat a0.size)) (.br (Int.ofNat (a0.data.toList.getD a1.toNat 0).toNat == 92) (.br a5 (.next (a0, (IntKind.i64.wrap (IntKind.i64.wrap (a1 + 1) + 1)), a5, ())) (.br (decide (0 ≤ a1)) (.br (decide (a1 < Int.ofNat a0.size)) (.br (Int.ofNat (a0.data.toList.getD a1.toNat 0).toNat == 34) (.next (a0, (IntKind.i64.wrap (a1 + 1)), (!a5), ())) (.br (decide (0 ≤ a1)) (.br (decide (a1 < Int.ofNat a0.size)) (.br (Int.ofNat (a0.data.toList.getD a1.toNat 0).toNat == 44) (.br (!a5) (.ret (.inl (a0, a1, ()))) (.next (a0, (IntKind.i64.wrap (a1 + 1)), a5, ()))) (.next (a0, (IntKind.i64.wrap (a1 + 1)), a5, ()))) .fail) .fail)) .fail) .fail)) (.br (decide (0 ≤ a1)) (.br (decide (a1 < Int.ofNat a0.size)) (.br (Int.ofNat (a0.data.toList.getD a1.toNat 0).toNat == 34) (.next (a0, (IntKind.i64.wrap (a1 + 1)), (!a5), ())) (.br (decide (0 ≤ a1)) (.br (decide (a1 < Int.ofNat a0.size)) (.br (Int.ofNat (a0.data.toList.getD a1.toNat 0).toNat == 44) (.br (!a5) (.ret (.inl (a0, a1, ()))) (.next (a0, (IntKind.i64.wrap (a1 + 1)), a5, ()))) (.next (a0, (IntKind.i64.wrap (a1 + 1)), a5, ()))) .fail) .fail)) .fail) .fail)) .fail) .fail) (.ret (.inr (a0, ()))))
noncomputable def ref03_Comma_l0 (st : ref03_Comma_S0) : Option ref03_Comma_Q0 := LT.loop ref03_Comma_b0 FUEL st
noncomputable def ref03_Comma_A : Anns := ⟨[(2, [.keep [0, 1, 5] []]), (100002, [.keep [0, 4] []])], [(2, genOrc ref03_Comma_h0 ref03_Comma_x0 ref03_Comma_l0)], 1000⟩
theorem ref03_Comma_s0 : ∀ (st : ref03_Comma_S0) m k, loopE (prep (tabsG L_ref03_fault) (annOf ref03_Comma_A (loopN Tryz.prog 47 0))) (evalC Tryz.prog (tabsG L_ref03_fault) ref03_Comma_A (loopN Tryz.prog 47 0)) (m + 1) (ref03_Comma_h0.enc st) (outK (tabsG L_ref03_fault) ref03_Comma_A (loopN Tryz.prog 47 0) k) = (ref03_Comma_b0 st).run (exK ref03_Comma_x0 k) (fun st' => loopE (prep (tabsG L_ref03_fault) (annOf ref03_Comma_A (loopN Tryz.prog 47 0))) (evalC Tryz.prog (tabsG L_ref03_fault) ref03_Comma_A (loopN Tryz.prog 47 0)) m (ref03_Comma_h0.enc st') (outK (tabsG L_ref03_fault) ref03_Comma_A (loopN Tryz.prog 47 0) k)) := by
  intro st m k
  obtain ⟨a0, a1, a5, ⟨⟩⟩ := st
  kernel_rfl
theorem ref03_Comma_o0 : OrcOk Tryz.prog (tabsG L_ref03_fault) ref03_Comma_A (loopN Tryz.prog 47 0) := genOrc_ok (h := ref03_Comma_h0) (xs := ref03_Comma_x0) (F := ref03_Comma_l0) (bd := ref03_Comma_b0) (fun _ => FUEL) (by kernel_rfl) (fun _ _ h => h) ref03_Comma_s0
noncomputable def ref03_Comma_t (p0 : ByteArray) (p1 : Int) : FT (Int) := (.opt (ref03_Comma_l0 (p0, p1, false, ())) fun x3 => (.alt x3 (fun x5 => (.ret x5.snd.fst)) (fun x6 => (.ret (Int.ofNat (ByteArray.size x6.fst))))))
noncomputable def ref03_Comma (p0 : ByteArray) (p1 : Int) : Option (Int) := (ref03_Comma_t p0 p1).fin
noncomputable def ref03_Comma_sp : CSpec := genSpec [.str, (.int .i64)] [(.int .i64)] (fun x => ref03_Comma x.1 x.2)
theorem ref03_Comma_ok : EnterOk Tryz.prog 47 ∧ CSpecOk Tryz.prog cfgG 47 ref03_Comma_sp := ⟨enter Tryz.func47 (by kernel_rfl) (by kernel_rfl), genSpec_ok (A := ref03_Comma_A) (sa := [.str, (.int .i64)]) (sr := [(.int .i64)]) (bd := fun (x : ArgT [.str, (.int .i64)]) => ref03_Comma_t x.1 x.2) (fitG L_ref03_fault) s_ref03_fault mixed (by kernel_rfl) (loopsAll (l := [loopN Tryz.prog 47 0]) (by kernel_rfl) ⟨ref03_Comma_o0, trivial⟩) (fun _ => rfl) (by
  intro x
  obtain ⟨p0, p1⟩ := x
  kernel_rfl)⟩
noncomputable def L_ref03_Comma : List (Nat × CSpec) := (47, ref03_Comma_sp) :: L_ref03_fault
theorem s_ref03_Comma : SpecsOk Tryz.prog (tabsG L_ref03_Comma) := oneSpecGT s_ref03_fault ref03_Comma_ok
noncomputable def ref03_Read_h1 : EP := ⟨[(0, .d .str), (3, .ref 3 0), (4, .own 9004), (5, .d (.int .i64)), (6, .d (.int .i64))], [(3, .box 33 [.d .bool, .nsl, .d (.int .i64)]), (9004, .row 50 shAttr)]⟩
noncomputable def ref03_Read_x1 : List (Exit × EP) := [(Exit.exit 2, ⟨[(0, .d .str), (3, .ref 3 0), (4, .own 9004), (5, .d (.int .i64)), (6, .d (.int .i64))], [(3, .box 33 [.d .bool, .nsl, .d (.int .i64)]), (9004, .row 50 shAttr)]⟩)]
abbrev ref03_Read_S1 : Type := ByteArray × Int × Int × Bool × Int × (List (ByteArray × V)) × Unit
abbrev ref03_Read_Q1 : Type := (ByteArray × Int × Int × Bool × Int × (List (ByteArray × V)) × Unit)
noncomputable def ref03_Read_b1 : ref03_Read_S1 → LT ref03_Read_S1 ref03_Read_Q1 := fun st => match st with
  | (a0, a5, a6, r3_0, r3_1, r9004, ()) => (.br (decide (a6 < Int.ofNat a0.size)) (.br (decide (0 ≤ a6)) (.br (decide (a6 < Int.ofNat a0.size)) (.opt (ref03_letter (Int.ofNat (a0.data.toList.getD a6.toNat 0).toNat)) fun x18 => (.br x18 (.next (a0, a5, (IntKind.i64.wrap (a6 + 1)), r3_0, r3_1, r9004, ())) (.ret (a0, a5, a6, r3_0, r3_1, r9004, ())))) .fail) .fail) (.ret (a0, a5, a6, r3_0, r3_1, r9004, ())))
noncomputable def ref03_Read_l1 (st : ref03_Read_S1) : Option ref03_Read_Q1 := LT.loop ref03_Read_b1 FUEL st
noncomputable def ref03_Read_h0 : EP := ⟨[(0, .d .str), (3, .ref 3 0), (4, .own 9004), (5, .d (.int .i64))], [(3, .box 33 [.d .bool, .nsl, .d (.int .i64)]), (9004, .row 50 shAttr)]⟩
noncomputable def ref03_Read_x0 : List (Exit × EP) := [(Exit.ret, ⟨[(2, .d (.sl shAttr)), (3, .ref 3 0)], [(3, .box 33 [.d .bool, .d (.sl shPlace), .d (.int .i64)])]⟩), (Exit.ret, ⟨[(2, .nsl), (3, .ref 3 0)], [(3, .box 33 [.d .bool, .d (.sl shPlace), .d (.int .i64)])]⟩), (Exit.ret, ⟨[(2, .own 111), (3, .ref 3 0)], [(3, .box 33 [.d .bool, .nsl, .d (.int .i64)]), (111, .row 50 shAttr)]⟩), (Exit.ret, ⟨[(2, .d (.sl shAttr)), (3, .ref 3 0)], [(3, .box 33 [.d .bool, .d (.sl shPlace), .d (.int .i64)]), (111, .row 50 shAttr)]⟩)]
abbrev ref03_Read_S0 : Type := ByteArray × Int × Bool × Int × (List (ByteArray × V)) × Unit
abbrev ref03_Read_Q0 : Type := ((List (ByteArray × V)) × Bool × (List (Int × Int)) × Int × Unit) ⊕ (Bool × (List (Int × Int)) × Int × Unit) ⊕ (Bool × Int × (List (ByteArray × V)) × Unit) ⊕ ((List (ByteArray × V)) × Bool × (List (Int × Int)) × Int × (List (ByteArray × V)) × Unit)
noncomputable def ref03_Read_b0 : ref03_Read_S0 → LT ref03_Read_S0 ref03_Read_Q0 := fun st => match st with
  | (a0, a5, r3_0, r3_1, r9004, ()) => (.opt (ref03_Read_l1 (a0, a5, a5, r3_0, r3_1, r9004, ())) fun x43 => (.br (decide (0 ≤ x43.snd.fst)) (.br (decide (x43.snd.fst ≤ x43.snd.snd.fst)) (.br (decide (x43.snd.snd.fst ≤ Int.ofNat (ByteArray.size x43.fst))) (.opt (ref03_Name (ByteArray.extract x43.fst (Int.toNat x43.snd.fst) (Int.toNat x43.snd.snd.fst))) fun x44 => (.br (!x44) (.ret (.inl (([]), true, ([(1, x43.snd.fst)]), 4, ()))) (.br (Int.ofNat x43.snd.snd.snd.snd.snd.fst.length == 16) (.ret (.inl (([]), true, ([(1, x43.snd.fst)]), 4, ()))) (.br (decide (Int.ofNat x43.snd.snd.snd.snd.snd.fst.length > 0)) (.br (decide (0 ≤ IntKind.i64.wrap (Int.ofNat x43.snd.snd.snd.snd.snd.fst.length - 1))) (.br (decide (IntKind.i64.wrap (Int.ofNat x43.snd.snd.snd.snd.snd.fst.length - 1) < Int.ofNat x43.snd.snd.snd.snd.snd.fst.length)) (.br (decide (0 ≤ IntKind.i64.wrap (Int.ofNat x43.snd.snd.snd.snd.snd.fst.length - 1))) (.br (decide (IntKind.i64.wrap (Int.ofNat x43.snd.snd.snd.snd.snd.fst.length - 1) < Int.ofNat x43.snd.snd.snd.snd.snd.fst.length)) (.br (!Op.bytesLess (ByteArray.toList (getI x43.snd.snd.snd.snd.snd.fst (IntKind.i64.wrap (Int.ofNat x43.snd.snd.snd.snd.snd.fst.length - 1)) (ByteArray.mk #[], 0, 0, ByteArray.mk #[], false)).fst) (ByteArray.extract x43.fst (Int.toNat x43.snd.fst) (Int.toNat x43.snd.snd.fst)).toList) (.ret (.inl (([]), true, ([(1, x43.snd.fst)]), 4, ()))) (.br (x43.snd.snd.fst == Int.ofNat (ByteArray.size x43.fst)) (.ret (.inl (([]), true, ([(1, x43.snd.snd.fst)]), 4, ()))) (.br (decide (0 ≤ x43.snd.snd.fst)) (.br (decide (x43.snd.snd.fst < Int.ofNat (ByteArray.size x43.fst))) (.br (Int.ofNat (x43.fst.data.toList.getD (Int.toNat x43.snd.snd.fst) 0).toNat != 61) (.ret (.inl (([]), true, ([(1, x43.snd.snd.fst)]), 4, ()))) (.opt (ref03_Comma x43.fst (IntKind.i64.wrap (x43.snd.snd.fst + 1))) fun x45 => (.br (decide (0 ≤ IntKind.i64.wrap (x43.snd.snd.fst + 1))) (.br (decide (IntKind.i64.wrap (x43.snd.snd.fst + 1) ≤ x45)) (.br (decide (x45 ≤ Int.ofNat (ByteArray.size x43.fst))) (.opt (ref02_Read (ByteArray.extract x43.fst (IntKind.i64.wrap (x43.snd.snd.fst + 1)).toNat x45.toNat)) fun x46 => (.br x46.snd.fst (.br (x46.snd.snd.snd == 2) (.ret (.inl (([]), true, ([(1, IntKind.i64.wrap (x43.snd.snd.fst + 1))]), 4, ()))) (.opt (ref01_Shift x46.snd 1 (IntKind.i64.wrap (x43.snd.snd.fst + 1))) fun x47 => (.ret (.inr (.inl (x47.fst, x47.snd.fst, x47.snd.snd, ())))))) (.br (appLim 56 x43.snd.snd.snd.snd.snd.fst.length 1) (.br (x45 == Int.ofNat (ByteArray.size x43.fst)) (.ret (.inr (.inr (.inl (false, 0, (x43.snd.snd.snd.snd.snd.fst ++ [(ByteArray.extract x43.fst (Int.toNat x43.snd.fst) (Int.toNat x43.snd.snd.fst), x46.fst)]), ()))))) (.br (IntKind.i64.wrap (x45 + 1) == Int.ofNat (ByteArray.size x43.fst)) (.ret (.inr (.inr (.inr (([]), true, ([(1, IntKind.i64.wrap (x45 + 1))]), 4, (x43.snd.snd.snd.snd.snd.fst ++ [(ByteArray.extract x43.fst (Int.toNat x43.snd.fst) (Int.toNat x43.snd.snd.fst), x46.fst)]), ()))))) (.br (decide (0 ≤ IntKind.i64.wrap (x45 + 1))) (.br (decide (IntKind.i64.wrap (x45 + 1) < Int.ofNat (ByteArray.size x43.fst))) (.br (Int.ofNat (x43.fst.data.toList.getD (IntKind.i64.wrap (x45 + 1)).toNat 0).toNat != 32) (.ret (.inr (.inr (.inr (([]), true, ([(1, IntKind.i64.wrap (x45 + 1))]), 4, (x43.snd.snd.snd.snd.snd.fst ++ [(ByteArray.extract x43.fst (Int.toNat x43.snd.fst) (Int.toNat x43.snd.snd.fst), x46.fst)]), ()))))) (.next (x43.fst, (IntKind.i64.wrap (x45 + 2)), x43.snd.snd.snd.fst, x43.snd.snd.snd.snd.fst, (x43.snd.snd.snd.snd.snd.fst ++ [(ByteArray.extract x43.fst (Int.toNat x43.snd.fst) (Int.toNat x43.snd.snd.fst), x46.fst)]), ()))) .fail) .fail))) .fail))) .fail) .fail) .fail))) .fail) .fail))) .fail) .fail) .fail) .fail) (.br (x43.snd.snd.fst == Int.ofNat (ByteArray.size x43.fst)) (.ret (.inl (([]), true, ([(1, x43.snd.snd.fst)]), 4, ()))) (.br (decide (0 ≤ x43.snd.snd.fst)) (.br (decide (x43.snd.snd.fst < Int.ofNat (ByteArray.size x43.fst))) (.br (Int.ofNat (x43.fst.data.toList.getD (Int.toNat x43.snd.snd.fst) 0).toNat != 61) (.ret (.inl (([]), true, ([(1, x43.snd.snd.fst)]), 4, ()))) (.opt (ref03_Comma x43.fst (IntKind.i64.wrap (x43.snd.snd.fst + 1))) fun x48 => (.br (decide (0 ≤ IntKind.i64.wrap (x43.snd.snd.fst + 1))) (.br (decide (IntKind.i64.wrap (x43.snd.snd.fst + 1) ≤ x48)) (.br (decide (x48 ≤ Int.ofNat (ByteArray.size x43.fst))) (.opt (ref02_Read (ByteArray.extract x43.fst (IntKind.i64.wrap (x43.snd.snd.fst + 1)).toNat x48.toNat)) fun x49 => (.br x49.snd.fst (.br (x49.snd.snd.snd == 2) (.ret (.inl (([]), true, ([(1, IntKind.i64.wrap (x43.snd.snd.fst + 1))]), 4, ()))) (.opt (ref01_Shift x49.snd 1 (IntKind.i64.wrap (x43.snd.snd.fst + 1))) fun x50 => (.ret (.inr (.inl (x50.fst, x50.snd.fst, x50.snd.snd, ())))))) (.br (appLim 56 x43.snd.snd.snd.snd.snd.fst.length 1) (.br (x48 == Int.ofNat (ByteArray.size x43.fst)) (.ret (.inr (.inr (.inl (false, 0, (x43.snd.snd.snd.snd.snd.fst ++ [(ByteArray.extract x43.fst (Int.toNat x43.snd.fst) (Int.toNat x43.snd.snd.fst), x49.fst)]), ()))))) (.br (IntKind.i64.wrap (x48 + 1) == Int.ofNat (ByteArray.size x43.fst)) (.ret (.inr (.inr (.inr (([]), true, ([(1, IntKind.i64.wrap (x48 + 1))]), 4, (x43.snd.snd.snd.snd.snd.fst ++ [(ByteArray.extract x43.fst (Int.toNat x43.snd.fst) (Int.toNat x43.snd.snd.fst), x49.fst)]), ()))))) (.br (decide (0 ≤ IntKind.i64.wrap (x48 + 1))) (.br (decide (IntKind.i64.wrap (x48 + 1) < Int.ofNat (ByteArray.size x43.fst))) (.br (Int.ofNat (x43.fst.data.toList.getD (IntKind.i64.wrap (x48 + 1)).toNat 0).toNat != 32) (.ret (.inr (.inr (.inr (([]), true, ([(1, IntKind.i64.wrap (x48 + 1))]), 4, (x43.snd.snd.snd.snd.snd.fst ++ [(ByteArray.extract x43.fst (Int.toNat x43.snd.fst) (Int.toNat x43.snd.snd.fst), x49.fst)]), ()))))) (.next (x43.fst, (IntKind.i64.wrap (x48 + 2)), x43.snd.snd.snd.fst, x43.snd.snd.snd.snd.fst, (x43.snd.snd.snd.snd.snd.fst ++ [(ByteArray.extract x43.fst (Int.toNat x43.snd.fst) (Int.toNat x43.snd.snd.fst), x49.fst)]), ()))) .fail) .fail))) .fail))) .fail) .fail) .fail))) .fail) .fail)))))) .fail) .fail) .fail))
noncomputable def ref03_Read_l0 (st : ref03_Read_S0) : Option ref03_Read_Q0 := LT.loop ref03_Read_b0 FUEL st
noncomputable def ref03_Read_A : Anns := ⟨[(7, [.keep [0, 3, 4, 5] [3, 111], .ownS 4 9004 50, .keep [0, 3, 4, 5] [3, 9004]]), (100007, [.keep [2, 3] [3, 111]]), (8, [.keep [0, 3, 4, 5, 6] [3, 9004]]), (100008, [.keep [0, 3, 4, 5, 6] [3, 9004]])], [(7, genOrc ref03_Read_h0 ref03_Read_x0 ref03_Read_l0), (8, genOrc ref03_Read_h1 ref03_Read_x1 ref03_Read_l1)], 1000⟩
theorem ref03_Read_s0 : ∀ (st : ref03_Read_S0) m k, loopE (prep (tabsG L_ref03_Comma) (annOf ref03_Read_A (loopN Tryz.prog 20 0))) (evalC Tryz.prog (tabsG L_ref03_Comma) ref03_Read_A (loopN Tryz.prog 20 0)) (m + 1) (ref03_Read_h0.enc st) (outK (tabsG L_ref03_Comma) ref03_Read_A (loopN Tryz.prog 20 0) k) = (ref03_Read_b0 st).run (exK ref03_Read_x0 k) (fun st' => loopE (prep (tabsG L_ref03_Comma) (annOf ref03_Read_A (loopN Tryz.prog 20 0))) (evalC Tryz.prog (tabsG L_ref03_Comma) ref03_Read_A (loopN Tryz.prog 20 0)) m (ref03_Read_h0.enc st') (outK (tabsG L_ref03_Comma) ref03_Read_A (loopN Tryz.prog 20 0) k)) := by
  intro st m k
  obtain ⟨a0, a5, r3_0, r3_1, r9004, ⟨⟩⟩ := st
  kernel_rfl
theorem ref03_Read_o0 : OrcOk Tryz.prog (tabsG L_ref03_Comma) ref03_Read_A (loopN Tryz.prog 20 0) := genOrc_ok (h := ref03_Read_h0) (xs := ref03_Read_x0) (F := ref03_Read_l0) (bd := ref03_Read_b0) (fun _ => FUEL) (by kernel_rfl) (fun _ _ h => h) ref03_Read_s0
theorem ref03_Read_s1 : ∀ (st : ref03_Read_S1) m k, loopE (prep (tabsG L_ref03_Comma) (annOf ref03_Read_A (loopN Tryz.prog 20 1))) (evalC Tryz.prog (tabsG L_ref03_Comma) ref03_Read_A (loopN Tryz.prog 20 1)) (m + 1) (ref03_Read_h1.enc st) (outK (tabsG L_ref03_Comma) ref03_Read_A (loopN Tryz.prog 20 1) k) = (ref03_Read_b1 st).run (exK ref03_Read_x1 k) (fun st' => loopE (prep (tabsG L_ref03_Comma) (annOf ref03_Read_A (loopN Tryz.prog 20 1))) (evalC Tryz.prog (tabsG L_ref03_Comma) ref03_Read_A (loopN Tryz.prog 20 1)) m (ref03_Read_h1.enc st') (outK (tabsG L_ref03_Comma) ref03_Read_A (loopN Tryz.prog 20 1) k)) := by
  intro st m k
  obtain ⟨a0, a5, a6, r3_0, r3_1, r9004, ⟨⟩⟩ := st
  kernel_rfl
theorem ref03_Read_o1 : OrcOk Tryz.prog (tabsG L_ref03_Comma) ref03_Read_A (loopN Tryz.prog 20 1) := genOrc_ok (h := ref03_Read_h1) (xs := ref03_Read_x1) (F := ref03_Read_l1) (bd := ref03_Read_b1) (fun _ => FUEL) (by kernel_rfl) (fun _ _ h => h) ref03_Read_s1
noncomputable def ref03_Read_t (p0 : ByteArray) : FT ((List (ByteArray × V)) × (Bool × List (Int × Int) × Int)) := (.br (decide (Int.ofNat p0.size > 8000)) (.ret (([], true, [], 2))) (.br (Int.ofNat p0.size == 0) (.ret (([], false, [], 0))) (.opt (ref03_Read_l0 (p0, 0, false, 0, [], ())) fun x55 => (.alt x55 (fun x57 => (.ret ((x57.fst, x57.snd.fst, x57.snd.snd.fst, x57.snd.snd.snd.fst)))) (fun x58 => (.alt x58 (fun x58 => (.ret (([], x58.fst, x58.snd.fst, x58.snd.snd.fst)))) (fun x59 => (.alt x59 (fun x59 => (.ret ((x59.snd.snd.fst, x59.fst, [], x59.snd.fst)))) (fun x60 => (.ret ((x60.fst, x60.snd.fst, x60.snd.snd.fst, x60.snd.snd.snd.fst))))))))))))
noncomputable def ref03_Read (p0 : ByteArray) : Option ((List (ByteArray × V)) × (Bool × List (Int × Int) × Int)) := (ref03_Read_t p0).fin
noncomputable def ref03_Read_sp : CSpec := genSpec [.str] [(.sl shAttr), shE] (fun x => ref03_Read x)
theorem ref03_Read_ok : EnterOk Tryz.prog 20 ∧ CSpecOk Tryz.prog cfgG 20 ref03_Read_sp := ⟨enter Tryz.func20 (by kernel_rfl) (by kernel_rfl), genSpec_ok (A := ref03_Read_A) (sa := [.str]) (sr := [(.sl shAttr), shE]) (bd := fun (x : ArgT [.str]) => ref03_Read_t x) (fitG L_ref03_Comma) s_ref03_Comma mixed (by kernel_rfl) (loopsAll (l := [loopN Tryz.prog 20 0, loopN Tryz.prog 20 1]) (by kernel_rfl) ⟨ref03_Read_o0, ref03_Read_o1, trivial⟩) (fun _ => rfl) (by
  intro x
  skip
  kernel_rfl)⟩
noncomputable def L_ref03_Read : List (Nat × CSpec) := (20, ref03_Read_sp) :: L_ref03_Comma
theorem s_ref03_Read : SpecsOk Tryz.prog (tabsG L_ref03_Read) := oneSpecGT s_ref03_Comma ref03_Read_ok
noncomputable def ref03_Same_h0 : EP := ⟨[(0, .d (.sl shAttr)), (1, .d (.sl shAttr)), (12, .d (.int .i64)), (13, .d (.int .i64))], []⟩
noncomputable def ref03_Same_x0 : List (Exit × EP) := [(Exit.ret, ⟨[(4, .d .bool)], []⟩), (Exit.exit 0, ⟨[], []⟩)]
abbrev ref03_Same_S0 : Type := (List (ByteArray × V)) × (List (ByteArray × V)) × Int × Int × Unit
abbrev ref03_Same_Q0 : Type := (Bool × Unit) ⊕ (Unit)
noncomputable def ref03_Same_b0 : ref03_Same_S0 → LT ref03_Same_S0 ref03_Same_Q0 := fun st => match st with
  | (a0, a1, a12, a13, ()) => (.br (decide (a13 < a12)) (.br (decide (0 ≤ a13)) (.br (decide (a13 < Int.ofNat a0.length)) (.br (decide (0 ≤ a13)) (.br (decide (a13 < Int.ofNat a1.length)) (.br (!eqB shAttr (getI a0 a13 (ByteArray.mk #[], 0, 0, ByteArray.mk #[], false)) (getI a1 a13 (ByteArray.mk #[], 0, 0, ByteArray.mk #[], false))) (.ret (.inl (false, ()))) (.next (a0, a1, a12, (IntKind.i64.wrap (a13 + 1)), ()))) .fail) .fail) .fail) .fail) (.ret (.inr ())))
noncomputable def ref03_Same_l0 (st : ref03_Same_S0) : Option ref03_Same_Q0 := LT.loop ref03_Same_b0 FUEL st
noncomputable def ref03_Same_A : Anns := ⟨[(4, [.keep [0, 1, 12, 13] []]), (100004, [.keep [4] []])], [(4, genOrc ref03_Same_h0 ref03_Same_x0 ref03_Same_l0)], 1000⟩
theorem ref03_Same_s0 : ∀ (st : ref03_Same_S0) m k, loopE (prep (tabsG L_ref03_Read) (annOf ref03_Same_A (loopN Tryz.prog 21 0))) (evalC Tryz.prog (tabsG L_ref03_Read) ref03_Same_A (loopN Tryz.prog 21 0)) (m + 1) (ref03_Same_h0.enc st) (outK (tabsG L_ref03_Read) ref03_Same_A (loopN Tryz.prog 21 0) k) = (ref03_Same_b0 st).run (exK ref03_Same_x0 k) (fun st' => loopE (prep (tabsG L_ref03_Read) (annOf ref03_Same_A (loopN Tryz.prog 21 0))) (evalC Tryz.prog (tabsG L_ref03_Read) ref03_Same_A (loopN Tryz.prog 21 0)) m (ref03_Same_h0.enc st') (outK (tabsG L_ref03_Read) ref03_Same_A (loopN Tryz.prog 21 0) k)) := by
  intro st m k
  obtain ⟨a0, a1, a12, a13, ⟨⟩⟩ := st
  kernel_rfl
theorem ref03_Same_o0 : OrcOk Tryz.prog (tabsG L_ref03_Read) ref03_Same_A (loopN Tryz.prog 21 0) := genOrc_ok (h := ref03_Same_h0) (xs := ref03_Same_x0) (F := ref03_Same_l0) (bd := ref03_Same_b0) (fun _ => FUEL) (by kernel_rfl) (fun _ _ h => h) ref03_Same_s0
noncomputable def ref03_Same_t (p0 : (List (ByteArray × V))) (p1 : (List (ByteArray × V))) : FT (Bool) := (.br (Int.ofNat p0.length != Int.ofNat p1.length) (.ret false) (.opt (ref03_Same_l0 (p0, p1, Int.ofNat p0.length, 0, ())) fun x3 => (.alt x3 (fun x5 => (.ret x5.fst)) (fun x6 => (.ret true)))))
noncomputable def ref03_Same (p0 : (List (ByteArray × V))) (p1 : (List (ByteArray × V))) : Option (Bool) := (ref03_Same_t p0 p1).fin
noncomputable def ref03_Same_sp : CSpec := genSpec [(.sl shAttr), (.sl shAttr)] [.bool] (fun x => ref03_Same x.1 x.2)
theorem ref03_Same_ok : EnterOk Tryz.prog 21 ∧ CSpecOk Tryz.prog cfgG 21 ref03_Same_sp := ⟨enter Tryz.func21 (by kernel_rfl) (by kernel_rfl), genSpec_ok (A := ref03_Same_A) (sa := [(.sl shAttr), (.sl shAttr)]) (sr := [.bool]) (bd := fun (x : ArgT [(.sl shAttr), (.sl shAttr)]) => ref03_Same_t x.1 x.2) (fitG L_ref03_Read) s_ref03_Read mixed (by kernel_rfl) (loopsAll (l := [loopN Tryz.prog 21 0]) (by kernel_rfl) ⟨ref03_Same_o0, trivial⟩) (fun _ => rfl) (by
  intro x
  obtain ⟨p0, p1⟩ := x
  kernel_rfl)⟩
noncomputable def L_ref03_Same : List (Nat × CSpec) := (21, ref03_Same_sp) :: L_ref03_Read
theorem s_ref03_Same : SpecsOk Tryz.prog (tabsG L_ref03_Same) := oneSpecGT s_ref03_Read ref03_Same_ok
noncomputable def law03_num_A : Anns := ⟨[], [], 1000⟩
noncomputable def law03_num_t (p0 : Int) : FT (V) := (.ret ((1, p0, ByteArray.mk #[], false)))
noncomputable def law03_num (p0 : Int) : Option (V) := (law03_num_t p0).fin
noncomputable def law03_num_sp : CSpec := genSpec [(.int .i64)] [shVal] (fun x => law03_num x)
theorem law03_num_ok : EnterOk Tryz.prog 29 ∧ CSpecOk Tryz.prog cfgG 29 law03_num_sp := ⟨enter Tryz.func29 (by kernel_rfl) (by kernel_rfl), genSpec_ok (A := law03_num_A) (sa := [(.int .i64)]) (sr := [shVal]) (bd := fun (x : ArgT [(.int .i64)]) => law03_num_t x) (fitG L_ref03_Same) s_ref03_Same mixed (by kernel_rfl) (loopsAll (l := []) (by kernel_rfl) trivial) (fun _ => rfl) (by
  intro x
  skip
  kernel_rfl)⟩
noncomputable def L_law03_num : List (Nat × CSpec) := (29, law03_num_sp) :: L_ref03_Same
theorem s_law03_num : SpecsOk Tryz.prog (tabsG L_law03_num) := oneSpecGT s_ref03_Same law03_num_ok
noncomputable def law03_fails_A : Anns := ⟨[], [], 1000⟩
noncomputable def law03_fails_t (p0 : Err) (p1 : (Bool × List (Int × Int) × Int)) : FT (Bool) := (.opt (law01_Of p0) fun x3 => (.opt (ref01_Same x3 p1) fun x4 => (.ret x4)))
noncomputable def law03_fails (p0 : Err) (p1 : (Bool × List (Int × Int) × Int)) : Option (Bool) := (law03_fails_t p0 p1).fin
noncomputable def law03_fails_sp : CSpec := genSpec [.err, shE] [.bool] (fun x => law03_fails x.1 x.2)
theorem law03_fails_ok : EnterOk Tryz.prog 14 ∧ CSpecOk Tryz.prog cfgG 14 law03_fails_sp := ⟨enter Tryz.func14 (by kernel_rfl) (by kernel_rfl), genSpec_ok (A := law03_fails_A) (sa := [.err, shE]) (sr := [.bool]) (bd := fun (x : ArgT [.err, shE]) => law03_fails_t x.1 x.2) (fitG L_law03_num) s_law03_num mixed (by kernel_rfl) (loopsAll (l := []) (by kernel_rfl) trivial) (fun _ => rfl) (by
  intro x
  obtain ⟨p0, p1⟩ := x
  kernel_rfl)⟩
noncomputable def L_law03_fails : List (Nat × CSpec) := (14, law03_fails_sp) :: L_law03_num
theorem s_law03_fails : SpecsOk Tryz.prog (tabsG L_law03_fails) := oneSpecGT s_law03_num law03_fails_ok
end Go.Proofs.YtkkgimhjjhhkjaaGreatDoor
