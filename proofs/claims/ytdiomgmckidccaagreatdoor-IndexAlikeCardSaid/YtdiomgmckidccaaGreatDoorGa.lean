/- Trees of functions, their loops and contracts: printed by PewGen (own tool). -/
import Derived.Test.YtdiomgmckidccaaGreatDoorSo
set_option maxRecDepth 100000
namespace Go.Proofs.YtdiomgmckidccaaGreatDoor
open Go Go.Pev
noncomputable def ref01_N_A : Anns := { l := [], orc := [], N := 1000, rng := [], ro := [], outs := none, nils := [] }
noncomputable def ref01_N_t (p0 : Int) : FT ((Bool × List (Int × Int) × Int)) := (.ret ((true, [], p0)))
noncomputable def ref01_N (p0 : Int) : Option ((Bool × List (Int × Int) × Int)) := (ref01_N_t p0).fin
noncomputable def ref01_N_sp : CSpec := genSpec [(.int .i64)] [shE] (fun x => ref01_N x)
theorem ref01_N_ok : EnterOk Tryz.prog 10 ∧ CSpecOk Tryz.prog cfgG 10 ref01_N_sp := ⟨enter Tryz.func10 (by kernel_rfl) (by kernel_rfl), genSpec_ok (A := ref01_N_A) (sa := [(.int .i64)]) (sr := [shE]) (bd := fun (x : (ArgT [(.int .i64)])) => ref01_N_t x) (fitG L1) s1 mixed (by kernel_rfl) (loopsAll (l := []) (by kernel_rfl) trivial) (fun _ => rfl) (by
  intro x
  skip
  kernel_rfl)⟩
noncomputable def L_ref01_N : List (Nat × CSpec) := (10, ref01_N_sp) :: L1
theorem s_ref01_N : SpecsOk Tryz.prog (tabsG L_ref01_N) := oneSpecGT s1 ref01_N_ok
noncomputable def event_letter_A : Anns := { l := [], orc := [], N := 1000, rng := [], ro := [], outs := none, nils := [] }
noncomputable def event_letter_t (p0 : Int) : FT (Bool) := (.br (p0 == 95) (.ret true) (.br (decide (p0 ≥ 97)) (.br (decide (p0 ≤ 122)) (.ret true) (.br (decide (p0 ≥ 48)) (.ret (decide (p0 ≤ 57))) (.ret false))) (.br (decide (p0 ≥ 48)) (.ret (decide (p0 ≤ 57))) (.ret false))))
noncomputable def event_letter (p0 : Int) : Option (Bool) := (event_letter_t p0).fin
noncomputable def event_letter_sp : CSpec := genSpec [(.int .u8)] [.bool] (fun x => event_letter x)
theorem event_letter_ok : EnterOk Tryz.prog 99 ∧ CSpecOk Tryz.prog cfgG 99 event_letter_sp := ⟨enter Tryz.func99 (by kernel_rfl) (by kernel_rfl), genSpec_ok (A := event_letter_A) (sa := [(.int .u8)]) (sr := [.bool]) (bd := fun (x : (ArgT [(.int .u8)])) => event_letter_t x) (fitG L_ref01_N) s_ref01_N mixed (by kernel_rfl) (loopsAll (l := []) (by kernel_rfl) trivial) (fun _ => rfl) (by
  intro x
  skip
  kernel_rfl)⟩
noncomputable def L_event_letter : List (Nat × CSpec) := (99, event_letter_sp) :: L_ref01_N
theorem s_event_letter : SpecsOk Tryz.prog (tabsG L_event_letter) := oneSpecGT s_ref01_N event_letter_ok
noncomputable def event_run_h0 : EP := ⟨[(0, .d .str), (1, .d (.int .i64))], []⟩
noncomputable def event_run_x0 : List (Exit × EP) := [(Exit.exit 0, ⟨[(1, .d (.int .i64))], []⟩)]
abbrev event_run_S0 : Type := ByteArray × Int × Unit
abbrev event_run_Q0 : Type := (Int × Unit)
noncomputable def event_run_b0 : event_run_S0 → LT event_run_S0 event_run_Q0 := fun st => match st with
  | (a0, a1, ()) => (.br (decide (a1 < Int.ofNat a0.size)) (.br (decide (0 ≤ a1)) (.br (decide (a1 < Int.ofNat a0.size)) (.opt (event_letter (Int.ofNat (a0.data.toList.getD a1.toNat 0).toNat)) fun x4 => (.br x4 (.next (a0, (IntKind.i64.wrap (a1 + 1)), ())) (.ret (a1, ())))) .fail) .fail) (.ret (a1, ())))
noncomputable def event_run_l0 (st : event_run_S0) : Option event_run_Q0 := LT.loop event_run_b0 FUEL st
noncomputable def event_run_A : Anns := { l := [(1, [.keep [0, 1] []]), (100001, [.keep [1] []])], orc := [(1, genOrc event_run_h0 event_run_x0 event_run_l0)], N := 1000, rng := [], ro := [], outs := none, nils := [] }
theorem event_run_s0 : ∀ (st : event_run_S0) m k, loopX event_run_A (loopN Tryz.prog 71 0) (prep (tabsG L_event_letter) (annOf event_run_A (loopN Tryz.prog 71 0))) (evalC Tryz.prog (tabsG L_event_letter) event_run_A (loopN Tryz.prog 71 0)) (m + 1) (event_run_h0.enc st) (outK (tabsG L_event_letter) event_run_A (loopN Tryz.prog 71 0) k) = (event_run_b0 st).run (exK event_run_x0 k) (fun st' => loopX event_run_A (loopN Tryz.prog 71 0) (prep (tabsG L_event_letter) (annOf event_run_A (loopN Tryz.prog 71 0))) (evalC Tryz.prog (tabsG L_event_letter) event_run_A (loopN Tryz.prog 71 0)) m (event_run_h0.enc st') (outK (tabsG L_event_letter) event_run_A (loopN Tryz.prog 71 0) k)) := by
  intro st m k
  obtain ⟨a0, a1, ⟨⟩⟩ := st
  kernel_rfl
theorem event_run_o0 : OrcOk Tryz.prog (tabsG L_event_letter) event_run_A (loopN Tryz.prog 71 0) := genOrc_ok (h := event_run_h0) (xs := event_run_x0) (F := event_run_l0) (bd := event_run_b0) (fun _ => FUEL) (by kernel_rfl) (fun _ _ h => h) event_run_s0
noncomputable def event_run_t (p0 : ByteArray) (p1 : Int) : FT (Int) := (.opt (event_run_l0 (p0, p1, ())) fun x6 => (.ret x6.fst))
noncomputable def event_run (p0 : ByteArray) (p1 : Int) : Option (Int) := (event_run_t p0 p1).fin
noncomputable def event_run_sp : CSpec := genSpec [.str, (.int .i64)] [(.int .i64)] (fun x => event_run x.1 x.2)
theorem event_run_ok : EnterOk Tryz.prog 71 ∧ CSpecOk Tryz.prog cfgG 71 event_run_sp := ⟨enter Tryz.func71 (by kernel_rfl) (by kernel_rfl), genSpec_ok (A := event_run_A) (sa := [.str, (.int .i64)]) (sr := [(.int .i64)]) (bd := fun (x : (ArgT [.str, (.int .i64)])) => event_run_t x.1 x.2) (fitG L_event_letter) s_event_letter mixed (by kernel_rfl) (loopsAll (l := [loopN Tryz.prog 71 0]) (by kernel_rfl) ⟨event_run_o0, trivial⟩) (fun _ => rfl) (by
  intro x
  obtain ⟨p0, p1⟩ := x
  kernel_rfl)⟩
noncomputable def L_event_run : List (Nat × CSpec) := (71, event_run_sp) :: L_event_letter
theorem s_event_run : SpecsOk Tryz.prog (tabsG L_event_run) := oneSpecGT s_event_letter event_run_ok
noncomputable def event_Name_A : Anns := { l := [], orc := [], N := 1000, rng := [], ro := [], outs := none, nils := [] }
noncomputable def event_Name_t (p0 : ByteArray) : FT (Bool) := (.br (decide (Int.ofNat p0.size ≥ 1)) (.br (decide (Int.ofNat p0.size ≤ 16)) (.br (decide (0 < Int.ofNat p0.size)) (.br (decide (Int.ofNat (p0.data.toList.getD (Int.toNat 0) 0).toNat ≥ 97)) (.br (decide (0 < Int.ofNat p0.size)) (.br (decide (Int.ofNat (p0.data.toList.getD (Int.toNat 0) 0).toNat ≤ 122)) (.opt (event_run p0 0) fun x2 => (.ret (x2 == Int.ofNat p0.size))) (.ret false)) .fail) (.ret false)) .fail) (.ret false)) (.ret false))
noncomputable def event_Name (p0 : ByteArray) : Option (Bool) := (event_Name_t p0).fin
noncomputable def event_Name_sp : CSpec := genSpec [.str] [.bool] (fun x => event_Name x)
theorem event_Name_ok : EnterOk Tryz.prog 50 ∧ CSpecOk Tryz.prog cfgG 50 event_Name_sp := ⟨enter Tryz.func50 (by kernel_rfl) (by kernel_rfl), genSpec_ok (A := event_Name_A) (sa := [.str]) (sr := [.bool]) (bd := fun (x : (ArgT [.str])) => event_Name_t x) (fitG L_event_run) s_event_run mixed (by kernel_rfl) (loopsAll (l := []) (by kernel_rfl) trivial) (fun _ => rfl) (by
  intro x
  skip
  kernel_rfl)⟩
noncomputable def L_event_Name : List (Nat × CSpec) := (50, event_Name_sp) :: L_event_run
theorem s_event_Name : SpecsOk Tryz.prog (tabsG L_event_Name) := oneSpecGT s_event_run event_Name_ok
noncomputable def fault_At_A : Anns := { l := [], orc := [], N := 1000, rng := [], ro := [], outs := none, nils := [] }
noncomputable def fault_At_t (p0 : Int) (p1 : Int) (p2 : Err) : FT (Err) := (.br (Option.isNone p2) (.ret none) (.opt p2 fun x2 => (.ret (some ((p0, p1) :: x2.fst, x2.snd)))))
noncomputable def fault_At (p0 : Int) (p1 : Int) (p2 : Err) : Option (Err) := (fault_At_t p0 p1 p2).fin
noncomputable def fault_At_sp : CSpec := genSpec [(.int .i64), (.int .i64), .err] [.err] (fun x => fault_At x.1 x.2.1 x.2.2)
theorem fault_At_ok : EnterOk Tryz.prog 51 ∧ CSpecOk Tryz.prog cfgG 51 fault_At_sp := ⟨enter Tryz.func51 (by kernel_rfl) (by kernel_rfl), genSpec_ok (A := fault_At_A) (sa := [(.int .i64), (.int .i64), .err]) (sr := [.err]) (bd := fun (x : (ArgT [(.int .i64), (.int .i64), .err])) => fault_At_t x.1 x.2.1 x.2.2) (fitG L_event_Name) s_event_Name mixed (by kernel_rfl) (loopsAll (l := []) (by kernel_rfl) trivial) (fun _ => rfl) (by
  intro x
  obtain ⟨p0, p1, p2⟩ := x
  kernel_rfl)⟩
noncomputable def L_fault_At : List (Nat × CSpec) := (51, fault_At_sp) :: L_event_Name
theorem s_fault_At : SpecsOk Tryz.prog (tabsG L_fault_At) := oneSpecGT s_event_Name fault_At_ok
noncomputable def value_Check_A : Anns := { l := [], orc := [], N := 1000, rng := [], ro := [], outs := none, nils := [] }
noncomputable def value_Check_t (p0 : V) : FT (Err) := (.br (p0.fst == 1) (.br (!eqB shVal (p0.fst, 0, p0.snd.snd) (p0.fst, 0, ByteArray.mk #[], false)) (.ret (some ([], 3))) (.br (decide (Int.ofNat (ByteArray.size p0.snd.snd.fst) > 1000)) (.ret (some ([], 2))) (.ret none))) (.br (p0.fst == 2) (.br (!eqB shVal (p0.fst, p0.snd.fst, ByteArray.mk #[], p0.snd.snd.snd) (p0.fst, 0, ByteArray.mk #[], false)) (.ret (some ([], 3))) (.br (decide (Int.ofNat (ByteArray.size p0.snd.snd.fst) > 1000)) (.ret (some ([], 2))) (.ret none))) (.br (p0.fst == 3) (.br (!eqB shVal (p0.fst, p0.snd.fst, p0.snd.snd.fst, false) (p0.fst, 0, ByteArray.mk #[], false)) (.ret (some ([], 3))) (.br (decide (Int.ofNat (ByteArray.size p0.snd.snd.fst) > 1000)) (.ret (some ([], 2))) (.ret none))) (.ret (some ([], 3))))))
noncomputable def value_Check (p0 : V) : Option (Err) := (value_Check_t p0).fin
noncomputable def value_Check_sp : CSpec := genSpec [shVal] [.err] (fun x => value_Check x)
theorem value_Check_ok : EnterOk Tryz.prog 52 ∧ CSpecOk Tryz.prog cfgG 52 value_Check_sp := ⟨enter Tryz.func52 (by kernel_rfl) (by kernel_rfl), genSpec_ok (A := value_Check_A) (sa := [shVal]) (sr := [.err]) (bd := fun (x : (ArgT [shVal])) => value_Check_t x) (fitG L_fault_At) s_fault_At mixed (by kernel_rfl) (loopsAll (l := []) (by kernel_rfl) trivial) (fun _ => rfl) (by
  intro x
  skip
  kernel_rfl)⟩
noncomputable def L_value_Check : List (Nat × CSpec) := (52, value_Check_sp) :: L_fault_At
theorem s_value_Check : SpecsOk Tryz.prog (tabsG L_value_Check) := oneSpecGT s_fault_At value_Check_ok
noncomputable def event_Check_h0 : EP := ⟨[(3, .d .str), (11, .d shEvent), (12, .d (.int .i64)), (13, .d (.int .i64))], []⟩
noncomputable def event_Check_x0 : List (Exit × EP) := [(Exit.ret, ⟨[(2, .d .err)], []⟩), (Exit.exit 0, ⟨[], []⟩)]
abbrev event_Check_S0 : Type := ByteArray × (List (ByteArray × V)) × Int × Int × Unit
abbrev event_Check_Q0 : Type := (Err × Unit) ⊕ (Unit)
noncomputable def event_Check_b0 : event_Check_S0 → LT event_Check_S0 event_Check_Q0 := fun st => match st with
  | (a3, a11, a12, a13, ()) => (.br (decide (a13 < a12)) (.br (decide (0 ≤ a13)) (.br (decide (a13 < Int.ofNat a11.length)) (.opt (event_Name (getI a11 a13 (ByteArray.mk #[], 0, 0, ByteArray.mk #[], false)).fst) fun x10 => (.br (!x10) (.ret (.inl ((some ([(2, a13)], 3)), ()))) (.br (Op.bytesLess (ByteArray.toList (getI a11 a13 (ByteArray.mk #[], 0, 0, ByteArray.mk #[], false)).fst) a3.toList || ByteArray.toList (getI a11 a13 (ByteArray.mk #[], 0, 0, ByteArray.mk #[], false)).fst == a3.toList) (.ret (.inl ((some ([(2, a13)], 3)), ()))) (.opt (value_Check (getI a11 a13 (ByteArray.mk #[], 0, 0, ByteArray.mk #[], false)).snd) fun x11 => (.br (!x11.isNone) (.opt (fault_At 2 a13 x11) fun x12 => (.ret (.inl (x12, ())))) (.next (((getI a11 a13 (ByteArray.mk #[], 0, 0, ByteArray.mk #[], false)).fst), a11, a12, (IntKind.i64.wrap (a13 + 1)), ()))))))) .fail) .fail) (.ret (.inr ())))
noncomputable def event_Check_l0 (st : event_Check_S0) : Option event_Check_Q0 := LT.loop event_Check_b0 FUEL st
noncomputable def event_Check_A : Anns := { l := [(5, [.keep [3, 11, 12, 13] []]), (100005, [.keep [2] []])], orc := [(5, genOrc event_Check_h0 event_Check_x0 event_Check_l0)], N := 1000, rng := [], ro := [], outs := none, nils := [] }
theorem event_Check_s0 : ∀ (st : event_Check_S0) m k, loopX event_Check_A (loopN Tryz.prog 30 0) (prep (tabsG L_value_Check) (annOf event_Check_A (loopN Tryz.prog 30 0))) (evalC Tryz.prog (tabsG L_value_Check) event_Check_A (loopN Tryz.prog 30 0)) (m + 1) (event_Check_h0.enc st) (outK (tabsG L_value_Check) event_Check_A (loopN Tryz.prog 30 0) k) = (event_Check_b0 st).run (exK event_Check_x0 k) (fun st' => loopX event_Check_A (loopN Tryz.prog 30 0) (prep (tabsG L_value_Check) (annOf event_Check_A (loopN Tryz.prog 30 0))) (evalC Tryz.prog (tabsG L_value_Check) event_Check_A (loopN Tryz.prog 30 0)) m (event_Check_h0.enc st') (outK (tabsG L_value_Check) event_Check_A (loopN Tryz.prog 30 0) k)) := by
  intro st m k
  obtain ⟨a3, a11, a12, a13, ⟨⟩⟩ := st
  kernel_rfl
theorem event_Check_o0 : OrcOk Tryz.prog (tabsG L_value_Check) event_Check_A (loopN Tryz.prog 30 0) := genOrc_ok (h := event_Check_h0) (xs := event_Check_x0) (F := event_Check_l0) (bd := event_Check_b0) (fun _ => FUEL) (by kernel_rfl) (fun _ _ h => h) event_Check_s0
noncomputable def event_Check_t (p0 : (List (ByteArray × V))) : FT (Err) := (.br (decide (Int.ofNat p0.length > 16)) (.ret (some ([], 2))) (.opt (event_Check_l0 (ByteArray.mk #[], p0, Int.ofNat p0.length, 0, ())) fun x16 => (.alt x16 (fun x17 => (.ret x17.fst)) (fun _ => (.ret none)))))
noncomputable def event_Check (p0 : (List (ByteArray × V))) : Option (Err) := (event_Check_t p0).fin
noncomputable def event_Check_sp : CSpec := genSpec [shEvent] [.err] (fun x => event_Check x)
theorem event_Check_ok : EnterOk Tryz.prog 30 ∧ CSpecOk Tryz.prog cfgG 30 event_Check_sp := ⟨enter Tryz.func30 (by kernel_rfl) (by kernel_rfl), genSpec_ok (A := event_Check_A) (sa := [shEvent]) (sr := [.err]) (bd := fun (x : (ArgT [shEvent])) => event_Check_t x) (fitG L_value_Check) s_value_Check mixed (by kernel_rfl) (loopsAll (l := [loopN Tryz.prog 30 0]) (by kernel_rfl) ⟨event_Check_o0, trivial⟩) (fun _ => rfl) (by
  intro x
  skip
  kernel_rfl)⟩
noncomputable def L_event_Check : List (Nat × CSpec) := (30, event_Check_sp) :: L_value_Check
theorem s_event_Check : SpecsOk Tryz.prog (tabsG L_event_Check) := oneSpecGT s_value_Check event_Check_ok
noncomputable def event_Find_1_A : Anns := { l := [], orc := [], N := 1000, rng := [], ro := [], outs := none, nils := [] }
noncomputable def event_Find_1_t (p0 : (ByteArray × V)) (p1 : ByteArray) : FT (Int) := (.ret (Lib.compareBytes p0.fst.data.toList p1.data.toList))
noncomputable def event_Find_1 (p0 : (ByteArray × V)) (p1 : ByteArray) : Option (Int) := (event_Find_1_t p0 p1).fin
noncomputable def event_Find_1_sp : CSpec := genSpec [shAttr, .str] [(.int .i64)] (fun x => event_Find_1 x.1 x.2)
theorem event_Find_1_ok : EnterOk Tryz.prog 91 ∧ CSpecOk Tryz.prog cfgG 91 event_Find_1_sp := ⟨enter Tryz.func91 (by kernel_rfl) (by kernel_rfl), genSpec_ok (A := event_Find_1_A) (sa := [shAttr, .str]) (sr := [(.int .i64)]) (bd := fun (x : (ArgT [shAttr, .str])) => event_Find_1_t x.1 x.2) (fitG L_event_Check) s_event_Check mixed (by kernel_rfl) (loopsAll (l := []) (by kernel_rfl) trivial) (fun _ => rfl) (by
  intro x
  obtain ⟨p0, p1⟩ := x
  kernel_rfl)⟩
noncomputable def L_event_Find_1 : List (Nat × CSpec) := (91, event_Find_1_sp) :: L_event_Check
theorem s_event_Find_1 : SpecsOk Tryz.prog (tabsG L_event_Find_1) := oneSpecGT s_event_Check event_Find_1_ok
noncomputable def slices_BinarySearchFunc_h0 : EP := ⟨[(0, .d shEvent), (1, .d .str), (2, .fn 91), (8, .d (.int .i64)), (9, .d (.int .i64)), (10, .d (.int .i64))], []⟩
noncomputable def slices_BinarySearchFunc_x0 : List (Exit × EP) := [(Exit.exit 0, ⟨[(0, .d shEvent), (1, .d .str), (2, .fn 91), (8, .d (.int .i64)), (9, .d (.int .i64))], []⟩)]
abbrev slices_BinarySearchFunc_S0 : Type := (List (ByteArray × V)) × ByteArray × Int × Int × Int × Unit
abbrev slices_BinarySearchFunc_Q0 : Type := ((List (ByteArray × V)) × ByteArray × Int × Int × Unit)
noncomputable def slices_BinarySearchFunc_b0 : slices_BinarySearchFunc_S0 → LT slices_BinarySearchFunc_S0 slices_BinarySearchFunc_Q0 := fun st => match st with
  | (a0, a1, a8, a9, a10, ()) => (.br (decide (a9 < a10)) (.br (decide (0 ≤ IntKind.i64.wrap ((IntKind.u64.wrap (IntKind.i64.wrap (a9 + a10))).fdiv (2 ^ min 1 IntKind.u64.bits)))) (.br (decide (IntKind.i64.wrap ((IntKind.u64.wrap (IntKind.i64.wrap (a9 + a10))).fdiv (2 ^ min 1 IntKind.u64.bits)) < Int.ofNat a0.length)) (.br (decide (Lib.compareBytes (getI a0 (IntKind.i64.wrap ((IntKind.u64.wrap (IntKind.i64.wrap (a9 + a10))).fdiv (2 ^ min 1 IntKind.u64.bits))) (ByteArray.mk #[], 0, 0, ByteArray.mk #[], false)).fst.data.toList a1.data.toList < 0)) (.next (a0, a1, a8, (IntKind.i64.wrap (IntKind.i64.wrap ((IntKind.u64.wrap (IntKind.i64.wrap (a9 + a10))).fdiv (2 ^ min 1 IntKind.u64.bits)) + 1)), a10, ())) (.next (a0, a1, a8, a9, (IntKind.i64.wrap ((IntKind.u64.wrap (IntKind.i64.wrap (a9 + a10))).fdiv (2 ^ min 1 IntKind.u64.bits))), ()))) .fail) .fail) (.ret (a0, a1, a8, a9, ())))
noncomputable def slices_BinarySearchFunc_l0 (st : slices_BinarySearchFunc_S0) : Option slices_BinarySearchFunc_Q0 := LT.loop slices_BinarySearchFunc_b0 FUEL st
noncomputable def slices_BinarySearchFunc_A : Anns := { l := [(3, [.keep [0, 1, 2, 8, 9, 10] []]), (100003, [.keep [0, 1, 2, 8, 9] []])], orc := [(3, genOrc slices_BinarySearchFunc_h0 slices_BinarySearchFunc_x0 slices_BinarySearchFunc_l0)], N := 1000, rng := [], ro := [], outs := none, nils := [] }
theorem slices_BinarySearchFunc_s0 : ∀ (st : slices_BinarySearchFunc_S0) m k, loopX slices_BinarySearchFunc_A (loopN Tryz.prog 90 0) (prep (tabsG L_event_Find_1) (annOf slices_BinarySearchFunc_A (loopN Tryz.prog 90 0))) (evalC Tryz.prog (tabsG L_event_Find_1) slices_BinarySearchFunc_A (loopN Tryz.prog 90 0)) (m + 1) (slices_BinarySearchFunc_h0.enc st) (outK (tabsG L_event_Find_1) slices_BinarySearchFunc_A (loopN Tryz.prog 90 0) k) = (slices_BinarySearchFunc_b0 st).run (exK slices_BinarySearchFunc_x0 k) (fun st' => loopX slices_BinarySearchFunc_A (loopN Tryz.prog 90 0) (prep (tabsG L_event_Find_1) (annOf slices_BinarySearchFunc_A (loopN Tryz.prog 90 0))) (evalC Tryz.prog (tabsG L_event_Find_1) slices_BinarySearchFunc_A (loopN Tryz.prog 90 0)) m (slices_BinarySearchFunc_h0.enc st') (outK (tabsG L_event_Find_1) slices_BinarySearchFunc_A (loopN Tryz.prog 90 0) k)) := by
  intro st m k
  obtain ⟨a0, a1, a8, a9, a10, ⟨⟩⟩ := st
  kernel_rfl
theorem slices_BinarySearchFunc_o0 : OrcOk Tryz.prog (tabsG L_event_Find_1) slices_BinarySearchFunc_A (loopN Tryz.prog 90 0) := genOrc_ok (h := slices_BinarySearchFunc_h0) (xs := slices_BinarySearchFunc_x0) (F := slices_BinarySearchFunc_l0) (bd := slices_BinarySearchFunc_b0) (fun _ => FUEL) (by kernel_rfl) (fun _ _ h => h) slices_BinarySearchFunc_s0
noncomputable def slices_BinarySearchFunc_t (p0 : (List (ByteArray × V))) (p1 : ByteArray) : FT (Int × Bool) := (.opt (slices_BinarySearchFunc_l0 (p0, p1, Int.ofNat p0.length, 0, Int.ofNat p0.length, ())) fun x2 => (.br (decide (x2.snd.snd.snd.fst < x2.snd.snd.fst)) (.br (decide (0 ≤ x2.snd.snd.snd.fst)) (.br (decide (x2.snd.snd.snd.fst < Int.ofNat (List.length x2.fst))) (.ret ((x2.snd.snd.snd.fst, Lib.compareBytes (getI x2.fst x2.snd.snd.snd.fst (ByteArray.mk #[], 0, 0, ByteArray.mk #[], false)).fst.data.toList x2.snd.fst.data.toList == 0))) .fail) .fail) (.ret ((x2.snd.snd.snd.fst, false)))))
noncomputable def slices_BinarySearchFunc (p0 : (List (ByteArray × V))) (p1 : ByteArray) : Option (Int × Bool) := (slices_BinarySearchFunc_t p0 p1).fin
noncomputable def slices_BinarySearchFunc_sp : CSpec := genSpecX [shEvent, .str] [(.int .i64), .bool] [91] (fun x => slices_BinarySearchFunc x.1 x.2)
theorem slices_BinarySearchFunc_ok : EnterOk Tryz.prog 90 ∧ CSpecOk Tryz.prog cfgG 90 slices_BinarySearchFunc_sp := ⟨enter Tryz.func90 (by kernel_rfl) (by kernel_rfl), genSpecX_ok (A := slices_BinarySearchFunc_A) (sa := [shEvent, .str]) (sr := [(.int .i64), .bool]) (ex := [91]) (bd := fun (x : (ArgT [shEvent, .str])) => slices_BinarySearchFunc_t x.1 x.2) (fitG L_event_Find_1) s_event_Find_1 mixed (by kernel_rfl) (loopsAll (l := [loopN Tryz.prog 90 0]) (by kernel_rfl) ⟨slices_BinarySearchFunc_o0, trivial⟩) (fun _ => rfl) (by
  intro x
  obtain ⟨p0, p1⟩ := x
  kernel_rfl)⟩
noncomputable def L_slices_BinarySearchFunc : List (Nat × CSpec) := (90, slices_BinarySearchFunc_sp) :: L_event_Find_1
theorem s_slices_BinarySearchFunc : SpecsOk Tryz.prog (tabsG L_slices_BinarySearchFunc) := oneSpecGT s_event_Find_1 slices_BinarySearchFunc_ok
noncomputable def event_Find_A : Anns := { l := [], orc := [], N := 1000, rng := [], ro := [], outs := none, nils := [] }
noncomputable def event_Find_t (p0 : (List (ByteArray × V))) (p1 : ByteArray) : FT (Int × Bool) := (.opt (slices_BinarySearchFunc p0 p1) fun x2 => (.ret x2))
noncomputable def event_Find (p0 : (List (ByteArray × V))) (p1 : ByteArray) : Option (Int × Bool) := (event_Find_t p0 p1).fin
noncomputable def event_Find_sp : CSpec := genSpec [shEvent, .str] [(.int .i64), .bool] (fun x => event_Find x.1 x.2)
theorem event_Find_ok : EnterOk Tryz.prog 63 ∧ CSpecOk Tryz.prog cfgG 63 event_Find_sp := ⟨enter Tryz.func63 (by kernel_rfl) (by kernel_rfl), genSpec_ok (A := event_Find_A) (sa := [shEvent, .str]) (sr := [(.int .i64), .bool]) (bd := fun (x : (ArgT [shEvent, .str])) => event_Find_t x.1 x.2) (fitG L_slices_BinarySearchFunc) s_slices_BinarySearchFunc mixed (by kernel_rfl) (loopsAll (l := []) (by kernel_rfl) trivial) (fun _ => rfl) (by
  intro x
  obtain ⟨p0, p1⟩ := x
  kernel_rfl)⟩
noncomputable def L_event_Find : List (Nat × CSpec) := (63, event_Find_sp) :: L_slices_BinarySearchFunc
theorem s_event_Find : SpecsOk Tryz.prog (tabsG L_event_Find) := oneSpecGT s_slices_BinarySearchFunc event_Find_ok
noncomputable def stringslite_HasPrefix_A : Anns := { l := [], orc := [], N := 1000, rng := [], ro := [], outs := none, nils := [] }
noncomputable def stringslite_HasPrefix_t (p0 : ByteArray) (p1 : ByteArray) : FT (Bool) := (.br (decide (Int.ofNat p0.size ≥ Int.ofNat p1.size)) (.br (decide (Int.ofNat p1.size ≤ Int.ofNat p0.size)) (.ret ((p0.extract (Int.toNat 0) (Int.ofNat p1.size).toNat).toList == p1.toList)) .fail) (.ret false))
noncomputable def stringslite_HasPrefix (p0 : ByteArray) (p1 : ByteArray) : Option (Bool) := (stringslite_HasPrefix_t p0 p1).fin
noncomputable def stringslite_HasPrefix_sp : CSpec := genSpec [.str, .str] [.bool] (fun x => stringslite_HasPrefix x.1 x.2)
theorem stringslite_HasPrefix_ok : EnterOk Tryz.prog 72 ∧ CSpecOk Tryz.prog cfgG 72 stringslite_HasPrefix_sp := ⟨enter Tryz.func72 (by kernel_rfl) (by kernel_rfl), genSpec_ok (A := stringslite_HasPrefix_A) (sa := [.str, .str]) (sr := [.bool]) (bd := fun (x : (ArgT [.str, .str])) => stringslite_HasPrefix_t x.1 x.2) (fitG L_event_Find) s_event_Find mixed (by kernel_rfl) (loopsAll (l := []) (by kernel_rfl) trivial) (fun _ => rfl) (by
  intro x
  obtain ⟨p0, p1⟩ := x
  kernel_rfl)⟩
noncomputable def L_stringslite_HasPrefix : List (Nat × CSpec) := (72, stringslite_HasPrefix_sp) :: L_event_Find
theorem s_stringslite_HasPrefix : SpecsOk Tryz.prog (tabsG L_stringslite_HasPrefix) := oneSpecGT s_event_Find stringslite_HasPrefix_ok
noncomputable def strings_HasPrefix_A : Anns := { l := [], orc := [], N := 1000, rng := [], ro := [], outs := none, nils := [] }
noncomputable def strings_HasPrefix_t (p0 : ByteArray) (p1 : ByteArray) : FT (Bool) := (.opt (stringslite_HasPrefix p0 p1) fun x2 => (.ret x2))
noncomputable def strings_HasPrefix (p0 : ByteArray) (p1 : ByteArray) : Option (Bool) := (strings_HasPrefix_t p0 p1).fin
noncomputable def strings_HasPrefix_sp : CSpec := genSpec [.str, .str] [.bool] (fun x => strings_HasPrefix x.1 x.2)
theorem strings_HasPrefix_ok : EnterOk Tryz.prog 53 ∧ CSpecOk Tryz.prog cfgG 53 strings_HasPrefix_sp := ⟨enter Tryz.func53 (by kernel_rfl) (by kernel_rfl), genSpec_ok (A := strings_HasPrefix_A) (sa := [.str, .str]) (sr := [.bool]) (bd := fun (x : (ArgT [.str, .str])) => strings_HasPrefix_t x.1 x.2) (fitG L_stringslite_HasPrefix) s_stringslite_HasPrefix mixed (by kernel_rfl) (loopsAll (l := []) (by kernel_rfl) trivial) (fun _ => rfl) (by
  intro x
  obtain ⟨p0, p1⟩ := x
  kernel_rfl)⟩
noncomputable def L_strings_HasPrefix : List (Nat × CSpec) := (53, strings_HasPrefix_sp) :: L_stringslite_HasPrefix
theorem s_strings_HasPrefix : SpecsOk Tryz.prog (tabsG L_strings_HasPrefix) := oneSpecGT s_stringslite_HasPrefix strings_HasPrefix_ok
noncomputable def filter_Holds_A : Anns := { l := [], orc := [], N := 1000, rng := [], ro := [], outs := none, nils := [] }
noncomputable def filter_Holds_t (p0 : Bd) (p1 : V) : FT (Bool) := (.br (p0.snd.fst != p1.fst) (.ret false) (.br (p0.snd.fst == 1) (.br (decide (p0.snd.snd.fst ≤ p1.snd.fst)) (.ret (decide (p1.snd.fst ≤ p0.snd.snd.snd.fst))) (.ret false)) (.br (p0.snd.fst == 2) (.br (ByteArray.toList p1.snd.snd.fst == ByteArray.toList p0.snd.snd.snd.snd.snd.fst) (.ret true) (.br (!p0.snd.snd.snd.snd.fst) (.opt (strings_HasPrefix p1.snd.snd.fst p0.snd.snd.snd.snd.snd.fst) fun x2 => (.ret x2)) (.ret false))) (.br p1.snd.snd.snd (.br p0.snd.snd.snd.snd.snd.snd.fst (.ret true) (.br (!p1.snd.snd.snd) (.ret p0.snd.snd.snd.snd.snd.snd.snd) (.ret false))) (.br (!p1.snd.snd.snd) (.ret p0.snd.snd.snd.snd.snd.snd.snd) (.ret false))))))
noncomputable def filter_Holds (p0 : Bd) (p1 : V) : Option (Bool) := (filter_Holds_t p0 p1).fin
noncomputable def filter_Holds_sp : CSpec := genSpec [shBound, shVal] [.bool] (fun x => filter_Holds x.1 x.2)
theorem filter_Holds_ok : EnterOk Tryz.prog 31 ∧ CSpecOk Tryz.prog cfgG 31 filter_Holds_sp := ⟨enter Tryz.func31 (by kernel_rfl) (by kernel_rfl), genSpec_ok (A := filter_Holds_A) (sa := [shBound, shVal]) (sr := [.bool]) (bd := fun (x : (ArgT [shBound, shVal])) => filter_Holds_t x.1 x.2) (fitG L_strings_HasPrefix) s_strings_HasPrefix mixed (by kernel_rfl) (loopsAll (l := []) (by kernel_rfl) trivial) (fun _ => rfl) (by
  intro x
  obtain ⟨p0, p1⟩ := x
  kernel_rfl)⟩
noncomputable def L_filter_Holds : List (Nat × CSpec) := (31, filter_Holds_sp) :: L_strings_HasPrefix
theorem s_filter_Holds : SpecsOk Tryz.prog (tabsG L_filter_Holds) := oneSpecGT s_strings_HasPrefix filter_Holds_ok
noncomputable def filter_Means_h0 : EP := ⟨[(1, .d shEvent), (12, .d (.sl shBound)), (13, .d (.int .i64)), (14, .d (.int .i64))], []⟩
noncomputable def filter_Means_x0 : List (Exit × EP) := [(Exit.ret, ⟨[(4, .d .bool)], []⟩), (Exit.exit 0, ⟨[], []⟩)]
abbrev filter_Means_S0 : Type := (List (ByteArray × V)) × (List Bd) × Int × Int × Unit
abbrev filter_Means_Q0 : Type := (Bool × Unit) ⊕ (Unit)
noncomputable def filter_Means_b0 : filter_Means_S0 → LT filter_Means_S0 filter_Means_Q0 := fun st => match st with
  | (a1, a12, a13, a14, ()) => (.br (decide (a14 < a13)) (.br (decide (0 ≤ a14)) (.br (decide (a14 < Int.ofNat a12.length)) (.opt (event_Find a1 (getI a12 a14 (ByteArray.mk #[], 0, 0, 0, false, ByteArray.mk #[], false, false)).fst) fun x7 => (.br (!x7.snd) (.ret (.inl (false, ()))) (.br (decide (0 ≤ x7.fst)) (.br (decide (x7.fst < Int.ofNat a1.length)) (.opt (filter_Holds (getI a12 a14 (ByteArray.mk #[], 0, 0, 0, false, ByteArray.mk #[], false, false)) (getI a1 x7.fst (ByteArray.mk #[], 0, 0, ByteArray.mk #[], false)).snd) fun x8 => (.br (!x8) (.ret (.inl (false, ()))) (.next (a1, a12, a13, (IntKind.i64.wrap (a14 + 1)), ())))) .fail) .fail))) .fail) .fail) (.ret (.inr ())))
noncomputable def filter_Means_l0 (st : filter_Means_S0) : Option filter_Means_Q0 := LT.loop filter_Means_b0 FUEL st
noncomputable def filter_Means_A : Anns := { l := [(4, [.keep [1, 12, 13, 14] []]), (100004, [.keep [4] []])], orc := [(4, genOrc filter_Means_h0 filter_Means_x0 filter_Means_l0)], N := 1000, rng := [], ro := [], outs := none, nils := [] }
theorem filter_Means_s0 : ∀ (st : filter_Means_S0) m k, loopX filter_Means_A (loopN Tryz.prog 43 0) (prep (tabsG L_filter_Holds) (annOf filter_Means_A (loopN Tryz.prog 43 0))) (evalC Tryz.prog (tabsG L_filter_Holds) filter_Means_A (loopN Tryz.prog 43 0)) (m + 1) (filter_Means_h0.enc st) (outK (tabsG L_filter_Holds) filter_Means_A (loopN Tryz.prog 43 0) k) = (filter_Means_b0 st).run (exK filter_Means_x0 k) (fun st' => loopX filter_Means_A (loopN Tryz.prog 43 0) (prep (tabsG L_filter_Holds) (annOf filter_Means_A (loopN Tryz.prog 43 0))) (evalC Tryz.prog (tabsG L_filter_Holds) filter_Means_A (loopN Tryz.prog 43 0)) m (filter_Means_h0.enc st') (outK (tabsG L_filter_Holds) filter_Means_A (loopN Tryz.prog 43 0) k)) := by
  intro st m k
  obtain ⟨a1, a12, a13, a14, ⟨⟩⟩ := st
  kernel_rfl
theorem filter_Means_o0 : OrcOk Tryz.prog (tabsG L_filter_Holds) filter_Means_A (loopN Tryz.prog 43 0) := genOrc_ok (h := filter_Means_h0) (xs := filter_Means_x0) (F := filter_Means_l0) (bd := filter_Means_b0) (fun _ => FUEL) (by kernel_rfl) (fun _ _ h => h) filter_Means_s0
noncomputable def filter_Means_t (p0 : Fil) (p1 : (List (ByteArray × V))) : FT (Bool) := (.br p0.fst (.ret false) (.opt (filter_Means_l0 (p1, p0.snd, Int.ofNat (List.length p0.snd), 0, ())) fun x12 => (.alt x12 (fun x13 => (.ret x13.fst)) (fun _ => (.ret true)))))
noncomputable def filter_Means (p0 : Fil) (p1 : (List (ByteArray × V))) : Option (Bool) := (filter_Means_t p0 p1).fin
noncomputable def filter_Means_sp : CSpec := genSpec [shFil, shEvent] [.bool] (fun x => filter_Means x.1 x.2)
theorem filter_Means_ok : EnterOk Tryz.prog 43 ∧ CSpecOk Tryz.prog cfgG 43 filter_Means_sp := ⟨enter Tryz.func43 (by kernel_rfl) (by kernel_rfl), genSpec_ok (A := filter_Means_A) (sa := [shFil, shEvent]) (sr := [.bool]) (bd := fun (x : (ArgT [shFil, shEvent])) => filter_Means_t x.1 x.2) (fitG L_filter_Holds) s_filter_Holds mixed (by kernel_rfl) (loopsAll (l := [loopN Tryz.prog 43 0]) (by kernel_rfl) ⟨filter_Means_o0, trivial⟩) (fun _ => rfl) (by
  intro x
  obtain ⟨p0, p1⟩ := x
  kernel_rfl)⟩
noncomputable def L_filter_Means : List (Nat × CSpec) := (43, filter_Means_sp) :: L_filter_Holds
theorem s_filter_Means : SpecsOk Tryz.prog (tabsG L_filter_Means) := oneSpecGT s_filter_Holds filter_Means_ok
noncomputable def filter_Right_A : Anns := { l := [], orc := [], N := 1000, rng := [], ro := [], outs := none, nils := [] }
noncomputable def filter_Right_t (p0 : Bd) (p1 : ByteArray) : FT (Bool) := (.br (p0.snd.fst == 1) (.br (decide (p0.snd.snd.fst ≤ p0.snd.snd.snd.fst)) (.br (eqB shBound (p0.fst, p0.snd.fst, 0, 0, p0.snd.snd.snd.snd) (p0.fst, p0.snd.fst, 0, 0, false, ByteArray.mk #[], false, false)) (.opt (event_Name p0.fst) fun x6 => (.br x6 (.ret (!(Op.bytesLess (ByteArray.toList p0.fst) p1.toList || ByteArray.toList p0.fst == p1.toList))) (.ret false))) (.ret false)) (.ret false)) (.br (p0.snd.fst == 2) (.br (decide (Int.ofNat (ByteArray.size p0.snd.snd.snd.snd.snd.fst) < 1000)) (.br (eqB shBound (p0.fst, p0.snd.fst, p0.snd.snd.fst, p0.snd.snd.snd.fst, false, ByteArray.mk #[], p0.snd.snd.snd.snd.snd.snd) (p0.fst, p0.snd.fst, 0, 0, false, ByteArray.mk #[], false, false)) (.opt (event_Name p0.fst) fun x7 => (.br x7 (.ret (!(Op.bytesLess (ByteArray.toList p0.fst) p1.toList || ByteArray.toList p0.fst == p1.toList))) (.ret false))) (.ret false)) (.br p0.snd.snd.snd.snd.fst (.br (Int.ofNat (ByteArray.size p0.snd.snd.snd.snd.snd.fst) == 1000) (.br (eqB shBound (p0.fst, p0.snd.fst, p0.snd.snd.fst, p0.snd.snd.snd.fst, false, ByteArray.mk #[], p0.snd.snd.snd.snd.snd.snd) (p0.fst, p0.snd.fst, 0, 0, false, ByteArray.mk #[], false, false)) (.opt (event_Name p0.fst) fun x8 => (.br x8 (.ret (!(Op.bytesLess (ByteArray.toList p0.fst) p1.toList || ByteArray.toList p0.fst == p1.toList))) (.ret false))) (.ret false)) (.ret false)) (.ret false))) (.br (p0.snd.fst == 3) (.br p0.snd.snd.snd.snd.snd.snd.fst (.br (eqB shBound (p0.fst, p0.snd.fst, p0.snd.snd.fst, p0.snd.snd.snd.fst, p0.snd.snd.snd.snd.fst, p0.snd.snd.snd.snd.snd.fst, false, false) (p0.fst, p0.snd.fst, 0, 0, false, ByteArray.mk #[], false, false)) (.opt (event_Name p0.fst) fun x9 => (.br x9 (.ret (!(Op.bytesLess (ByteArray.toList p0.fst) p1.toList || ByteArray.toList p0.fst == p1.toList))) (.ret false))) (.ret false)) (.br p0.snd.snd.snd.snd.snd.snd.snd (.br (eqB shBound (p0.fst, p0.snd.fst, p0.snd.snd.fst, p0.snd.snd.snd.fst, p0.snd.snd.snd.snd.fst, p0.snd.snd.snd.snd.snd.fst, false, false) (p0.fst, p0.snd.fst, 0, 0, false, ByteArray.mk #[], false, false)) (.opt (event_Name p0.fst) fun x10 => (.br x10 (.ret (!(Op.bytesLess (ByteArray.toList p0.fst) p1.toList || ByteArray.toList p0.fst == p1.toList))) (.ret false))) (.ret false)) (.ret false))) (.ret false))))
noncomputable def filter_Right (p0 : Bd) (p1 : ByteArray) : Option (Bool) := (filter_Right_t p0 p1).fin
noncomputable def filter_Right_sp : CSpec := genSpec [shBound, .str] [.bool] (fun x => filter_Right x.1 x.2)
theorem filter_Right_ok : EnterOk Tryz.prog 60 ∧ CSpecOk Tryz.prog cfgG 60 filter_Right_sp := ⟨enter Tryz.func60 (by kernel_rfl) (by kernel_rfl), genSpec_ok (A := filter_Right_A) (sa := [shBound, .str]) (sr := [.bool]) (bd := fun (x : (ArgT [shBound, .str])) => filter_Right_t x.1 x.2) (fitG L_filter_Means) s_filter_Means mixed (by kernel_rfl) (loopsAll (l := []) (by kernel_rfl) trivial) (fun _ => rfl) (by
  intro x
  obtain ⟨p0, p1⟩ := x
  kernel_rfl)⟩
noncomputable def L_filter_Right : List (Nat × CSpec) := (60, filter_Right_sp) :: L_filter_Means
theorem s_filter_Right : SpecsOk Tryz.prog (tabsG L_filter_Right) := oneSpecGT s_filter_Means filter_Right_ok
noncomputable def filter_Check_h0 : EP := ⟨[(1, .ref 1 0), (3, .d .str), (12, .d (.sl shBound)), (13, .d (.int .i64)), (14, .d (.int .i64))], [(1, .box 32 [.d .bool, .d (.sl shBound)])]⟩
noncomputable def filter_Check_x0 : List (Exit × EP) := [(Exit.ret, ⟨[(2, .d .err)], []⟩), (Exit.exit 0, ⟨[], []⟩)]
abbrev filter_Check_S0 : Type := ByteArray × (List Bd) × Int × Int × Bool × (List Bd) × Unit
abbrev filter_Check_Q0 : Type := (Err × Unit) ⊕ (Unit)
noncomputable def filter_Check_b0 : filter_Check_S0 → LT filter_Check_S0 filter_Check_Q0 := fun st => match st with
  | (a3, a12, a13, a14, r1_0, r1_1, ()) => (.br (decide (a14 < a13)) (.br (decide (0 ≤ a14)) (.br (decide (a14 < Int.ofNat a12.length)) (.br r1_0 (.ret (.inl ((some ([], 3)), ()))) (.opt (filter_Right (getI a12 a14 (ByteArray.mk #[], 0, 0, 0, false, ByteArray.mk #[], false, false)) a3) fun x4 => (.br (!x4) (.ret (.inl ((some ([], 3)), ()))) (.next (((getI a12 a14 (ByteArray.mk #[], 0, 0, 0, false, ByteArray.mk #[], false, false)).fst), a12, a13, (IntKind.i64.wrap (a14 + 1)), r1_0, r1_1, ()))))) .fail) .fail) (.ret (.inr ())))
noncomputable def filter_Check_l0 (st : filter_Check_S0) : Option filter_Check_Q0 := LT.loop filter_Check_b0 FUEL st
noncomputable def filter_Check_A : Anns := { l := [(5, [.keep [1, 3, 12, 13, 14] [1]]), (100005, [.keep [2] []])], orc := [(5, genOrc filter_Check_h0 filter_Check_x0 filter_Check_l0)], N := 1000, rng := [], ro := [], outs := none, nils := [] }
theorem filter_Check_s0 : ∀ (st : filter_Check_S0) m k, loopX filter_Check_A (loopN Tryz.prog 37 0) (prep (tabsG L_filter_Right) (annOf filter_Check_A (loopN Tryz.prog 37 0))) (evalC Tryz.prog (tabsG L_filter_Right) filter_Check_A (loopN Tryz.prog 37 0)) (m + 1) (filter_Check_h0.enc st) (outK (tabsG L_filter_Right) filter_Check_A (loopN Tryz.prog 37 0) k) = (filter_Check_b0 st).run (exK filter_Check_x0 k) (fun st' => loopX filter_Check_A (loopN Tryz.prog 37 0) (prep (tabsG L_filter_Right) (annOf filter_Check_A (loopN Tryz.prog 37 0))) (evalC Tryz.prog (tabsG L_filter_Right) filter_Check_A (loopN Tryz.prog 37 0)) m (filter_Check_h0.enc st') (outK (tabsG L_filter_Right) filter_Check_A (loopN Tryz.prog 37 0) k)) := by
  intro st m k
  obtain ⟨a3, a12, a13, a14, r1_0, r1_1, ⟨⟩⟩ := st
  kernel_rfl
theorem filter_Check_o0 : OrcOk Tryz.prog (tabsG L_filter_Right) filter_Check_A (loopN Tryz.prog 37 0) := genOrc_ok (h := filter_Check_h0) (xs := filter_Check_x0) (F := filter_Check_l0) (bd := filter_Check_b0) (fun _ => FUEL) (by kernel_rfl) (fun _ _ h => h) filter_Check_s0
noncomputable def filter_Check_t (p0 : Fil) : FT (Err) := (.br (decide (Int.ofNat (List.length p0.snd) > 16)) (.ret (some ([], 2))) (.opt (filter_Check_l0 (ByteArray.mk #[], p0.snd, Int.ofNat (List.length p0.snd), 0, p0.fst, p0.snd, ())) fun x8 => (.alt x8 (fun x9 => (.ret x9.fst)) (fun _ => (.ret none)))))
noncomputable def filter_Check (p0 : Fil) : Option (Err) := (filter_Check_t p0).fin
noncomputable def filter_Check_sp : CSpec := genSpec [shFil] [.err] (fun x => filter_Check x)
theorem filter_Check_ok : EnterOk Tryz.prog 37 ∧ CSpecOk Tryz.prog cfgG 37 filter_Check_sp := ⟨enter Tryz.func37 (by kernel_rfl) (by kernel_rfl), genSpec_ok (A := filter_Check_A) (sa := [shFil]) (sr := [.err]) (bd := fun (x : (ArgT [shFil])) => filter_Check_t x) (fitG L_filter_Right) s_filter_Right mixed (by kernel_rfl) (loopsAll (l := [loopN Tryz.prog 37 0]) (by kernel_rfl) ⟨filter_Check_o0, trivial⟩) (fun _ => rfl) (by
  intro x
  skip
  kernel_rfl)⟩
noncomputable def L_filter_Check : List (Nat × CSpec) := (37, filter_Check_sp) :: L_filter_Right
theorem s_filter_Check : SpecsOk Tryz.prog (tabsG L_filter_Check) := oneSpecGT s_filter_Right filter_Check_ok
noncomputable def slices_Clone_39_A : Anns := { l := [], orc := [], N := 1000, rng := [], ro := [], outs := none, nils := [1] }
noncomputable def slices_Clone_39_t (p0 : (List Bd)) : FT ((List Bd)) := (.rel (anyW (bif p0.isEmpty then [true, false] else [false])) (anyW_good (bif p0.isEmpty then [true, false] else [false])) fun x2 => (.br x2 (.ret ([])) (.br (appLim 72 0 p0.length) (.ret p0) .fail)))
noncomputable def slices_Clone_39 (p0 : (List Bd)) : Option ((List Bd)) := (slices_Clone_39_t p0).fin
noncomputable def slices_Clone_39_sp : CSpec := genSpec [(.sl shBound)] [(.sl shBound)] (fun x => slices_Clone_39 x)
theorem slices_Clone_39_ok : EnterOk Tryz.prog 61 ∧ CSpecOk Tryz.prog cfgG 61 slices_Clone_39_sp := ⟨enter Tryz.func61 (by kernel_rfl) (by kernel_rfl), genSpec_ok (A := slices_Clone_39_A) (sa := [(.sl shBound)]) (sr := [(.sl shBound)]) (bd := fun (x : (ArgT [(.sl shBound)])) => slices_Clone_39_t x) (fitG L_filter_Check) s_filter_Check mixed (by kernel_rfl) (loopsAll (l := []) (by kernel_rfl) trivial) (fun _ => rfl) (by
  intro x
  skip
  kernel_rfl)⟩
noncomputable def L_slices_Clone_39 : List (Nat × CSpec) := (61, slices_Clone_39_sp) :: L_filter_Check
theorem s_slices_Clone_39 : SpecsOk Tryz.prog (tabsG L_slices_Clone_39) := oneSpecGT s_filter_Check slices_Clone_39_ok
noncomputable def filter_Copy_A : Anns := { l := [], orc := [], N := 1000, rng := [], ro := [], outs := none, nils := [] }
noncomputable def filter_Copy_t (p0 : Fil) : FT (Fil) := (.opt (slices_Clone_39 p0.snd) fun x2 => (.ret ((p0.fst, x2))))
noncomputable def filter_Copy (p0 : Fil) : Option (Fil) := (filter_Copy_t p0).fin
noncomputable def filter_Copy_sp : CSpec := genSpec [shFil] [shFil] (fun x => filter_Copy x)
theorem filter_Copy_ok : EnterOk Tryz.prog 38 ∧ CSpecOk Tryz.prog cfgG 38 filter_Copy_sp := ⟨enter Tryz.func38 (by kernel_rfl) (by kernel_rfl), genSpec_ok (A := filter_Copy_A) (sa := [shFil]) (sr := [shFil]) (bd := fun (x : (ArgT [shFil])) => filter_Copy_t x) (fitG L_slices_Clone_39) s_slices_Clone_39 mixed (by kernel_rfl) (loopsAll (l := []) (by kernel_rfl) trivial) (fun _ => rfl) (by
  intro x
  skip
  kernel_rfl)⟩
noncomputable def L_filter_Copy : List (Nat × CSpec) := (38, filter_Copy_sp) :: L_slices_Clone_39
theorem s_filter_Copy : SpecsOk Tryz.prog (tabsG L_filter_Copy) := oneSpecGT s_slices_Clone_39 filter_Copy_ok
noncomputable def ref01_Same_h0 : EP := ⟨[(2, .ref 2 0), (3, .ref 3 0), (29, .d (.int .i64)), (30, .d (.int .i64))], [(2, .box 38 [.d .bool, .d (.sl shPlace), .d (.int .i64)]), (3, .box 38 [.d .bool, .d (.sl shPlace), .d (.int .i64)])]⟩
noncomputable def ref01_Same_x0 : List (Exit × EP) := [(Exit.ret, ⟨[(4, .d .bool)], []⟩), (Exit.exit 0, ⟨[], []⟩)]
abbrev ref01_Same_S0 : Type := Int × Int × Bool × (List (Int × Int)) × Int × Bool × (List (Int × Int)) × Int × Unit
abbrev ref01_Same_Q0 : Type := (Bool × Unit) ⊕ (Unit)
noncomputable def ref01_Same_b0 : ref01_Same_S0 → LT ref01_Same_S0 ref01_Same_Q0 := fun st => match st with
  | (a29, a30, r2_0, r2_1, r2_2, r3_0, r3_1, r3_2, ()) => (.br (decide (a30 < a29)) (.br (decide (0 ≤ a30)) (.br (decide (a30 < Int.ofNat r2_1.length)) (.br (decide (0 ≤ a30)) (.br (decide (a30 < Int.ofNat r3_1.length)) (.br (!eqB shPlace (getI r2_1 a30 (0, 0)) (getI r3_1 a30 (0, 0))) (.ret (.inl (false, ()))) (.next (a29, (IntKind.i64.wrap (a30 + 1)), r2_0, r2_1, r2_2, r3_0, r3_1, r3_2, ()))) .fail) .fail) .fail) .fail) (.ret (.inr ())))
noncomputable def ref01_Same_l0 (st : ref01_Same_S0) : Option ref01_Same_Q0 := LT.loop ref01_Same_b0 FUEL st
noncomputable def ref01_Same_A : Anns := { l := [(4, [.keep [2, 3, 29, 30] [2, 3]]), (100004, [.keep [4] []])], orc := [(4, genOrc ref01_Same_h0 ref01_Same_x0 ref01_Same_l0)], N := 1000, rng := [], ro := [], outs := none, nils := [] }
theorem ref01_Same_s0 : ∀ (st : ref01_Same_S0) m k, loopX ref01_Same_A (loopN Tryz.prog 35 0) (prep (tabsG L_filter_Copy) (annOf ref01_Same_A (loopN Tryz.prog 35 0))) (evalC Tryz.prog (tabsG L_filter_Copy) ref01_Same_A (loopN Tryz.prog 35 0)) (m + 1) (ref01_Same_h0.enc st) (outK (tabsG L_filter_Copy) ref01_Same_A (loopN Tryz.prog 35 0) k) = (ref01_Same_b0 st).run (exK ref01_Same_x0 k) (fun st' => loopX ref01_Same_A (loopN Tryz.prog 35 0) (prep (tabsG L_filter_Copy) (annOf ref01_Same_A (loopN Tryz.prog 35 0))) (evalC Tryz.prog (tabsG L_filter_Copy) ref01_Same_A (loopN Tryz.prog 35 0)) m (ref01_Same_h0.enc st') (outK (tabsG L_filter_Copy) ref01_Same_A (loopN Tryz.prog 35 0) k)) := by
  intro st m k
  obtain ⟨a29, a30, r2_0, r2_1, r2_2, r3_0, r3_1, r3_2, ⟨⟩⟩ := st
  kernel_rfl
theorem ref01_Same_o0 : OrcOk Tryz.prog (tabsG L_filter_Copy) ref01_Same_A (loopN Tryz.prog 35 0) := genOrc_ok (h := ref01_Same_h0) (xs := ref01_Same_x0) (F := ref01_Same_l0) (bd := ref01_Same_b0) (fun _ => FUEL) (by kernel_rfl) (fun _ _ h => h) ref01_Same_s0
noncomputable def ref01_Same_t (p0 : (Bool × List (Int × Int) × Int)) (p1 : (Bool × List (Int × Int) × Int)) : FT (Bool) := (.br (!p0.fst == p1.fst) (.ret false) (.br (p0.snd.snd != p1.snd.snd) (.ret false) (.br (Int.ofNat (List.length p0.snd.fst) != Int.ofNat (List.length p1.snd.fst)) (.ret false) (.opt (ref01_Same_l0 (Int.ofNat (List.length p0.snd.fst), 0, p0.fst, p0.snd.fst, p0.snd.snd, p1.fst, p1.snd.fst, p1.snd.snd, ())) fun x4 => (.alt x4 (fun x5 => (.ret x5.fst)) (fun _ => (.ret true)))))))
noncomputable def ref01_Same (p0 : (Bool × List (Int × Int) × Int)) (p1 : (Bool × List (Int × Int) × Int)) : Option (Bool) := (ref01_Same_t p0 p1).fin
noncomputable def ref01_Same_sp : CSpec := genSpec [shE, shE] [.bool] (fun x => ref01_Same x.1 x.2)
theorem ref01_Same_ok : EnterOk Tryz.prog 35 ∧ CSpecOk Tryz.prog cfgG 35 ref01_Same_sp := ⟨enter Tryz.func35 (by kernel_rfl) (by kernel_rfl), genSpec_ok (A := ref01_Same_A) (sa := [shE, shE]) (sr := [.bool]) (bd := fun (x : (ArgT [shE, shE])) => ref01_Same_t x.1 x.2) (fitG L_filter_Copy) s_filter_Copy mixed (by kernel_rfl) (loopsAll (l := [loopN Tryz.prog 35 0]) (by kernel_rfl) ⟨ref01_Same_o0, trivial⟩) (fun _ => rfl) (by
  intro x
  obtain ⟨p0, p1⟩ := x
  kernel_rfl)⟩
noncomputable def L_ref01_Same : List (Nat × CSpec) := (35, ref01_Same_sp) :: L_filter_Copy
theorem s_ref01_Same : SpecsOk Tryz.prog (tabsG L_ref01_Same) := oneSpecGT s_filter_Copy ref01_Same_ok
noncomputable def law01_Of_h0 : EP := ⟨[(0, .d .err), (2, .ref 2 0), (3, .ref 3 0), (10, .d (.int .i64))], [(2, .box 38 [.d .bool, .nsl, .d (.int .i64)]), (3, .box 38 [.d .bool, .own 9525, .d (.int .i64)]), (9525, .row 116 shPlace)]⟩
noncomputable def law01_Of_x0 : List (Exit × EP) := [(Exit.exit 0, ⟨[(0, .d .err), (2, .ref 2 0), (3, .ref 3 0)], [(2, .box 38 [.d .bool, .nsl, .d (.int .i64)]), (3, .box 38 [.d .bool, .own 9525, .d (.int .i64)]), (9525, .row 116 shPlace)]⟩)]
abbrev law01_Of_S0 : Type := Err × Int × Bool × Int × Bool × Int × (List (Int × Int)) × Unit
abbrev law01_Of_Q0 : Type := (Err × Bool × Int × Bool × Int × (List (Int × Int)) × Unit)
noncomputable def law01_Of_b0 : law01_Of_S0 → LT law01_Of_S0 law01_Of_Q0 := fun st => match st with
  | (a0, a10, r2_0, r2_1, r3_0, r3_1, r9525, ()) => (.br (decide (a10 < 200)) (.br ((errHead a0).isSome) (.opt (errHead a0) fun x6 => (.br (appLim 16 r9525.length 1) (.next (x6.snd, (IntKind.i64.wrap (a10 + 1)), r2_0, r2_1, r3_0, r3_1, (r9525 ++ [x6.fst]), ())) .fail)) (.ret (a0, r2_0, r2_1, r3_0, r3_1, r9525, ()))) (.ret (a0, r2_0, r2_1, r3_0, r3_1, r9525, ())))
noncomputable def law01_Of_l0 (st : law01_Of_S0) : Option law01_Of_Q0 := LT.loop law01_Of_b0 FUEL st
noncomputable def law01_Of_A : Anns := { l := [(5, [.keep [0, 2, 3, 10] [2, 3, 27], .ownB 3 1 9525 116, .keep [0, 2, 3, 10] [2, 3, 9525]]), (100005, [.keep [0, 2, 3] [2, 3, 9525]])], orc := [(5, genOrc law01_Of_h0 law01_Of_x0 law01_Of_l0)], N := 1000, rng := [], ro := [], outs := none, nils := [] }
theorem law01_Of_s0 : ∀ (st : law01_Of_S0) m k, loopX law01_Of_A (loopN Tryz.prog 36 0) (prep (tabsG L_ref01_Same) (annOf law01_Of_A (loopN Tryz.prog 36 0))) (evalC Tryz.prog (tabsG L_ref01_Same) law01_Of_A (loopN Tryz.prog 36 0)) (m + 1) (law01_Of_h0.enc st) (outK (tabsG L_ref01_Same) law01_Of_A (loopN Tryz.prog 36 0) k) = (law01_Of_b0 st).run (exK law01_Of_x0 k) (fun st' => loopX law01_Of_A (loopN Tryz.prog 36 0) (prep (tabsG L_ref01_Same) (annOf law01_Of_A (loopN Tryz.prog 36 0))) (evalC Tryz.prog (tabsG L_ref01_Same) law01_Of_A (loopN Tryz.prog 36 0)) m (law01_Of_h0.enc st') (outK (tabsG L_ref01_Same) law01_Of_A (loopN Tryz.prog 36 0) k)) := by
  intro st m k
  obtain ⟨a0, a10, r2_0, r2_1, r3_0, r3_1, r9525, ⟨⟩⟩ := st
  kernel_rfl
theorem law01_Of_o0 : OrcOk Tryz.prog (tabsG L_ref01_Same) law01_Of_A (loopN Tryz.prog 36 0) := genOrc_ok (h := law01_Of_h0) (xs := law01_Of_x0) (F := law01_Of_l0) (bd := law01_Of_b0) (fun _ => FUEL) (by kernel_rfl) (fun _ _ h => h) law01_Of_s0
noncomputable def law01_Of_t (p0 : Err) : FT ((Bool × List (Int × Int) × Int)) := (.br (Option.isNone p0) (.ret ((false, [], 0))) (.opt (law01_Of_l0 (p0, 0, false, 0, true, 0, [], ())) fun x9 => (.br (Option.isSome x9.fst) (.opt x9.fst fun x10 => (.ret ((x9.snd.snd.snd.fst, x9.snd.snd.snd.snd.snd.fst, x10.snd)))) (.ret ((x9.snd.snd.snd.fst, x9.snd.snd.snd.snd.snd.fst, x9.snd.snd.snd.snd.fst))))))
noncomputable def law01_Of (p0 : Err) : Option ((Bool × List (Int × Int) × Int)) := (law01_Of_t p0).fin
noncomputable def law01_Of_sp : CSpec := genSpec [.err] [shE] (fun x => law01_Of x)
theorem law01_Of_ok : EnterOk Tryz.prog 36 ∧ CSpecOk Tryz.prog cfgG 36 law01_Of_sp := ⟨enter Tryz.func36 (by kernel_rfl) (by kernel_rfl), genSpec_ok (A := law01_Of_A) (sa := [.err]) (sr := [shE]) (bd := fun (x : (ArgT [.err])) => law01_Of_t x) (fitG L_ref01_Same) s_ref01_Same mixed (by kernel_rfl) (loopsAll (l := [loopN Tryz.prog 36 0]) (by kernel_rfl) ⟨law01_Of_o0, trivial⟩) (fun _ => rfl) (by
  intro x
  skip
  kernel_rfl)⟩
noncomputable def L_law01_Of : List (Nat × CSpec) := (36, law01_Of_sp) :: L_ref01_Same
theorem s_law01_Of : SpecsOk Tryz.prog (tabsG L_law01_Of) := oneSpecGT s_ref01_Same law01_Of_ok
noncomputable def law08_fails_A : Anns := { l := [], orc := [], N := 1000, rng := [], ro := [], outs := none, nils := [] }
noncomputable def law08_fails_t (p0 : Err) (p1 : (Bool × List (Int × Int) × Int)) : FT (Bool) := (.opt (law01_Of p0) fun x3 => (.opt (ref01_Same x3 p1) fun x4 => (.ret x4)))
noncomputable def law08_fails (p0 : Err) (p1 : (Bool × List (Int × Int) × Int)) : Option (Bool) := (law08_fails_t p0 p1).fin
noncomputable def law08_fails_sp : CSpec := genSpec [.err, shE] [.bool] (fun x => law08_fails x.1 x.2)
theorem law08_fails_ok : EnterOk Tryz.prog 13 ∧ CSpecOk Tryz.prog cfgG 13 law08_fails_sp := ⟨enter Tryz.func13 (by kernel_rfl) (by kernel_rfl), genSpec_ok (A := law08_fails_A) (sa := [.err, shE]) (sr := [.bool]) (bd := fun (x : (ArgT [.err, shE])) => law08_fails_t x.1 x.2) (fitG L_law01_Of) s_law01_Of mixed (by kernel_rfl) (loopsAll (l := []) (by kernel_rfl) trivial) (fun _ => rfl) (by
  intro x
  obtain ⟨p0, p1⟩ := x
  kernel_rfl)⟩
noncomputable def L_law08_fails : List (Nat × CSpec) := (13, law08_fails_sp) :: L_law01_Of
theorem s_law08_fails : SpecsOk Tryz.prog (tabsG L_law08_fails) := oneSpecGT s_law01_Of law08_fails_ok
noncomputable def ref01_Ints_h0 : EP := ⟨[(0, .d (.sl (.int .i64))), (1, .d (.sl (.int .i64))), (12, .d (.int .i64)), (13, .d (.int .i64))], []⟩
noncomputable def ref01_Ints_x0 : List (Exit × EP) := [(Exit.ret, ⟨[(4, .d .bool)], []⟩), (Exit.exit 0, ⟨[], []⟩)]
abbrev ref01_Ints_S0 : Type := (List Int) × (List Int) × Int × Int × Unit
abbrev ref01_Ints_Q0 : Type := (Bool × Unit) ⊕ (Unit)
noncomputable def ref01_Ints_b0 : ref01_Ints_S0 → LT ref01_Ints_S0 ref01_Ints_Q0 := fun st => match st with
  | (a0, a1, a12, a13, ()) => (.br (decide (a13 < a12)) (.br (decide (0 ≤ a13)) (.br (decide (a13 < Int.ofNat a0.length)) (.br (decide (0 ≤ a13)) (.br (decide (a13 < Int.ofNat a1.length)) (.br (getI a0 a13 0 != getI a1 a13 0) (.ret (.inl (false, ()))) (.next (a0, a1, a12, (IntKind.i64.wrap (a13 + 1)), ()))) .fail) .fail) .fail) .fail) (.ret (.inr ())))
noncomputable def ref01_Ints_l0 (st : ref01_Ints_S0) : Option ref01_Ints_Q0 := LT.loop ref01_Ints_b0 FUEL st
noncomputable def ref01_Ints_A : Anns := { l := [(4, [.keep [0, 1, 12, 13] []]), (100004, [.keep [4] []])], orc := [(4, genOrc ref01_Ints_h0 ref01_Ints_x0 ref01_Ints_l0)], N := 1000, rng := [], ro := [], outs := none, nils := [] }
theorem ref01_Ints_s0 : ∀ (st : ref01_Ints_S0) m k, loopX ref01_Ints_A (loopN Tryz.prog 19 0) (prep (tabsG L_law08_fails) (annOf ref01_Ints_A (loopN Tryz.prog 19 0))) (evalC Tryz.prog (tabsG L_law08_fails) ref01_Ints_A (loopN Tryz.prog 19 0)) (m + 1) (ref01_Ints_h0.enc st) (outK (tabsG L_law08_fails) ref01_Ints_A (loopN Tryz.prog 19 0) k) = (ref01_Ints_b0 st).run (exK ref01_Ints_x0 k) (fun st' => loopX ref01_Ints_A (loopN Tryz.prog 19 0) (prep (tabsG L_law08_fails) (annOf ref01_Ints_A (loopN Tryz.prog 19 0))) (evalC Tryz.prog (tabsG L_law08_fails) ref01_Ints_A (loopN Tryz.prog 19 0)) m (ref01_Ints_h0.enc st') (outK (tabsG L_law08_fails) ref01_Ints_A (loopN Tryz.prog 19 0) k)) := by
  intro st m k
  obtain ⟨a0, a1, a12, a13, ⟨⟩⟩ := st
  kernel_rfl
theorem ref01_Ints_o0 : OrcOk Tryz.prog (tabsG L_law08_fails) ref01_Ints_A (loopN Tryz.prog 19 0) := genOrc_ok (h := ref01_Ints_h0) (xs := ref01_Ints_x0) (F := ref01_Ints_l0) (bd := ref01_Ints_b0) (fun _ => FUEL) (by kernel_rfl) (fun _ _ h => h) ref01_Ints_s0
noncomputable def ref01_Ints_t (p0 : (List Int)) (p1 : (List Int)) : FT (Bool) := (.br (Int.ofNat p0.length != Int.ofNat p1.length) (.ret false) (.opt (ref01_Ints_l0 (p0, p1, Int.ofNat p0.length, 0, ())) fun x4 => (.alt x4 (fun x5 => (.ret x5.fst)) (fun _ => (.ret true)))))
noncomputable def ref01_Ints (p0 : (List Int)) (p1 : (List Int)) : Option (Bool) := (ref01_Ints_t p0 p1).fin
noncomputable def ref01_Ints_sp : CSpec := genSpec [(.sl (.int .i64)), (.sl (.int .i64))] [.bool] (fun x => ref01_Ints x.1 x.2)
theorem ref01_Ints_ok : EnterOk Tryz.prog 19 ∧ CSpecOk Tryz.prog cfgG 19 ref01_Ints_sp := ⟨enter Tryz.func19 (by kernel_rfl) (by kernel_rfl), genSpec_ok (A := ref01_Ints_A) (sa := [(.sl (.int .i64)), (.sl (.int .i64))]) (sr := [.bool]) (bd := fun (x : (ArgT [(.sl (.int .i64)), (.sl (.int .i64))])) => ref01_Ints_t x.1 x.2) (fitG L_law08_fails) s_law08_fails mixed (by kernel_rfl) (loopsAll (l := [loopN Tryz.prog 19 0]) (by kernel_rfl) ⟨ref01_Ints_o0, trivial⟩) (fun _ => rfl) (by
  intro x
  obtain ⟨p0, p1⟩ := x
  kernel_rfl)⟩
noncomputable def L_ref01_Ints : List (Nat × CSpec) := (19, ref01_Ints_sp) :: L_law08_fails
theorem s_ref01_Ints : SpecsOk Tryz.prog (tabsG L_ref01_Ints) := oneSpecGT s_law08_fails ref01_Ints_ok
noncomputable def ref01_Strings_h0 : EP := ⟨[(0, .d (.sl .str)), (1, .d (.sl .str)), (12, .d (.int .i64)), (13, .d (.int .i64))], []⟩
noncomputable def ref01_Strings_x0 : List (Exit × EP) := [(Exit.ret, ⟨[(4, .d .bool)], []⟩), (Exit.exit 0, ⟨[], []⟩)]
abbrev ref01_Strings_S0 : Type := (List ByteArray) × (List ByteArray) × Int × Int × Unit
abbrev ref01_Strings_Q0 : Type := (Bool × Unit) ⊕ (Unit)
noncomputable def ref01_Strings_b0 : ref01_Strings_S0 → LT ref01_Strings_S0 ref01_Strings_Q0 := fun st => match st with
  | (a0, a1, a12, a13, ()) => (.br (decide (a13 < a12)) (.br (decide (0 ≤ a13)) (.br (decide (a13 < Int.ofNat a0.length)) (.br (decide (0 ≤ a13)) (.br (decide (a13 < Int.ofNat a1.length)) (.br (!ByteArray.toList (getI a0 a13 (ByteArray.mk #[])) == ByteArray.toList (getI a1 a13 (ByteArray.mk #[]))) (.ret (.inl (false, ()))) (.next (a0, a1, a12, (IntKind.i64.wrap (a13 + 1)), ()))) .fail) .fail) .fail) .fail) (.ret (.inr ())))
noncomputable def ref01_Strings_l0 (st : ref01_Strings_S0) : Option ref01_Strings_Q0 := LT.loop ref01_Strings_b0 FUEL st
noncomputable def ref01_Strings_A : Anns := { l := [(4, [.keep [0, 1, 12, 13] []]), (100004, [.keep [4] []])], orc := [(4, genOrc ref01_Strings_h0 ref01_Strings_x0 ref01_Strings_l0)], N := 1000, rng := [], ro := [], outs := none, nils := [] }
theorem ref01_Strings_s0 : ∀ (st : ref01_Strings_S0) m k, loopX ref01_Strings_A (loopN Tryz.prog 20 0) (prep (tabsG L_ref01_Ints) (annOf ref01_Strings_A (loopN Tryz.prog 20 0))) (evalC Tryz.prog (tabsG L_ref01_Ints) ref01_Strings_A (loopN Tryz.prog 20 0)) (m + 1) (ref01_Strings_h0.enc st) (outK (tabsG L_ref01_Ints) ref01_Strings_A (loopN Tryz.prog 20 0) k) = (ref01_Strings_b0 st).run (exK ref01_Strings_x0 k) (fun st' => loopX ref01_Strings_A (loopN Tryz.prog 20 0) (prep (tabsG L_ref01_Ints) (annOf ref01_Strings_A (loopN Tryz.prog 20 0))) (evalC Tryz.prog (tabsG L_ref01_Ints) ref01_Strings_A (loopN Tryz.prog 20 0)) m (ref01_Strings_h0.enc st') (outK (tabsG L_ref01_Ints) ref01_Strings_A (loopN Tryz.prog 20 0) k)) := by
  intro st m k
  obtain ⟨a0, a1, a12, a13, ⟨⟩⟩ := st
  kernel_rfl
theorem ref01_Strings_o0 : OrcOk Tryz.prog (tabsG L_ref01_Ints) ref01_Strings_A (loopN Tryz.prog 20 0) := genOrc_ok (h := ref01_Strings_h0) (xs := ref01_Strings_x0) (F := ref01_Strings_l0) (bd := ref01_Strings_b0) (fun _ => FUEL) (by kernel_rfl) (fun _ _ h => h) ref01_Strings_s0
noncomputable def ref01_Strings_t (p0 : (List ByteArray)) (p1 : (List ByteArray)) : FT (Bool) := (.br (Int.ofNat p0.length != Int.ofNat p1.length) (.ret false) (.opt (ref01_Strings_l0 (p0, p1, Int.ofNat p0.length, 0, ())) fun x4 => (.alt x4 (fun x5 => (.ret x5.fst)) (fun _ => (.ret true)))))
noncomputable def ref01_Strings (p0 : (List ByteArray)) (p1 : (List ByteArray)) : Option (Bool) := (ref01_Strings_t p0 p1).fin
noncomputable def ref01_Strings_sp : CSpec := genSpec [(.sl .str), (.sl .str)] [.bool] (fun x => ref01_Strings x.1 x.2)
theorem ref01_Strings_ok : EnterOk Tryz.prog 20 ∧ CSpecOk Tryz.prog cfgG 20 ref01_Strings_sp := ⟨enter Tryz.func20 (by kernel_rfl) (by kernel_rfl), genSpec_ok (A := ref01_Strings_A) (sa := [(.sl .str), (.sl .str)]) (sr := [.bool]) (bd := fun (x : (ArgT [(.sl .str), (.sl .str)])) => ref01_Strings_t x.1 x.2) (fitG L_ref01_Ints) s_ref01_Ints mixed (by kernel_rfl) (loopsAll (l := [loopN Tryz.prog 20 0]) (by kernel_rfl) ⟨ref01_Strings_o0, trivial⟩) (fun _ => rfl) (by
  intro x
  obtain ⟨p0, p1⟩ := x
  kernel_rfl)⟩
noncomputable def L_ref01_Strings : List (Nat × CSpec) := (20, ref01_Strings_sp) :: L_ref01_Ints
theorem s_ref01_Strings : SpecsOk Tryz.prog (tabsG L_ref01_Strings) := oneSpecGT s_ref01_Ints ref01_Strings_ok
noncomputable def ref01_At_A : Anns := { l := [], orc := [], N := 1000, rng := [], ro := [], outs := none, nils := [] }
noncomputable def ref01_At_t (p0 : Int) (p1 : Int) (p2 : (Bool × List (Int × Int) × Int)) : FT ((Bool × List (Int × Int) × Int)) := (.br (!p2.fst) (.ret p2) (.br (appLim 16 1 (List.length p2.snd.fst)) (.ret ((true, (p0, p1) :: p2.snd.fst, p2.snd.snd))) .fail))
noncomputable def ref01_At (p0 : Int) (p1 : Int) (p2 : (Bool × List (Int × Int) × Int)) : Option ((Bool × List (Int × Int) × Int)) := (ref01_At_t p0 p1 p2).fin
noncomputable def ref01_At_sp : CSpec := genSpec [(.int .i64), (.int .i64), shE] [shE] (fun x => ref01_At x.1 x.2.1 x.2.2)
theorem ref01_At_ok : EnterOk Tryz.prog 40 ∧ CSpecOk Tryz.prog cfgG 40 ref01_At_sp := ⟨enter Tryz.func40 (by kernel_rfl) (by kernel_rfl), genSpec_ok (A := ref01_At_A) (sa := [(.int .i64), (.int .i64), shE]) (sr := [shE]) (bd := fun (x : (ArgT [(.int .i64), (.int .i64), shE])) => ref01_At_t x.1 x.2.1 x.2.2) (fitG L_ref01_Strings) s_ref01_Strings mixed (by kernel_rfl) (loopsAll (l := []) (by kernel_rfl) trivial) (fun _ => rfl) (by
  intro x
  obtain ⟨p0, p1, p2⟩ := x
  kernel_rfl)⟩
noncomputable def L_ref01_At : List (Nat × CSpec) := (40, ref01_At_sp) :: L_ref01_Strings
theorem s_ref01_At : SpecsOk Tryz.prog (tabsG L_ref01_At) := oneSpecGT s_ref01_Strings ref01_At_ok
noncomputable def fault_First_h0 : EP := ⟨[(5, .d (.sl .err)), (6, .d (.int .i64)), (7, .d (.int .i64))], []⟩
noncomputable def fault_First_x0 : List (Exit × EP) := [(Exit.ret, ⟨[(2, .d .err)], []⟩), (Exit.exit 0, ⟨[], []⟩)]
abbrev fault_First_S0 : Type := (List Err) × Int × Int × Unit
abbrev fault_First_Q0 : Type := (Err × Unit) ⊕ (Unit)
noncomputable def fault_First_b0 : fault_First_S0 → LT fault_First_S0 fault_First_Q0 := fun st => match st with
  | (a5, a6, a7, ()) => (.br (decide (a7 < a6)) (.br (decide (0 ≤ a7)) (.br (decide (a7 < Int.ofNat a5.length)) (.br (!Option.isNone (getI a5 a7 none)) (.ret (.inl ((getI a5 a7 none), ()))) (.next (a5, a6, (IntKind.i64.wrap (a7 + 1)), ()))) .fail) .fail) (.ret (.inr ())))
noncomputable def fault_First_l0 (st : fault_First_S0) : Option fault_First_Q0 := LT.loop fault_First_b0 FUEL st
noncomputable def fault_First_A : Anns := { l := [(2, [.keep [5, 6, 7] []]), (100002, [.keep [2] []])], orc := [(2, genOrc fault_First_h0 fault_First_x0 fault_First_l0)], N := 1000, rng := [], ro := [], outs := none, nils := [] }
theorem fault_First_s0 : ∀ (st : fault_First_S0) m k, loopX fault_First_A (loopN Tryz.prog 42 0) (prep (tabsG L_ref01_At) (annOf fault_First_A (loopN Tryz.prog 42 0))) (evalC Tryz.prog (tabsG L_ref01_At) fault_First_A (loopN Tryz.prog 42 0)) (m + 1) (fault_First_h0.enc st) (outK (tabsG L_ref01_At) fault_First_A (loopN Tryz.prog 42 0) k) = (fault_First_b0 st).run (exK fault_First_x0 k) (fun st' => loopX fault_First_A (loopN Tryz.prog 42 0) (prep (tabsG L_ref01_At) (annOf fault_First_A (loopN Tryz.prog 42 0))) (evalC Tryz.prog (tabsG L_ref01_At) fault_First_A (loopN Tryz.prog 42 0)) m (fault_First_h0.enc st') (outK (tabsG L_ref01_At) fault_First_A (loopN Tryz.prog 42 0) k)) := by
  intro st m k
  obtain ⟨a5, a6, a7, ⟨⟩⟩ := st
  kernel_rfl
theorem fault_First_o0 : OrcOk Tryz.prog (tabsG L_ref01_At) fault_First_A (loopN Tryz.prog 42 0) := genOrc_ok (h := fault_First_h0) (xs := fault_First_x0) (F := fault_First_l0) (bd := fault_First_b0) (fun _ => FUEL) (by kernel_rfl) (fun _ _ h => h) fault_First_s0
noncomputable def fault_First_t (p0 : (List Err)) : FT (Err) := (.opt (fault_First_l0 (p0, Int.ofNat p0.length, 0, ())) fun x4 => (.alt x4 (fun x5 => (.ret x5.fst)) (fun _ => (.ret none))))
noncomputable def fault_First (p0 : (List Err)) : Option (Err) := (fault_First_t p0).fin
noncomputable def fault_First_sp : CSpec := genSpec [(.sl .err)] [.err] (fun x => fault_First x)
theorem fault_First_ok : EnterOk Tryz.prog 42 ∧ CSpecOk Tryz.prog cfgG 42 fault_First_sp := ⟨enter Tryz.func42 (by kernel_rfl) (by kernel_rfl), genSpec_ok (A := fault_First_A) (sa := [(.sl .err)]) (sr := [.err]) (bd := fun (x : (ArgT [(.sl .err)])) => fault_First_t x) (fitG L_ref01_At) s_ref01_At mixed (by kernel_rfl) (loopsAll (l := [loopN Tryz.prog 42 0]) (by kernel_rfl) ⟨fault_First_o0, trivial⟩) (fun _ => rfl) (by
  intro x
  skip
  kernel_rfl)⟩
noncomputable def L_fault_First : List (Nat × CSpec) := (42, fault_First_sp) :: L_ref01_At
theorem s_fault_First : SpecsOk Tryz.prog (tabsG L_fault_First) := oneSpecGT s_ref01_At fault_First_ok
noncomputable def filter_Match_A : Anns := { l := [], orc := [], N := 1000, rng := [], ro := [], outs := none, nils := [] }
noncomputable def filter_Match_t (p0 : Fil) (p1 : (List (ByteArray × V))) : FT (Bool × Err) := (.opt (filter_Check p0) fun x5 => (.opt (event_Check p1) fun x6 => (.opt (fault_First [x5, x6]) fun x7 => (.br (!x7.isNone) (.ret ((false, x7))) (.opt (filter_Means p0 p1) fun x8 => (.ret ((x8, none))))))))
noncomputable def filter_Match (p0 : Fil) (p1 : (List (ByteArray × V))) : Option (Bool × Err) := (filter_Match_t p0 p1).fin
noncomputable def filter_Match_sp : CSpec := genSpec [shFil, shEvent] [.bool, .err] (fun x => filter_Match x.1 x.2)
theorem filter_Match_ok : EnterOk Tryz.prog 22 ∧ CSpecOk Tryz.prog cfgG 22 filter_Match_sp := ⟨enter Tryz.func22 (by kernel_rfl) (by kernel_rfl), genSpec_ok (A := filter_Match_A) (sa := [shFil, shEvent]) (sr := [.bool, .err]) (bd := fun (x : (ArgT [shFil, shEvent])) => filter_Match_t x.1 x.2) (fitG L_fault_First) s_fault_First mixed (by kernel_rfl) (loopsAll (l := []) (by kernel_rfl) trivial) (fun _ => rfl) (by
  intro x
  obtain ⟨p0, p1⟩ := x
  kernel_rfl)⟩
noncomputable def L_filter_Match : List (Nat × CSpec) := (22, filter_Match_sp) :: L_fault_First
theorem s_filter_Match : SpecsOk Tryz.prog (tabsG L_filter_Match) := oneSpecGT s_fault_First filter_Match_ok
noncomputable def ref05_cut_h0 : EP := ⟨[(0, .d .str), (5, .d (.int .i64))], []⟩
noncomputable def ref05_cut_x0 : List (Exit × EP) := [(Exit.ret, ⟨[(2, .d .str), (3, .d .str), (4, .d .bool)], []⟩), (Exit.exit 0, ⟨[], []⟩)]
abbrev ref05_cut_S0 : Type := ByteArray × Int × Unit
abbrev ref05_cut_Q0 : Type := (ByteArray × ByteArray × Bool × Unit) ⊕ (Unit)
noncomputable def ref05_cut_b0 : ref05_cut_S0 → LT ref05_cut_S0 ref05_cut_Q0 := fun st => match st with
  | (a0, a5, ()) => (.br (decide (a5 < Int.ofNat a0.size)) (.br (decide (0 ≤ a5)) (.br (decide (a5 < Int.ofNat a0.size)) (.br (Int.ofNat (a0.data.toList.getD a5.toNat 0).toNat == 32) (.br (decide (0 ≤ a5)) (.br (decide (a5 ≤ Int.ofNat a0.size)) (.br (decide (0 ≤ IntKind.i64.wrap (a5 + 1))) (.br (decide (IntKind.i64.wrap (a5 + 1) ≤ Int.ofNat a0.size)) (.br (decide (Int.ofNat a0.size ≤ Int.ofNat a0.size)) (.ret (.inl ((a0.extract (Int.toNat 0) a5.toNat), (a0.extract (IntKind.i64.wrap (a5 + 1)).toNat (Int.ofNat a0.size).toNat), true, ()))) .fail) .fail) .fail) .fail) .fail) (.next (a0, (IntKind.i64.wrap (a5 + 1)), ()))) .fail) .fail) (.ret (.inr ())))
noncomputable def ref05_cut_l0 (st : ref05_cut_S0) : Option ref05_cut_Q0 := LT.loop ref05_cut_b0 FUEL st
noncomputable def ref05_cut_A : Anns := { l := [(2, [.keep [0, 5] []]), (100002, [.keep [2, 3, 4] []])], orc := [(2, genOrc ref05_cut_h0 ref05_cut_x0 ref05_cut_l0)], N := 1000, rng := [], ro := [], outs := none, nils := [] }
theorem ref05_cut_s0 : ∀ (st : ref05_cut_S0) m k, loopX ref05_cut_A (loopN Tryz.prog 66 0) (prep (tabsG L_filter_Match) (annOf ref05_cut_A (loopN Tryz.prog 66 0))) (evalC Tryz.prog (tabsG L_filter_Match) ref05_cut_A (loopN Tryz.prog 66 0)) (m + 1) (ref05_cut_h0.enc st) (outK (tabsG L_filter_Match) ref05_cut_A (loopN Tryz.prog 66 0) k) = (ref05_cut_b0 st).run (exK ref05_cut_x0 k) (fun st' => loopX ref05_cut_A (loopN Tryz.prog 66 0) (prep (tabsG L_filter_Match) (annOf ref05_cut_A (loopN Tryz.prog 66 0))) (evalC Tryz.prog (tabsG L_filter_Match) ref05_cut_A (loopN Tryz.prog 66 0)) m (ref05_cut_h0.enc st') (outK (tabsG L_filter_Match) ref05_cut_A (loopN Tryz.prog 66 0) k)) := by
  intro st m k
  obtain ⟨a0, a5, ⟨⟩⟩ := st
  kernel_rfl
theorem ref05_cut_o0 : OrcOk Tryz.prog (tabsG L_filter_Match) ref05_cut_A (loopN Tryz.prog 66 0) := genOrc_ok (h := ref05_cut_h0) (xs := ref05_cut_x0) (F := ref05_cut_l0) (bd := ref05_cut_b0) (fun _ => FUEL) (by kernel_rfl) (fun _ _ h => h) ref05_cut_s0
noncomputable def ref05_cut_t (p0 : ByteArray) : FT (ByteArray × ByteArray × Bool) := (.opt (ref05_cut_l0 (p0, 0, ())) fun x4 => (.alt x4 (fun x5 => (.ret ((x5.fst, x5.snd.fst, x5.snd.snd.fst)))) (fun _ => (.ret ((ByteArray.mk #[], ByteArray.mk #[], false))))))
noncomputable def ref05_cut (p0 : ByteArray) : Option (ByteArray × ByteArray × Bool) := (ref05_cut_t p0).fin
noncomputable def ref05_cut_sp : CSpec := genSpec [.str] [.str, .str, .bool] (fun x => ref05_cut x)
theorem ref05_cut_ok : EnterOk Tryz.prog 66 ∧ CSpecOk Tryz.prog cfgG 66 ref05_cut_sp := ⟨enter Tryz.func66 (by kernel_rfl) (by kernel_rfl), genSpec_ok (A := ref05_cut_A) (sa := [.str]) (sr := [.str, .str, .bool]) (bd := fun (x : (ArgT [.str])) => ref05_cut_t x) (fitG L_filter_Match) s_filter_Match mixed (by kernel_rfl) (loopsAll (l := [loopN Tryz.prog 66 0]) (by kernel_rfl) ⟨ref05_cut_o0, trivial⟩) (fun _ => rfl) (by
  intro x
  skip
  kernel_rfl)⟩
noncomputable def L_ref05_cut : List (Nat × CSpec) := (66, ref05_cut_sp) :: L_filter_Match
theorem s_ref05_cut : SpecsOk Tryz.prog (tabsG L_ref05_cut) := oneSpecGT s_filter_Match ref05_cut_ok
noncomputable def ref05_begins_A : Anns := { l := [], orc := [], N := 1000, rng := [], ro := [], outs := none, nils := [] }
noncomputable def ref05_begins_t (p0 : ByteArray) (p1 : ByteArray) : FT (Bool) := (.br (decide (Int.ofNat p0.size ≥ Int.ofNat p1.size)) (.br (decide (Int.ofNat p1.size ≤ Int.ofNat p0.size)) (.ret ((p0.extract (Int.toNat 0) (Int.ofNat p1.size).toNat).toList == p1.toList)) .fail) (.ret false))
noncomputable def ref05_begins (p0 : ByteArray) (p1 : ByteArray) : Option (Bool) := (ref05_begins_t p0 p1).fin
noncomputable def ref05_begins_sp : CSpec := genSpec [.str, .str] [.bool] (fun x => ref05_begins x.1 x.2)
theorem ref05_begins_ok : EnterOk Tryz.prog 93 ∧ CSpecOk Tryz.prog cfgG 93 ref05_begins_sp := ⟨enter Tryz.func93 (by kernel_rfl) (by kernel_rfl), genSpec_ok (A := ref05_begins_A) (sa := [.str, .str]) (sr := [.bool]) (bd := fun (x : (ArgT [.str, .str])) => ref05_begins_t x.1 x.2) (fitG L_ref05_cut) s_ref05_cut mixed (by kernel_rfl) (loopsAll (l := []) (by kernel_rfl) trivial) (fun _ => rfl) (by
  intro x
  obtain ⟨p0, p1⟩ := x
  kernel_rfl)⟩
noncomputable def L_ref05_begins : List (Nat × CSpec) := (93, ref05_begins_sp) :: L_ref05_cut
theorem s_ref05_begins : SpecsOk Tryz.prog (tabsG L_ref05_begins) := oneSpecGT s_ref05_cut ref05_begins_ok
noncomputable def ref05_Holds_A : Anns := { l := [], orc := [], N := 1000, rng := [], ro := [], outs := none, nils := [] }
noncomputable def ref05_Holds_t (p0 : Bd) (p1 : V) : FT (Bool) := (.br (p0.snd.fst != p1.fst) (.ret false) (.br (p1.fst == 1) (.br (decide (p0.snd.snd.fst ≤ p1.snd.fst)) (.ret (decide (p1.snd.fst ≤ p0.snd.snd.snd.fst))) (.ret false)) (.br (p1.fst == 2) (.br p0.snd.snd.snd.snd.fst (.br (ByteArray.toList p1.snd.snd.fst == ByteArray.toList p0.snd.snd.snd.snd.snd.fst) (.ret true) (.br (!p0.snd.snd.snd.snd.fst) (.opt (ref05_begins p1.snd.snd.fst p0.snd.snd.snd.snd.snd.fst) fun x3 => (.ret x3)) (.ret false))) (.br (!p0.snd.snd.snd.snd.fst) (.opt (ref05_begins p1.snd.snd.fst p0.snd.snd.snd.snd.snd.fst) fun x4 => (.ret x4)) (.ret false))) (.br p1.snd.snd.snd (.br p0.snd.snd.snd.snd.snd.snd.fst (.ret true) (.br (!p1.snd.snd.snd) (.ret p0.snd.snd.snd.snd.snd.snd.snd) (.ret false))) (.br (!p1.snd.snd.snd) (.ret p0.snd.snd.snd.snd.snd.snd.snd) (.ret false))))))
noncomputable def ref05_Holds (p0 : Bd) (p1 : V) : Option (Bool) := (ref05_Holds_t p0 p1).fin
noncomputable def ref05_Holds_sp : CSpec := genSpec [shBound, shVal] [.bool] (fun x => ref05_Holds x.1 x.2)
theorem ref05_Holds_ok : EnterOk Tryz.prog 70 ∧ CSpecOk Tryz.prog cfgG 70 ref05_Holds_sp := ⟨enter Tryz.func70 (by kernel_rfl) (by kernel_rfl), genSpec_ok (A := ref05_Holds_A) (sa := [shBound, shVal]) (sr := [.bool]) (bd := fun (x : (ArgT [shBound, shVal])) => ref05_Holds_t x.1 x.2) (fitG L_ref05_begins) s_ref05_begins mixed (by kernel_rfl) (loopsAll (l := []) (by kernel_rfl) trivial) (fun _ => rfl) (by
  intro x
  obtain ⟨p0, p1⟩ := x
  kernel_rfl)⟩
noncomputable def L_ref05_Holds : List (Nat × CSpec) := (70, ref05_Holds_sp) :: L_ref05_begins
theorem s_ref05_Holds : SpecsOk Tryz.prog (tabsG L_ref05_Holds) := oneSpecGT s_ref05_begins ref05_Holds_ok
noncomputable def ref05_both_A : Anns := { l := [], orc := [], N := 1000, rng := [], ro := [], outs := none, nils := [] }
noncomputable def ref05_both_t (p0 : Bd) (p1 : Bd) : FT (Bd × Bool) := (.br (p0.snd.fst != p1.snd.fst) (.ret (((ByteArray.mk #[], 0, 0, 0, false, ByteArray.mk #[], false, false), false))) (.br (p0.snd.fst == 1) (.ret (((p0.fst, p0.snd.fst, bif decide (p0.snd.snd.fst < p1.snd.snd.fst) then p1.snd.snd.fst else p0.snd.snd.fst, bif decide (p1.snd.snd.snd.fst < p0.snd.snd.snd.fst) then p1.snd.snd.snd.fst else p0.snd.snd.snd.fst, p0.snd.snd.snd.snd), decide ((bif decide (p0.snd.snd.fst < p1.snd.snd.fst) then p1.snd.snd.fst else p0.snd.snd.fst) ≤ bif decide (p1.snd.snd.snd.fst < p0.snd.snd.snd.fst) then p1.snd.snd.snd.fst else p0.snd.snd.snd.fst)))) (.br (p0.snd.fst == 2) (.br p1.snd.snd.snd.snd.fst (.opt (ref05_Holds p0 (2, 0, p1.snd.snd.snd.snd.snd.fst, false)) fun x5 => (.ret ((p1, x5)))) (.br (!p0.snd.snd.snd.snd.fst) (.br (decide (Int.ofNat (ByteArray.size p1.snd.snd.snd.snd.snd.fst) > Int.ofNat (ByteArray.size p0.snd.snd.snd.snd.snd.fst))) (.opt (ref05_Holds p0 (2, 0, p1.snd.snd.snd.snd.snd.fst, false)) fun x6 => (.ret ((p1, x6)))) (.opt (ref05_Holds p1 (2, 0, p0.snd.snd.snd.snd.snd.fst, false)) fun x7 => (.ret ((p0, x7))))) (.opt (ref05_Holds p1 (2, 0, p0.snd.snd.snd.snd.snd.fst, false)) fun x8 => (.ret ((p0, x8)))))) (.br p0.snd.snd.snd.snd.snd.snd.fst (.br p0.snd.snd.snd.snd.snd.snd.snd (.br p1.snd.snd.snd.snd.snd.snd.fst (.ret (((p0.fst, p0.snd.fst, p0.snd.snd.fst, p0.snd.snd.snd.fst, p0.snd.snd.snd.snd.fst, p0.snd.snd.snd.snd.snd.fst, p1.snd.snd.snd.snd.snd.snd), true))) (.ret (((p0.fst, p0.snd.fst, p0.snd.snd.fst, p0.snd.snd.snd.fst, p0.snd.snd.snd.snd.fst, p0.snd.snd.snd.snd.snd.fst, p1.snd.snd.snd.snd.snd.snd), p1.snd.snd.snd.snd.snd.snd.snd)))) (.br p1.snd.snd.snd.snd.snd.snd.fst (.ret (((p0.fst, p0.snd.fst, p0.snd.snd.fst, p0.snd.snd.snd.fst, p0.snd.snd.snd.snd.fst, p0.snd.snd.snd.snd.snd.fst, p1.snd.snd.snd.snd.snd.snd.fst, false), true))) (.ret (((p0.fst, p0.snd.fst, p0.snd.snd.fst, p0.snd.snd.snd.fst, p0.snd.snd.snd.snd.fst, p0.snd.snd.snd.snd.snd.fst, p1.snd.snd.snd.snd.snd.snd.fst, false), false))))) (.br p0.snd.snd.snd.snd.snd.snd.snd (.ret (((p0.fst, p0.snd.fst, p0.snd.snd.fst, p0.snd.snd.snd.fst, p0.snd.snd.snd.snd.fst, p0.snd.snd.snd.snd.snd.fst, false, p1.snd.snd.snd.snd.snd.snd.snd), p1.snd.snd.snd.snd.snd.snd.snd))) (.ret (((p0.fst, p0.snd.fst, p0.snd.snd.fst, p0.snd.snd.snd.fst, p0.snd.snd.snd.snd.fst, p0.snd.snd.snd.snd.snd.fst, false, false), false))))))))
noncomputable def ref05_both (p0 : Bd) (p1 : Bd) : Option (Bd × Bool) := (ref05_both_t p0 p1).fin
noncomputable def ref05_both_sp : CSpec := genSpec [shBound, shBound] [shBound, .bool] (fun x => ref05_both x.1 x.2)
theorem ref05_both_ok : EnterOk Tryz.prog 97 ∧ CSpecOk Tryz.prog cfgG 97 ref05_both_sp := ⟨enter Tryz.func97 (by kernel_rfl) (by kernel_rfl), genSpec_ok (A := ref05_both_A) (sa := [shBound, shBound]) (sr := [shBound, .bool]) (bd := fun (x : (ArgT [shBound, shBound])) => ref05_both_t x.1 x.2) (fitG L_ref05_Holds) s_ref05_Holds mixed (by kernel_rfl) (loopsAll (l := []) (by kernel_rfl) trivial) (fun _ => rfl) (by
  intro x
  obtain ⟨p0, p1⟩ := x
  kernel_rfl)⟩
noncomputable def L_ref05_both : List (Nat × CSpec) := (97, ref05_both_sp) :: L_ref05_Holds
theorem s_ref05_both : SpecsOk Tryz.prog (tabsG L_ref05_both) := oneSpecGT s_ref05_Holds ref05_both_ok
noncomputable def ref05_And_h0 : EP := ⟨[(2, .ref 2 0), (3, .ref 3 0), (4, .ref 4 0), (5, .ref 5 0), (6, .d (.int .i64)), (7, .d (.int .i64))], [(2, .box 32 [.d .bool, .d (.sl shBound)]), (3, .box 32 [.d .bool, .d (.sl shBound)]), (4, .box 32 [.d .bool, .nsl]), (5, .box 32 [.d .bool, .own 9541]), (9541, .row 58 shBound)]⟩
noncomputable def ref05_And_x0 : List (Exit × EP) := [(Exit.ret, ⟨[(4, .ref 4 0), (5, .ref 5 0)], [(4, .box 32 [.d .bool, .nsl]), (5, .box 32 [.d .bool, .own 9541]), (9541, .row 58 shBound)]⟩), (Exit.exit 0, ⟨[(4, .ref 4 0), (5, .ref 5 0)], [(4, .box 32 [.d .bool, .nsl]), (5, .box 32 [.d .bool, .own 9541]), (9541, .row 58 shBound)]⟩)]
abbrev ref05_And_S0 : Type := Int × Int × Bool × (List Bd) × Bool × (List Bd) × Bool × Bool × (List Bd) × Unit
abbrev ref05_And_Q0 : Type := (Bool × Bool × (List Bd) × Unit) ⊕ (Bool × Bool × (List Bd) × Unit)
noncomputable def ref05_And_b0 : ref05_And_S0 → LT ref05_And_S0 ref05_And_Q0 := fun st => match st with
  | (a6, a7, r2_0, r2_1, r3_0, r3_1, r4, r5, r9541, ()) => (.br (decide (a6 < Int.ofNat r2_1.length)) (.br (a7 == Int.ofNat r3_1.length) (.br (decide (0 ≤ a6)) (.br (decide (a6 < Int.ofNat r2_1.length)) (.br (appLim 72 r9541.length 1) (.next ((IntKind.i64.wrap (a6 + 1)), a7, r2_0, r2_1, r3_0, r3_1, r4, r5, (r9541 ++ [getI r2_1 a6 (ByteArray.mk #[], 0, 0, 0, false, ByteArray.mk #[], false, false)]), ())) .fail) .fail) .fail) (.br (decide (a6 < Int.ofNat r2_1.length)) (.br (decide (0 ≤ a6)) (.br (decide (a6 < Int.ofNat r2_1.length)) (.br (decide (0 ≤ a7)) (.br (decide (a7 < Int.ofNat r3_1.length)) (.br (Op.bytesLess (ByteArray.toList (getI r2_1 a6 (ByteArray.mk #[], 0, 0, 0, false, ByteArray.mk #[], false, false)).fst) (ByteArray.toList (getI r3_1 a7 (ByteArray.mk #[], 0, 0, 0, false, ByteArray.mk #[], false, false)).fst)) (.br (decide (0 ≤ a6)) (.br (decide (a6 < Int.ofNat r2_1.length)) (.br (appLim 72 r9541.length 1) (.next ((IntKind.i64.wrap (a6 + 1)), a7, r2_0, r2_1, r3_0, r3_1, r4, r5, (r9541 ++ [getI r2_1 a6 (ByteArray.mk #[], 0, 0, 0, false, ByteArray.mk #[], false, false)]), ())) .fail) .fail) .fail) (.br (a6 == Int.ofNat r2_1.length) (.br (decide (0 ≤ a7)) (.br (decide (a7 < Int.ofNat r3_1.length)) (.br (appLim 72 r9541.length 1) (.next (a6, (IntKind.i64.wrap (a7 + 1)), r2_0, r2_1, r3_0, r3_1, r4, r5, (r9541 ++ [getI r3_1 a7 (ByteArray.mk #[], 0, 0, 0, false, ByteArray.mk #[], false, false)]), ())) .fail) .fail) .fail) (.br (decide (0 ≤ a7)) (.br (decide (a7 < Int.ofNat r3_1.length)) (.br (decide (0 ≤ a6)) (.br (decide (a6 < Int.ofNat r2_1.length)) (.br (Op.bytesLess (ByteArray.toList (getI r3_1 a7 (ByteArray.mk #[], 0, 0, 0, false, ByteArray.mk #[], false, false)).fst) (ByteArray.toList (getI r2_1 a6 (ByteArray.mk #[], 0, 0, 0, false, ByteArray.mk #[], false, false)).fst)) (.br (decide (0 ≤ a7)) (.br (decide (a7 < Int.ofNat r3_1.length)) (.br (appLim 72 r9541.length 1) (.next (a6, (IntKind.i64.wrap (a7 + 1)), r2_0, r2_1, r3_0, r3_1, r4, r5, (r9541 ++ [getI r3_1 a7 (ByteArray.mk #[], 0, 0, 0, false, ByteArray.mk #[], false, false)]), ())) .fail) .fail) .fail) (.br (decide (0 ≤ a6)) (.br (decide (a6 < Int.ofNat r2_1.length)) (.br (decide (0 ≤ a7)) (.br (decide (a7 < Int.ofNat r3_1.length)) (.opt (ref05_both (getI r2_1 a6 (ByteArray.mk #[], 0, 0, 0, false, ByteArray.mk #[], false, false)) (getI r3_1 a7 (ByteArray.mk #[], 0, 0, 0, false, ByteArray.mk #[], false, false))) fun x21 => (.br (!x21.snd) (.ret (.inl (true, r5, r9541, ()))) (.br (appLim 72 r9541.length 1) (.next ((IntKind.i64.wrap (a6 + 1)), (IntKind.i64.wrap (a7 + 1)), r2_0, r2_1, r3_0, r3_1, r4, r5, (r9541 ++ [x21.fst]), ())) .fail))) .fail) .fail) .fail) .fail)) .fail) .fail) .fail) .fail))) .fail) .fail) .fail) .fail) (.br (a6 == Int.ofNat r2_1.length) (.br (decide (0 ≤ a7)) (.br (decide (a7 < Int.ofNat r3_1.length)) (.br (appLim 72 r9541.length 1) (.next (a6, (IntKind.i64.wrap (a7 + 1)), r2_0, r2_1, r3_0, r3_1, r4, r5, (r9541 ++ [getI r3_1 a7 (ByteArray.mk #[], 0, 0, 0, false, ByteArray.mk #[], false, false)]), ())) .fail) .fail) .fail) (.br (decide (0 ≤ a7)) (.br (decide (a7 < Int.ofNat r3_1.length)) (.br (decide (0 ≤ a6)) (.br (decide (a6 < Int.ofNat r2_1.length)) (.br (Op.bytesLess (ByteArray.toList (getI r3_1 a7 (ByteArray.mk #[], 0, 0, 0, false, ByteArray.mk #[], false, false)).fst) (ByteArray.toList (getI r2_1 a6 (ByteArray.mk #[], 0, 0, 0, false, ByteArray.mk #[], false, false)).fst)) (.br (decide (0 ≤ a7)) (.br (decide (a7 < Int.ofNat r3_1.length)) (.br (appLim 72 r9541.length 1) (.next (a6, (IntKind.i64.wrap (a7 + 1)), r2_0, r2_1, r3_0, r3_1, r4, r5, (r9541 ++ [getI r3_1 a7 (ByteArray.mk #[], 0, 0, 0, false, ByteArray.mk #[], false, false)]), ())) .fail) .fail) .fail) (.br (decide (0 ≤ a6)) (.br (decide (a6 < Int.ofNat r2_1.length)) (.br (decide (0 ≤ a7)) (.br (decide (a7 < Int.ofNat r3_1.length)) (.opt (ref05_both (getI r2_1 a6 (ByteArray.mk #[], 0, 0, 0, false, ByteArray.mk #[], false, false)) (getI r3_1 a7 (ByteArray.mk #[], 0, 0, 0, false, ByteArray.mk #[], false, false))) fun x22 => (.br (!x22.snd) (.ret (.inl (true, r5, r9541, ()))) (.br (appLim 72 r9541.length 1) (.next ((IntKind.i64.wrap (a6 + 1)), (IntKind.i64.wrap (a7 + 1)), r2_0, r2_1, r3_0, r3_1, r4, r5, (r9541 ++ [x22.fst]), ())) .fail))) .fail) .fail) .fail) .fail)) .fail) .fail) .fail) .fail)))) (.br (decide (a7 < Int.ofNat r3_1.length)) (.br (a7 == Int.ofNat r3_1.length) (.br (decide (0 ≤ a6)) (.br (decide (a6 < Int.ofNat r2_1.length)) (.br (appLim 72 r9541.length 1) (.next ((IntKind.i64.wrap (a6 + 1)), a7, r2_0, r2_1, r3_0, r3_1, r4, r5, (r9541 ++ [getI r2_1 a6 (ByteArray.mk #[], 0, 0, 0, false, ByteArray.mk #[], false, false)]), ())) .fail) .fail) .fail) (.br (decide (a6 < Int.ofNat r2_1.length)) (.br (decide (0 ≤ a6)) (.br (decide (a6 < Int.ofNat r2_1.length)) (.br (decide (0 ≤ a7)) (.br (decide (a7 < Int.ofNat r3_1.length)) (.br (Op.bytesLess (ByteArray.toList (getI r2_1 a6 (ByteArray.mk #[], 0, 0, 0, false, ByteArray.mk #[], false, false)).fst) (ByteArray.toList (getI r3_1 a7 (ByteArray.mk #[], 0, 0, 0, false, ByteArray.mk #[], false, false)).fst)) (.br (decide (0 ≤ a6)) (.br (decide (a6 < Int.ofNat r2_1.length)) (.br (appLim 72 r9541.length 1) (.next ((IntKind.i64.wrap (a6 + 1)), a7, r2_0, r2_1, r3_0, r3_1, r4, r5, (r9541 ++ [getI r2_1 a6 (ByteArray.mk #[], 0, 0, 0, false, ByteArray.mk #[], false, false)]), ())) .fail) .fail) .fail) (.br (a6 == Int.ofNat r2_1.length) (.br (decide (0 ≤ a7)) (.br (decide (a7 < Int.ofNat r3_1.length)) (.br (appLim 72 r9541.length 1) (.next (a6, (IntKind.i64.wrap (a7 + 1)), r2_0, r2_1, r3_0, r3_1, r4, r5, (r9541 ++ [getI r3_1 a7 (ByteArray.mk #[], 0, 0, 0, false, ByteArray.mk #[], false, false)]), ())) .fail) .fail) .fail) (.br (decide (0 ≤ a7)) (.br (decide (a7 < Int.ofNat r3_1.length)) (.br (decide (0 ≤ a6)) (.br (decide (a6 < Int.ofNat r2_1.length)) (.br (Op.bytesLess (ByteArray.toList (getI r3_1 a7 (ByteArray.mk #[], 0, 0, 0, false, ByteArray.mk #[], false, false)).fst) (ByteArray.toList (getI r2_1 a6 (ByteArray.mk #[], 0, 0, 0, false, ByteArray.mk #[], false, false)).fst)) (.br (decide (0 ≤ a7)) (.br (decide (a7 < Int.ofNat r3_1.length)) (.br (appLim 72 r9541.length 1) (.next (a6, (IntKind.i64.wrap (a7 + 1)), r2_0, r2_1, r3_0, r3_1, r4, r5, (r9541 ++ [getI r3_1 a7 (ByteArray.mk #[], 0, 0, 0, false, ByteArray.mk #[], false, false)]), ())) .fail) .fail) .fail) (.br (decide (0 ≤ a6)) (.br (decide (a6 < Int.ofNat r2_1.length)) (.br (decide (0 ≤ a7)) (.br (decide (a7 < Int.ofNat r3_1.length)) (.opt (ref05_both (getI r2_1 a6 (ByteArray.mk #[], 0, 0, 0, false, ByteArray.mk #[], false, false)) (getI r3_1 a7 (ByteArray.mk #[], 0, 0, 0, false, ByteArray.mk #[], false, false))) fun x23 => (.br (!x23.snd) (.ret (.inl (true, r5, r9541, ()))) (.br (appLim 72 r9541.length 1) (.next ((IntKind.i64.wrap (a6 + 1)), (IntKind.i64.wrap (a7 + 1)), r2_0, r2_1, r3_0, r3_1, r4, r5, (r9541 ++ [x23.fst]), ())) .fail))) .fail) .fail) .fail) .fail)) .fail) .fail) .fail) .fail))) .fail) .fail) .fail) .fail) (.br (a6 == Int.ofNat r2_1.length) (.br (decide (0 ≤ a7)) (.br (decide (a7 < Int.ofNat r3_1.length)) (.br (appLim 72 r9541.length 1) (.next (a6, (IntKind.i64.wrap (a7 + 1)), r2_0, r2_1, r3_0, r3_1, r4, r5, (r9541 ++ [getI r3_1 a7 (ByteArray.mk #[], 0, 0, 0, false, ByteArray.mk #[], false, false)]), ())) .fail) .fail) .fail) (.br (decide (0 ≤ a7)) (.br (decide (a7 < Int.ofNat r3_1.length)) (.br (decide (0 ≤ a6)) (.br (decide (a6 < Int.ofNat r2_1.length)) (.br (Op.bytesLess (ByteArray.toList (getI r3_1 a7 (ByteArray.mk #[], 0, 0, 0, false, ByteArray.mk #[], false, false)).fst) (ByteArray.toList (getI r2_1 a6 (ByteArray.mk #[], 0, 0, 0, false, ByteArray.mk #[], false, false)).fst)) (.br (decide (0 ≤ a7)) (.br (decide (a7 < Int.ofNat r3_1.length)) (.br (appLim 72 r9541.length 1) (.next (a6, (IntKind.i64.wrap (a7 + 1)), r2_0, r2_1, r3_0, r3_1, r4, r5, (r9541 ++ [getI r3_1 a7 (ByteArray.mk #[], 0, 0, 0, false, ByteArray.mk #[], false, false)]), ())) .fail) .fail) .fail) (.br (decide (0 ≤ a6)) (.br (decide (a6 < Int.ofNat r2_1.length)) (.br (decide (0 ≤ a7)) (.br (decide (a7 < Int.ofNat r3_1.length)) (.opt (ref05_both (getI r2_1 a6 (ByteArray.mk #[], 0, 0, 0, false, ByteArray.mk #[], false, false)) (getI r3_1 a7 (ByteArray.mk #[], 0, 0, 0, false, ByteArray.mk #[], false, false))) fun x24 => (.br (!x24.snd) (.ret (.inl (true, r5, r9541, ()))) (.br (appLim 72 r9541.length 1) (.next ((IntKind.i64.wrap (a6 + 1)), (IntKind.i64.wrap (a7 + 1)), r2_0, r2_1, r3_0, r3_1, r4, r5, (r9541 ++ [x24.fst]), ())) .fail))) .fail) .fail) .fail) .fail)) .fail) .fail) .fail) .fail)))) (.ret (.inr (r4, r5, r9541, ())))))
noncomputable def ref05_And_l0 (st : ref05_And_S0) : Option ref05_And_Q0 := LT.loop ref05_And_b0 FUEL st
noncomputable def ref05_And_A : Anns := { l := [(5, [.keep [2, 3, 4, 5, 6, 7] [2, 3, 4, 5, 51, 93, 126], .ownB 5 1 9541 58, .keep [2, 3, 4, 5, 6, 7] [2, 3, 4, 5, 9541]]), (100005, [.keep [4, 5] [4, 5, 9541]])], orc := [(5, genOrc ref05_And_h0 ref05_And_x0 ref05_And_l0)], N := 1000, rng := [], ro := [], outs := none, nils := [] }
theorem ref05_And_s0 : ∀ (st : ref05_And_S0) m k, loopX ref05_And_A (loopN Tryz.prog 67 0) (prep (tabsG L_ref05_both) (annOf ref05_And_A (loopN Tryz.prog 67 0))) (evalC Tryz.prog (tabsG L_ref05_both) ref05_And_A (loopN Tryz.prog 67 0)) (m + 1) (ref05_And_h0.enc st) (outK (tabsG L_ref05_both) ref05_And_A (loopN Tryz.prog 67 0) k) = (ref05_And_b0 st).run (exK ref05_And_x0 k) (fun st' => loopX ref05_And_A (loopN Tryz.prog 67 0) (prep (tabsG L_ref05_both) (annOf ref05_And_A (loopN Tryz.prog 67 0))) (evalC Tryz.prog (tabsG L_ref05_both) ref05_And_A (loopN Tryz.prog 67 0)) m (ref05_And_h0.enc st') (outK (tabsG L_ref05_both) ref05_And_A (loopN Tryz.prog 67 0) k)) := by
  intro st m k
  obtain ⟨a6, a7, r2_0, r2_1, r3_0, r3_1, r4, r5, r9541, ⟨⟩⟩ := st
  kernel_rfl
theorem ref05_And_o0 : OrcOk Tryz.prog (tabsG L_ref05_both) ref05_And_A (loopN Tryz.prog 67 0) := genOrc_ok (h := ref05_And_h0) (xs := ref05_And_x0) (F := ref05_And_l0) (bd := ref05_And_b0) (fun _ => FUEL) (by kernel_rfl) (fun _ _ h => h) ref05_And_s0
noncomputable def ref05_And_t (p0 : Fil) (p1 : Fil) : FT (Fil) := (.br p0.fst (.ret ((true, []))) (.br p1.fst (.ret ((true, []))) (.opt (ref05_And_l0 (0, 0, p0.fst, p0.snd, p1.fst, p1.snd, false, false, [], ())) fun x28 => (.alt x28 (fun x29 => (.ret ((x29.fst, [])))) (fun x30 => (.ret ((x30.snd.fst, x30.snd.snd.fst))))))))
noncomputable def ref05_And (p0 : Fil) (p1 : Fil) : Option (Fil) := (ref05_And_t p0 p1).fin
noncomputable def ref05_And_sp : CSpec := genSpec [shFil, shFil] [shFil] (fun x => ref05_And x.1 x.2)
theorem ref05_And_ok : EnterOk Tryz.prog 67 ∧ CSpecOk Tryz.prog cfgG 67 ref05_And_sp := ⟨enter Tryz.func67 (by kernel_rfl) (by kernel_rfl), genSpec_ok (A := ref05_And_A) (sa := [shFil, shFil]) (sr := [shFil]) (bd := fun (x : (ArgT [shFil, shFil])) => ref05_And_t x.1 x.2) (fitG L_ref05_both) s_ref05_both mixed (by kernel_rfl) (loopsAll (l := [loopN Tryz.prog 67 0]) (by kernel_rfl) ⟨ref05_And_o0, trivial⟩) (fun _ => rfl) (by
  intro x
  obtain ⟨p0, p1⟩ := x
  kernel_rfl)⟩
noncomputable def L_ref05_And : List (Nat × CSpec) := (67, ref05_And_sp) :: L_ref05_both
theorem s_ref05_And : SpecsOk Tryz.prog (tabsG L_ref05_And) := oneSpecGT s_ref05_both ref05_And_ok
noncomputable def ref05_Split_h0 : EP := ⟨[(0, .d .str), (3, .own 9003), (4, .d (.int .i64)), (5, .d .bool), (6, .d (.int .i64))], [(9003, .row 9 .str)]⟩
noncomputable def ref05_Split_x0 : List (Exit × EP) := [(Exit.exit 0, ⟨[(0, .d .str), (3, .own 9003), (4, .d (.int .i64))], [(9003, .row 9 .str)]⟩)]
abbrev ref05_Split_S0 : Type := ByteArray × Int × Bool × Int × (List ByteArray) × Unit
abbrev ref05_Split_Q0 : Type := (ByteArray × Int × (List ByteArray) × Unit)
noncomputable def ref05_Split_b0 : ref05_Split_S0 → LT ref05_Split_S0 ref05_Split_Q0 := fun st => match st with
  | (a0, a4, a5, a6, r9003, ()) => (.br (decide (a6 < Int.ofNat a0.size)) (.br (decide (0 ≤ a6)) (.br (decide (a6 < Int.ofNat a0.size)) (.br (Int.ofNat (a0.data.toList.getD a6.toNat 0).toNat == 92) (.br a5 (.next (a0, a4, a5, (IntKind.i64.wrap (IntKind.i64.wrap (a6 + 1) + 1)), r9003, ())) (.br (decide (0 ≤ a6)) (.br (decide (a6 < Int.ofNat a0.size)) (.br (Int.ofNat (a0.data.toList.getD a6.toNat 0).toNat == 34) (.next (a0, a4, (!a5), (IntKind.i64.wrap (a6 + 1)), r9003, ())) (.br (!a5) (.br (decide (0 ≤ a6)) (.br (decide (a6 ≤ Int.ofNat a0.size)) (.br (decide (Int.ofNat a0.size ≤ Int.ofNat a0.size)) (.opt (ref05_begins (a0.extract a6.toNat (Int.ofNat a0.size).toNat) (ByteArray.mk #[32, 38, 32])) fun x15 => (.br x15 (.br (decide (0 ≤ a4)) (.br (decide (a4 ≤ a6)) (.br (decide (a6 ≤ Int.ofNat a0.size)) (.br (appLim 16 r9003.length 1) (.next (a0, (IntKind.i64.wrap (IntKind.i64.wrap (a6 + 2) + 1)), a5, (IntKind.i64.wrap (IntKind.i64.wrap (a6 + 2) + 1)), (r9003 ++ [a0.extract a4.toNat a6.toNat]), ())) .fail) .fail) .fail) .fail) (.next (a0, a4, a5, (IntKind.i64.wrap (a6 + 1)), r9003, ())))) .fail) .fail) .fail) (.next (a0, a4, a5, (IntKind.i64.wrap (a6 + 1)), r9003, ())))) .fail) .fail)) (.br (decide (0 ≤ a6)) (.br (decide (a6 < Int.ofNat a0.size)) (.br (Int.ofNat (a0.data.toList.getD a6.toNat 0).toNat == 34) (.next (a0, a4, (!a5), (IntKind.i64.wrap (a6 + 1)), r9003, ())) (.br (!a5) (.br (decide (0 ≤ a6)) (.br (decide (a6 ≤ Int.ofNat a0.size)) (.br (decide (Int.ofNat a0.size ≤ Int.ofNat a0.size)) (.opt (ref05_begins (a0.extract a6.toNat (Int.ofNat a0.size).toNat) (ByteArray.mk #[32, 38, 32])) fun x16 => (.br x16 (.br (decide (0 ≤ a4)) (.br (decide (a4 ≤ a6)) (.br (decide (a6 ≤ Int.ofNat a0.size)) (.br (appLim 16 r9003.length 1) (.next (a0, (IntKind.i64.wrap (IntKind.i64.wrap (a6 + 2) + 1)), a5, (IntKind.i64.wrap (IntKind.i64.wrap (a6 + 2) + 1)), (r9003 ++ [a0.extract a4.toNat a6.toNat]), ())) .fail) .fail) .fail) .fail) (.next (a0, a4, a5, (IntKind.i64.wrap (a6 + 1)), r9003, ())))) .fail) .fail) .fail) (.next (a0, a4, a5, (IntKind.i64.wrap (a6 + 1)), r9003, ())))) .fail) .fail)) .fail) .fail) (.ret (a0, a4, r9003, ())))
noncomputable def ref05_Split_l0 (st : ref05_Split_S0) : Option ref05_Split_Q0 := LT.loop ref05_Split_b0 FUEL st
noncomputable def ref05_Split_A : Anns := { l := [(5, [.keep [0, 3, 4, 5, 6] [45, 9003], .ownS 3 9003 9, .keep [0, 3, 4, 5, 6] [9003]]), (100005, [.keep [0, 3, 4] [9003]])], orc := [(5, genOrc ref05_Split_h0 ref05_Split_x0 ref05_Split_l0)], N := 1000, rng := [], ro := [], outs := none, nils := [] }
theorem ref05_Split_s0 : ∀ (st : ref05_Split_S0) m k, loopX ref05_Split_A (loopN Tryz.prog 64 0) (prep (tabsG L_ref05_And) (annOf ref05_Split_A (loopN Tryz.prog 64 0))) (evalC Tryz.prog (tabsG L_ref05_And) ref05_Split_A (loopN Tryz.prog 64 0)) (m + 1) (ref05_Split_h0.enc st) (outK (tabsG L_ref05_And) ref05_Split_A (loopN Tryz.prog 64 0) k) = (ref05_Split_b0 st).run (exK ref05_Split_x0 k) (fun st' => loopX ref05_Split_A (loopN Tryz.prog 64 0) (prep (tabsG L_ref05_And) (annOf ref05_Split_A (loopN Tryz.prog 64 0))) (evalC Tryz.prog (tabsG L_ref05_And) ref05_Split_A (loopN Tryz.prog 64 0)) m (ref05_Split_h0.enc st') (outK (tabsG L_ref05_And) ref05_Split_A (loopN Tryz.prog 64 0) k)) := by
  intro st m k
  obtain ⟨a0, a4, a5, a6, r9003, ⟨⟩⟩ := st
  kernel_rfl
theorem ref05_Split_o0 : OrcOk Tryz.prog (tabsG L_ref05_And) ref05_Split_A (loopN Tryz.prog 64 0) := genOrc_ok (h := ref05_Split_h0) (xs := ref05_Split_x0) (F := ref05_Split_l0) (bd := ref05_Split_b0) (fun _ => FUEL) (by kernel_rfl) (fun _ _ h => h) ref05_Split_s0
noncomputable def ref05_Split_t (p0 : ByteArray) : FT ((List ByteArray)) := (.opt (ref05_Split_l0 (p0, 0, false, 0, [], ())) fun x18 => (.br (decide (0 ≤ x18.snd.fst)) (.br (decide (x18.snd.fst ≤ Int.ofNat (ByteArray.size x18.fst))) (.br (decide (Int.ofNat (ByteArray.size x18.fst) ≤ Int.ofNat (ByteArray.size x18.fst))) (.br (appLim 16 x18.snd.snd.fst.length 1) (.ret (x18.snd.snd.fst ++ [ByteArray.extract x18.fst (Int.toNat x18.snd.fst) (Int.ofNat (ByteArray.size x18.fst)).toNat])) .fail) .fail) .fail) .fail))
noncomputable def ref05_Split (p0 : ByteArray) : Option ((List ByteArray)) := (ref05_Split_t p0).fin
noncomputable def ref05_Split_sp : CSpec := genSpec [.str] [(.sl .str)] (fun x => ref05_Split x)
theorem ref05_Split_ok : EnterOk Tryz.prog 64 ∧ CSpecOk Tryz.prog cfgG 64 ref05_Split_sp := ⟨enter Tryz.func64 (by kernel_rfl) (by kernel_rfl), genSpec_ok (A := ref05_Split_A) (sa := [.str]) (sr := [(.sl .str)]) (bd := fun (x : (ArgT [.str])) => ref05_Split_t x) (fitG L_ref05_And) s_ref05_And mixed (by kernel_rfl) (loopsAll (l := [loopN Tryz.prog 64 0]) (by kernel_rfl) ⟨ref05_Split_o0, trivial⟩) (fun _ => rfl) (by
  intro x
  skip
  kernel_rfl)⟩
noncomputable def L_ref05_Split : List (Nat × CSpec) := (64, ref05_Split_sp) :: L_ref05_And
theorem s_ref05_Split : SpecsOk Tryz.prog (tabsG L_ref05_Split) := oneSpecGT s_ref05_And ref05_Split_ok
noncomputable def ref03_letter_A : Anns := { l := [], orc := [], N := 1000, rng := [], ro := [], outs := none, nils := [] }
noncomputable def ref03_letter_t (p0 : Int) : FT (Bool) := (.br (decide (p0 ≥ 97)) (.br (decide (p0 ≤ 122)) (.ret true) (.br (decide (p0 ≥ 48)) (.br (decide (p0 ≤ 57)) (.ret true) (.ret (p0 == 95))) (.ret (p0 == 95)))) (.br (decide (p0 ≥ 48)) (.br (decide (p0 ≤ 57)) (.ret true) (.ret (p0 == 95))) (.ret (p0 == 95))))
noncomputable def ref03_letter (p0 : Int) : Option (Bool) := (ref03_letter_t p0).fin
noncomputable def ref03_letter_sp : CSpec := genSpec [(.int .u8)] [.bool] (fun x => ref03_letter x)
theorem ref03_letter_ok : EnterOk Tryz.prog 62 ∧ CSpecOk Tryz.prog cfgG 62 ref03_letter_sp := ⟨enter Tryz.func62 (by kernel_rfl) (by kernel_rfl), genSpec_ok (A := ref03_letter_A) (sa := [(.int .u8)]) (sr := [.bool]) (bd := fun (x : (ArgT [(.int .u8)])) => ref03_letter_t x) (fitG L_ref05_Split) s_ref05_Split mixed (by kernel_rfl) (loopsAll (l := []) (by kernel_rfl) trivial) (fun _ => rfl) (by
  intro x
  skip
  kernel_rfl)⟩
noncomputable def L_ref03_letter : List (Nat × CSpec) := (62, ref03_letter_sp) :: L_ref05_Split
theorem s_ref03_letter : SpecsOk Tryz.prog (tabsG L_ref03_letter) := oneSpecGT s_ref05_Split ref03_letter_ok
noncomputable def ref03_Name_h0 : EP := ⟨[(0, .d .str), (3, .d (.int .i64))], []⟩
noncomputable def ref03_Name_x0 : List (Exit × EP) := [(Exit.ret, ⟨[(2, .d .bool)], []⟩), (Exit.exit 0, ⟨[], []⟩)]
abbrev ref03_Name_S0 : Type := ByteArray × Int × Unit
abbrev ref03_Name_Q0 : Type := (Bool × Unit) ⊕ (Unit)
noncomputable def ref03_Name_b0 : ref03_Name_S0 → LT ref03_Name_S0 ref03_Name_Q0 := fun st => match st with
  | (a0, a3, ()) => (.br (decide (a3 < Int.ofNat a0.size)) (.br (decide (0 ≤ a3)) (.br (decide (a3 < Int.ofNat a0.size)) (.opt (ref03_letter (Int.ofNat (a0.data.toList.getD a3.toNat 0).toNat)) fun x4 => (.br (!x4) (.ret (.inl (false, ()))) (.next (a0, (IntKind.i64.wrap (a3 + 1)), ())))) .fail) .fail) (.ret (.inr ())))
noncomputable def ref03_Name_l0 (st : ref03_Name_S0) : Option ref03_Name_Q0 := LT.loop ref03_Name_b0 FUEL st
noncomputable def ref03_Name_A : Anns := { l := [(4, [.keep [0, 3] []]), (100004, [.keep [2] []])], orc := [(4, genOrc ref03_Name_h0 ref03_Name_x0 ref03_Name_l0)], N := 1000, rng := [], ro := [], outs := none, nils := [] }
theorem ref03_Name_s0 : ∀ (st : ref03_Name_S0) m k, loopX ref03_Name_A (loopN Tryz.prog 39 0) (prep (tabsG L_ref03_letter) (annOf ref03_Name_A (loopN Tryz.prog 39 0))) (evalC Tryz.prog (tabsG L_ref03_letter) ref03_Name_A (loopN Tryz.prog 39 0)) (m + 1) (ref03_Name_h0.enc st) (outK (tabsG L_ref03_letter) ref03_Name_A (loopN Tryz.prog 39 0) k) = (ref03_Name_b0 st).run (exK ref03_Name_x0 k) (fun st' => loopX ref03_Name_A (loopN Tryz.prog 39 0) (prep (tabsG L_ref03_letter) (annOf ref03_Name_A (loopN Tryz.prog 39 0))) (evalC Tryz.prog (tabsG L_ref03_letter) ref03_Name_A (loopN Tryz.prog 39 0)) m (ref03_Name_h0.enc st') (outK (tabsG L_ref03_letter) ref03_Name_A (loopN Tryz.prog 39 0) k)) := by
  intro st m k
  obtain ⟨a0, a3, ⟨⟩⟩ := st
  kernel_rfl
theorem ref03_Name_o0 : OrcOk Tryz.prog (tabsG L_ref03_letter) ref03_Name_A (loopN Tryz.prog 39 0) := genOrc_ok (h := ref03_Name_h0) (xs := ref03_Name_x0) (F := ref03_Name_l0) (bd := ref03_Name_b0) (fun _ => FUEL) (by kernel_rfl) (fun _ _ h => h) ref03_Name_s0
noncomputable def ref03_Name_t (p0 : ByteArray) : FT (Bool) := (.br (decide (Int.ofNat p0.size < 1)) (.ret false) (.br (decide (Int.ofNat p0.size > 16)) (.ret false) (.br (decide (0 < Int.ofNat p0.size)) (.br (decide (Int.ofNat (p0.data.toList.getD (Int.toNat 0) 0).toNat < 97)) (.ret false) (.br (decide (0 < Int.ofNat p0.size)) (.br (decide (Int.ofNat (p0.data.toList.getD (Int.toNat 0) 0).toNat > 122)) (.ret false) (.opt (ref03_Name_l0 (p0, 0, ())) fun x8 => (.alt x8 (fun x9 => (.ret x9.fst)) (fun _ => (.ret true))))) .fail)) .fail)))
noncomputable def ref03_Name (p0 : ByteArray) : Option (Bool) := (ref03_Name_t p0).fin
noncomputable def ref03_Name_sp : CSpec := genSpec [.str] [.bool] (fun x => ref03_Name x)
theorem ref03_Name_ok : EnterOk Tryz.prog 39 ∧ CSpecOk Tryz.prog cfgG 39 ref03_Name_sp := ⟨enter Tryz.func39 (by kernel_rfl) (by kernel_rfl), genSpec_ok (A := ref03_Name_A) (sa := [.str]) (sr := [.bool]) (bd := fun (x : (ArgT [.str])) => ref03_Name_t x) (fitG L_ref03_letter) s_ref03_letter mixed (by kernel_rfl) (loopsAll (l := [loopN Tryz.prog 39 0]) (by kernel_rfl) ⟨ref03_Name_o0, trivial⟩) (fun _ => rfl) (by
  intro x
  skip
  kernel_rfl)⟩
noncomputable def L_ref03_Name : List (Nat × CSpec) := (39, ref03_Name_sp) :: L_ref03_letter
theorem s_ref03_Name : SpecsOk Tryz.prog (tabsG L_ref03_Name) := oneSpecGT s_ref03_letter ref03_Name_ok
noncomputable def ref05_kind_A : Anns := { l := [], orc := [], N := 1000, rng := [], ro := [], outs := none, nils := [] }
noncomputable def ref05_kind_t (p0 : ByteArray) (p1 : ByteArray) : FT (Bd × Bool) := (.br (p1.toList == (ByteArray.mk #[105, 110, 116]).toList) (.ret (((p0, 1, Int.negSucc 9223372036854775807, 9223372036854775807, false, ByteArray.mk #[], false, false), true))) (.br (p1.toList == (ByteArray.mk #[115, 116, 114]).toList) (.ret (((p0, 2, 0, 0, false, ByteArray.mk #[], false, false), true))) (.br (p1.toList == (ByteArray.mk #[98, 111, 111, 108]).toList) (.ret (((p0, 3, 0, 0, false, ByteArray.mk #[], true, true), true))) (.ret (((ByteArray.mk #[], 0, 0, 0, false, ByteArray.mk #[], false, false), false))))))
noncomputable def ref05_kind (p0 : ByteArray) (p1 : ByteArray) : Option (Bd × Bool) := (ref05_kind_t p0 p1).fin
noncomputable def ref05_kind_sp : CSpec := genSpec [.str, .str] [shBound, .bool] (fun x => ref05_kind x.1 x.2)
theorem ref05_kind_ok : EnterOk Tryz.prog 94 ∧ CSpecOk Tryz.prog cfgG 94 ref05_kind_sp := ⟨enter Tryz.func94 (by kernel_rfl) (by kernel_rfl), genSpec_ok (A := ref05_kind_A) (sa := [.str, .str]) (sr := [shBound, .bool]) (bd := fun (x : (ArgT [.str, .str])) => ref05_kind_t x.1 x.2) (fitG L_ref03_Name) s_ref03_Name mixed (by kernel_rfl) (loopsAll (l := []) (by kernel_rfl) trivial) (fun _ => rfl) (by
  intro x
  obtain ⟨p0, p1⟩ := x
  kernel_rfl)⟩
noncomputable def L_ref05_kind : List (Nat × CSpec) := (94, ref05_kind_sp) :: L_ref03_Name
theorem s_ref05_kind : SpecsOk Tryz.prog (tabsG L_ref05_kind) := oneSpecGT s_ref03_Name ref05_kind_ok
noncomputable def ref02_fault_A : Anns := { l := [], orc := [], N := 1000, rng := [], ro := [], outs := none, nils := [] }
noncomputable def ref02_fault_t (p0 : Int) : FT (V × (Bool × List (Int × Int) × Int)) := (.ret (((0, 0, ByteArray.mk #[], false), true, [(1, p0)], 4)))
noncomputable def ref02_fault (p0 : Int) : Option (V × (Bool × List (Int × Int) × Int)) := (ref02_fault_t p0).fin
noncomputable def ref02_fault_sp : CSpec := genSpec [(.int .i64)] [shVal, shE] (fun x => ref02_fault x)
theorem ref02_fault_ok : EnterOk Tryz.prog 119 ∧ CSpecOk Tryz.prog cfgG 119 ref02_fault_sp := ⟨enter Tryz.func119 (by kernel_rfl) (by kernel_rfl), genSpec_ok (A := ref02_fault_A) (sa := [(.int .i64)]) (sr := [shVal, shE]) (bd := fun (x : (ArgT [(.int .i64)])) => ref02_fault_t x) (fitG L_ref05_kind) s_ref05_kind mixed (by kernel_rfl) (loopsAll (l := []) (by kernel_rfl) trivial) (fun _ => rfl) (by
  intro x
  skip
  kernel_rfl)⟩
noncomputable def L_ref02_fault : List (Nat × CSpec) := (119, ref02_fault_sp) :: L_ref05_kind
theorem s_ref02_fault : SpecsOk Tryz.prog (tabsG L_ref02_fault) := oneSpecGT s_ref05_kind ref02_fault_ok
noncomputable def ref02_truth_h0 : EP := ⟨[(0, .d .str), (1, .d .str), (2, .d .bool), (6, .ref 6 0), (7, .ref 7 0), (8, .d (.int .i64))], [(6, .box 68 [.d (.int .i64), .d (.int .i64), .d .str, .d .bool]), (7, .box 38 [.d .bool, .nsl, .d (.int .i64)])]⟩
noncomputable def ref02_truth_x0 : List (Exit × EP) := [(Exit.ret, ⟨[(0, .d .str), (1, .d .str), (2, .d .bool), (6, .ref 6 0), (7, .ref 7 0)], [(6, .box 68 [.d (.int .i64), .d (.int .i64), .d .str, .d .bool]), (7, .box 38 [.d .bool, .d (.sl shPlace), .d (.int .i64)])]⟩), (Exit.exit 0, ⟨[(0, .d .str), (1, .d .str), (2, .d .bool), (6, .ref 6 0), (7, .ref 7 0)], [(6, .box 68 [.d (.int .i64), .d (.int .i64), .d .str, .d .bool]), (7, .box 38 [.d .bool, .nsl, .d (.int .i64)])]⟩)]
abbrev ref02_truth_S0 : Type := ByteArray × ByteArray × Bool × Int × Int × Int × ByteArray × Bool × Bool × Int × Unit
abbrev ref02_truth_Q0 : Type := (ByteArray × ByteArray × Bool × Int × Int × ByteArray × Bool × Bool × (List (Int × Int)) × Int × Unit) ⊕ (ByteArray × ByteArray × Bool × Int × Int × ByteArray × Bool × Bool × Int × Unit)
noncomputable def ref02_truth_b0 : ref02_truth_S0 → LT ref02_truth_S0 ref02_truth_Q0 := fun st => match st with
  | (a0, a1, a2, a8, r6_0, r6_1, r6_2, r6_3, r7_0, r7_1, ()) => (.br (decide (a8 < Int.ofNat a0.size)) (.br (decide (a8 ≥ Int.ofNat a1.size)) (.ret (.inl (a0, a1, a2, 0, 0, (ByteArray.mk #[]), false, true, ([(1, a8)]), 4, ()))) (.br (decide (0 ≤ a8)) (.br (decide (a8 < Int.ofNat a0.size)) (.br (decide (0 ≤ a8)) (.br (decide (a8 < Int.ofNat a1.size)) (.br (Int.ofNat (a0.data.toList.getD a8.toNat 0).toNat != Int.ofNat (a1.data.toList.getD a8.toNat 0).toNat) (.ret (.inl (a0, a1, a2, 0, 0, (ByteArray.mk #[]), false, true, ([(1, a8)]), 4, ()))) (.next (a0, a1, a2, (IntKind.i64.wrap (a8 + 1)), r6_0, r6_1, r6_2, r6_3, r7_0, r7_1, ()))) .fail) .fail) .fail) .fail)) (.ret (.inr (a0, a1, a2, r6_0, r6_1, r6_2, r6_3, r7_0, r7_1, ()))))
noncomputable def ref02_truth_l0 (st : ref02_truth_S0) : Option ref02_truth_Q0 := LT.loop ref02_truth_b0 FUEL st
noncomputable def ref02_truth_A : Anns := { l := [(2, [.keep [0, 1, 2, 6, 7, 8] [6, 7]]), (100002, [.keep [0, 1, 2, 6, 7] [6, 7]])], orc := [(2, genOrc ref02_truth_h0 ref02_truth_x0 ref02_truth_l0)], N := 1000, rng := [], ro := [], outs := none, nils := [] }
theorem ref02_truth_s0 : ∀ (st : ref02_truth_S0) m k, loopX ref02_truth_A (loopN Tryz.prog 122 0) (prep (tabsG L_ref02_fault) (annOf ref02_truth_A (loopN Tryz.prog 122 0))) (evalC Tryz.prog (tabsG L_ref02_fault) ref02_truth_A (loopN Tryz.prog 122 0)) (m + 1) (ref02_truth_h0.enc st) (outK (tabsG L_ref02_fault) ref02_truth_A (loopN Tryz.prog 122 0) k) = (ref02_truth_b0 st).run (exK ref02_truth_x0 k) (fun st' => loopX ref02_truth_A (loopN Tryz.prog 122 0) (prep (tabsG L_ref02_fault) (annOf ref02_truth_A (loopN Tryz.prog 122 0))) (evalC Tryz.prog (tabsG L_ref02_fault) ref02_truth_A (loopN Tryz.prog 122 0)) m (ref02_truth_h0.enc st') (outK (tabsG L_ref02_fault) ref02_truth_A (loopN Tryz.prog 122 0) k)) := by
  intro st m k
  obtain ⟨a0, a1, a2, a8, r6_0, r6_1, r6_2, r6_3, r7_0, r7_1, ⟨⟩⟩ := st
  kernel_rfl
theorem ref02_truth_o0 : OrcOk Tryz.prog (tabsG L_ref02_fault) ref02_truth_A (loopN Tryz.prog 122 0) := genOrc_ok (h := ref02_truth_h0) (xs := ref02_truth_x0) (F := ref02_truth_l0) (bd := ref02_truth_b0) (fun _ => FUEL) (by kernel_rfl) (fun _ _ h => h) ref02_truth_s0
noncomputable def ref02_truth_t (p0 : ByteArray) (p1 : ByteArray) (p2 : Bool) : FT (V × (Bool × List (Int × Int) × Int)) := (.opt (ref02_truth_l0 (p0, p1, p2, 0, 0, 0, ByteArray.mk #[], false, false, 0, ())) fun x4 => (.alt x4 (fun x5 => (.ret (((x5.snd.snd.snd.fst, x5.snd.snd.snd.snd.fst, x5.snd.snd.snd.snd.snd.fst, x5.snd.snd.snd.snd.snd.snd.fst), x5.snd.snd.snd.snd.snd.snd.snd.fst, x5.snd.snd.snd.snd.snd.snd.snd.snd.fst, x5.snd.snd.snd.snd.snd.snd.snd.snd.snd.fst)))) (fun x6 => (.br (decide (Int.ofNat (ByteArray.size x6.fst) < Int.ofNat (ByteArray.size x6.snd.fst))) (.ret (((0, 0, ByteArray.mk #[], false), true, [(1, Int.ofNat (ByteArray.size x6.fst))], 4))) (.ret (((3, 0, ByteArray.mk #[], x6.snd.snd.fst), false, [], 0)))))))
noncomputable def ref02_truth (p0 : ByteArray) (p1 : ByteArray) (p2 : Bool) : Option (V × (Bool × List (Int × Int) × Int)) := (ref02_truth_t p0 p1 p2).fin
noncomputable def ref02_truth_sp : CSpec := genSpec [.str, .str, .bool] [shVal, shE] (fun x => ref02_truth x.1 x.2.1 x.2.2)
theorem ref02_truth_ok : EnterOk Tryz.prog 122 ∧ CSpecOk Tryz.prog cfgG 122 ref02_truth_sp := ⟨enter Tryz.func122 (by kernel_rfl) (by kernel_rfl), genSpec_ok (A := ref02_truth_A) (sa := [.str, .str, .bool]) (sr := [shVal, shE]) (bd := fun (x : (ArgT [.str, .str, .bool])) => ref02_truth_t x.1 x.2.1 x.2.2) (fitG L_ref02_fault) s_ref02_fault mixed (by kernel_rfl) (loopsAll (l := [loopN Tryz.prog 122 0]) (by kernel_rfl) ⟨ref02_truth_o0, trivial⟩) (fun _ => rfl) (by
  intro x
  obtain ⟨p0, p1, p2⟩ := x
  kernel_rfl)⟩
noncomputable def L_ref02_truth : List (Nat × CSpec) := (122, ref02_truth_sp) :: L_ref02_fault
theorem s_ref02_truth : SpecsOk Tryz.prog (tabsG L_ref02_truth) := oneSpecGT s_ref02_fault ref02_truth_ok
noncomputable def ref02_number_h0 : EP := ⟨[(0, .d .str), (2, .ref 2 0), (3, .ref 3 0), (4, .d (.int .i64)), (5, .d .bool), (6, .d (.int .u64)), (7, .d (.int .u64)), (8, .d (.int .i64))], [(2, .box 68 [.d (.int .i64), .d (.int .i64), .d .str, .d .bool]), (3, .box 38 [.d .bool, .nsl, .d (.int .i64)])]⟩
noncomputable def ref02_number_x0 : List (Exit × EP) := [(Exit.ret, ⟨[(2, .ref 2 0), (3, .ref 3 0), (5, .d .bool), (6, .d (.int .u64))], [(2, .box 68 [.d (.int .i64), .d (.int .i64), .d .str, .d .bool]), (3, .box 38 [.d .bool, .d (.sl shPlace), .d (.int .i64)])]⟩), (Exit.exit 0, ⟨[(2, .ref 2 0), (3, .ref 3 0), (5, .d .bool), (6, .d (.int .u64))], [(2, .box 68 [.d (.int .i64), .d (.int .i64), .d .str, .d .bool]), (3, .box 38 [.d .bool, .nsl, .d (.int .i64)])]⟩)]
abbrev ref02_number_S0 : Type := ByteArray × Int × Bool × Int × Int × Int × Int × Int × ByteArray × Bool × Bool × Int × Unit
abbrev ref02_number_Q0 : Type := (Bool × Int × Int × Int × ByteArray × Bool × Bool × (List (Int × Int)) × Int × Unit) ⊕ (Bool × Int × Int × Int × ByteArray × Bool × Bool × Int × Unit)
noncomputable def ref02_number_b0 : ref02_number_S0 → LT ref02_number_S0 ref02_number_Q0 := fun st => match st with
  | (a0, a4, a5, a6, a7, a8, r2_0, r2_1, r2_2, r2_3, r3_0, r3_1, ()) => (.br (decide (a4 < Int.ofNat a0.size)) (.br (decide (0 ≤ a4)) (.br (decide (a4 < Int.ofNat a0.size)) (.br (decide (Int.ofNat (a0.data.toList.getD a4.toNat 0).toNat < 48)) (.ret (.inl (a5, a6, 0, 0, (ByteArray.mk #[]), false, true, ([(1, a4)]), 4, ()))) (.br (decide (Int.ofNat (a0.data.toList.getD a4.toNat 0).toNat > 57)) (.ret (.inl (a5, a6, 0, 0, (ByteArray.mk #[]), false, true, ([(1, a4)]), 4, ()))) (.br (decide (a4 > a8)) (.br (decide (0 ≤ a8)) (.br (decide (a8 < Int.ofNat a0.size)) (.br (Int.ofNat (a0.data.toList.getD a8.toNat 0).toNat == 48) (.ret (.inl (a5, a6, 0, 0, (ByteArray.mk #[]), false, true, ([(1, a4)]), 4, ()))) (.br (decide (a6 > IntKind.u64.wrap ((IntKind.u64.wrap (a7 - IntKind.u64.wrap (IntKind.u8.wrap (Int.ofNat (a0.data.toList.getD a4.toNat 0).toNat - 48)))).tdiv ↑(9 + 1)))) (.ret (.inl (a5, a6, 0, 0, (ByteArray.mk #[]), false, true, ([(1, a4)]), 4, ()))) (.next (a0, (IntKind.i64.wrap (a4 + 1)), a5, (IntKind.u64.wrap (IntKind.u64.wrap (a6 * 10) + IntKind.u64.wrap (IntKind.u8.wrap (Int.ofNat (a0.data.toList.getD a4.toNat 0).toNat - 48)))), a7, a8, r2_0, r2_1, r2_2, r2_3, r3_0, r3_1, ())))) .fail) .fail) (.br (decide (a6 > IntKind.u64.wrap ((IntKind.u64.wrap (a7 - IntKind.u64.wrap (IntKind.u8.wrap (Int.ofNat (a0.data.toList.getD a4.toNat 0).toNat - 48)))).tdiv ↑(9 + 1)))) (.ret (.inl (a5, a6, 0, 0, (ByteArray.mk #[]), false, true, ([(1, a4)]), 4, ()))) (.next (a0, (IntKind.i64.wrap (a4 + 1)), a5, (IntKind.u64.wrap (IntKind.u64.wrap (a6 * 10) + IntKind.u64.wrap (IntKind.u8.wrap (Int.ofNat (a0.data.toList.getD a4.toNat 0).toNat - 48)))), a7, a8, r2_0, r2_1, r2_2, r2_3, r3_0, r3_1, ())))))) .fail) .fail) (.ret (.inr (a5, a6, r2_0, r2_1, r2_2, r2_3, r3_0, r3_1, ()))))
noncomputable def ref02_number_l0 (st : ref02_number_S0) : Option ref02_number_Q0 := LT.loop ref02_number_b0 FUEL st
noncomputable def ref02_number_A : Anns := { l := [(12, [.keep [0, 2, 3, 4, 5, 6, 7, 8] [2, 3]]), (100012, [.keep [2, 3, 5, 6] [2, 3]])], orc := [(12, genOrc ref02_number_h0 ref02_number_x0 ref02_number_l0)], N := 1000, rng := [], ro := [], outs := none, nils := [] }
theorem ref02_number_s0 : ∀ (st : ref02_number_S0) m k, loopX ref02_number_A (loopN Tryz.prog 120 0) (prep (tabsG L_ref02_truth) (annOf ref02_number_A (loopN Tryz.prog 120 0))) (evalC Tryz.prog (tabsG L_ref02_truth) ref02_number_A (loopN Tryz.prog 120 0)) (m + 1) (ref02_number_h0.enc st) (outK (tabsG L_ref02_truth) ref02_number_A (loopN Tryz.prog 120 0) k) = (ref02_number_b0 st).run (exK ref02_number_x0 k) (fun st' => loopX ref02_number_A (loopN Tryz.prog 120 0) (prep (tabsG L_ref02_truth) (annOf ref02_number_A (loopN Tryz.prog 120 0))) (evalC Tryz.prog (tabsG L_ref02_truth) ref02_number_A (loopN Tryz.prog 120 0)) m (ref02_number_h0.enc st') (outK (tabsG L_ref02_truth) ref02_number_A (loopN Tryz.prog 120 0) k)) := by
  intro st m k
  obtain ⟨a0, a4, a5, a6, a7, a8, r2_0, r2_1, r2_2, r2_3, r3_0, r3_1, ⟨⟩⟩ := st
  kernel_rfl
theorem ref02_number_o0 : OrcOk Tryz.prog (tabsG L_ref02_truth) ref02_number_A (loopN Tryz.prog 120 0) := genOrc_ok (h := ref02_number_h0) (xs := ref02_number_x0) (F := ref02_number_l0) (bd := ref02_number_b0) (fun _ => FUEL) (by kernel_rfl) (fun _ _ h => h) ref02_number_s0
noncomputable def ref02_number_t (p0 : ByteArray) : FT (V × (Bool × List (Int × Int) × Int)) := (.br (decide (0 < Int.ofNat p0.size)) (.br (Int.ofNat (p0.data.toList.getD (Int.toNat 0) 0).toNat == 45) (.br (Int.ofNat p0.size == 1) (.ret (((0, 0, ByteArray.mk #[], false), true, [(1, 1)], 4))) (.br (decide (1 < Int.ofNat p0.size)) (.br (decide (Int.ofNat (p0.data.toList.getD (Int.toNat 1) 0).toNat < 49)) (.ret (((0, 0, ByteArray.mk #[], false), true, [(1, 1)], 4))) (.br (decide (1 < Int.ofNat p0.size)) (.br (decide (Int.ofNat (p0.data.toList.getD (Int.toNat 1) 0).toNat > 57)) (.ret (((0, 0, ByteArray.mk #[], false), true, [(1, 1)], 4))) (.br (Int.ofNat (p0.data.toList.getD (Int.toNat 0) 0).toNat == 45) (.opt (ref02_number_l0 (p0, 1, Int.ofNat (p0.data.toList.getD (Int.toNat 0) 0).toNat == 45, 0, IntKind.u64.wrap (9223372036854775807 + 1), 1, 0, 0, ByteArray.mk #[], false, false, 0, ())) fun x13 => (.alt x13 (fun x14 => (.ret (((x14.snd.snd.fst, x14.snd.snd.snd.fst, x14.snd.snd.snd.snd.fst, x14.snd.snd.snd.snd.snd.fst), x14.snd.snd.snd.snd.snd.snd.fst, x14.snd.snd.snd.snd.snd.snd.snd.fst, x14.snd.snd.snd.snd.snd.snd.snd.snd.fst)))) (fun x15 => (.br x15.fst (.ret (((1, IntKind.i64.wrap (IntKind.u64.wrap (0 - x15.snd.fst)), ByteArray.mk #[], false), false, [], 0))) (.ret (((1, IntKind.i64.wrap x15.snd.fst, ByteArray.mk #[], false), false, [], 0))))))) (.opt (ref02_number_l0 (p0, 1, Int.ofNat (p0.data.toList.getD (Int.toNat 0) 0).toNat == 45, 0, 9223372036854775807, 1, 0, 0, ByteArray.mk #[], false, false, 0, ())) fun x16 => (.alt x16 (fun x17 => (.ret (((x17.snd.snd.fst, x17.snd.snd.snd.fst, x17.snd.snd.snd.snd.fst, x17.snd.snd.snd.snd.snd.fst), x17.snd.snd.snd.snd.snd.snd.fst, x17.snd.snd.snd.snd.snd.snd.snd.fst, x17.snd.snd.snd.snd.snd.snd.snd.snd.fst)))) (fun x18 => (.br x18.fst (.ret (((1, IntKind.i64.wrap (IntKind.u64.wrap (0 - x18.snd.fst)), ByteArray.mk #[], false), false, [], 0))) (.ret (((1, IntKind.i64.wrap x18.snd.fst, ByteArray.mk #[], false), false, [], 0))))))))) .fail)) .fail)) (.br (Int.ofNat (p0.data.toList.getD (Int.toNat 0) 0).toNat == 45) (.opt (ref02_number_l0 (p0, 0, Int.ofNat (p0.data.toList.getD (Int.toNat 0) 0).toNat == 45, 0, IntKind.u64.wrap (9223372036854775807 + 1), 0, 0, 0, ByteArray.mk #[], false, false, 0, ())) fun x19 => (.alt x19 (fun x20 => (.ret (((x20.snd.snd.fst, x20.snd.snd.snd.fst, x20.snd.snd.snd.snd.fst, x20.snd.snd.snd.snd.snd.fst), x20.snd.snd.snd.snd.snd.snd.fst, x20.snd.snd.snd.snd.snd.snd.snd.fst, x20.snd.snd.snd.snd.snd.snd.snd.snd.fst)))) (fun x21 => (.br x21.fst (.ret (((1, IntKind.i64.wrap (IntKind.u64.wrap (0 - x21.snd.fst)), ByteArray.mk #[], false), false, [], 0))) (.ret (((1, IntKind.i64.wrap x21.snd.fst, ByteArray.mk #[], false), false, [], 0))))))) (.opt (ref02_number_l0 (p0, 0, Int.ofNat (p0.data.toList.getD (Int.toNat 0) 0).toNat == 45, 0, 9223372036854775807, 0, 0, 0, ByteArray.mk #[], false, false, 0, ())) fun x22 => (.alt x22 (fun x23 => (.ret (((x23.snd.snd.fst, x23.snd.snd.snd.fst, x23.snd.snd.snd.snd.fst, x23.snd.snd.snd.snd.snd.fst), x23.snd.snd.snd.snd.snd.snd.fst, x23.snd.snd.snd.snd.snd.snd.snd.fst, x23.snd.snd.snd.snd.snd.snd.snd.snd.fst)))) (fun x24 => (.br x24.fst (.ret (((1, IntKind.i64.wrap (IntKind.u64.wrap (0 - x24.snd.fst)), ByteArray.mk #[], false), false, [], 0))) (.ret (((1, IntKind.i64.wrap x24.snd.fst, ByteArray.mk #[], false), false, [], 0))))))))) .fail)
noncomputable def ref02_number (p0 : ByteArray) : Option (V × (Bool × List (Int × Int) × Int)) := (ref02_number_t p0).fin
noncomputable def ref02_number_sp : CSpec := genSpec [.str] [shVal, shE] (fun x => ref02_number x)
theorem ref02_number_ok : EnterOk Tryz.prog 120 ∧ CSpecOk Tryz.prog cfgG 120 ref02_number_sp := ⟨enter Tryz.func120 (by kernel_rfl) (by kernel_rfl), genSpec_ok (A := ref02_number_A) (sa := [.str]) (sr := [shVal, shE]) (bd := fun (x : (ArgT [.str])) => ref02_number_t x) (fitG L_ref02_truth) s_ref02_truth mixed (by kernel_rfl) (loopsAll (l := [loopN Tryz.prog 120 0]) (by kernel_rfl) ⟨ref02_number_o0, trivial⟩) (fun _ => rfl) (by
  intro x
  skip
  kernel_rfl)⟩
noncomputable def L_ref02_number : List (Nat × CSpec) := (120, ref02_number_sp) :: L_ref02_truth
theorem s_ref02_number : SpecsOk Tryz.prog (tabsG L_ref02_number) := oneSpecGT s_ref02_truth ref02_number_ok
noncomputable def ref02_hex_h0 : EP := ⟨[(0, .d (.int .u8)), (3, .d (.int .i64))], []⟩
noncomputable def ref02_hex_x0 : List (Exit × EP) := [(Exit.ret, ⟨[(2, .d (.int .i64))], []⟩), (Exit.exit 0, ⟨[], []⟩)]
abbrev ref02_hex_S0 : Type := Int × Int × Unit
abbrev ref02_hex_Q0 : Type := (Int × Unit) ⊕ (Unit)
noncomputable def ref02_hex_b0 : ref02_hex_S0 → LT ref02_hex_S0 ref02_hex_Q0 := fun st => match st with
  | (a0, a3, ()) => (.br (decide (a3 < 16)) (.br (decide (0 ≤ a3)) (.br (decide (a3 < Int.ofNat (ByteArray.mk #[48, 49, 50, 51, 52, 53, 54, 55, 56, 57, 97, 98, 99, 100, 101, 102]).size)) (.br (Int.ofNat ((ByteArray.mk #[48, 49, 50, 51, 52, 53, 54, 55, 56, 57, 97, 98, 99, 100, 101, 102]).data.toList.getD a3.toNat 0).toNat == a0) (.ret (.inl (a3, ()))) (.next (a0, (IntKind.i64.wrap (a3 + 1)), ()))) .fail) .fail) (.ret (.inr ())))
noncomputable def ref02_hex_l0 (st : ref02_hex_S0) : Option ref02_hex_Q0 := LT.loop ref02_hex_b0 FUEL st
noncomputable def ref02_hex_A : Anns := { l := [(2, [.keep [0, 3] []]), (100002, [.keep [2] []])], orc := [(2, genOrc ref02_hex_h0 ref02_hex_x0 ref02_hex_l0)], N := 1000, rng := [], ro := [], outs := none, nils := [] }
theorem ref02_hex_s0 : ∀ (st : ref02_hex_S0) m k, loopX ref02_hex_A (loopN Tryz.prog 129 0) (prep (tabsG L_ref02_number) (annOf ref02_hex_A (loopN Tryz.prog 129 0))) (evalC Tryz.prog (tabsG L_ref02_number) ref02_hex_A (loopN Tryz.prog 129 0)) (m + 1) (ref02_hex_h0.enc st) (outK (tabsG L_ref02_number) ref02_hex_A (loopN Tryz.prog 129 0) k) = (ref02_hex_b0 st).run (exK ref02_hex_x0 k) (fun st' => loopX ref02_hex_A (loopN Tryz.prog 129 0) (prep (tabsG L_ref02_number) (annOf ref02_hex_A (loopN Tryz.prog 129 0))) (evalC Tryz.prog (tabsG L_ref02_number) ref02_hex_A (loopN Tryz.prog 129 0)) m (ref02_hex_h0.enc st') (outK (tabsG L_ref02_number) ref02_hex_A (loopN Tryz.prog 129 0) k)) := by
  intro st m k
  obtain ⟨a0, a3, ⟨⟩⟩ := st
  kernel_rfl
theorem ref02_hex_o0 : OrcOk Tryz.prog (tabsG L_ref02_number) ref02_hex_A (loopN Tryz.prog 129 0) := genOrc_ok (h := ref02_hex_h0) (xs := ref02_hex_x0) (F := ref02_hex_l0) (bd := ref02_hex_b0) (fun _ => FUEL) (by kernel_rfl) (fun _ _ h => h) ref02_hex_s0
noncomputable def ref02_hex_t (p0 : Int) : FT (Int) := (.opt (ref02_hex_l0 (p0, 0, ())) fun x4 => (.alt x4 (fun x5 => (.ret x5.fst)) (fun _ => (.ret (Int.negSucc 0)))))
noncomputable def ref02_hex (p0 : Int) : Option (Int) := (ref02_hex_t p0).fin
noncomputable def ref02_hex_sp : CSpec := genSpec [(.int .u8)] [(.int .i64)] (fun x => ref02_hex x)
theorem ref02_hex_ok : EnterOk Tryz.prog 129 ∧ CSpecOk Tryz.prog cfgG 129 ref02_hex_sp := ⟨enter Tryz.func129 (by kernel_rfl) (by kernel_rfl), genSpec_ok (A := ref02_hex_A) (sa := [(.int .u8)]) (sr := [(.int .i64)]) (bd := fun (x : (ArgT [(.int .u8)])) => ref02_hex_t x) (fitG L_ref02_number) s_ref02_number mixed (by kernel_rfl) (loopsAll (l := [loopN Tryz.prog 129 0]) (by kernel_rfl) ⟨ref02_hex_o0, trivial⟩) (fun _ => rfl) (by
  intro x
  skip
  kernel_rfl)⟩
noncomputable def L_ref02_hex : List (Nat × CSpec) := (129, ref02_hex_sp) :: L_ref02_number
theorem s_ref02_hex : SpecsOk Tryz.prog (tabsG L_ref02_hex) := oneSpecGT s_ref02_number ref02_hex_ok
noncomputable def ref02_str_h1 : EP := ⟨[(0, .d .str), (2, .ref 2 0), (3, .ref 3 0), (4, .own 9004), (5, .d (.int .i64)), (7, .d (.int .i64)), (8, .d (.int .i64))], [(2, .box 68 [.d (.int .i64), .d (.int .i64), .d .str, .d .bool]), (3, .box 38 [.d .bool, .nsl, .d (.int .i64)]), (9004, .row 5 (.int .u8))]⟩
noncomputable def ref02_str_x1 : List (Exit × EP) := [(Exit.ret, ⟨[(0, .d .str), (2, .ref 2 0), (3, .ref 3 0), (4, .own 9004), (5, .d (.int .i64)), (7, .d (.int .i64))], [(2, .box 68 [.d (.int .i64), .d (.int .i64), .d .str, .d .bool]), (3, .box 38 [.d .bool, .d (.sl shPlace), .d (.int .i64)]), (9004, .row 5 (.int .u8))]⟩), (Exit.exit 3, ⟨[(0, .d .str), (2, .ref 2 0), (3, .ref 3 0), (4, .own 9004), (5, .d (.int .i64)), (7, .d (.int .i64))], [(2, .box 68 [.d (.int .i64), .d (.int .i64), .d .str, .d .bool]), (3, .box 38 [.d .bool, .nsl, .d (.int .i64)]), (9004, .row 5 (.int .u8))]⟩)]
abbrev ref02_str_S1 : Type := ByteArray × Int × Int × Int × Int × Int × ByteArray × Bool × Bool × Int × (List Int) × Unit
abbrev ref02_str_Q1 : Type := (ByteArray × Int × Int × Int × Int × ByteArray × Bool × Bool × (List (Int × Int)) × Int × (List Int) × Unit) ⊕ (ByteArray × Int × Int × Int × Int × ByteArray × Bool × Bool × Int × (List Int) × Unit)
noncomputable def ref02_str_b1 : ref02_str_S1 → LT ref02_str_S1 ref02_str_Q1 := fun st => match st with
  | (a0, a5, a7, a8, r2_0, r2_1, r2_2, r2_3, r3_0, r3_1, r9004, ()) => (.br (decide (a8 < IntKind.i64.wrap (a5 + 4))) (.br (decide (a8 ≥ Int.ofNat a0.size)) (.ret (.inl (a0, a5, a7, 0, 0, (ByteArray.mk #[]), false, true, ([(1, Int.ofNat a0.size)]), 4, r9004, ()))) (.br (decide (0 ≤ a8)) (.br (decide (a8 < Int.ofNat a0.size)) (.opt (ref02_hex (Int.ofNat (a0.data.toList.getD a8.toNat 0).toNat)) fun x14 => (.br (decide (x14 < 0)) (.ret (.inl (a0, a5, a7, 0, 0, (ByteArray.mk #[]), false, true, ([(1, a8)]), 4, r9004, ()))) (.next (a0, a5, (IntKind.i64.wrap (IntKind.i64.wrap (16 * a7) + x14)), (IntKind.i64.wrap (a8 + 1)), r2_0, r2_1, r2_2, r2_3, r3_0, r3_1, r9004, ())))) .fail) .fail)) (.ret (.inr (a0, a5, a7, r2_0, r2_1, r2_2, r2_3, r3_0, r3_1, r9004, ()))))
noncomputable def ref02_str_l1 (st : ref02_str_S1) : Option ref02_str_Q1 := LT.loop ref02_str_b1 FUEL st
noncomputable def ref02_str_h0 : EP := ⟨[(0, .d .str), (2, .ref 2 0), (3, .ref 3 0), (4, .own 9004), (5, .d (.int .i64))], [(2, .box 68 [.d (.int .i64), .d (.int .i64), .d .str, .d .bool]), (3, .box 38 [.d .bool, .nsl, .d (.int .i64)]), (9004, .row 5 (.int .u8))]⟩
noncomputable def ref02_str_x0 : List (Exit × EP) := [(Exit.ret, ⟨[(2, .ref 2 0), (3, .ref 3 0)], [(2, .box 68 [.d (.int .i64), .d (.int .i64), .d .str, .d .bool]), (3, .box 38 [.d .bool, .d (.sl shPlace), .d (.int .i64)])]⟩), (Exit.ret, ⟨[(2, .ref 2 0), (3, .ref 3 0)], [(2, .box 68 [.d (.int .i64), .d (.int .i64), .d .str, .d .bool]), (3, .box 38 [.d .bool, .nsl, .d (.int .i64)])]⟩)]
abbrev ref02_str_S0 : Type := ByteArray × Int × Int × Int × ByteArray × Bool × Bool × Int × (List Int) × Unit
abbrev ref02_str_Q0 : Type := (Int × Int × ByteArray × Bool × Bool × (List (Int × Int)) × Int × Unit) ⊕ (Int × Int × ByteArray × Bool × Bool × Int × Unit)
noncomputable def ref02_str_b0 : ref02_str_S0 → LT ref02_str_S0 ref02_str_Q0 := fun st => match st with
  | (a0, a5, r2_0, r2_1, r2_2, r2_3, r3_0, r3_1, r9004, ()) => (.br (decide (a5 ≥ Int.ofNat a0.size)) (.ret (.inl (0, 0, (ByteArray.mk #[]), false, true, ([(1, Int.ofNat a0.size)]), 4, ()))) (.br (decide (0 ≤ a5)) (.br (decide (a5 < Int.ofNat a0.size)) (.br (Int.ofNat (a0.data.toList.getD a5.toNat 0).toNat == 34) (.br (decide (IntKind.i64.wrap (a5 + 1) < Int.ofNat a0.size)) (.ret (.inl (0, 0, (ByteArray.mk #[]), false, true, ([(1, IntKind.i64.wrap (a5 + 1))]), 4, ()))) (.br (decide (Int.ofNat r9004.length > 1000)) (.ret (.inl (0, 0, (ByteArray.mk #[]), false, true, ([]), 2, ()))) (.ret (.inr (2, 0, (ofU8s r9004), false, false, 0, ()))))) (.br (decide (Int.ofNat (a0.data.toList.getD a5.toNat 0).toNat < 32)) (.ret (.inl (0, 0, (ByteArray.mk #[]), false, true, ([(1, a5)]), 4, ()))) (.br (decide (Int.ofNat (a0.data.toList.getD a5.toNat 0).toNat > 126)) (.ret (.inl (0, 0, (ByteArray.mk #[]), false, true, ([(1, a5)]), 4, ()))) (.br (Int.ofNat (a0.data.toList.getD a5.toNat 0).toNat != 92) (.br (appLim 1 r9004.length 1) (.next (a0, (IntKind.i64.wrap (a5 + 1)), r2_0, r2_1, r2_2, r2_3, r3_0, r3_1, (r9004 ++ [Int.ofNat (a0.data.toList.getD a5.toNat 0).toNat]), ())) .fail) (.br (decide (IntKind.i64.wrap (a5 + 1) ≥ Int.ofNat a0.size)) (.ret (.inl (0, 0, (ByteArray.mk #[]), false, true, ([(1, Int.ofNat a0.size)]), 4, ()))) (.br (decide (0 ≤ IntKind.i64.wrap (a5 + 1))) (.br (decide (IntKind.i64.wrap (a5 + 1) < Int.ofNat a0.size)) (.br (Int.ofNat (a0.data.toList.getD (IntKind.i64.wrap (a5 + 1)).toNat 0).toNat == 34) (.br (appLim 1 r9004.length 1) (.next (a0, (IntKind.i64.wrap (a5 + 2)), r2_0, r2_1, r2_2, r2_3, r3_0, r3_1, (r9004 ++ [Int.ofNat (a0.data.toList.getD (IntKind.i64.wrap (a5 + 1)).toNat 0).toNat]), ())) .fail) (.br (Int.ofNat (a0.data.toList.getD (IntKind.i64.wrap (a5 + 1)).toNat 0).toNat == 92) (.br (appLim 1 r9004.length 1) (.next (a0, (IntKind.i64.wrap (a5 + 2)), r2_0, r2_1, r2_2, r2_3, r3_0, r3_1, (r9004 ++ [Int.ofNat (a0.data.toList.getD (IntKind.i64.wrap (a5 + 1)).toNat 0).toNat]), ())) .fail) (.br (Int.ofNat (a0.data.toList.getD (IntKind.i64.wrap (a5 + 1)).toNat 0).toNat != 120) (.ret (.inl (0, 0, (ByteArray.mk #[]), false, true, ([(1, IntKind.i64.wrap (a5 + 1))]), 4, ()))) (.opt (ref02_str_l1 (a0, a5, 0, IntKind.i64.wrap (a5 + 2), r2_0, r2_1, r2_2, r2_3, r3_0, r3_1, r9004, ())) fun x24 => (.alt x24 (fun x25 => (.ret (.inl (x25.snd.snd.snd.fst, x25.snd.snd.snd.snd.fst, x25.snd.snd.snd.snd.snd.fst, x25.snd.snd.snd.snd.snd.snd.fst, x25.snd.snd.snd.snd.snd.snd.snd.fst, x25.snd.snd.snd.snd.snd.snd.snd.snd.fst, x25.snd.snd.snd.snd.snd.snd.snd.snd.snd.fst, ())))) (fun x26 => (.br (decide (x26.snd.snd.fst ≥ 32)) (.br (decide (x26.snd.snd.fst ≤ 126)) (.ret (.inl (0, 0, (ByteArray.mk #[]), false, true, ([(1, IntKind.i64.wrap (x26.snd.fst + 3))]), 4, ()))) (.br (appLim 1 x26.snd.snd.snd.snd.snd.snd.snd.snd.snd.fst.length 1) (.next (x26.fst, (IntKind.i64.wrap (x26.snd.fst + 4)), x26.snd.snd.snd.fst, x26.snd.snd.snd.snd.fst, x26.snd.snd.snd.snd.snd.fst, x26.snd.snd.snd.snd.snd.snd.fst, x26.snd.snd.snd.snd.snd.snd.snd.fst, x26.snd.snd.snd.snd.snd.snd.snd.snd.fst, (x26.snd.snd.snd.snd.snd.snd.snd.snd.snd.fst ++ [IntKind.u8.wrap x26.snd.snd.fst]), ())) .fail)) (.br (appLim 1 x26.snd.snd.snd.snd.snd.snd.snd.snd.snd.fst.length 1) (.next (x26.fst, (IntKind.i64.wrap (x26.snd.fst + 4)), x26.snd.snd.snd.fst, x26.snd.snd.snd.snd.fst, x26.snd.snd.snd.snd.snd.fst, x26.snd.snd.snd.snd.snd.snd.fst, x26.snd.snd.snd.snd.snd.snd.snd.fst, x26.snd.snd.snd.snd.snd.snd.snd.snd.fst, (x26.snd.snd.snd.snd.snd.snd.snd.snd.snd.fst ++ [IntKind.u8.wrap x26.snd.snd.fst]), ())) .fail)))))))) .fail) .fail)))))) .fail) .fail))
noncomputable def ref02_str_l0 (st : ref02_str_S0) : Option ref02_str_Q0 := LT.loop ref02_str_b0 FUEL st
noncomputable def ref02_str_A : Anns := { l := [(3, [.keep [0, 2, 3, 4, 5] [2, 3, 61, 87, 143], .ownS 4 9004 5, .keep [0, 2, 3, 4, 5] [2, 3, 9004]]), (100003, [.keep [2, 3] [2, 3]]), (27, [.keep [0, 2, 3, 4, 5, 7, 8] [2, 3, 9004]]), (100027, [.keep [0, 2, 3, 4, 5, 7] [2, 3, 9004]])], orc := [(3, genOrc ref02_str_h0 ref02_str_x0 ref02_str_l0), (27, genOrc ref02_str_h1 ref02_str_x1 ref02_str_l1)], N := 1000, rng := [], ro := [], outs := none, nils := [] }
theorem ref02_str_s0 : ∀ (st : ref02_str_S0) m k, loopX ref02_str_A (loopN Tryz.prog 121 0) (prep (tabsG L_ref02_hex) (annOf ref02_str_A (loopN Tryz.prog 121 0))) (evalC Tryz.prog (tabsG L_ref02_hex) ref02_str_A (loopN Tryz.prog 121 0)) (m + 1) (ref02_str_h0.enc st) (outK (tabsG L_ref02_hex) ref02_str_A (loopN Tryz.prog 121 0) k) = (ref02_str_b0 st).run (exK ref02_str_x0 k) (fun st' => loopX ref02_str_A (loopN Tryz.prog 121 0) (prep (tabsG L_ref02_hex) (annOf ref02_str_A (loopN Tryz.prog 121 0))) (evalC Tryz.prog (tabsG L_ref02_hex) ref02_str_A (loopN Tryz.prog 121 0)) m (ref02_str_h0.enc st') (outK (tabsG L_ref02_hex) ref02_str_A (loopN Tryz.prog 121 0) k)) := by
  intro st m k
  obtain ⟨a0, a5, r2_0, r2_1, r2_2, r2_3, r3_0, r3_1, r9004, ⟨⟩⟩ := st
  kernel_rfl
theorem ref02_str_o0 : OrcOk Tryz.prog (tabsG L_ref02_hex) ref02_str_A (loopN Tryz.prog 121 0) := genOrc_ok (h := ref02_str_h0) (xs := ref02_str_x0) (F := ref02_str_l0) (bd := ref02_str_b0) (fun _ => FUEL) (by kernel_rfl) (fun _ _ h => h) ref02_str_s0
theorem ref02_str_s1 : ∀ (st : ref02_str_S1) m k, loopX ref02_str_A (loopN Tryz.prog 121 1) (prep (tabsG L_ref02_hex) (annOf ref02_str_A (loopN Tryz.prog 121 1))) (evalC Tryz.prog (tabsG L_ref02_hex) ref02_str_A (loopN Tryz.prog 121 1)) (m + 1) (ref02_str_h1.enc st) (outK (tabsG L_ref02_hex) ref02_str_A (loopN Tryz.prog 121 1) k) = (ref02_str_b1 st).run (exK ref02_str_x1 k) (fun st' => loopX ref02_str_A (loopN Tryz.prog 121 1) (prep (tabsG L_ref02_hex) (annOf ref02_str_A (loopN Tryz.prog 121 1))) (evalC Tryz.prog (tabsG L_ref02_hex) ref02_str_A (loopN Tryz.prog 121 1)) m (ref02_str_h1.enc st') (outK (tabsG L_ref02_hex) ref02_str_A (loopN Tryz.prog 121 1) k)) := by
  intro st m k
  obtain ⟨a0, a5, a7, a8, r2_0, r2_1, r2_2, r2_3, r3_0, r3_1, r9004, ⟨⟩⟩ := st
  kernel_rfl
theorem ref02_str_o1 : OrcOk Tryz.prog (tabsG L_ref02_hex) ref02_str_A (loopN Tryz.prog 121 1) := genOrc_ok (h := ref02_str_h1) (xs := ref02_str_x1) (F := ref02_str_l1) (bd := ref02_str_b1) (fun _ => FUEL) (by kernel_rfl) (fun _ _ h => h) ref02_str_s1
noncomputable def ref02_str_t (p0 : ByteArray) : FT (V × (Bool × List (Int × Int) × Int)) := (.opt (ref02_str_l0 (p0, 1, 0, 0, ByteArray.mk #[], false, false, 0, [], ())) fun x30 => (.alt x30 (fun x31 => (.ret (((x31.fst, x31.snd.fst, x31.snd.snd.fst, x31.snd.snd.snd.fst), x31.snd.snd.snd.snd.fst, x31.snd.snd.snd.snd.snd.fst, x31.snd.snd.snd.snd.snd.snd.fst)))) (fun x32 => (.ret (((x32.fst, x32.snd.fst, x32.snd.snd.fst, x32.snd.snd.snd.fst), x32.snd.snd.snd.snd.fst, [], x32.snd.snd.snd.snd.snd.fst))))))
noncomputable def ref02_str (p0 : ByteArray) : Option (V × (Bool × List (Int × Int) × Int)) := (ref02_str_t p0).fin
noncomputable def ref02_str_sp : CSpec := genSpec [.str] [shVal, shE] (fun x => ref02_str x)
theorem ref02_str_ok : EnterOk Tryz.prog 121 ∧ CSpecOk Tryz.prog cfgG 121 ref02_str_sp := ⟨enter Tryz.func121 (by kernel_rfl) (by kernel_rfl), genSpec_ok (A := ref02_str_A) (sa := [.str]) (sr := [shVal, shE]) (bd := fun (x : (ArgT [.str])) => ref02_str_t x) (fitG L_ref02_hex) s_ref02_hex mixed (by kernel_rfl) (loopsAll (l := [loopN Tryz.prog 121 0, loopN Tryz.prog 121 1]) (by kernel_rfl) ⟨ref02_str_o0, ref02_str_o1, trivial⟩) (fun _ => rfl) (by
  intro x
  skip
  kernel_rfl)⟩
noncomputable def L_ref02_str : List (Nat × CSpec) := (121, ref02_str_sp) :: L_ref02_hex
theorem s_ref02_str : SpecsOk Tryz.prog (tabsG L_ref02_str) := oneSpecGT s_ref02_hex ref02_str_ok
noncomputable def ref02_Read_A : Anns := { l := [], orc := [], N := 1000, rng := [], ro := [], outs := none, nils := [] }
noncomputable def ref02_Read_t (p0 : ByteArray) : FT (V × (Bool × List (Int × Int) × Int)) := (.br (decide (Int.ofNat p0.size > 8000)) (.ret (((0, 0, ByteArray.mk #[], false), true, [], 2))) (.br (Int.ofNat p0.size == 0) (.ret (((0, 0, ByteArray.mk #[], false), true, [(1, 0)], 4))) (.br (decide (0 < Int.ofNat p0.size)) (.br (Int.ofNat (p0.data.toList.getD (Int.toNat 0) 0).toNat == 45) (.opt (ref02_number p0) fun x9 => (.ret x9)) (.br (decide (0 < Int.ofNat p0.size)) (.br (decide (Int.ofNat (p0.data.toList.getD (Int.toNat 0) 0).toNat ≥ 48)) (.br (decide (0 < Int.ofNat p0.size)) (.br (decide (Int.ofNat (p0.data.toList.getD (Int.toNat 0) 0).toNat ≤ 57)) (.opt (ref02_number p0) fun x10 => (.ret x10)) (.br (decide (0 < Int.ofNat p0.size)) (.br (Int.ofNat (p0.data.toList.getD (Int.toNat 0) 0).toNat == 34) (.opt (ref02_str p0) fun x11 => (.ret x11)) (.br (decide (0 < Int.ofNat p0.size)) (.br (Int.ofNat (p0.data.toList.getD (Int.toNat 0) 0).toNat == 116) (.opt (ref02_truth p0 (ByteArray.mk #[116, 114, 117, 101]) true) fun x12 => (.ret x12)) (.br (decide (0 < Int.ofNat p0.size)) (.br (Int.ofNat (p0.data.toList.getD (Int.toNat 0) 0).toNat == 102) (.opt (ref02_truth p0 (ByteArray.mk #[102, 97, 108, 115, 101]) false) fun x13 => (.ret x13)) (.ret (((0, 0, ByteArray.mk #[], false), true, [(1, 0)], 4)))) .fail)) .fail)) .fail)) .fail) (.br (decide (0 < Int.ofNat p0.size)) (.br (Int.ofNat (p0.data.toList.getD (Int.toNat 0) 0).toNat == 34) (.opt (ref02_str p0) fun x14 => (.ret x14)) (.br (decide (0 < Int.ofNat p0.size)) (.br (Int.ofNat (p0.data.toList.getD (Int.toNat 0) 0).toNat == 116) (.opt (ref02_truth p0 (ByteArray.mk #[116, 114, 117, 101]) true) fun x15 => (.ret x15)) (.br (decide (0 < Int.ofNat p0.size)) (.br (Int.ofNat (p0.data.toList.getD (Int.toNat 0) 0).toNat == 102) (.opt (ref02_truth p0 (ByteArray.mk #[102, 97, 108, 115, 101]) false) fun x16 => (.ret x16)) (.ret (((0, 0, ByteArray.mk #[], false), true, [(1, 0)], 4)))) .fail)) .fail)) .fail)) .fail)) .fail)))
noncomputable def ref02_Read (p0 : ByteArray) : Option (V × (Bool × List (Int × Int) × Int)) := (ref02_Read_t p0).fin
noncomputable def ref02_Read_sp : CSpec := genSpec [.str] [shVal, shE] (fun x => ref02_Read x)
theorem ref02_Read_ok : EnterOk Tryz.prog 95 ∧ CSpecOk Tryz.prog cfgG 95 ref02_Read_sp := ⟨enter Tryz.func95 (by kernel_rfl) (by kernel_rfl), genSpec_ok (A := ref02_Read_A) (sa := [.str]) (sr := [shVal, shE]) (bd := fun (x : (ArgT [.str])) => ref02_Read_t x) (fitG L_ref02_str) s_ref02_str mixed (by kernel_rfl) (loopsAll (l := []) (by kernel_rfl) trivial) (fun _ => rfl) (by
  intro x
  skip
  kernel_rfl)⟩
noncomputable def L_ref02_Read : List (Nat × CSpec) := (95, ref02_Read_sp) :: L_ref02_str
theorem s_ref02_Read : SpecsOk Tryz.prog (tabsG L_ref02_Read) := oneSpecGT s_ref02_str ref02_Read_ok
noncomputable def ref05_equal_A : Anns := { l := [], orc := [], N := 1000, rng := [], ro := [], outs := none, nils := [] }
noncomputable def ref05_equal_t (p0 : ByteArray) (p1 : V) : FT (Bd) := (.br (p1.fst == 1) (.ret ((p0, 1, p1.snd.fst, p1.snd.fst, false, ByteArray.mk #[], false, false))) (.br (p1.fst == 2) (.ret ((p0, 2, 0, 0, true, p1.snd.snd.fst, false, false))) (.ret ((p0, 3, 0, 0, false, ByteArray.mk #[], p1.snd.snd.snd, !p1.snd.snd.snd)))))
noncomputable def ref05_equal (p0 : ByteArray) (p1 : V) : Option (Bd) := (ref05_equal_t p0 p1).fin
noncomputable def ref05_equal_sp : CSpec := genSpec [.str, shVal] [shBound] (fun x => ref05_equal x.1 x.2)
theorem ref05_equal_ok : EnterOk Tryz.prog 96 ∧ CSpecOk Tryz.prog cfgG 96 ref05_equal_sp := ⟨enter Tryz.func96 (by kernel_rfl) (by kernel_rfl), genSpec_ok (A := ref05_equal_A) (sa := [.str, shVal]) (sr := [shBound]) (bd := fun (x : (ArgT [.str, shVal])) => ref05_equal_t x.1 x.2) (fitG L_ref02_Read) s_ref02_Read mixed (by kernel_rfl) (loopsAll (l := []) (by kernel_rfl) trivial) (fun _ => rfl) (by
  intro x
  obtain ⟨p0, p1⟩ := x
  kernel_rfl)⟩
noncomputable def L_ref05_equal : List (Nat × CSpec) := (96, ref05_equal_sp) :: L_ref02_Read
theorem s_ref05_equal : SpecsOk Tryz.prog (tabsG L_ref05_equal) := oneSpecGT s_ref02_Read ref05_equal_ok
noncomputable def ref05_condition_A : Anns := { l := [], orc := [], N := 1000, rng := [], ro := [], outs := none, nils := [] }
noncomputable def ref05_condition_t (p0 : ByteArray) : FT (Fil × Bool) := (.opt (ref05_cut p0) fun x7 => (.opt (ref05_cut x7.snd.fst) fun x8 => (.br (!x7.snd.snd) (.ret (((false, []), false))) (.br (!x8.snd.snd) (.ret (((false, []), false))) (.opt (ref03_Name x7.fst) fun x9 => (.br (!x9) (.ret (((false, []), false))) (.br (ByteArray.toList x8.fst == (ByteArray.mk #[105, 115]).toList) (.opt (ref05_kind x7.fst x8.snd.fst) fun x10 => (.ret (((false, [x10.fst]), x10.snd)))) (.opt (ref02_Read x8.snd.fst) fun x11 => (.br x11.snd.fst (.ret (((false, []), false))) (.opt (ref05_equal x7.fst x11.fst) fun x12 => (.br (ByteArray.toList x8.fst == (ByteArray.mk #[61]).toList) (.ret (((false, [x12]), true))) (.br (ByteArray.toList x8.fst == (ByteArray.mk #[94]).toList) (.br (x11.fst.fst == 2) (.ret (((false, [(x12.fst, x12.snd.fst, x12.snd.snd.fst, x12.snd.snd.snd.fst, false, x12.snd.snd.snd.snd.snd)]), decide (Int.ofNat (ByteArray.size x11.fst.snd.snd.fst) < 1000)))) (.ret (((false, [(x12.fst, x12.snd.fst, x12.snd.snd.fst, x12.snd.snd.snd.fst, false, x12.snd.snd.snd.snd.snd)]), false)))) (.br (x11.fst.fst != 1) (.ret (((false, []), false))) (.br (ByteArray.toList x8.fst == (ByteArray.mk #[60]).toList) (.br (x11.fst.snd.fst == -9223372036854775808) (.ret (((true, []), true))) (.br (ByteArray.toList x8.fst == (ByteArray.mk #[62]).toList) (.br (x11.fst.snd.fst == 9223372036854775807) (.ret (((true, []), true))) (.br (ByteArray.toList x8.fst == (ByteArray.mk #[60]).toList) (.ret (((false, [(x12.fst, x12.snd.fst, Int.negSucc 9223372036854775807, IntKind.i64.wrap (x11.fst.snd.fst - 1), x12.snd.snd.snd.snd)]), true))) (.br (ByteArray.toList x8.fst == (ByteArray.mk #[60, 61]).toList) (.ret (((false, [(x12.fst, x12.snd.fst, Int.negSucc 9223372036854775807, x11.fst.snd.fst, x12.snd.snd.snd.snd)]), true))) (.br (ByteArray.toList x8.fst == (ByteArray.mk #[62]).toList) (.ret (((false, [(x12.fst, x12.snd.fst, IntKind.i64.wrap (x11.fst.snd.fst + 1), 9223372036854775807, x12.snd.snd.snd.snd)]), true))) (.br (ByteArray.toList x8.fst == (ByteArray.mk #[62, 61]).toList) (.ret (((false, [(x12.fst, x12.snd.fst, x11.fst.snd.fst, 9223372036854775807, x12.snd.snd.snd.snd)]), true))) (.ret (((false, []), false)))))))) (.br (ByteArray.toList x8.fst == (ByteArray.mk #[60]).toList) (.ret (((false, [(x12.fst, x12.snd.fst, Int.negSucc 9223372036854775807, IntKind.i64.wrap (x11.fst.snd.fst - 1), x12.snd.snd.snd.snd)]), true))) (.br (ByteArray.toList x8.fst == (ByteArray.mk #[60, 61]).toList) (.ret (((false, [(x12.fst, x12.snd.fst, Int.negSucc 9223372036854775807, x11.fst.snd.fst, x12.snd.snd.snd.snd)]), true))) (.br (ByteArray.toList x8.fst == (ByteArray.mk #[62]).toList) (.ret (((false, [(x12.fst, x12.snd.fst, IntKind.i64.wrap (x11.fst.snd.fst + 1), 9223372036854775807, x12.snd.snd.snd.snd)]), true))) (.br (ByteArray.toList x8.fst == (ByteArray.mk #[62, 61]).toList) (.ret (((false, [(x12.fst, x12.snd.fst, x11.fst.snd.fst, 9223372036854775807, x12.snd.snd.snd.snd)]), true))) (.ret (((false, []), false))))))))) (.br (ByteArray.toList x8.fst == (ByteArray.mk #[62]).toList) (.br (x11.fst.snd.fst == 9223372036854775807) (.ret (((true, []), true))) (.br (ByteArray.toList x8.fst == (ByteArray.mk #[60]).toList) (.ret (((false, [(x12.fst, x12.snd.fst, Int.negSucc 9223372036854775807, IntKind.i64.wrap (x11.fst.snd.fst - 1), x12.snd.snd.snd.snd)]), true))) (.br (ByteArray.toList x8.fst == (ByteArray.mk #[60, 61]).toList) (.ret (((false, [(x12.fst, x12.snd.fst, Int.negSucc 9223372036854775807, x11.fst.snd.fst, x12.snd.snd.snd.snd)]), true))) (.br (ByteArray.toList x8.fst == (ByteArray.mk #[62]).toList) (.ret (((false, [(x12.fst, x12.snd.fst, IntKind.i64.wrap (x11.fst.snd.fst + 1), 9223372036854775807, x12.snd.snd.snd.snd)]), true))) (.br (ByteArray.toList x8.fst == (ByteArray.mk #[62, 61]).toList) (.ret (((false, [(x12.fst, x12.snd.fst, x11.fst.snd.fst, 9223372036854775807, x12.snd.snd.snd.snd)]), true))) (.ret (((false, []), false)))))))) (.br (ByteArray.toList x8.fst == (ByteArray.mk #[60]).toList) (.ret (((false, [(x12.fst, x12.snd.fst, Int.negSucc 9223372036854775807, IntKind.i64.wrap (x11.fst.snd.fst - 1), x12.snd.snd.snd.snd)]), true))) (.br (ByteArray.toList x8.fst == (ByteArray.mk #[60, 61]).toList) (.ret (((false, [(x12.fst, x12.snd.fst, Int.negSucc 9223372036854775807, x11.fst.snd.fst, x12.snd.snd.snd.snd)]), true))) (.br (ByteArray.toList x8.fst == (ByteArray.mk #[62]).toList) (.ret (((false, [(x12.fst, x12.snd.fst, IntKind.i64.wrap (x11.fst.snd.fst + 1), 9223372036854775807, x12.snd.snd.snd.snd)]), true))) (.br (ByteArray.toList x8.fst == (ByteArray.mk #[62, 61]).toList) (.ret (((false, [(x12.fst, x12.snd.fst, x11.fst.snd.fst, 9223372036854775807, x12.snd.snd.snd.snd)]), true))) (.ret (((false, []), false))))))))))))))))))))))
noncomputable def ref05_condition (p0 : ByteArray) : Option (Fil × Bool) := (ref05_condition_t p0).fin
noncomputable def ref05_condition_sp : CSpec := genSpec [.str] [shFil, .bool] (fun x => ref05_condition x)
theorem ref05_condition_ok : EnterOk Tryz.prog 65 ∧ CSpecOk Tryz.prog cfgG 65 ref05_condition_sp := ⟨enter Tryz.func65 (by kernel_rfl) (by kernel_rfl), genSpec_ok (A := ref05_condition_A) (sa := [.str]) (sr := [shFil, .bool]) (bd := fun (x : (ArgT [.str])) => ref05_condition_t x) (fitG L_ref05_equal) s_ref05_equal mixed (by kernel_rfl) (loopsAll (l := []) (by kernel_rfl) trivial) (fun _ => rfl) (by
  intro x
  skip
  kernel_rfl)⟩
noncomputable def L_ref05_condition : List (Nat × CSpec) := (65, ref05_condition_sp) :: L_ref05_equal
theorem s_ref05_condition : SpecsOk Tryz.prog (tabsG L_ref05_condition) := oneSpecGT s_ref05_equal ref05_condition_ok
noncomputable def ref05_Parse_h1 : EP := ⟨[(2, .ref 2 0), (3, .ref 3 0), (4, .ref 4 0), (5, .own 9005), (8, .ref 8 0), (10, .d .str), (13, .d .bool), (34, .d (.sl .str)), (35, .d (.int .i64)), (36, .d (.int .i64)), (58, .own 9005), (59, .d (.int .i64)), (60, .d (.int .i64))], [(2, .box 32 [.d .bool, .nsl]), (3, .box 38 [.d .bool, .nsl, .d (.int .i64)]), (4, .box 32 [.d .bool, .d (.sl shBound)]), (8, .box 32 [.d .bool, .d (.sl shBound)]), (9005, .row 9 .str)]⟩
noncomputable def ref05_Parse_x1 : List (Exit × EP) := [(Exit.exit 3, ⟨[(2, .ref 2 0), (3, .ref 3 0), (4, .ref 4 0), (5, .own 9005), (8, .ref 8 0), (10, .d .str), (13, .d .bool), (34, .d (.sl .str)), (35, .d (.int .i64)), (36, .d (.int .i64))], [(2, .box 32 [.d .bool, .nsl]), (3, .box 38 [.d .bool, .nsl, .d (.int .i64)]), (4, .box 32 [.d .bool, .d (.sl shBound)]), (8, .box 32 [.d .bool, .d (.sl shBound)]), (9005, .row 9 .str)]⟩)]
abbrev ref05_Parse_S1 : Type := ByteArray × Bool × (List ByteArray) × Int × Int × Int × Int × Bool × Bool × Int × Bool × (List Bd) × Bool × (List Bd) × (List ByteArray) × Unit
abbrev ref05_Parse_Q1 : Type := (ByteArray × Bool × (List ByteArray) × Int × Int × Bool × Bool × Int × Bool × (List Bd) × Bool × (List Bd) × (List ByteArray) × Unit)
noncomputable def ref05_Parse_b1 : ref05_Parse_S1 → LT ref05_Parse_S1 ref05_Parse_Q1 := fun st => match st with
  | (a10, a13, a34, a35, a36, a59, a60, r2, r3_0, r3_1, r4_0, r4_1, r8_0, r8_1, r9005, ()) => (.br (decide (a60 < a59)) (.br (decide (0 ≤ a60)) (.br (decide (a60 < Int.ofNat r9005.length)) (.br (decide (0 ≤ a60)) (.br (decide (a60 < Int.ofNat r9005.length)) (.br a13 (.next (a10, true, a34, a35, a36, a59, (IntKind.i64.wrap (a60 + 1)), r2, r3_0, r3_1, r4_0, r4_1, r8_0, r8_1, r9005, ())) (.next (a10, (ByteArray.toList (getI r9005 a60 (ByteArray.mk #[])) == a10.toList), a34, a35, a36, a59, (IntKind.i64.wrap (a60 + 1)), r2, r3_0, r3_1, r4_0, r4_1, r8_0, r8_1, r9005, ()))) .fail) .fail) .fail) .fail) (.ret (a10, a13, a34, a35, a36, r2, r3_0, r3_1, r4_0, r4_1, r8_0, r8_1, r9005, ())))
noncomputable def ref05_Parse_l1 (st : ref05_Parse_S1) : Option ref05_Parse_Q1 := LT.loop ref05_Parse_b1 FUEL st
noncomputable def ref05_Parse_h0 : EP := ⟨[(2, .ref 2 0), (3, .ref 3 0), (4, .ref 4 0), (5, .own 9005), (34, .d (.sl .str)), (35, .d (.int .i64)), (36, .d (.int .i64))], [(2, .box 32 [.d .bool, .nsl]), (3, .box 38 [.d .bool, .nsl, .d (.int .i64)]), (4, .box 32 [.d .bool, .d (.sl shBound)]), (9005, .row 9 .str)]⟩
noncomputable def ref05_Parse_x0 : List (Exit × EP) := [(Exit.ret, ⟨[(2, .ref 2 0), (3, .ref 3 0), (4, .ref 4 0), (5, .own 9005)], [(2, .box 32 [.d .bool, .nsl]), (3, .box 38 [.d .bool, .d (.sl shPlace), .d (.int .i64)]), (4, .box 32 [.d .bool, .d (.sl shBound)]), (9005, .row 9 .str)]⟩), (Exit.exit 1, ⟨[(2, .ref 2 0), (3, .ref 3 0), (4, .ref 4 0), (5, .own 9005)], [(2, .box 32 [.d .bool, .nsl]), (3, .box 38 [.d .bool, .nsl, .d (.int .i64)]), (4, .box 32 [.d .bool, .d (.sl shBound)]), (9005, .row 9 .str)]⟩)]
abbrev ref05_Parse_S0 : Type := (List ByteArray) × Int × Int × Bool × Bool × Int × Bool × (List Bd) × (List ByteArray) × Unit
abbrev ref05_Parse_Q0 : Type := (Bool × Bool × (List (Int × Int)) × Int × Bool × (List Bd) × (List ByteArray) × Unit) ⊕ (Bool × Bool × Int × Bool × (List Bd) × (List ByteArray) × Unit)
noncomputable def ref05_Parse_b0 : ref05_Parse_S0 → LT ref05_Parse_S0 ref05_Parse_Q0 := fun st => match st with
  | (a34, a35, a36, r2, r3_0, r3_1, r4_0, r4_1, r9005, ()) => (.br (decide (a36 < a35)) (.br (decide (0 ≤ a36)) (.br (decide (a36 < Int.ofNat a34.length)) (.opt (ref05_condition (getI a34 a36 (ByteArray.mk #[]))) fun x39 => (.br (!x39.snd) (.ret (.inl (false, true, ([(2, a36)]), 4, r4_0, r4_1, r9005, ()))) (.opt (ref05_cut (getI a34 a36 (ByteArray.mk #[]))) fun x40 => (.opt (ref05_Parse_l1 (x40.fst, false, a34, a35, a36, Int.ofNat r9005.length, 0, r2, r3_0, r3_1, r4_0, r4_1, x39.fst.fst, x39.fst.snd, r9005, ())) fun x41 => (.br (!x41.snd.fst) (.br (appLim 16 x41.snd.snd.snd.snd.snd.snd.snd.snd.snd.snd.snd.snd.fst.length 1) (.opt (ref05_And (x41.snd.snd.snd.snd.snd.snd.snd.snd.fst, x41.snd.snd.snd.snd.snd.snd.snd.snd.snd.fst) (x41.snd.snd.snd.snd.snd.snd.snd.snd.snd.snd.fst, x41.snd.snd.snd.snd.snd.snd.snd.snd.snd.snd.snd.fst)) fun x42 => (.next (x41.snd.snd.fst, x41.snd.snd.snd.fst, (IntKind.i64.wrap (x41.snd.snd.snd.snd.fst + 1)), x41.snd.snd.snd.snd.snd.fst, x41.snd.snd.snd.snd.snd.snd.fst, x41.snd.snd.snd.snd.snd.snd.snd.fst, x42.fst, x42.snd, (x41.snd.snd.snd.snd.snd.snd.snd.snd.snd.snd.snd.snd.fst ++ [x41.fst]), ()))) .fail) (.opt (ref05_And (x41.snd.snd.snd.snd.snd.snd.snd.snd.fst, x41.snd.snd.snd.snd.snd.snd.snd.snd.snd.fst) (x41.snd.snd.snd.snd.snd.snd.snd.snd.snd.snd.fst, x41.snd.snd.snd.snd.snd.snd.snd.snd.snd.snd.snd.fst)) fun x43 => (.next (x41.snd.snd.fst, x41.snd.snd.snd.fst, (IntKind.i64.wrap (x41.snd.snd.snd.snd.fst + 1)), x41.snd.snd.snd.snd.snd.fst, x41.snd.snd.snd.snd.snd.snd.fst, x41.snd.snd.snd.snd.snd.snd.snd.fst, x43.fst, x43.snd, x41.snd.snd.snd.snd.snd.snd.snd.snd.snd.snd.snd.snd.fst, ())))))))) .fail) .fail) (.ret (.inr (r2, r3_0, r3_1, r4_0, r4_1, r9005, ()))))
noncomputable def ref05_Parse_l0 (st : ref05_Parse_S0) : Option ref05_Parse_Q0 := LT.loop ref05_Parse_b0 FUEL st
noncomputable def ref05_Parse_A : Anns := { l := [(10, [.keep [2, 3, 4, 5, 34, 35, 36] [2, 3, 4, 76, 9005], .ownS 5 9005 9, .datB 4 shFil, .keep [2, 3, 4, 5, 34, 35, 36] [2, 3, 4, 9005]]), (100010, [.keep [2, 3, 4, 5] [2, 3, 4, 9005]]), (18, [.keep [2, 3, 4, 5, 8, 10, 13, 34, 35, 36, 58, 59, 60] [2, 3, 4, 8, 9005]]), (100018, [.keep [2, 3, 4, 5, 8, 10, 13, 34, 35, 36] [2, 3, 4, 8, 9005]])], orc := [(10, genOrc ref05_Parse_h0 ref05_Parse_x0 ref05_Parse_l0), (18, genOrc ref05_Parse_h1 ref05_Parse_x1 ref05_Parse_l1)], N := 1000, rng := [], ro := [], outs := none, nils := [] }
theorem ref05_Parse_s0 : ∀ (st : ref05_Parse_S0) m k, loopX ref05_Parse_A (loopN Tryz.prog 44 0) (prep (tabsG L_ref05_condition) (annOf ref05_Parse_A (loopN Tryz.prog 44 0))) (evalC Tryz.prog (tabsG L_ref05_condition) ref05_Parse_A (loopN Tryz.prog 44 0)) (m + 1) (ref05_Parse_h0.enc st) (outK (tabsG L_ref05_condition) ref05_Parse_A (loopN Tryz.prog 44 0) k) = (ref05_Parse_b0 st).run (exK ref05_Parse_x0 k) (fun st' => loopX ref05_Parse_A (loopN Tryz.prog 44 0) (prep (tabsG L_ref05_condition) (annOf ref05_Parse_A (loopN Tryz.prog 44 0))) (evalC Tryz.prog (tabsG L_ref05_condition) ref05_Parse_A (loopN Tryz.prog 44 0)) m (ref05_Parse_h0.enc st') (outK (tabsG L_ref05_condition) ref05_Parse_A (loopN Tryz.prog 44 0) k)) := by
  intro st m k
  obtain ⟨a34, a35, a36, r2, r3_0, r3_1, r4_0, r4_1, r9005, ⟨⟩⟩ := st
  kernel_rfl
theorem ref05_Parse_o0 : OrcOk Tryz.prog (tabsG L_ref05_condition) ref05_Parse_A (loopN Tryz.prog 44 0) := genOrc_ok (h := ref05_Parse_h0) (xs := ref05_Parse_x0) (F := ref05_Parse_l0) (bd := ref05_Parse_b0) (fun _ => FUEL) (by kernel_rfl) (fun _ _ h => h) ref05_Parse_s0
theorem ref05_Parse_s1 : ∀ (st : ref05_Parse_S1) m k, loopX ref05_Parse_A (loopN Tryz.prog 44 1) (prep (tabsG L_ref05_condition) (annOf ref05_Parse_A (loopN Tryz.prog 44 1))) (evalC Tryz.prog (tabsG L_ref05_condition) ref05_Parse_A (loopN Tryz.prog 44 1)) (m + 1) (ref05_Parse_h1.enc st) (outK (tabsG L_ref05_condition) ref05_Parse_A (loopN Tryz.prog 44 1) k) = (ref05_Parse_b1 st).run (exK ref05_Parse_x1 k) (fun st' => loopX ref05_Parse_A (loopN Tryz.prog 44 1) (prep (tabsG L_ref05_condition) (annOf ref05_Parse_A (loopN Tryz.prog 44 1))) (evalC Tryz.prog (tabsG L_ref05_condition) ref05_Parse_A (loopN Tryz.prog 44 1)) m (ref05_Parse_h1.enc st') (outK (tabsG L_ref05_condition) ref05_Parse_A (loopN Tryz.prog 44 1) k)) := by
  intro st m k
  obtain ⟨a10, a13, a34, a35, a36, a59, a60, r2, r3_0, r3_1, r4_0, r4_1, r8_0, r8_1, r9005, ⟨⟩⟩ := st
  kernel_rfl
theorem ref05_Parse_o1 : OrcOk Tryz.prog (tabsG L_ref05_condition) ref05_Parse_A (loopN Tryz.prog 44 1) := genOrc_ok (h := ref05_Parse_h1) (xs := ref05_Parse_x1) (F := ref05_Parse_l1) (bd := ref05_Parse_b1) (fun _ => FUEL) (by kernel_rfl) (fun _ _ h => h) ref05_Parse_s1
noncomputable def ref05_Parse_t (p0 : ByteArray) : FT (Fil × (Bool × List (Int × Int) × Int)) := (.br (decide (Int.ofNat p0.size > 8000)) (.ret (((false, []), true, [], 2))) (.br (p0.toList == (ByteArray.mk #[97, 108, 108]).toList) (.ret (((false, []), false, [], 0))) (.br (p0.toList == (ByteArray.mk #[110, 101, 118, 101, 114]).toList) (.ret (((true, []), false, [], 0))) (.opt (ref05_Split p0) fun x48 => (.opt (ref05_Parse_l0 (x48, Int.ofNat x48.length, 0, false, false, 0, false, [], [], ())) fun x49 => (.alt x49 (fun x50 => (.ret (((x50.fst, []), x50.snd.fst, x50.snd.snd.fst, x50.snd.snd.snd.fst)))) (fun x51 => (.br (decide (Int.ofNat x51.snd.snd.snd.snd.snd.fst.length > 16)) (.ret (((false, []), true, [], 11))) (.ret (((x51.snd.snd.snd.fst, x51.snd.snd.snd.snd.fst), false, [], 0)))))))))))
noncomputable def ref05_Parse (p0 : ByteArray) : Option (Fil × (Bool × List (Int × Int) × Int)) := (ref05_Parse_t p0).fin
noncomputable def ref05_Parse_sp : CSpec := genSpec [.str] [shFil, shE] (fun x => ref05_Parse x)
theorem ref05_Parse_ok : EnterOk Tryz.prog 44 ∧ CSpecOk Tryz.prog cfgG 44 ref05_Parse_sp := ⟨enter Tryz.func44 (by kernel_rfl) (by kernel_rfl), genSpec_ok (A := ref05_Parse_A) (sa := [.str]) (sr := [shFil, shE]) (bd := fun (x : (ArgT [.str])) => ref05_Parse_t x) (fitG L_ref05_condition) s_ref05_condition mixed (by kernel_rfl) (loopsAll (l := [loopN Tryz.prog 44 0, loopN Tryz.prog 44 1]) (by kernel_rfl) ⟨ref05_Parse_o0, ref05_Parse_o1, trivial⟩) (fun _ => rfl) (by
  intro x
  skip
  kernel_rfl)⟩
noncomputable def L_ref05_Parse : List (Nat × CSpec) := (44, ref05_Parse_sp) :: L_ref05_condition
theorem s_ref05_Parse : SpecsOk Tryz.prog (tabsG L_ref05_Parse) := oneSpecGT s_ref05_condition ref05_Parse_ok
noncomputable def law08_read_A : Anns := { l := [], orc := [], N := 1000, rng := [], ro := [], outs := none, nils := [] }
noncomputable def law08_read_t (p0 : ByteArray) : FT (Fil) := (.opt (ref05_Parse p0) fun x2 => (.ret x2.fst))
noncomputable def law08_read (p0 : ByteArray) : Option (Fil) := (law08_read_t p0).fin
noncomputable def law08_read_sp : CSpec := genSpec [.str] [shFil] (fun x => law08_read x)
theorem law08_read_ok : EnterOk Tryz.prog 24 ∧ CSpecOk Tryz.prog cfgG 24 law08_read_sp := ⟨enter Tryz.func24 (by kernel_rfl) (by kernel_rfl), genSpec_ok (A := law08_read_A) (sa := [.str]) (sr := [shFil]) (bd := fun (x : (ArgT [.str])) => law08_read_t x) (fitG L_ref05_Parse) s_ref05_Parse mixed (by kernel_rfl) (loopsAll (l := []) (by kernel_rfl) trivial) (fun _ => rfl) (by
  intro x
  skip
  kernel_rfl)⟩
noncomputable def L_law08_read : List (Nat × CSpec) := (24, law08_read_sp) :: L_ref05_Parse
theorem s_law08_read : SpecsOk Tryz.prog (tabsG L_law08_read) := oneSpecGT s_ref05_Parse law08_read_ok
noncomputable def ref03_Twin_A : Anns := { l := [], orc := [], N := 1000, rng := [], ro := [], outs := none, nils := [] }
noncomputable def ref03_Twin_t (p0 : (List (ByteArray × V))) : FT ((List (ByteArray × V))) := (.br (appLim 56 0 p0.length) (.ret p0) .fail)
noncomputable def ref03_Twin (p0 : (List (ByteArray × V))) : Option ((List (ByteArray × V))) := (ref03_Twin_t p0).fin
noncomputable def ref03_Twin_sp : CSpec := genSpec [shEvent] [shEvent] (fun x => ref03_Twin x)
theorem ref03_Twin_ok : EnterOk Tryz.prog 27 ∧ CSpecOk Tryz.prog cfgG 27 ref03_Twin_sp := ⟨enter Tryz.func27 (by kernel_rfl) (by kernel_rfl), genSpec_ok (A := ref03_Twin_A) (sa := [shEvent]) (sr := [shEvent]) (bd := fun (x : (ArgT [shEvent])) => ref03_Twin_t x) (fitG L_law08_read) s_law08_read mixed (by kernel_rfl) (loopsAll (l := []) (by kernel_rfl) trivial) (fun _ => rfl) (by
  intro x
  skip
  kernel_rfl)⟩
noncomputable def L_ref03_Twin : List (Nat × CSpec) := (27, ref03_Twin_sp) :: L_law08_read
theorem s_ref03_Twin : SpecsOk Tryz.prog (tabsG L_ref03_Twin) := oneSpecGT s_law08_read ref03_Twin_ok
noncomputable def ref05_Twin_A : Anns := { l := [], orc := [], N := 1000, rng := [], ro := [], outs := none, nils := [] }
noncomputable def ref05_Twin_t (p0 : Fil) : FT (Fil) := (.br (appLim 72 0 (List.length p0.snd)) (.ret ((p0.fst, [] ++ p0.snd))) .fail)
noncomputable def ref05_Twin (p0 : Fil) : Option (Fil) := (ref05_Twin_t p0).fin
noncomputable def ref05_Twin_sp : CSpec := genSpec [shFil] [shFil] (fun x => ref05_Twin x)
theorem ref05_Twin_ok : EnterOk Tryz.prog 18 ∧ CSpecOk Tryz.prog cfgG 18 ref05_Twin_sp := ⟨enter Tryz.func18 (by kernel_rfl) (by kernel_rfl), genSpec_ok (A := ref05_Twin_A) (sa := [shFil]) (sr := [shFil]) (bd := fun (x : (ArgT [shFil])) => ref05_Twin_t x) (fitG L_ref03_Twin) s_ref03_Twin mixed (by kernel_rfl) (loopsAll (l := []) (by kernel_rfl) trivial) (fun _ => rfl) (by
  intro x
  skip
  kernel_rfl)⟩
noncomputable def L_ref05_Twin : List (Nat × CSpec) := (18, ref05_Twin_sp) :: L_ref03_Twin
theorem s_ref05_Twin : SpecsOk Tryz.prog (tabsG L_ref05_Twin) := oneSpecGT s_ref03_Twin ref05_Twin_ok
noncomputable def ref02_Check_A : Anns := { l := [], orc := [], N := 1000, rng := [], ro := [], outs := none, nils := [] }
noncomputable def ref02_Check_t (p0 : V) : FT ((Bool × List (Int × Int) × Int)) := (.br (p0.fst == 1) (.br (!ByteArray.toList p0.snd.snd.fst == (ByteArray.mk #[]).toList) (.ret ((true, [], 3))) (.br p0.snd.snd.snd (.ret ((true, [], 3))) (.ret ((false, [], 0))))) (.br (p0.fst == 2) (.br (p0.snd.fst != 0) (.ret ((true, [], 3))) (.br p0.snd.snd.snd (.ret ((true, [], 3))) (.br (decide (Int.ofNat (ByteArray.size p0.snd.snd.fst) > 1000)) (.ret ((true, [], 2))) (.ret ((false, [], 0)))))) (.br (p0.fst == 3) (.br (!ByteArray.toList p0.snd.snd.fst == (ByteArray.mk #[]).toList) (.ret ((true, [], 3))) (.br (p0.snd.fst != 0) (.ret ((true, [], 3))) (.ret ((false, [], 0))))) (.ret ((true, [], 3))))))
noncomputable def ref02_Check (p0 : V) : Option ((Bool × List (Int × Int) × Int)) := (ref02_Check_t p0).fin
noncomputable def ref02_Check_sp : CSpec := genSpec [shVal] [shE] (fun x => ref02_Check x)
theorem ref02_Check_ok : EnterOk Tryz.prog 41 ∧ CSpecOk Tryz.prog cfgG 41 ref02_Check_sp := ⟨enter Tryz.func41 (by kernel_rfl) (by kernel_rfl), genSpec_ok (A := ref02_Check_A) (sa := [shVal]) (sr := [shE]) (bd := fun (x : (ArgT [shVal])) => ref02_Check_t x) (fitG L_ref05_Twin) s_ref05_Twin mixed (by kernel_rfl) (loopsAll (l := []) (by kernel_rfl) trivial) (fun _ => rfl) (by
  intro x
  skip
  kernel_rfl)⟩
noncomputable def L_ref02_Check : List (Nat × CSpec) := (41, ref02_Check_sp) :: L_ref05_Twin
theorem s_ref02_Check : SpecsOk Tryz.prog (tabsG L_ref02_Check) := oneSpecGT s_ref05_Twin ref02_Check_ok
noncomputable def ref03_Check_h0 : EP := ⟨[(0, .d shEvent), (2, .ref 2 0), (10, .d shEvent), (11, .d (.int .i64)), (12, .d (.int .i64))], [(2, .box 38 [.d .bool, .nsl, .d (.int .i64)])]⟩
noncomputable def ref03_Check_x0 : List (Exit × EP) := [(Exit.ret, ⟨[(2, .ref 2 0)], [(2, .box 38 [.d .bool, .d (.sl shPlace), .d (.int .i64)])]⟩), (Exit.exit 0, ⟨[(2, .ref 2 0)], [(2, .box 38 [.d .bool, .nsl, .d (.int .i64)])]⟩)]
abbrev ref03_Check_S0 : Type := (List (ByteArray × V)) × (List (ByteArray × V)) × Int × Int × Bool × Int × Unit
abbrev ref03_Check_Q0 : Type := (Bool × (List (Int × Int)) × Int × Unit) ⊕ (Bool × Int × Unit)
noncomputable def ref03_Check_b0 : ref03_Check_S0 → LT ref03_Check_S0 ref03_Check_Q0 := fun st => match st with
  | (a0, a10, a11, a12, r2_0, r2_1, ()) => (.br (decide (a12 < a11)) (.br (decide (0 ≤ a12)) (.br (decide (a12 < Int.ofNat a10.length)) (.opt (ref03_Name (getI a10 a12 (ByteArray.mk #[], 0, 0, ByteArray.mk #[], false)).fst) fun x16 => (.br (!x16) (.ret (.inl (true, ([(2, a12)]), 3, ()))) (.br (decide (a12 > 0)) (.br (decide (0 ≤ IntKind.i64.wrap (a12 - 1))) (.br (decide (IntKind.i64.wrap (a12 - 1) < Int.ofNat a0.length)) (.br (!Op.bytesLess (ByteArray.toList (getI a0 (IntKind.i64.wrap (a12 - 1)) (ByteArray.mk #[], 0, 0, ByteArray.mk #[], false)).fst) (ByteArray.toList (getI a10 a12 (ByteArray.mk #[], 0, 0, ByteArray.mk #[], false)).fst)) (.ret (.inl (true, ([(2, a12)]), 3, ()))) (.opt (ref02_Check (getI a10 a12 (ByteArray.mk #[], 0, 0, ByteArray.mk #[], false)).snd) fun x17 => (.br x17.fst (.opt (ref01_At 2 a12 x17) fun x18 => (.ret (.inl (x18.fst, x18.snd.fst, x18.snd.snd, ())))) (.next (a0, a10, a11, (IntKind.i64.wrap (a12 + 1)), r2_0, r2_1, ()))))) .fail) .fail) (.opt (ref02_Check (getI a10 a12 (ByteArray.mk #[], 0, 0, ByteArray.mk #[], false)).snd) fun x19 => (.br x19.fst (.opt (ref01_At 2 a12 x19) fun x20 => (.ret (.inl (x20.fst, x20.snd.fst, x20.snd.snd, ())))) (.next (a0, a10, a11, (IntKind.i64.wrap (a12 + 1)), r2_0, r2_1, ()))))))) .fail) .fail) (.ret (.inr (r2_0, r2_1, ()))))
noncomputable def ref03_Check_l0 (st : ref03_Check_S0) : Option ref03_Check_Q0 := LT.loop ref03_Check_b0 FUEL st
noncomputable def ref03_Check_A : Anns := { l := [(4, [.keep [0, 2, 10, 11, 12] [2]]), (100004, [.keep [2] [2]])], orc := [(4, genOrc ref03_Check_h0 ref03_Check_x0 ref03_Check_l0)], N := 1000, rng := [], ro := [], outs := none, nils := [] }
theorem ref03_Check_s0 : ∀ (st : ref03_Check_S0) m k, loopX ref03_Check_A (loopN Tryz.prog 21 0) (prep (tabsG L_ref02_Check) (annOf ref03_Check_A (loopN Tryz.prog 21 0))) (evalC Tryz.prog (tabsG L_ref02_Check) ref03_Check_A (loopN Tryz.prog 21 0)) (m + 1) (ref03_Check_h0.enc st) (outK (tabsG L_ref02_Check) ref03_Check_A (loopN Tryz.prog 21 0) k) = (ref03_Check_b0 st).run (exK ref03_Check_x0 k) (fun st' => loopX ref03_Check_A (loopN Tryz.prog 21 0) (prep (tabsG L_ref02_Check) (annOf ref03_Check_A (loopN Tryz.prog 21 0))) (evalC Tryz.prog (tabsG L_ref02_Check) ref03_Check_A (loopN Tryz.prog 21 0)) m (ref03_Check_h0.enc st') (outK (tabsG L_ref02_Check) ref03_Check_A (loopN Tryz.prog 21 0) k)) := by
  intro st m k
  obtain ⟨a0, a10, a11, a12, r2_0, r2_1, ⟨⟩⟩ := st
  kernel_rfl
theorem ref03_Check_o0 : OrcOk Tryz.prog (tabsG L_ref02_Check) ref03_Check_A (loopN Tryz.prog 21 0) := genOrc_ok (h := ref03_Check_h0) (xs := ref03_Check_x0) (F := ref03_Check_l0) (bd := ref03_Check_b0) (fun _ => FUEL) (by kernel_rfl) (fun _ _ h => h) ref03_Check_s0
noncomputable def ref03_Check_t (p0 : (List (ByteArray × V))) : FT ((Bool × List (Int × Int) × Int)) := (.br (decide (Int.ofNat p0.length > 16)) (.ret ((true, [], 2))) (.opt (ref03_Check_l0 (p0, p0, Int.ofNat p0.length, 0, false, 0, ())) fun x24 => (.alt x24 (fun x25 => (.ret ((x25.fst, x25.snd.fst, x25.snd.snd.fst)))) (fun _ => (.ret ((false, [], 0)))))))
noncomputable def ref03_Check (p0 : (List (ByteArray × V))) : Option ((Bool × List (Int × Int) × Int)) := (ref03_Check_t p0).fin
noncomputable def ref03_Check_sp : CSpec := genSpec [shEvent] [shE] (fun x => ref03_Check x)
theorem ref03_Check_ok : EnterOk Tryz.prog 21 ∧ CSpecOk Tryz.prog cfgG 21 ref03_Check_sp := ⟨enter Tryz.func21 (by kernel_rfl) (by kernel_rfl), genSpec_ok (A := ref03_Check_A) (sa := [shEvent]) (sr := [shE]) (bd := fun (x : (ArgT [shEvent])) => ref03_Check_t x) (fitG L_ref02_Check) s_ref02_Check mixed (by kernel_rfl) (loopsAll (l := [loopN Tryz.prog 21 0]) (by kernel_rfl) ⟨ref03_Check_o0, trivial⟩) (fun _ => rfl) (by
  intro x
  skip
  kernel_rfl)⟩
noncomputable def L_ref03_Check : List (Nat × CSpec) := (21, ref03_Check_sp) :: L_ref02_Check
theorem s_ref03_Check : SpecsOk Tryz.prog (tabsG L_ref03_Check) := oneSpecGT s_ref02_Check ref03_Check_ok
noncomputable def ref05_form_A : Anns := { l := [], orc := [], N := 1000, rng := [], ro := [], outs := none, nils := [] }
noncomputable def ref05_form_t (p0 : Bd) : FT (Bool) := (.br (p0.snd.fst == 1) (.br (decide (p0.snd.snd.fst ≤ p0.snd.snd.snd.fst)) (.br (!p0.snd.snd.snd.snd.fst) (.br (ByteArray.toList p0.snd.snd.snd.snd.snd.fst == (ByteArray.mk #[]).toList) (.br (!p0.snd.snd.snd.snd.snd.snd.fst) (.ret (!p0.snd.snd.snd.snd.snd.snd.snd)) (.ret false)) (.ret false)) (.ret false)) (.ret false)) (.br (p0.snd.fst == 2) (.br (p0.snd.snd.fst == 0) (.br (p0.snd.snd.snd.fst == 0) (.br (!p0.snd.snd.snd.snd.snd.snd.fst) (.br (!p0.snd.snd.snd.snd.snd.snd.snd) (.br (decide (Int.ofNat (ByteArray.size p0.snd.snd.snd.snd.snd.fst) < 1000)) (.ret true) (.br p0.snd.snd.snd.snd.fst (.ret (Int.ofNat (ByteArray.size p0.snd.snd.snd.snd.snd.fst) == 1000)) (.ret false))) (.ret false)) (.ret false)) (.ret false)) (.ret false)) (.br (p0.snd.fst == 3) (.br (p0.snd.snd.fst == 0) (.br (p0.snd.snd.snd.fst == 0) (.br (!p0.snd.snd.snd.snd.fst) (.br (ByteArray.toList p0.snd.snd.snd.snd.snd.fst == (ByteArray.mk #[]).toList) (.br p0.snd.snd.snd.snd.snd.snd.fst (.ret true) (.ret p0.snd.snd.snd.snd.snd.snd.snd)) (.ret false)) (.ret false)) (.ret false)) (.ret false)) (.ret false))))
noncomputable def ref05_form (p0 : Bd) : Option (Bool) := (ref05_form_t p0).fin
noncomputable def ref05_form_sp : CSpec := genSpec [shBound] [.bool] (fun x => ref05_form x)
theorem ref05_form_ok : EnterOk Tryz.prog 98 ∧ CSpecOk Tryz.prog cfgG 98 ref05_form_sp := ⟨enter Tryz.func98 (by kernel_rfl) (by kernel_rfl), genSpec_ok (A := ref05_form_A) (sa := [shBound]) (sr := [.bool]) (bd := fun (x : (ArgT [shBound])) => ref05_form_t x) (fitG L_ref03_Check) s_ref03_Check mixed (by kernel_rfl) (loopsAll (l := []) (by kernel_rfl) trivial) (fun _ => rfl) (by
  intro x
  skip
  kernel_rfl)⟩
noncomputable def L_ref05_form : List (Nat × CSpec) := (98, ref05_form_sp) :: L_ref03_Check
theorem s_ref05_form : SpecsOk Tryz.prog (tabsG L_ref05_form) := oneSpecGT s_ref03_Check ref05_form_ok
noncomputable def ref05_Bound_A : Anns := { l := [], orc := [], N := 1000, rng := [], ro := [], outs := none, nils := [] }
noncomputable def ref05_Bound_t (p0 : Bd) (p1 : ByteArray) : FT (Bool) := (.opt (ref03_Name p0.fst) fun x3 => (.br x3 (.br (Op.bytesLess p1.toList (ByteArray.toList p0.fst)) (.opt (ref05_form p0) fun x4 => (.ret x4)) (.ret false)) (.ret false)))
noncomputable def ref05_Bound (p0 : Bd) (p1 : ByteArray) : Option (Bool) := (ref05_Bound_t p0 p1).fin
noncomputable def ref05_Bound_sp : CSpec := genSpec [shBound, .str] [.bool] (fun x => ref05_Bound x.1 x.2)
theorem ref05_Bound_ok : EnterOk Tryz.prog 68 ∧ CSpecOk Tryz.prog cfgG 68 ref05_Bound_sp := ⟨enter Tryz.func68 (by kernel_rfl) (by kernel_rfl), genSpec_ok (A := ref05_Bound_A) (sa := [shBound, .str]) (sr := [.bool]) (bd := fun (x : (ArgT [shBound, .str])) => ref05_Bound_t x.1 x.2) (fitG L_ref05_form) s_ref05_form mixed (by kernel_rfl) (loopsAll (l := []) (by kernel_rfl) trivial) (fun _ => rfl) (by
  intro x
  obtain ⟨p0, p1⟩ := x
  kernel_rfl)⟩
noncomputable def L_ref05_Bound : List (Nat × CSpec) := (68, ref05_Bound_sp) :: L_ref05_form
theorem s_ref05_Bound : SpecsOk Tryz.prog (tabsG L_ref05_Bound) := oneSpecGT s_ref05_form ref05_Bound_ok
noncomputable def ref05_Check_h0 : EP := ⟨[(1, .ref 1 0), (2, .ref 2 0), (3, .d .str), (12, .d (.sl shBound)), (13, .d (.int .i64)), (14, .d (.int .i64))], [(1, .box 32 [.d .bool, .d (.sl shBound)]), (2, .box 38 [.d .bool, .nsl, .d (.int .i64)])]⟩
noncomputable def ref05_Check_x0 : List (Exit × EP) := [(Exit.ret, ⟨[(2, .ref 2 0)], [(2, .box 38 [.d .bool, .d (.sl shPlace), .d (.int .i64)])]⟩), (Exit.exit 0, ⟨[(2, .ref 2 0)], [(2, .box 38 [.d .bool, .nsl, .d (.int .i64)])]⟩)]
abbrev ref05_Check_S0 : Type := ByteArray × (List Bd) × Int × Int × Bool × (List Bd) × Bool × Int × Unit
abbrev ref05_Check_Q0 : Type := (Bool × (List (Int × Int)) × Int × Unit) ⊕ (Bool × Int × Unit)
noncomputable def ref05_Check_b0 : ref05_Check_S0 → LT ref05_Check_S0 ref05_Check_Q0 := fun st => match st with
  | (a3, a12, a13, a14, r1_0, r1_1, r2_0, r2_1, ()) => (.br (decide (a14 < a13)) (.br (decide (0 ≤ a14)) (.br (decide (a14 < Int.ofNat a12.length)) (.br r1_0 (.ret (.inl (true, ([]), 3, ()))) (.opt (ref05_Bound (getI a12 a14 (ByteArray.mk #[], 0, 0, 0, false, ByteArray.mk #[], false, false)) a3) fun x4 => (.br (!x4) (.ret (.inl (true, ([]), 3, ()))) (.next (((getI a12 a14 (ByteArray.mk #[], 0, 0, 0, false, ByteArray.mk #[], false, false)).fst), a12, a13, (IntKind.i64.wrap (a14 + 1)), r1_0, r1_1, r2_0, r2_1, ()))))) .fail) .fail) (.ret (.inr (r2_0, r2_1, ()))))
noncomputable def ref05_Check_l0 (st : ref05_Check_S0) : Option ref05_Check_Q0 := LT.loop ref05_Check_b0 FUEL st
noncomputable def ref05_Check_A : Anns := { l := [(5, [.keep [1, 2, 3, 12, 13, 14] [1, 2]]), (100005, [.keep [2] [2]])], orc := [(5, genOrc ref05_Check_h0 ref05_Check_x0 ref05_Check_l0)], N := 1000, rng := [], ro := [], outs := none, nils := [] }
theorem ref05_Check_s0 : ∀ (st : ref05_Check_S0) m k, loopX ref05_Check_A (loopN Tryz.prog 45 0) (prep (tabsG L_ref05_Bound) (annOf ref05_Check_A (loopN Tryz.prog 45 0))) (evalC Tryz.prog (tabsG L_ref05_Bound) ref05_Check_A (loopN Tryz.prog 45 0)) (m + 1) (ref05_Check_h0.enc st) (outK (tabsG L_ref05_Bound) ref05_Check_A (loopN Tryz.prog 45 0) k) = (ref05_Check_b0 st).run (exK ref05_Check_x0 k) (fun st' => loopX ref05_Check_A (loopN Tryz.prog 45 0) (prep (tabsG L_ref05_Bound) (annOf ref05_Check_A (loopN Tryz.prog 45 0))) (evalC Tryz.prog (tabsG L_ref05_Bound) ref05_Check_A (loopN Tryz.prog 45 0)) m (ref05_Check_h0.enc st') (outK (tabsG L_ref05_Bound) ref05_Check_A (loopN Tryz.prog 45 0) k)) := by
  intro st m k
  obtain ⟨a3, a12, a13, a14, r1_0, r1_1, r2_0, r2_1, ⟨⟩⟩ := st
  kernel_rfl
theorem ref05_Check_o0 : OrcOk Tryz.prog (tabsG L_ref05_Bound) ref05_Check_A (loopN Tryz.prog 45 0) := genOrc_ok (h := ref05_Check_h0) (xs := ref05_Check_x0) (F := ref05_Check_l0) (bd := ref05_Check_b0) (fun _ => FUEL) (by kernel_rfl) (fun _ _ h => h) ref05_Check_s0
noncomputable def ref05_Check_t (p0 : Fil) : FT ((Bool × List (Int × Int) × Int)) := (.br (decide (Int.ofNat (List.length p0.snd) > 16)) (.ret ((true, [], 2))) (.opt (ref05_Check_l0 (ByteArray.mk #[], p0.snd, Int.ofNat (List.length p0.snd), 0, p0.fst, p0.snd, false, 0, ())) fun x8 => (.alt x8 (fun x9 => (.ret ((x9.fst, x9.snd.fst, x9.snd.snd.fst)))) (fun _ => (.ret ((false, [], 0)))))))
noncomputable def ref05_Check (p0 : Fil) : Option ((Bool × List (Int × Int) × Int)) := (ref05_Check_t p0).fin
noncomputable def ref05_Check_sp : CSpec := genSpec [shFil] [shE] (fun x => ref05_Check x)
theorem ref05_Check_ok : EnterOk Tryz.prog 45 ∧ CSpecOk Tryz.prog cfgG 45 ref05_Check_sp := ⟨enter Tryz.func45 (by kernel_rfl) (by kernel_rfl), genSpec_ok (A := ref05_Check_A) (sa := [shFil]) (sr := [shE]) (bd := fun (x : (ArgT [shFil])) => ref05_Check_t x) (fitG L_ref05_Bound) s_ref05_Bound mixed (by kernel_rfl) (loopsAll (l := [loopN Tryz.prog 45 0]) (by kernel_rfl) ⟨ref05_Check_o0, trivial⟩) (fun _ => rfl) (by
  intro x
  skip
  kernel_rfl)⟩
noncomputable def L_ref05_Check : List (Nat × CSpec) := (45, ref05_Check_sp) :: L_ref05_Bound
theorem s_ref05_Check : SpecsOk Tryz.prog (tabsG L_ref05_Check) := oneSpecGT s_ref05_Bound ref05_Check_ok
noncomputable def ref03_Find_h0 : EP := ⟨[(1, .d .str), (7, .d shEvent), (8, .d (.int .i64)), (9, .d (.int .i64))], []⟩
noncomputable def ref03_Find_x0 : List (Exit × EP) := [(Exit.ret, ⟨[(4, .d (.int .i64))], []⟩), (Exit.exit 0, ⟨[], []⟩)]
abbrev ref03_Find_S0 : Type := ByteArray × (List (ByteArray × V)) × Int × Int × Unit
abbrev ref03_Find_Q0 : Type := (Int × Unit) ⊕ (Unit)
noncomputable def ref03_Find_b0 : ref03_Find_S0 → LT ref03_Find_S0 ref03_Find_Q0 := fun st => match st with
  | (a1, a7, a8, a9, ()) => (.br (decide (a9 < a8)) (.br (decide (0 ≤ a9)) (.br (decide (a9 < Int.ofNat a7.length)) (.br (ByteArray.toList (getI a7 a9 (ByteArray.mk #[], 0, 0, ByteArray.mk #[], false)).fst == a1.toList) (.ret (.inl (a9, ()))) (.next (a1, a7, a8, (IntKind.i64.wrap (a9 + 1)), ()))) .fail) .fail) (.ret (.inr ())))
noncomputable def ref03_Find_l0 (st : ref03_Find_S0) : Option ref03_Find_Q0 := LT.loop ref03_Find_b0 FUEL st
noncomputable def ref03_Find_A : Anns := { l := [(2, [.keep [1, 7, 8, 9] []]), (100002, [.keep [4] []])], orc := [(2, genOrc ref03_Find_h0 ref03_Find_x0 ref03_Find_l0)], N := 1000, rng := [], ro := [], outs := none, nils := [] }
theorem ref03_Find_s0 : ∀ (st : ref03_Find_S0) m k, loopX ref03_Find_A (loopN Tryz.prog 69 0) (prep (tabsG L_ref05_Check) (annOf ref03_Find_A (loopN Tryz.prog 69 0))) (evalC Tryz.prog (tabsG L_ref05_Check) ref03_Find_A (loopN Tryz.prog 69 0)) (m + 1) (ref03_Find_h0.enc st) (outK (tabsG L_ref05_Check) ref03_Find_A (loopN Tryz.prog 69 0) k) = (ref03_Find_b0 st).run (exK ref03_Find_x0 k) (fun st' => loopX ref03_Find_A (loopN Tryz.prog 69 0) (prep (tabsG L_ref05_Check) (annOf ref03_Find_A (loopN Tryz.prog 69 0))) (evalC Tryz.prog (tabsG L_ref05_Check) ref03_Find_A (loopN Tryz.prog 69 0)) m (ref03_Find_h0.enc st') (outK (tabsG L_ref05_Check) ref03_Find_A (loopN Tryz.prog 69 0) k)) := by
  intro st m k
  obtain ⟨a1, a7, a8, a9, ⟨⟩⟩ := st
  kernel_rfl
theorem ref03_Find_o0 : OrcOk Tryz.prog (tabsG L_ref05_Check) ref03_Find_A (loopN Tryz.prog 69 0) := genOrc_ok (h := ref03_Find_h0) (xs := ref03_Find_x0) (F := ref03_Find_l0) (bd := ref03_Find_b0) (fun _ => FUEL) (by kernel_rfl) (fun _ _ h => h) ref03_Find_s0
noncomputable def ref03_Find_t (p0 : (List (ByteArray × V))) (p1 : ByteArray) : FT (Int) := (.opt (ref03_Find_l0 (p1, p0, Int.ofNat p0.length, 0, ())) fun x4 => (.alt x4 (fun x5 => (.ret x5.fst)) (fun _ => (.ret (Int.negSucc 0)))))
noncomputable def ref03_Find (p0 : (List (ByteArray × V))) (p1 : ByteArray) : Option (Int) := (ref03_Find_t p0 p1).fin
noncomputable def ref03_Find_sp : CSpec := genSpec [shEvent, .str] [(.int .i64)] (fun x => ref03_Find x.1 x.2)
theorem ref03_Find_ok : EnterOk Tryz.prog 69 ∧ CSpecOk Tryz.prog cfgG 69 ref03_Find_sp := ⟨enter Tryz.func69 (by kernel_rfl) (by kernel_rfl), genSpec_ok (A := ref03_Find_A) (sa := [shEvent, .str]) (sr := [(.int .i64)]) (bd := fun (x : (ArgT [shEvent, .str])) => ref03_Find_t x.1 x.2) (fitG L_ref05_Check) s_ref05_Check mixed (by kernel_rfl) (loopsAll (l := [loopN Tryz.prog 69 0]) (by kernel_rfl) ⟨ref03_Find_o0, trivial⟩) (fun _ => rfl) (by
  intro x
  obtain ⟨p0, p1⟩ := x
  kernel_rfl)⟩
noncomputable def L_ref03_Find : List (Nat × CSpec) := (69, ref03_Find_sp) :: L_ref05_Check
theorem s_ref03_Find : SpecsOk Tryz.prog (tabsG L_ref03_Find) := oneSpecGT s_ref05_Check ref03_Find_ok
noncomputable def ref05_Means_h0 : EP := ⟨[(1, .d shEvent), (11, .d (.sl shBound)), (12, .d (.int .i64)), (13, .d (.int .i64))], []⟩
noncomputable def ref05_Means_x0 : List (Exit × EP) := [(Exit.ret, ⟨[(4, .d .bool)], []⟩), (Exit.exit 0, ⟨[], []⟩)]
abbrev ref05_Means_S0 : Type := (List (ByteArray × V)) × (List Bd) × Int × Int × Unit
abbrev ref05_Means_Q0 : Type := (Bool × Unit) ⊕ (Unit)
noncomputable def ref05_Means_b0 : ref05_Means_S0 → LT ref05_Means_S0 ref05_Means_Q0 := fun st => match st with
  | (a1, a11, a12, a13, ()) => (.br (decide (a13 < a12)) (.br (decide (0 ≤ a13)) (.br (decide (a13 < Int.ofNat a11.length)) (.opt (ref03_Find a1 (getI a11 a13 (ByteArray.mk #[], 0, 0, 0, false, ByteArray.mk #[], false, false)).fst) fun x7 => (.br (decide (x7 < 0)) (.ret (.inl (false, ()))) (.br (decide (0 ≤ x7)) (.br (decide (x7 < Int.ofNat a1.length)) (.opt (ref05_Holds (getI a11 a13 (ByteArray.mk #[], 0, 0, 0, false, ByteArray.mk #[], false, false)) (getI a1 x7 (ByteArray.mk #[], 0, 0, ByteArray.mk #[], false)).snd) fun x8 => (.br (!x8) (.ret (.inl (false, ()))) (.next (a1, a11, a12, (IntKind.i64.wrap (a13 + 1)), ())))) .fail) .fail))) .fail) .fail) (.ret (.inr ())))
noncomputable def ref05_Means_l0 (st : ref05_Means_S0) : Option ref05_Means_Q0 := LT.loop ref05_Means_b0 FUEL st
noncomputable def ref05_Means_A : Anns := { l := [(4, [.keep [1, 11, 12, 13] []]), (100004, [.keep [4] []])], orc := [(4, genOrc ref05_Means_h0 ref05_Means_x0 ref05_Means_l0)], N := 1000, rng := [], ro := [], outs := none, nils := [] }
theorem ref05_Means_s0 : ∀ (st : ref05_Means_S0) m k, loopX ref05_Means_A (loopN Tryz.prog 47 0) (prep (tabsG L_ref03_Find) (annOf ref05_Means_A (loopN Tryz.prog 47 0))) (evalC Tryz.prog (tabsG L_ref03_Find) ref05_Means_A (loopN Tryz.prog 47 0)) (m + 1) (ref05_Means_h0.enc st) (outK (tabsG L_ref03_Find) ref05_Means_A (loopN Tryz.prog 47 0) k) = (ref05_Means_b0 st).run (exK ref05_Means_x0 k) (fun st' => loopX ref05_Means_A (loopN Tryz.prog 47 0) (prep (tabsG L_ref03_Find) (annOf ref05_Means_A (loopN Tryz.prog 47 0))) (evalC Tryz.prog (tabsG L_ref03_Find) ref05_Means_A (loopN Tryz.prog 47 0)) m (ref05_Means_h0.enc st') (outK (tabsG L_ref03_Find) ref05_Means_A (loopN Tryz.prog 47 0) k)) := by
  intro st m k
  obtain ⟨a1, a11, a12, a13, ⟨⟩⟩ := st
  kernel_rfl
theorem ref05_Means_o0 : OrcOk Tryz.prog (tabsG L_ref03_Find) ref05_Means_A (loopN Tryz.prog 47 0) := genOrc_ok (h := ref05_Means_h0) (xs := ref05_Means_x0) (F := ref05_Means_l0) (bd := ref05_Means_b0) (fun _ => FUEL) (by kernel_rfl) (fun _ _ h => h) ref05_Means_s0
noncomputable def ref05_Means_t (p0 : Fil) (p1 : (List (ByteArray × V))) : FT (Bool) := (.br p0.fst (.ret false) (.opt (ref05_Means_l0 (p1, p0.snd, Int.ofNat (List.length p0.snd), 0, ())) fun x12 => (.alt x12 (fun x13 => (.ret x13.fst)) (fun _ => (.ret true)))))
noncomputable def ref05_Means (p0 : Fil) (p1 : (List (ByteArray × V))) : Option (Bool) := (ref05_Means_t p0 p1).fin
noncomputable def ref05_Means_sp : CSpec := genSpec [shFil, shEvent] [.bool] (fun x => ref05_Means x.1 x.2)
theorem ref05_Means_ok : EnterOk Tryz.prog 47 ∧ CSpecOk Tryz.prog cfgG 47 ref05_Means_sp := ⟨enter Tryz.func47 (by kernel_rfl) (by kernel_rfl), genSpec_ok (A := ref05_Means_A) (sa := [shFil, shEvent]) (sr := [.bool]) (bd := fun (x : (ArgT [shFil, shEvent])) => ref05_Means_t x.1 x.2) (fitG L_ref03_Find) s_ref03_Find mixed (by kernel_rfl) (loopsAll (l := [loopN Tryz.prog 47 0]) (by kernel_rfl) ⟨ref05_Means_o0, trivial⟩) (fun _ => rfl) (by
  intro x
  obtain ⟨p0, p1⟩ := x
  kernel_rfl)⟩
noncomputable def L_ref05_Means : List (Nat × CSpec) := (47, ref05_Means_sp) :: L_ref03_Find
theorem s_ref05_Means : SpecsOk Tryz.prog (tabsG L_ref05_Means) := oneSpecGT s_ref03_Find ref05_Means_ok
noncomputable def ref01_Has_h0 : EP := ⟨[(1, .d (.int .i64)), (7, .d (.sl (.int .i64))), (8, .d (.int .i64)), (9, .d (.int .i64))], []⟩
noncomputable def ref01_Has_x0 : List (Exit × EP) := [(Exit.ret, ⟨[(4, .d .bool)], []⟩), (Exit.exit 0, ⟨[], []⟩)]
abbrev ref01_Has_S0 : Type := Int × (List Int) × Int × Int × Unit
abbrev ref01_Has_Q0 : Type := (Bool × Unit) ⊕ (Unit)
noncomputable def ref01_Has_b0 : ref01_Has_S0 → LT ref01_Has_S0 ref01_Has_Q0 := fun st => match st with
  | (a1, a7, a8, a9, ()) => (.br (decide (a9 < a8)) (.br (decide (0 ≤ a9)) (.br (decide (a9 < Int.ofNat a7.length)) (.br (getI a7 a9 0 == a1) (.ret (.inl (true, ()))) (.next (a1, a7, a8, (IntKind.i64.wrap (a9 + 1)), ()))) .fail) .fail) (.ret (.inr ())))
noncomputable def ref01_Has_l0 (st : ref01_Has_S0) : Option ref01_Has_Q0 := LT.loop ref01_Has_b0 FUEL st
noncomputable def ref01_Has_A : Anns := { l := [(2, [.keep [1, 7, 8, 9] []]), (100002, [.keep [4] []])], orc := [(2, genOrc ref01_Has_h0 ref01_Has_x0 ref01_Has_l0)], N := 1000, rng := [], ro := [], outs := none, nils := [] }
theorem ref01_Has_s0 : ∀ (st : ref01_Has_S0) m k, loopX ref01_Has_A (loopN Tryz.prog 23 0) (prep (tabsG L_ref05_Means) (annOf ref01_Has_A (loopN Tryz.prog 23 0))) (evalC Tryz.prog (tabsG L_ref05_Means) ref01_Has_A (loopN Tryz.prog 23 0)) (m + 1) (ref01_Has_h0.enc st) (outK (tabsG L_ref05_Means) ref01_Has_A (loopN Tryz.prog 23 0) k) = (ref01_Has_b0 st).run (exK ref01_Has_x0 k) (fun st' => loopX ref01_Has_A (loopN Tryz.prog 23 0) (prep (tabsG L_ref05_Means) (annOf ref01_Has_A (loopN Tryz.prog 23 0))) (evalC Tryz.prog (tabsG L_ref05_Means) ref01_Has_A (loopN Tryz.prog 23 0)) m (ref01_Has_h0.enc st') (outK (tabsG L_ref05_Means) ref01_Has_A (loopN Tryz.prog 23 0) k)) := by
  intro st m k
  obtain ⟨a1, a7, a8, a9, ⟨⟩⟩ := st
  kernel_rfl
theorem ref01_Has_o0 : OrcOk Tryz.prog (tabsG L_ref05_Means) ref01_Has_A (loopN Tryz.prog 23 0) := genOrc_ok (h := ref01_Has_h0) (xs := ref01_Has_x0) (F := ref01_Has_l0) (bd := ref01_Has_b0) (fun _ => FUEL) (by kernel_rfl) (fun _ _ h => h) ref01_Has_s0
noncomputable def ref01_Has_t (p0 : (List Int)) (p1 : Int) : FT (Bool) := (.opt (ref01_Has_l0 (p1, p0, Int.ofNat p0.length, 0, ())) fun x4 => (.alt x4 (fun x5 => (.ret x5.fst)) (fun _ => (.ret false))))
noncomputable def ref01_Has (p0 : (List Int)) (p1 : Int) : Option (Bool) := (ref01_Has_t p0 p1).fin
noncomputable def ref01_Has_sp : CSpec := genSpec [(.sl (.int .i64)), (.int .i64)] [.bool] (fun x => ref01_Has x.1 x.2)
theorem ref01_Has_ok : EnterOk Tryz.prog 23 ∧ CSpecOk Tryz.prog cfgG 23 ref01_Has_sp := ⟨enter Tryz.func23 (by kernel_rfl) (by kernel_rfl), genSpec_ok (A := ref01_Has_A) (sa := [(.sl (.int .i64)), (.int .i64)]) (sr := [.bool]) (bd := fun (x : (ArgT [(.sl (.int .i64)), (.int .i64)])) => ref01_Has_t x.1 x.2) (fitG L_ref05_Means) s_ref05_Means mixed (by kernel_rfl) (loopsAll (l := [loopN Tryz.prog 23 0]) (by kernel_rfl) ⟨ref01_Has_o0, trivial⟩) (fun _ => rfl) (by
  intro x
  obtain ⟨p0, p1⟩ := x
  kernel_rfl)⟩
noncomputable def L_ref01_Has : List (Nat × CSpec) := (23, ref01_Has_sp) :: L_ref05_Means
theorem s_ref01_Has : SpecsOk Tryz.prog (tabsG L_ref01_Has) := oneSpecGT s_ref05_Means ref01_Has_ok
noncomputable def ref08_Match_h0 : EP := ⟨[(1, .d shEvent), (5, .ref 5 0), (7, .own 9007), (15, .d (.sl shItem)), (16, .d (.int .i64)), (17, .d (.int .i64))], [(5, .box 38 [.d .bool, .nsl, .d (.int .i64)]), (9007, .row 3 (.int .i64))]⟩
noncomputable def ref08_Match_x0 : List (Exit × EP) := [(Exit.exit 0, ⟨[(5, .ref 5 0), (7, .own 9007)], [(5, .box 38 [.d .bool, .nsl, .d (.int .i64)]), (9007, .row 3 (.int .i64))]⟩)]
abbrev ref08_Match_S0 : Type := (List (ByteArray × V)) × (List Item) × Int × Int × Bool × Int × (List Int) × Unit
abbrev ref08_Match_Q0 : Type := (Bool × Int × (List Int) × Unit)
noncomputable def ref08_Match_b0 : ref08_Match_S0 → LT ref08_Match_S0 ref08_Match_Q0 := fun st => match st with
  | (a1, a15, a16, a17, r5_0, r5_1, r9007, ()) => (.br (decide (a17 < a16)) (.br (decide (0 ≤ a17)) (.br (decide (a17 < Int.ofNat a15.length)) (.opt (ref05_Means (getI a15 a17 (0, false, [])).snd a1) fun x9 => (.br x9 (.br (appLim 8 r9007.length 1) (.next (a1, a15, a16, (IntKind.i64.wrap (a17 + 1)), r5_0, r5_1, (r9007 ++ [(getI a15 a17 (0, false, [])).fst]), ())) .fail) (.next (a1, a15, a16, (IntKind.i64.wrap (a17 + 1)), r5_0, r5_1, r9007, ())))) .fail) .fail) (.ret (r5_0, r5_1, r9007, ())))
noncomputable def ref08_Match_l0 (st : ref08_Match_S0) : Option ref08_Match_Q0 := LT.loop ref08_Match_b0 FUEL st
noncomputable def ref08_Match_A : Anns := { l := [(6, [.keep [1, 5, 7, 15, 16, 17] [5, 29, 9007], .ownS 7 9007 3, .keep [1, 5, 7, 15, 16, 17] [5, 9007]]), (100006, [.keep [5, 7] [5, 9007]])], orc := [(6, genOrc ref08_Match_h0 ref08_Match_x0 ref08_Match_l0)], N := 1000, rng := [], ro := [], outs := none, nils := [] }
theorem ref08_Match_s0 : ∀ (st : ref08_Match_S0) m k, loopX ref08_Match_A (loopN Tryz.prog 28 0) (prep (tabsG L_ref01_Has) (annOf ref08_Match_A (loopN Tryz.prog 28 0))) (evalC Tryz.prog (tabsG L_ref01_Has) ref08_Match_A (loopN Tryz.prog 28 0)) (m + 1) (ref08_Match_h0.enc st) (outK (tabsG L_ref01_Has) ref08_Match_A (loopN Tryz.prog 28 0) k) = (ref08_Match_b0 st).run (exK ref08_Match_x0 k) (fun st' => loopX ref08_Match_A (loopN Tryz.prog 28 0) (prep (tabsG L_ref01_Has) (annOf ref08_Match_A (loopN Tryz.prog 28 0))) (evalC Tryz.prog (tabsG L_ref01_Has) ref08_Match_A (loopN Tryz.prog 28 0)) m (ref08_Match_h0.enc st') (outK (tabsG L_ref01_Has) ref08_Match_A (loopN Tryz.prog 28 0) k)) := by
  intro st m k
  obtain ⟨a1, a15, a16, a17, r5_0, r5_1, r9007, ⟨⟩⟩ := st
  kernel_rfl
theorem ref08_Match_o0 : OrcOk Tryz.prog (tabsG L_ref01_Has) ref08_Match_A (loopN Tryz.prog 28 0) := genOrc_ok (h := ref08_Match_h0) (xs := ref08_Match_x0) (F := ref08_Match_l0) (bd := ref08_Match_b0) (fun _ => FUEL) (by kernel_rfl) (fun _ _ h => h) ref08_Match_s0
noncomputable def ref08_Match_t (p0 : (List Item)) (p1 : (List (ByteArray × V))) : FT ((List Int) × (Bool × List (Int × Int) × Int)) := (.opt (ref03_Check p1) fun x12 => (.br x12.fst (.ret (([], x12))) (.opt (ref08_Match_l0 (p1, p0, Int.ofNat p0.length, 0, false, 0, [], ())) fun x13 => (.ret ((x13.snd.snd.fst, false, [], 0))))))
noncomputable def ref08_Match (p0 : (List Item)) (p1 : (List (ByteArray × V))) : Option ((List Int) × (Bool × List (Int × Int) × Int)) := (ref08_Match_t p0 p1).fin
noncomputable def ref08_Match_sp : CSpec := genSpec [(.sl shItem), shEvent] [(.sl (.int .i64)), shE] (fun x => ref08_Match x.1 x.2)
theorem ref08_Match_ok : EnterOk Tryz.prog 28 ∧ CSpecOk Tryz.prog cfgG 28 ref08_Match_sp := ⟨enter Tryz.func28 (by kernel_rfl) (by kernel_rfl), genSpec_ok (A := ref08_Match_A) (sa := [(.sl shItem), shEvent]) (sr := [(.sl (.int .i64)), shE]) (bd := fun (x : (ArgT [(.sl shItem), shEvent])) => ref08_Match_t x.1 x.2) (fitG L_ref01_Has) s_ref01_Has mixed (by kernel_rfl) (loopsAll (l := [loopN Tryz.prog 28 0]) (by kernel_rfl) ⟨ref08_Match_o0, trivial⟩) (fun _ => rfl) (by
  intro x
  obtain ⟨p0, p1⟩ := x
  kernel_rfl)⟩
noncomputable def L_ref08_Match : List (Nat × CSpec) := (28, ref08_Match_sp) :: L_ref01_Has
theorem s_ref08_Match : SpecsOk Tryz.prog (tabsG L_ref08_Match) := oneSpecGT s_ref01_Has ref08_Match_ok
noncomputable def ref08_insert_A : Anns := { l := [], orc := [], N := 1000, rng := [], ro := [], outs := none, nils := [] }
noncomputable def ref08_insert_t (p0 : (List ByteArray)) (p1 : Int) (p2 : ByteArray) : FT ((List ByteArray)) := (.br (decide (0 ≤ p1)) (.br (decide (p1 ≤ Int.ofNat p0.length)) (.br (appLim 16 0 (List.take (p1 - 0).toNat (List.drop (Int.toNat 0) p0)).length) (.br (appLim 16 (List.take (p1 - 0).toNat (List.drop (Int.toNat 0) p0)).length 1) (.br (decide (0 ≤ p1)) (.br (decide (p1 ≤ Int.ofNat p0.length)) (.br (decide (Int.ofNat p0.length ≤ Int.ofNat p0.length)) (.br (appLim 16 (List.take (p1 - 0).toNat (List.drop (Int.toNat 0) p0) ++ [p2]).length (List.take (Int.ofNat p0.length - p1).toNat (List.drop p1.toNat p0)).length) (.ret (List.take (p1 - 0).toNat (List.drop (Int.toNat 0) p0) ++ [p2] ++ List.take (Int.ofNat p0.length - p1).toNat (List.drop p1.toNat p0))) .fail) .fail) .fail) .fail) .fail) .fail) .fail) .fail)
noncomputable def ref08_insert (p0 : (List ByteArray)) (p1 : Int) (p2 : ByteArray) : Option ((List ByteArray)) := (ref08_insert_t p0 p1 p2).fin
noncomputable def ref08_insert_sp : CSpec := genSpec [(.sl .str), (.int .i64), .str] [(.sl .str)] (fun x => ref08_insert x.1 x.2.1 x.2.2)
theorem ref08_insert_ok : EnterOk Tryz.prog 48 ∧ CSpecOk Tryz.prog cfgG 48 ref08_insert_sp := ⟨enter Tryz.func48 (by kernel_rfl) (by kernel_rfl), genSpec_ok (A := ref08_insert_A) (sa := [(.sl .str), (.int .i64), .str]) (sr := [(.sl .str)]) (bd := fun (x : (ArgT [(.sl .str), (.int .i64), .str])) => ref08_insert_t x.1 x.2.1 x.2.2) (fitG L_ref08_Match) s_ref08_Match mixed (by kernel_rfl) (loopsAll (l := []) (by kernel_rfl) trivial) (fun _ => rfl) (by
  intro x
  obtain ⟨p0, p1, p2⟩ := x
  kernel_rfl)⟩
noncomputable def L_ref08_insert : List (Nat × CSpec) := (48, ref08_insert_sp) :: L_ref08_Match
theorem s_ref08_insert : SpecsOk Tryz.prog (tabsG L_ref08_insert) := oneSpecGT s_ref08_Match ref08_insert_ok
noncomputable def ref07_place_h0 : EP := ⟨[(1, .d (.int .i64)), (7, .d (.sl shItem)), (8, .d (.int .i64)), (9, .d (.int .i64))], []⟩
noncomputable def ref07_place_x0 : List (Exit × EP) := [(Exit.ret, ⟨[(4, .d (.int .i64))], []⟩), (Exit.exit 0, ⟨[], []⟩)]
abbrev ref07_place_S0 : Type := Int × (List Item) × Int × Int × Unit
abbrev ref07_place_Q0 : Type := (Int × Unit) ⊕ (Unit)
noncomputable def ref07_place_b0 : ref07_place_S0 → LT ref07_place_S0 ref07_place_Q0 := fun st => match st with
  | (a1, a7, a8, a9, ()) => (.br (decide (a9 < a8)) (.br (decide (0 ≤ a9)) (.br (decide (a9 < Int.ofNat a7.length)) (.br ((getI a7 a9 (0, false, [])).fst == a1) (.ret (.inl (a9, ()))) (.next (a1, a7, a8, (IntKind.i64.wrap (a9 + 1)), ()))) .fail) .fail) (.ret (.inr ())))
noncomputable def ref07_place_l0 (st : ref07_place_S0) : Option ref07_place_Q0 := LT.loop ref07_place_b0 FUEL st
noncomputable def ref07_place_A : Anns := { l := [(2, [.keep [1, 7, 8, 9] []]), (100002, [.keep [4] []])], orc := [(2, genOrc ref07_place_h0 ref07_place_x0 ref07_place_l0)], N := 1000, rng := [], ro := [], outs := none, nils := [] }
theorem ref07_place_s0 : ∀ (st : ref07_place_S0) m k, loopX ref07_place_A (loopN Tryz.prog 46 0) (prep (tabsG L_ref08_insert) (annOf ref07_place_A (loopN Tryz.prog 46 0))) (evalC Tryz.prog (tabsG L_ref08_insert) ref07_place_A (loopN Tryz.prog 46 0)) (m + 1) (ref07_place_h0.enc st) (outK (tabsG L_ref08_insert) ref07_place_A (loopN Tryz.prog 46 0) k) = (ref07_place_b0 st).run (exK ref07_place_x0 k) (fun st' => loopX ref07_place_A (loopN Tryz.prog 46 0) (prep (tabsG L_ref08_insert) (annOf ref07_place_A (loopN Tryz.prog 46 0))) (evalC Tryz.prog (tabsG L_ref08_insert) ref07_place_A (loopN Tryz.prog 46 0)) m (ref07_place_h0.enc st') (outK (tabsG L_ref08_insert) ref07_place_A (loopN Tryz.prog 46 0) k)) := by
  intro st m k
  obtain ⟨a1, a7, a8, a9, ⟨⟩⟩ := st
  kernel_rfl
theorem ref07_place_o0 : OrcOk Tryz.prog (tabsG L_ref08_insert) ref07_place_A (loopN Tryz.prog 46 0) := genOrc_ok (h := ref07_place_h0) (xs := ref07_place_x0) (F := ref07_place_l0) (bd := ref07_place_b0) (fun _ => FUEL) (by kernel_rfl) (fun _ _ h => h) ref07_place_s0
noncomputable def ref07_place_t (p0 : (List Item)) (p1 : Int) : FT (Int) := (.opt (ref07_place_l0 (p1, p0, Int.ofNat p0.length, 0, ())) fun x4 => (.alt x4 (fun x5 => (.ret x5.fst)) (fun _ => (.ret (Int.negSucc 0)))))
noncomputable def ref07_place (p0 : (List Item)) (p1 : Int) : Option (Int) := (ref07_place_t p0 p1).fin
noncomputable def ref07_place_sp : CSpec := genSpec [(.sl shItem), (.int .i64)] [(.int .i64)] (fun x => ref07_place x.1 x.2)
theorem ref07_place_ok : EnterOk Tryz.prog 46 ∧ CSpecOk Tryz.prog cfgG 46 ref07_place_sp := ⟨enter Tryz.func46 (by kernel_rfl) (by kernel_rfl), genSpec_ok (A := ref07_place_A) (sa := [(.sl shItem), (.int .i64)]) (sr := [(.int .i64)]) (bd := fun (x : (ArgT [(.sl shItem), (.int .i64)])) => ref07_place_t x.1 x.2) (fitG L_ref08_insert) s_ref08_insert mixed (by kernel_rfl) (loopsAll (l := [loopN Tryz.prog 46 0]) (by kernel_rfl) ⟨ref07_place_o0, trivial⟩) (fun _ => rfl) (by
  intro x
  obtain ⟨p0, p1⟩ := x
  kernel_rfl)⟩
noncomputable def L_ref07_place : List (Nat × CSpec) := (46, ref07_place_sp) :: L_ref08_insert
theorem s_ref07_place : SpecsOk Tryz.prog (tabsG L_ref07_place) := oneSpecGT s_ref08_insert ref07_place_ok
noncomputable def ref07_Insert_h0 : EP := ⟨[(1, .d (.int .i64)), (5, .ref 5 0), (7, .ref 7 0), (8, .ref 8 0), (9, .own 9009), (10, .d .bool), (33, .d (.sl shItem)), (34, .d (.int .i64)), (35, .d (.int .i64))], [(5, .box 32 [.d .bool, .d (.sl shBound)]), (7, .box 38 [.d .bool, .nsl, .d (.int .i64)]), (8, .box 38 [.d .bool, .d (.sl shPlace), .d (.int .i64)]), (9009, .row 55 shItem)]⟩
noncomputable def ref07_Insert_x0 : List (Exit × EP) := [(Exit.exit 1, ⟨[(1, .d (.int .i64)), (5, .ref 5 0), (7, .ref 7 0), (8, .ref 8 0), (9, .own 9009), (10, .d .bool)], [(5, .box 32 [.d .bool, .d (.sl shBound)]), (7, .box 38 [.d .bool, .nsl, .d (.int .i64)]), (8, .box 38 [.d .bool, .d (.sl shPlace), .d (.int .i64)]), (9009, .row 55 shItem)]⟩)]
abbrev ref07_Insert_S0 : Type := Int × Bool × (List Item) × Int × Int × Bool × (List Bd) × Bool × Int × Bool × (List (Int × Int)) × Int × (List Item) × Unit
abbrev ref07_Insert_Q0 : Type := (Int × Bool × Bool × (List Bd) × Bool × Int × Bool × (List (Int × Int)) × Int × (List Item) × Unit)
noncomputable def ref07_Insert_b0 : ref07_Insert_S0 → LT ref07_Insert_S0 ref07_Insert_Q0 := fun st => match st with
  | (a1, a10, a33, a34, a35, r5_0, r5_1, r7_0, r7_1, r8_0, r8_1, r8_2, r9009, ()) => (.br (decide (a35 < a34)) (.br (decide (0 ≤ a35)) (.br (decide (a35 < Int.ofNat a33.length)) (.br (!a10) (.br (decide ((getI a33 a35 (0, false, [])).fst > a1)) (.br (appLim 40 r9009.length 1) (.br (appLim 40 (r9009 ++ [(a1, r5_0, r5_1)]).length 1) (.next (a1, true, a33, a34, (IntKind.i64.wrap (a35 + 1)), r5_0, r5_1, r7_0, r7_1, r8_0, r8_1, r8_2, (r9009 ++ [(a1, r5_0, r5_1)] ++ [getI a33 a35 (0, false, [])]), ())) .fail) .fail) (.br (appLim 40 r9009.length 1) (.next (a1, a10, a33, a34, (IntKind.i64.wrap (a35 + 1)), r5_0, r5_1, r7_0, r7_1, r8_0, r8_1, r8_2, (r9009 ++ [getI a33 a35 (0, false, [])]), ())) .fail)) (.br (appLim 40 r9009.length 1) (.next (a1, a10, a33, a34, (IntKind.i64.wrap (a35 + 1)), r5_0, r5_1, r7_0, r7_1, r8_0, r8_1, r8_2, (r9009 ++ [getI a33 a35 (0, false, [])]), ())) .fail)) .fail) .fail) (.ret (a1, a10, r5_0, r5_1, r7_0, r7_1, r8_0, r8_1, r8_2, r9009, ())))
noncomputable def ref07_Insert_l0 (st : ref07_Insert_S0) : Option ref07_Insert_Q0 := LT.loop ref07_Insert_b0 FUEL st
noncomputable def ref07_Insert_A : Anns := { l := [(11, [.keep [1, 5, 7, 8, 9, 10, 33, 34, 35] [5, 7, 8, 56], .ownS 9 9009 55, .keep [1, 5, 7, 8, 9, 10, 33, 34, 35] [5, 7, 8, 9009]]), (100011, [.keep [1, 5, 7, 8, 9, 10] [5, 7, 8, 9009]])], orc := [(11, genOrc ref07_Insert_h0 ref07_Insert_x0 ref07_Insert_l0)], N := 1000, rng := [], ro := [], outs := none, nils := [] }
theorem ref07_Insert_s0 : ∀ (st : ref07_Insert_S0) m k, loopX ref07_Insert_A (loopN Tryz.prog 25 0) (prep (tabsG L_ref07_place) (annOf ref07_Insert_A (loopN Tryz.prog 25 0))) (evalC Tryz.prog (tabsG L_ref07_place) ref07_Insert_A (loopN Tryz.prog 25 0)) (m + 1) (ref07_Insert_h0.enc st) (outK (tabsG L_ref07_place) ref07_Insert_A (loopN Tryz.prog 25 0) k) = (ref07_Insert_b0 st).run (exK ref07_Insert_x0 k) (fun st' => loopX ref07_Insert_A (loopN Tryz.prog 25 0) (prep (tabsG L_ref07_place) (annOf ref07_Insert_A (loopN Tryz.prog 25 0))) (evalC Tryz.prog (tabsG L_ref07_place) ref07_Insert_A (loopN Tryz.prog 25 0)) m (ref07_Insert_h0.enc st') (outK (tabsG L_ref07_place) ref07_Insert_A (loopN Tryz.prog 25 0) k)) := by
  intro st m k
  obtain ⟨a1, a10, a33, a34, a35, r5_0, r5_1, r7_0, r7_1, r8_0, r8_1, r8_2, r9009, ⟨⟩⟩ := st
  kernel_rfl
theorem ref07_Insert_o0 : OrcOk Tryz.prog (tabsG L_ref07_place) ref07_Insert_A (loopN Tryz.prog 25 0) := genOrc_ok (h := ref07_Insert_h0) (xs := ref07_Insert_x0) (F := ref07_Insert_l0) (bd := ref07_Insert_b0) (fun _ => FUEL) (by kernel_rfl) (fun _ _ h => h) ref07_Insert_s0
noncomputable def ref07_Insert_t (p0 : (List Item)) (p1 : Int) (p2 : Fil) : FT ((List Item) × (Bool × List (Int × Int) × Int)) := (.opt (ref05_Check p2) fun x6 => (.br x6.fst (.ret ((p0, x6))) (.opt (ref07_place p0 p1) fun x7 => (.br (decide (x7 ≥ 0)) (.ret ((p0, true, [], 9))) (.br (decide (Int.ofNat p0.length ≥ 512)) (.ret ((p0, true, [], 11))) (.opt (ref07_Insert_l0 (p1, false, p0, Int.ofNat p0.length, 0, p2.fst, p2.snd, false, 0, x6.fst, x6.snd.fst, x6.snd.snd, [], ())) fun x8 => (.br (!x8.snd.fst) (.br (appLim 40 x8.snd.snd.snd.snd.snd.snd.snd.snd.snd.fst.length 1) (.ret ((x8.snd.snd.snd.snd.snd.snd.snd.snd.snd.fst ++ [(x8.fst, x8.snd.snd.fst, x8.snd.snd.snd.fst)], x8.snd.snd.snd.snd.snd.snd.fst, x8.snd.snd.snd.snd.snd.snd.snd.fst, x8.snd.snd.snd.snd.snd.snd.snd.snd.fst))) .fail) (.ret ((x8.snd.snd.snd.snd.snd.snd.snd.snd.snd.fst, x8.snd.snd.snd.snd.snd.snd.fst, x8.snd.snd.snd.snd.snd.snd.snd.fst, x8.snd.snd.snd.snd.snd.snd.snd.snd.fst))))))))))
noncomputable def ref07_Insert (p0 : (List Item)) (p1 : Int) (p2 : Fil) : Option ((List Item) × (Bool × List (Int × Int) × Int)) := (ref07_Insert_t p0 p1 p2).fin
noncomputable def ref07_Insert_sp : CSpec := genSpec [(.sl shItem), (.int .i64), shFil] [(.sl shItem), shE] (fun x => ref07_Insert x.1 x.2.1 x.2.2)
theorem ref07_Insert_ok : EnterOk Tryz.prog 25 ∧ CSpecOk Tryz.prog cfgG 25 ref07_Insert_sp := ⟨enter Tryz.func25 (by kernel_rfl) (by kernel_rfl), genSpec_ok (A := ref07_Insert_A) (sa := [(.sl shItem), (.int .i64), shFil]) (sr := [(.sl shItem), shE]) (bd := fun (x : (ArgT [(.sl shItem), (.int .i64), shFil])) => ref07_Insert_t x.1 x.2.1 x.2.2) (fitG L_ref07_place) s_ref07_place mixed (by kernel_rfl) (loopsAll (l := [loopN Tryz.prog 25 0]) (by kernel_rfl) ⟨ref07_Insert_o0, trivial⟩) (fun _ => rfl) (by
  intro x
  obtain ⟨p0, p1, p2⟩ := x
  kernel_rfl)⟩
noncomputable def L_ref07_Insert : List (Nat × CSpec) := (25, ref07_Insert_sp) :: L_ref07_place
theorem s_ref07_Insert : SpecsOk Tryz.prog (tabsG L_ref07_Insert) := oneSpecGT s_ref07_place ref07_Insert_ok
noncomputable def ref07_Remove_h0 : EP := ⟨[(1, .d (.int .i64)), (5, .ref 5 0), (6, .own 9006), (15, .d (.sl shItem)), (16, .d (.int .i64)), (17, .d (.int .i64))], [(5, .box 38 [.d .bool, .nsl, .d (.int .i64)]), (9006, .row 55 shItem)]⟩
noncomputable def ref07_Remove_x0 : List (Exit × EP) := [(Exit.exit 0, ⟨[(5, .ref 5 0), (6, .own 9006)], [(5, .box 38 [.d .bool, .nsl, .d (.int .i64)]), (9006, .row 55 shItem)]⟩)]
abbrev ref07_Remove_S0 : Type := Int × (List Item) × Int × Int × Bool × Int × (List Item) × Unit
abbrev ref07_Remove_Q0 : Type := (Bool × Int × (List Item) × Unit)
noncomputable def ref07_Remove_b0 : ref07_Remove_S0 → LT ref07_Remove_S0 ref07_Remove_Q0 := fun st => match st with
  | (a1, a15, a16, a17, r5_0, r5_1, r9006, ()) => (.br (decide (a17 < a16)) (.br (decide (0 ≤ a17)) (.br (decide (a17 < Int.ofNat a15.length)) (.br ((getI a15 a17 (0, false, [])).fst != a1) (.br (appLim 40 r9006.length 1) (.next (a1, a15, a16, (IntKind.i64.wrap (a17 + 1)), r5_0, r5_1, (r9006 ++ [getI a15 a17 (0, false, [])]), ())) .fail) (.next (a1, a15, a16, (IntKind.i64.wrap (a17 + 1)), r5_0, r5_1, r9006, ()))) .fail) .fail) (.ret (r5_0, r5_1, r9006, ())))
noncomputable def ref07_Remove_l0 (st : ref07_Remove_S0) : Option ref07_Remove_Q0 := LT.loop ref07_Remove_b0 FUEL st
noncomputable def ref07_Remove_A : Anns := { l := [(5, [.keep [1, 5, 6, 15, 16, 17] [5, 28, 9006], .ownS 6 9006 55, .keep [1, 5, 6, 15, 16, 17] [5, 9006]]), (100005, [.keep [5, 6] [5, 9006]])], orc := [(5, genOrc ref07_Remove_h0 ref07_Remove_x0 ref07_Remove_l0)], N := 1000, rng := [], ro := [], outs := none, nils := [] }
theorem ref07_Remove_s0 : ∀ (st : ref07_Remove_S0) m k, loopX ref07_Remove_A (loopN Tryz.prog 26 0) (prep (tabsG L_ref07_Insert) (annOf ref07_Remove_A (loopN Tryz.prog 26 0))) (evalC Tryz.prog (tabsG L_ref07_Insert) ref07_Remove_A (loopN Tryz.prog 26 0)) (m + 1) (ref07_Remove_h0.enc st) (outK (tabsG L_ref07_Insert) ref07_Remove_A (loopN Tryz.prog 26 0) k) = (ref07_Remove_b0 st).run (exK ref07_Remove_x0 k) (fun st' => loopX ref07_Remove_A (loopN Tryz.prog 26 0) (prep (tabsG L_ref07_Insert) (annOf ref07_Remove_A (loopN Tryz.prog 26 0))) (evalC Tryz.prog (tabsG L_ref07_Insert) ref07_Remove_A (loopN Tryz.prog 26 0)) m (ref07_Remove_h0.enc st') (outK (tabsG L_ref07_Insert) ref07_Remove_A (loopN Tryz.prog 26 0) k)) := by
  intro st m k
  obtain ⟨a1, a15, a16, a17, r5_0, r5_1, r9006, ⟨⟩⟩ := st
  kernel_rfl
theorem ref07_Remove_o0 : OrcOk Tryz.prog (tabsG L_ref07_Insert) ref07_Remove_A (loopN Tryz.prog 26 0) := genOrc_ok (h := ref07_Remove_h0) (xs := ref07_Remove_x0) (F := ref07_Remove_l0) (bd := ref07_Remove_b0) (fun _ => FUEL) (by kernel_rfl) (fun _ _ h => h) ref07_Remove_s0
noncomputable def ref07_Remove_t (p0 : (List Item)) (p1 : Int) : FT ((List Item) × (Bool × List (Int × Int) × Int)) := (.opt (ref07_place p0 p1) fun x4 => (.br (decide (x4 < 0)) (.ret ((p0, true, [], 10))) (.opt (ref07_Remove_l0 (p1, p0, Int.ofNat p0.length, 0, false, 0, [], ())) fun x5 => (.ret ((x5.snd.snd.fst, false, [], 0))))))
noncomputable def ref07_Remove (p0 : (List Item)) (p1 : Int) : Option ((List Item) × (Bool × List (Int × Int) × Int)) := (ref07_Remove_t p0 p1).fin
noncomputable def ref07_Remove_sp : CSpec := genSpec [(.sl shItem), (.int .i64)] [(.sl shItem), shE] (fun x => ref07_Remove x.1 x.2)
theorem ref07_Remove_ok : EnterOk Tryz.prog 26 ∧ CSpecOk Tryz.prog cfgG 26 ref07_Remove_sp := ⟨enter Tryz.func26 (by kernel_rfl) (by kernel_rfl), genSpec_ok (A := ref07_Remove_A) (sa := [(.sl shItem), (.int .i64)]) (sr := [(.sl shItem), shE]) (bd := fun (x : (ArgT [(.sl shItem), (.int .i64)])) => ref07_Remove_t x.1 x.2) (fitG L_ref07_Insert) s_ref07_Insert mixed (by kernel_rfl) (loopsAll (l := [loopN Tryz.prog 26 0]) (by kernel_rfl) ⟨ref07_Remove_o0, trivial⟩) (fun _ => rfl) (by
  intro x
  obtain ⟨p0, p1⟩ := x
  kernel_rfl)⟩
noncomputable def L_ref07_Remove : List (Nat × CSpec) := (26, ref07_Remove_sp) :: L_ref07_Insert
theorem s_ref07_Remove : SpecsOk Tryz.prog (tabsG L_ref07_Remove) := oneSpecGT s_ref07_Insert ref07_Remove_ok
end Go.Proofs.YtdiomgmckidccaaGreatDoor
