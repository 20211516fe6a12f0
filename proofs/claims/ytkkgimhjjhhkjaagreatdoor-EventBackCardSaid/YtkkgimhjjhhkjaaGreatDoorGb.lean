/- Trees of functions, their loops and contracts: printed by PevGen (own tool). -/
import Derived.Test.YtkkgimhjjhhkjaaGreatDoorSc
set_option maxRecDepth 100000
namespace Go.Proofs.YtkkgimhjjhhkjaaGreatDoor
open Go Go.Pev
noncomputable def event_Find_1_A : Anns := ⟨[], [], 1000⟩
noncomputable def event_Find_1_t (p0 : (ByteArray × V)) (p1 : ByteArray) : FT (Int) := (.opt (cmpF p0.fst p1) fun x2 => (.ret x2))
noncomputable def event_Find_1 (p0 : (ByteArray × V)) (p1 : ByteArray) : Option (Int) := (event_Find_1_t p0 p1).fin
noncomputable def event_Find_1_sp : CSpec := genSpec [shAttr, .str] [(.int .i64)] (fun x => event_Find_1 x.1 x.2)
theorem event_Find_1_ok : EnterOk Tryz.prog 80 ∧ CSpecOk Tryz.prog cfgG 80 event_Find_1_sp := ⟨enter Tryz.func80 (by kernel_rfl) (by kernel_rfl), genSpec_ok (A := event_Find_1_A) (sa := [shAttr, .str]) (sr := [(.int .i64)]) (bd := fun (x : ArgT [shAttr, .str]) => event_Find_1_t x.1 x.2) (fitG L_strings_Compare) s_strings_Compare mixed (by kernel_rfl) (loopsAll (l := []) (by kernel_rfl) trivial) (fun _ => rfl) (by
  intro x
  obtain ⟨p0, p1⟩ := x
  kernel_rfl)⟩
noncomputable def L_event_Find_1 : List (Nat × CSpec) := (80, event_Find_1_sp) :: L_strings_Compare
theorem s_event_Find_1 : SpecsOk Tryz.prog (tabsG L_event_Find_1) := oneSpecGT s_strings_Compare event_Find_1_ok
noncomputable def slices_BinarySearchFunc_h0 : EP := ⟨[(0, .d (.sl shAttr)), (1, .d .str), (2, .fn 80), (8, .d (.int .i64)), (9, .d (.int .i64)), (10, .d (.int .i64))], []⟩
noncomputable def slices_BinarySearchFunc_x0 : List (Exit × EP) := [(Exit.exit 0, ⟨[(0, .d (.sl shAttr)), (1, .d .str), (2, .fn 80), (8, .d (.int .i64)), (9, .d (.int .i64))], []⟩)]
abbrev slices_BinarySearchFunc_S0 : Type := (List (ByteArray × V)) × ByteArray × Int × Int × Int × Unit
abbrev slices_BinarySearchFunc_Q0 : Type := ((List (ByteArray × V)) × ByteArray × Int × Int × Unit)
noncomputable def slices_BinarySearchFunc_b0 : slices_BinarySearchFunc_S0 → LT slices_BinarySearchFunc_S0 slices_BinarySearchFunc_Q0 := fun st => match st with
  | (a0, a1, a8, a9, a10, ()) => (.br (decide (a9 < a10)) (.br (decide (0 ≤ IntKind.i64.wrap ((IntKind.u64.wrap (IntKind.i64.wrap (a9 + a10))).fdiv (2 ^ min 1 IntKind.u64.bits)))) (.br (decide (IntKind.i64.wrap ((IntKind.u64.wrap (IntKind.i64.wrap (a9 + a10))).fdiv (2 ^ min 1 IntKind.u64.bits)) < Int.ofNat a0.length)) (.opt (event_Find_1 (getI a0 (IntKind.i64.wrap ((IntKind.u64.wrap (IntKind.i64.wrap (a9 + a10))).fdiv (2 ^ min 1 IntKind.u64.bits))) (ByteArray.mk #[], 0, 0, ByteArray.mk #[], false)) a1) fun x4 => (.br (decide (x4 < 0)) (.next (a0, a1, a8, (IntKind.i64.wrap (IntKind.i64.wrap ((IntKind.u64.wrap (IntKind.i64.wrap (a9 + a10))).fdiv (2 ^ min 1 IntKind.u64.bits)) + 1)), a10, ())) (.next (a0, a1, a8, a9, (IntKind.i64.wrap ((IntKind.u64.wrap (IntKind.i64.wrap (a9 + a10))).fdiv (2 ^ min 1 IntKind.u64.bits))), ())))) .fail) .fail) (.ret (a0, a1, a8, a9, ())))
noncomputable def slices_BinarySearchFunc_l0 (st : slices_BinarySearchFunc_S0) : Option slices_BinarySearchFunc_Q0 := LT.loop slices_BinarySearchFunc_b0 FUEL st
noncomputable def slices_BinarySearchFunc_A : Anns := ⟨[(3, [.keep [0, 1, 2, 8, 9, 10] []]), (100003, [.keep [0, 1, 2, 8, 9] []])], [(3, genOrc slices_BinarySearchFunc_h0 slices_BinarySearchFunc_x0 slices_BinarySearchFunc_l0)], 1000⟩
theorem slices_BinarySearchFunc_s0 : ∀ (st : slices_BinarySearchFunc_S0) m k, loopE (prep (tabsG L_event_Find_1) (annOf slices_BinarySearchFunc_A (loopN Tryz.prog 79 0))) (evalC Tryz.prog (tabsG L_event_Find_1) slices_BinarySearchFunc_A (loopN Tryz.prog 79 0)) (m + 1) (slices_BinarySearchFunc_h0.enc st) (outK (tabsG L_event_Find_1) slices_BinarySearchFunc_A (loopN Tryz.prog 79 0) k) = (slices_BinarySearchFunc_b0 st).run (exK slices_BinarySearchFunc_x0 k) (fun st' => loopE (prep (tabsG L_event_Find_1) (annOf slices_BinarySearchFunc_A (loopN Tryz.prog 79 0))) (evalC Tryz.prog (tabsG L_event_Find_1) slices_BinarySearchFunc_A (loopN Tryz.prog 79 0)) m (slices_BinarySearchFunc_h0.enc st') (outK (tabsG L_event_Find_1) slices_BinarySearchFunc_A (loopN Tryz.prog 79 0) k)) := by
  intro st m k
  obtain ⟨a0, a1, a8, a9, a10, ⟨⟩⟩ := st
  kernel_rfl
theorem slices_BinarySearchFunc_o0 : OrcOk Tryz.prog (tabsG L_event_Find_1) slices_BinarySearchFunc_A (loopN Tryz.prog 79 0) := genOrc_ok (h := slices_BinarySearchFunc_h0) (xs := slices_BinarySearchFunc_x0) (F := slices_BinarySearchFunc_l0) (bd := slices_BinarySearchFunc_b0) (fun _ => FUEL) (by kernel_rfl) (fun _ _ h => h) slices_BinarySearchFunc_s0
noncomputable def slices_BinarySearchFunc_t (p0 : (List (ByteArray × V))) (p1 : ByteArray) : FT (Int × Bool) := (.opt (slices_BinarySearchFunc_l0 (p0, p1, Int.ofNat p0.length, 0, Int.ofNat p0.length, ())) fun x7 => (.br (decide (x7.snd.snd.snd.fst < x7.snd.snd.fst)) (.br (decide (0 ≤ x7.snd.snd.snd.fst)) (.br (decide (x7.snd.snd.snd.fst < Int.ofNat (List.length x7.fst))) (.opt (event_Find_1 (getI x7.fst x7.snd.snd.snd.fst (ByteArray.mk #[], 0, 0, ByteArray.mk #[], false)) x7.snd.fst) fun x8 => (.ret ((x7.snd.snd.snd.fst, x8 == 0)))) .fail) .fail) (.ret ((x7.snd.snd.snd.fst, false)))))
noncomputable def slices_BinarySearchFunc (p0 : (List (ByteArray × V))) (p1 : ByteArray) : Option (Int × Bool) := (slices_BinarySearchFunc_t p0 p1).fin
noncomputable def slices_BinarySearchFunc_sp : CSpec := genSpecX [(.sl shAttr), .str] [(.int .i64), .bool] [80] (fun x => slices_BinarySearchFunc x.1 x.2)
theorem slices_BinarySearchFunc_ok : EnterOk Tryz.prog 79 ∧ CSpecOk Tryz.prog cfgG 79 slices_BinarySearchFunc_sp := ⟨enter Tryz.func79 (by kernel_rfl) (by kernel_rfl), genSpecX_ok (A := slices_BinarySearchFunc_A) (sa := [(.sl shAttr), .str]) (sr := [(.int .i64), .bool]) (ex := [80]) (bd := fun (x : ArgT [(.sl shAttr), .str]) => slices_BinarySearchFunc_t x.1 x.2) (fitG L_event_Find_1) s_event_Find_1 mixed (by kernel_rfl) (loopsAll (l := [loopN Tryz.prog 79 0]) (by kernel_rfl) ⟨slices_BinarySearchFunc_o0, trivial⟩) (fun _ => rfl) (by
  intro x
  obtain ⟨p0, p1⟩ := x
  kernel_rfl)⟩
noncomputable def L_slices_BinarySearchFunc : List (Nat × CSpec) := (79, slices_BinarySearchFunc_sp) :: L_event_Find_1
theorem s_slices_BinarySearchFunc : SpecsOk Tryz.prog (tabsG L_slices_BinarySearchFunc) := oneSpecGT s_event_Find_1 slices_BinarySearchFunc_ok
noncomputable def event_Find_A : Anns := ⟨[], [], 1000⟩
noncomputable def event_Find_t (p0 : (List (ByteArray × V))) (p1 : ByteArray) : FT (Int × Bool) := (.opt (slices_BinarySearchFunc p0 p1) fun x2 => (.ret x2))
noncomputable def event_Find (p0 : (List (ByteArray × V))) (p1 : ByteArray) : Option (Int × Bool) := (event_Find_t p0 p1).fin
noncomputable def event_Find_sp : CSpec := genSpec [(.sl shAttr), .str] [(.int .i64), .bool] (fun x => event_Find x.1 x.2)
theorem event_Find_ok : EnterOk Tryz.prog 52 ∧ CSpecOk Tryz.prog cfgG 52 event_Find_sp := ⟨enter Tryz.func52 (by kernel_rfl) (by kernel_rfl), genSpec_ok (A := event_Find_A) (sa := [(.sl shAttr), .str]) (sr := [(.int .i64), .bool]) (bd := fun (x : ArgT [(.sl shAttr), .str]) => event_Find_t x.1 x.2) (fitG L_slices_BinarySearchFunc) s_slices_BinarySearchFunc mixed (by kernel_rfl) (loopsAll (l := []) (by kernel_rfl) trivial) (fun _ => rfl) (by
  intro x
  obtain ⟨p0, p1⟩ := x
  kernel_rfl)⟩
noncomputable def L_event_Find : List (Nat × CSpec) := (52, event_Find_sp) :: L_slices_BinarySearchFunc
theorem s_event_Find : SpecsOk Tryz.prog (tabsG L_event_Find) := oneSpecGT s_slices_BinarySearchFunc event_Find_ok
noncomputable def event_asked_A : Anns := ⟨[], [], 1000⟩
noncomputable def event_asked_t (p0 : (List (ByteArray × V))) (p1 : ByteArray) : FT (Err) := (.opt (event_Check p0) fun x3 => (.br (!x3.isNone) (.ret x3) (.opt (event_Name p1) fun x4 => (.br (!x4) (.ret (some ([], 3))) (.ret none)))))
noncomputable def event_asked (p0 : (List (ByteArray × V))) (p1 : ByteArray) : Option (Err) := (event_asked_t p0 p1).fin
noncomputable def event_asked_sp : CSpec := genSpec [(.sl shAttr), .str] [.err] (fun x => event_asked x.1 x.2)
theorem event_asked_ok : EnterOk Tryz.prog 51 ∧ CSpecOk Tryz.prog cfgG 51 event_asked_sp := ⟨enter Tryz.func51 (by kernel_rfl) (by kernel_rfl), genSpec_ok (A := event_asked_A) (sa := [(.sl shAttr), .str]) (sr := [.err]) (bd := fun (x : ArgT [(.sl shAttr), .str]) => event_asked_t x.1 x.2) (fitG L_event_Find) s_event_Find mixed (by kernel_rfl) (loopsAll (l := []) (by kernel_rfl) trivial) (fun _ => rfl) (by
  intro x
  obtain ⟨p0, p1⟩ := x
  kernel_rfl)⟩
noncomputable def L_event_asked : List (Nat × CSpec) := (51, event_asked_sp) :: L_event_Find
theorem s_event_asked : SpecsOk Tryz.prog (tabsG L_event_asked) := oneSpecGT s_event_Find event_asked_ok
noncomputable def event_Get_A : Anns := ⟨[], [], 1000⟩
noncomputable def event_Get_t (p0 : (List (ByteArray × V))) (p1 : ByteArray) : FT (V × Err) := (.opt (event_asked p0 p1) fun x3 => (.br (!x3.isNone) (.ret (((0, 0, ByteArray.mk #[], false), x3))) (.opt (event_Find p0 p1) fun x4 => (.br x4.snd (.br (decide (0 ≤ x4.fst)) (.br (decide (x4.fst < Int.ofNat p0.length)) (.ret (((getI p0 x4.fst (ByteArray.mk #[], 0, 0, ByteArray.mk #[], false)).snd, none))) .fail) .fail) (.ret (((0, 0, ByteArray.mk #[], false), some ([], 10))))))))
noncomputable def event_Get (p0 : (List (ByteArray × V))) (p1 : ByteArray) : Option (V × Err) := (event_Get_t p0 p1).fin
noncomputable def event_Get_sp : CSpec := genSpec [(.sl shAttr), .str] [shVal, .err] (fun x => event_Get x.1 x.2)
theorem event_Get_ok : EnterOk Tryz.prog 23 ∧ CSpecOk Tryz.prog cfgG 23 event_Get_sp := ⟨enter Tryz.func23 (by kernel_rfl) (by kernel_rfl), genSpec_ok (A := event_Get_A) (sa := [(.sl shAttr), .str]) (sr := [shVal, .err]) (bd := fun (x : ArgT [(.sl shAttr), .str]) => event_Get_t x.1 x.2) (fitG L_event_asked) s_event_asked mixed (by kernel_rfl) (loopsAll (l := []) (by kernel_rfl) trivial) (fun _ => rfl) (by
  intro x
  obtain ⟨p0, p1⟩ := x
  kernel_rfl)⟩
noncomputable def L_event_Get : List (Nat × CSpec) := (23, event_Get_sp) :: L_event_asked
theorem s_event_Get : SpecsOk Tryz.prog (tabsG L_event_Get) := oneSpecGT s_event_asked event_Get_ok
noncomputable def law03_awake_A : Anns := ⟨[], [], 1000⟩
noncomputable def law03_awake_t  : FT (Bool) := (.opt (event_Read (ByteArray.mk #[97, 61, 49, 44, 32, 98, 61, 34, 120, 44, 32, 121, 34])) fun x4 => (.opt (event_Text x4.fst) fun x5 => (.opt (event_Get x4.fst (ByteArray.mk #[97])) fun x6 => (.br (Option.isNone x4.snd) (.br (Option.isNone x5.snd) (.br (Option.isNone x6.snd) (.br (Int.ofNat (List.length x4.fst) == 2) (.br (ByteArray.toList x5.fst == (ByteArray.mk #[97, 61, 49, 44, 32, 98, 61, 34, 120, 44, 32, 121, 34]).toList) (.br (eqB shVal x6.fst (1, 1, ByteArray.mk #[], false)) (.ret true) (.ret false)) (.ret false)) (.ret false)) (.ret false)) (.ret false)) (.ret false)))))
noncomputable def law03_awake  : Option (Bool) := (law03_awake_t ).fin
noncomputable def law03_awake_sp : CSpec := genSpec [] [.bool] (fun x => law03_awake)
theorem law03_awake_ok : EnterOk Tryz.prog 10 ∧ CSpecOk Tryz.prog cfgG 10 law03_awake_sp := ⟨enter Tryz.func10 (by kernel_rfl) (by kernel_rfl), genSpec_ok (A := law03_awake_A) (sa := []) (sr := [.bool]) (bd := fun (x : ArgT []) => law03_awake_t) (fitG L_event_Get) s_event_Get mixed (by kernel_rfl) (loopsAll (l := []) (by kernel_rfl) trivial) (fun _ => rfl) (by
  intro x
  obtain ⟨⟩ := x
  kernel_rfl)⟩
noncomputable def L_law03_awake : List (Nat × CSpec) := (10, law03_awake_sp) :: L_event_Get
theorem s_law03_awake : SpecsOk Tryz.prog (tabsG L_law03_awake) := oneSpecGT s_event_Get law03_awake_ok
noncomputable def law03_EventTexts_A : Anns := ⟨[], [], 1000⟩
noncomputable def law03_EventTexts_t (p0 : (List (ByteArray × V))) (p1 : ByteArray) : FT (Bool) := (.opt law03_awake fun x11 => (.br (!x11) (.ret false) (.br (decide (Int.ofNat p0.length > 100)) (.ret true) (.opt (ref03_Twin p0) fun x12 => (.opt (event_Text x12) fun x13 => (.opt (ref03_DocText p0) fun x14 => (.br (ByteArray.toList x13.fst == ByteArray.toList x14.fst) (.opt (law03_fails x13.snd x14.snd) fun x15 => (.br x15 (.opt (event_Check p0) fun x16 => (.opt (ref03_Check p0) fun x17 => (.opt (law03_fails x16 x17) fun x18 => (.br x18 (.opt (event_Name p1) fun x19 => (.opt (ref03_Name p1) fun x20 => (.ret (x19 == x20)))) (.ret false))))) (.ret false))) (.ret false))))))))
noncomputable def law03_EventTexts (p0 : (List (ByteArray × V))) (p1 : ByteArray) : Option (Bool) := (law03_EventTexts_t p0 p1).fin
noncomputable def law03_EventTexts_sp : CSpec := genSpec [(.sl shAttr), .str] [.bool] (fun x => law03_EventTexts x.1 x.2)
theorem law03_EventTexts_ok : EnterOk Tryz.prog 3 ∧ CSpecOk Tryz.prog cfgG 3 law03_EventTexts_sp := ⟨enter Tryz.func3 (by kernel_rfl) (by kernel_rfl), genSpec_ok (A := law03_EventTexts_A) (sa := [(.sl shAttr), .str]) (sr := [.bool]) (bd := fun (x : ArgT [(.sl shAttr), .str]) => law03_EventTexts_t x.1 x.2) (fitG L_law03_awake) s_law03_awake mixed (by kernel_rfl) (loopsAll (l := []) (by kernel_rfl) trivial) (fun _ => rfl) (by
  intro x
  obtain ⟨p0, p1⟩ := x
  kernel_rfl)⟩
noncomputable def L_law03_EventTexts : List (Nat × CSpec) := (3, law03_EventTexts_sp) :: L_law03_awake
theorem s_law03_EventTexts : SpecsOk Tryz.prog (tabsG L_law03_EventTexts) := oneSpecGT s_law03_awake law03_EventTexts_ok
noncomputable def law03_EventReads_A : Anns := ⟨[], [], 1000⟩
noncomputable def law03_EventReads_t (p0 : ByteArray) : FT (Bool) := (.opt law03_awake fun x10 => (.br (!x10) (.ret false) (.br (decide (Int.ofNat p0.size > 3000)) (.br (decide (Int.ofNat p0.size ≤ 8000)) (.ret true) (.opt (event_Read p0) fun x11 => (.opt (ref03_Read p0) fun x12 => (.opt (ref03_Same x11.fst x12.fst) fun x13 => (.br x13 (.opt (law03_fails x11.snd x12.snd) fun x14 => (.ret x14)) (.ret false)))))) (.opt (event_Read p0) fun x15 => (.opt (ref03_Read p0) fun x16 => (.opt (ref03_Same x15.fst x16.fst) fun x17 => (.br x17 (.opt (law03_fails x15.snd x16.snd) fun x18 => (.ret x18)) (.ret false))))))))
noncomputable def law03_EventReads (p0 : ByteArray) : Option (Bool) := (law03_EventReads_t p0).fin
noncomputable def law03_EventReads_sp : CSpec := genSpec [.str] [.bool] (fun x => law03_EventReads x)
theorem law03_EventReads_ok : EnterOk Tryz.prog 4 ∧ CSpecOk Tryz.prog cfgG 4 law03_EventReads_sp := ⟨enter Tryz.func4 (by kernel_rfl) (by kernel_rfl), genSpec_ok (A := law03_EventReads_A) (sa := [.str]) (sr := [.bool]) (bd := fun (x : ArgT [.str]) => law03_EventReads_t x) (fitG L_law03_EventTexts) s_law03_EventTexts mixed (by kernel_rfl) (loopsAll (l := []) (by kernel_rfl) trivial) (fun _ => rfl) (by
  intro x
  skip
  kernel_rfl)⟩
noncomputable def L_law03_EventReads : List (Nat × CSpec) := (4, law03_EventReads_sp) :: L_law03_EventTexts
theorem s_law03_EventReads : SpecsOk Tryz.prog (tabsG L_law03_EventReads) := oneSpecGT s_law03_EventTexts law03_EventReads_ok
noncomputable def law03_EventBack_A : Anns := ⟨[], [], 1000⟩
noncomputable def law03_EventBack_t (p0 : (List (ByteArray × V))) (p1 : ByteArray) : FT (Bool) := (.opt law03_awake fun x11 => (.br (!x11) (.ret false) (.br (decide (Int.ofNat p0.length > 100)) (.ret true) (.br (decide (Int.ofNat p1.size > 3000)) (.ret true) (.opt (event_Text p0) fun x12 => (.br (Option.isNone x12.snd) (.br (decide (Int.ofNat (ByteArray.size x12.fst) ≤ 8000)) (.opt (event_Read x12.fst) fun x13 => (.br (!Option.isNone x13.snd) (.ret false) (.opt (ref03_Same x13.fst p0) fun x14 => (.br (!x14) (.ret false) (.opt (event_Read p1) fun x15 => (.br (!Option.isNone x15.snd) (.ret (Int.ofNat (List.length x15.fst) == 0)) (.opt (event_Text x15.fst) fun x16 => (.br (Option.isNone x16.snd) (.ret (ByteArray.toList x16.fst == p1.toList)) (.ret false))))))))) (.opt (event_Read p1) fun x17 => (.br (!Option.isNone x17.snd) (.ret (Int.ofNat (List.length x17.fst) == 0)) (.opt (event_Text x17.fst) fun x18 => (.br (Option.isNone x18.snd) (.ret (ByteArray.toList x18.fst == p1.toList)) (.ret false)))))) (.opt (event_Read p1) fun x19 => (.br (!Option.isNone x19.snd) (.ret (Int.ofNat (List.length x19.fst) == 0)) (.opt (event_Text x19.fst) fun x20 => (.br (Option.isNone x20.snd) (.ret (ByteArray.toList x20.fst == p1.toList)) (.ret false)))))))))))
noncomputable def law03_EventBack (p0 : (List (ByteArray × V))) (p1 : ByteArray) : Option (Bool) := (law03_EventBack_t p0 p1).fin
noncomputable def law03_EventBack_sp : CSpec := genSpec [(.sl shAttr), .str] [.bool] (fun x => law03_EventBack x.1 x.2)
theorem law03_EventBack_ok : EnterOk Tryz.prog 5 ∧ CSpecOk Tryz.prog cfgG 5 law03_EventBack_sp := ⟨enter Tryz.func5 (by kernel_rfl) (by kernel_rfl), genSpec_ok (A := law03_EventBack_A) (sa := [(.sl shAttr), .str]) (sr := [.bool]) (bd := fun (x : ArgT [(.sl shAttr), .str]) => law03_EventBack_t x.1 x.2) (fitG L_law03_EventReads) s_law03_EventReads mixed (by kernel_rfl) (loopsAll (l := []) (by kernel_rfl) trivial) (fun _ => rfl) (by
  intro x
  obtain ⟨p0, p1⟩ := x
  kernel_rfl)⟩
noncomputable def L_law03_EventBack : List (Nat × CSpec) := (5, law03_EventBack_sp) :: L_law03_EventReads
theorem s_law03_EventBack : SpecsOk Tryz.prog (tabsG L_law03_EventBack) := oneSpecGT s_law03_EventReads law03_EventBack_ok
end Go.Proofs.YtkkgimhjjhhkjaaGreatDoor
