/- Trees of functions, their loops and contracts: printed by PewGen (own tool). -/
import Derived.Test.YtkkgimhjjhhkjaaGreatDoorSt
set_option maxRecDepth 100000
namespace Go.Proofs.YtkkgimhjjhhkjaaGreatDoor
open Go Go.Pev
noncomputable def value_Check_A : Anns := { l := [], orc := [], N := 1000, rng := [], ro := [], outs := none, nils := [] }
noncomputable def value_Check_t (p0 : V) : FT (Err) := (.br (p0.fst == 1) (.br (!eqB shVal (p0.fst, 0, p0.snd.snd) (p0.fst, 0, ByteArray.mk #[], false)) (.ret (some ([], 3))) (.br (decide (Int.ofNat (ByteArray.size p0.snd.snd.fst) > 1000)) (.ret (some ([], 2))) (.ret none))) (.br (p0.fst == 2) (.br (!eqB shVal (p0.fst, p0.snd.fst, ByteArray.mk #[], p0.snd.snd.snd) (p0.fst, 0, ByteArray.mk #[], false)) (.ret (some ([], 3))) (.br (decide (Int.ofNat (ByteArray.size p0.snd.snd.fst) > 1000)) (.ret (some ([], 2))) (.ret none))) (.br (p0.fst == 3) (.br (!eqB shVal (p0.fst, p0.snd.fst, p0.snd.snd.fst, false) (p0.fst, 0, ByteArray.mk #[], false)) (.ret (some ([], 3))) (.br (decide (Int.ofNat (ByteArray.size p0.snd.snd.fst) > 1000)) (.ret (some ([], 2))) (.ret none))) (.ret (some ([], 3))))))
noncomputable def value_Check (p0 : V) : Option (Err) := (value_Check_t p0).fin
noncomputable def value_Check_sp : CSpec := genSpec [shVal] [.err] (fun x => value_Check x)
theorem value_Check_ok : EnterOk Tryz.prog 36 ∧ CSpecOk Tryz.prog cfgG 36 value_Check_sp := ⟨enter Tryz.func36 (by kernel_rfl) (by kernel_rfl), genSpec_ok (A := value_Check_A) (sa := [shVal]) (sr := [.err]) (bd := fun (x : (ArgT [shVal])) => value_Check_t x) (fitG L1) s1 mixed (by kernel_rfl) (loopsAll (l := []) (by kernel_rfl) trivial) (fun _ => rfl) (by
  intro x
  skip
  kernel_rfl)⟩
noncomputable def L_value_Check : List (Nat × CSpec) := (36, value_Check_sp) :: L1
theorem s_value_Check : SpecsOk Tryz.prog (tabsG L_value_Check) := oneSpecGT s1 value_Check_ok
noncomputable def value_Quote_h0 : EP := ⟨[(0, .d .str), (3, .own 9003), (8, .d (.int .i64)), (9, .d (.int .i64))], [(9003, .row 5 (.int .u8))]⟩
noncomputable def value_Quote_x0 : List (Exit × EP) := [(Exit.exit 0, ⟨[(3, .own 9003)], [(9003, .row 5 (.int .u8))]⟩)]
abbrev value_Quote_S0 : Type := ByteArray × Int × Int × (List Int) × Unit
abbrev value_Quote_Q0 : Type := ((List Int) × Unit)
noncomputable def value_Quote_b0 : value_Quote_S0 → LT value_Quote_S0 value_Quote_Q0 := fun st => match st with
  | (a0, a8, a9, r9003, ()) => (.br (decide (a9 < a8)) (.br (decide (0 ≤ a9)) (.br (decide (a9 < Int.ofNat a0.size)) (.br (Int.ofNat (a0.data.toList.getD a9.toNat 0).toNat == 34) (.br (appLim 1 r9003.length 2) (.next (a0, a8, (IntKind.i64.wrap (a9 + 1)), (r9003 ++ [92, Int.ofNat (a0.data.toList.getD a9.toNat 0).toNat]), ())) .fail) (.br (Int.ofNat (a0.data.toList.getD a9.toNat 0).toNat == 92) (.br (appLim 1 r9003.length 2) (.next (a0, a8, (IntKind.i64.wrap (a9 + 1)), (r9003 ++ [92, Int.ofNat (a0.data.toList.getD a9.toNat 0).toNat]), ())) .fail) (.br (decide (Int.ofNat (a0.data.toList.getD a9.toNat 0).toNat < 32)) (.br (decide (0 ≤ (Int.ofNat (a0.data.toList.getD a9.toNat 0).toNat).fdiv (2 ^ min 4 IntKind.u8.bits))) (.br (decide ((Int.ofNat (a0.data.toList.getD a9.toNat 0).toNat).fdiv (2 ^ min 4 IntKind.u8.bits) < Int.ofNat (ByteArray.mk #[48, 49, 50, 51, 52, 53, 54, 55, 56, 57, 97, 98, 99, 100, 101, 102]).size)) (.br (decide (IntKind.u8.wrap (Int.ofNat (BitVec.ofInt IntKind.u8.bits (Int.ofNat (a0.data.toList.getD a9.toNat 0).toNat) &&& BitVec.ofInt IntKind.u8.bits 15).toNat) < Int.ofNat (ByteArray.mk #[48, 49, 50, 51, 52, 53, 54, 55, 56, 57, 97, 98, 99, 100, 101, 102]).size)) (.br (appLim 1 r9003.length 4) (.next (a0, a8, (IntKind.i64.wrap (a9 + 1)), (r9003 ++ [92, 120, Int.ofNat ((ByteArray.mk #[48, 49, 50, 51, 52, 53, 54, 55, 56, 57, 97, 98, 99, 100, 101, 102]).data.toList.getD ((Int.ofNat (a0.data.toList.getD a9.toNat 0).toNat).fdiv (2 ^ min 4 IntKind.u8.bits)).toNat 0).toNat, Int.ofNat ((ByteArray.mk #[48, 49, 50, 51, 52, 53, 54, 55, 56, 57, 97, 98, 99, 100, 101, 102]).data.toList.getD (IntKind.u8.wrap (Int.ofNat (BitVec.ofInt IntKind.u8.bits (Int.ofNat (a0.data.toList.getD a9.toNat 0).toNat) &&& BitVec.ofInt IntKind.u8.bits 15).toNat)).toNat 0).toNat]), ())) .fail) .fail) .fail) .fail) (.br (decide (Int.ofNat (a0.data.toList.getD a9.toNat 0).toNat > 126)) (.br (decide (0 ≤ (Int.ofNat (a0.data.toList.getD a9.toNat 0).toNat).fdiv (2 ^ min 4 IntKind.u8.bits))) (.br (decide ((Int.ofNat (a0.data.toList.getD a9.toNat 0).toNat).fdiv (2 ^ min 4 IntKind.u8.bits) < Int.ofNat (ByteArray.mk #[48, 49, 50, 51, 52, 53, 54, 55, 56, 57, 97, 98, 99, 100, 101, 102]).size)) (.br (decide (IntKind.u8.wrap (Int.ofNat (BitVec.ofInt IntKind.u8.bits (Int.ofNat (a0.data.toList.getD a9.toNat 0).toNat) &&& BitVec.ofInt IntKind.u8.bits 15).toNat) < Int.ofNat (ByteArray.mk #[48, 49, 50, 51, 52, 53, 54, 55, 56, 57, 97, 98, 99, 100, 101, 102]).size)) (.br (appLim 1 r9003.length 4) (.next (a0, a8, (IntKind.i64.wrap (a9 + 1)), (r9003 ++ [92, 120, Int.ofNat ((ByteArray.mk #[48, 49, 50, 51, 52, 53, 54, 55, 56, 57, 97, 98, 99, 100, 101, 102]).data.toList.getD ((Int.ofNat (a0.data.toList.getD a9.toNat 0).toNat).fdiv (2 ^ min 4 IntKind.u8.bits)).toNat 0).toNat, Int.ofNat ((ByteArray.mk #[48, 49, 50, 51, 52, 53, 54, 55, 56, 57, 97, 98, 99, 100, 101, 102]).data.toList.getD (IntKind.u8.wrap (Int.ofNat (BitVec.ofInt IntKind.u8.bits (Int.ofNat (a0.data.toList.getD a9.toNat 0).toNat) &&& BitVec.ofInt IntKind.u8.bits 15).toNat)).toNat 0).toNat]), ())) .fail) .fail) .fail) .fail) (.br (appLim 1 r9003.length 1) (.next (a0, a8, (IntKind.i64.wrap (a9 + 1)), (r9003 ++ [Int.ofNat (a0.data.toList.getD a9.toNat 0).toNat]), ())) .fail))))) .fail) .fail) (.ret (r9003, ())))
noncomputable def value_Quote_l0 (st : value_Quote_S0) : Option value_Quote_Q0 := LT.loop value_Quote_b0 FUEL st
noncomputable def value_Quote_A : Anns := { l := [(3, [.keep [0, 3, 8, 9] [6, 18, 29, 45], .ownS 3 9003 5, .keep [0, 3, 8, 9] [9003]]), (100003, [.keep [3] [9003]])], orc := [(3, genOrc value_Quote_h0 value_Quote_x0 value_Quote_l0)], N := 1000, rng := [], ro := [], outs := none, nils := [] }
theorem value_Quote_s0 : ∀ (st : value_Quote_S0) m k, loopX value_Quote_A (loopN Tryz.prog 60 0) (prep (tabsG L_value_Check) (annOf value_Quote_A (loopN Tryz.prog 60 0))) (evalC Tryz.prog (tabsG L_value_Check) value_Quote_A (loopN Tryz.prog 60 0)) (m + 1) (value_Quote_h0.enc st) (outK (tabsG L_value_Check) value_Quote_A (loopN Tryz.prog 60 0) k) = (value_Quote_b0 st).run (exK value_Quote_x0 k) (fun st' => loopX value_Quote_A (loopN Tryz.prog 60 0) (prep (tabsG L_value_Check) (annOf value_Quote_A (loopN Tryz.prog 60 0))) (evalC Tryz.prog (tabsG L_value_Check) value_Quote_A (loopN Tryz.prog 60 0)) m (value_Quote_h0.enc st') (outK (tabsG L_value_Check) value_Quote_A (loopN Tryz.prog 60 0) k)) := by
  intro st m k
  obtain ⟨a0, a8, a9, r9003, ⟨⟩⟩ := st
  kernel_rfl
theorem value_Quote_o0 : OrcOk Tryz.prog (tabsG L_value_Check) value_Quote_A (loopN Tryz.prog 60 0) := genOrc_ok (h := value_Quote_h0) (xs := value_Quote_x0) (F := value_Quote_l0) (bd := value_Quote_b0) (fun _ => FUEL) (by kernel_rfl) (fun _ _ h => h) value_Quote_s0
noncomputable def value_Quote_t (p0 : ByteArray) : FT (ByteArray) := (.opt (value_Quote_l0 (p0, Int.ofNat p0.size, 0, [34], ())) fun x2 => (.br (appLim 1 x2.fst.length 1) (.ret (ofU8s (x2.fst ++ [34]))) .fail))
noncomputable def value_Quote (p0 : ByteArray) : Option (ByteArray) := (value_Quote_t p0).fin
noncomputable def value_Quote_sp : CSpec := genSpec [.str] [.str] (fun x => value_Quote x)
theorem value_Quote_ok : EnterOk Tryz.prog 60 ∧ CSpecOk Tryz.prog cfgG 60 value_Quote_sp := ⟨enter Tryz.func60 (by kernel_rfl) (by kernel_rfl), genSpec_ok (A := value_Quote_A) (sa := [.str]) (sr := [.str]) (bd := fun (x : (ArgT [.str])) => value_Quote_t x) (fitG L_value_Check) s_value_Check mixed (by kernel_rfl) (loopsAll (l := [loopN Tryz.prog 60 0]) (by kernel_rfl) ⟨value_Quote_o0, trivial⟩) (fun _ => rfl) (by
  intro x
  skip
  kernel_rfl)⟩
noncomputable def L_value_Quote : List (Nat × CSpec) := (60, value_Quote_sp) :: L_value_Check
theorem s_value_Quote : SpecsOk Tryz.prog (tabsG L_value_Quote) := oneSpecGT s_value_Check value_Quote_ok
noncomputable def value_Text_A : Anns := { l := [], orc := [], N := 1000, rng := [], ro := [], outs := none, nils := [] }
noncomputable def value_Text_t (p0 : V) : FT (ByteArray × Err) := (.opt (value_Check p0) fun x3 => (.br (!x3.isNone) (.ret ((ByteArray.mk #[], x3))) (.br (p0.fst == 1) (.br (decide (-9223372036854775808 ≤ p0.snd.fst ∧ p0.snd.fst ≤ 9223372036854775807)) (.ret ((ByteArray.mk (Lib.itoa p0.snd.fst).toArray, none))) .fail) (.br (p0.fst == 2) (.opt (value_Quote p0.snd.snd.fst) fun x4 => (.ret ((x4, none)))) (.ret ((ByteArray.mk (Lib.formatBool p0.snd.snd.snd).toArray, none)))))))
noncomputable def value_Text (p0 : V) : Option (ByteArray × Err) := (value_Text_t p0).fin
noncomputable def value_Text_sp : CSpec := genSpec [shVal] [.str, .err] (fun x => value_Text x)
theorem value_Text_ok : EnterOk Tryz.prog 30 ∧ CSpecOk Tryz.prog cfgG 30 value_Text_sp := ⟨enter Tryz.func30 (by kernel_rfl) (by kernel_rfl), genSpec_ok (A := value_Text_A) (sa := [shVal]) (sr := [.str, .err]) (bd := fun (x : (ArgT [shVal])) => value_Text_t x) (fitG L_value_Quote) s_value_Quote mixed (by kernel_rfl) (loopsAll (l := []) (by kernel_rfl) trivial) (fun _ => rfl) (by
  intro x
  skip
  kernel_rfl)⟩
noncomputable def L_value_Text : List (Nat × CSpec) := (30, value_Text_sp) :: L_value_Quote
theorem s_value_Text : SpecsOk Tryz.prog (tabsG L_value_Text) := oneSpecGT s_value_Quote value_Text_ok
noncomputable def event_letter_A : Anns := { l := [], orc := [], N := 1000, rng := [], ro := [], outs := none, nils := [] }
noncomputable def event_letter_t (p0 : Int) : FT (Bool) := (.br (p0 == 95) (.ret true) (.br (decide (p0 ≥ 97)) (.br (decide (p0 ≤ 122)) (.ret true) (.br (decide (p0 ≥ 48)) (.ret (decide (p0 ≤ 57))) (.ret false))) (.br (decide (p0 ≥ 48)) (.ret (decide (p0 ≤ 57))) (.ret false))))
noncomputable def event_letter (p0 : Int) : Option (Bool) := (event_letter_t p0).fin
noncomputable def event_letter_sp : CSpec := genSpec [(.int .u8)] [.bool] (fun x => event_letter x)
theorem event_letter_ok : EnterOk Tryz.prog 67 ∧ CSpecOk Tryz.prog cfgG 67 event_letter_sp := ⟨enter Tryz.func67 (by kernel_rfl) (by kernel_rfl), genSpec_ok (A := event_letter_A) (sa := [(.int .u8)]) (sr := [.bool]) (bd := fun (x : (ArgT [(.int .u8)])) => event_letter_t x) (fitG L_value_Text) s_value_Text mixed (by kernel_rfl) (loopsAll (l := []) (by kernel_rfl) trivial) (fun _ => rfl) (by
  intro x
  skip
  kernel_rfl)⟩
noncomputable def L_event_letter : List (Nat × CSpec) := (67, event_letter_sp) :: L_value_Text
theorem s_event_letter : SpecsOk Tryz.prog (tabsG L_event_letter) := oneSpecGT s_value_Text event_letter_ok
noncomputable def event_run_h0 : EP := ⟨[(0, .d .str), (1, .d (.int .i64))], []⟩
noncomputable def event_run_x0 : List (Exit × EP) := [(Exit.exit 0, ⟨[(1, .d (.int .i64))], []⟩)]
abbrev event_run_S0 : Type := ByteArray × Int × Unit
abbrev event_run_Q0 : Type := (Int × Unit)
noncomputable def event_run_b0 : event_run_S0 → LT event_run_S0 event_run_Q0 := fun st => match st with
  | (a0, a1, ()) => (.br (decide (a1 < Int.ofNat a0.size)) (.br (decide (0 ≤ a1)) (.br (decide (a1 < Int.ofNat a0.size)) (.opt (event_letter (Int.ofNat (a0.data.toList.getD a1.toNat 0).toNat)) fun x4 => (.br x4 (.next (a0, (IntKind.i64.wrap (a1 + 1)), ())) (.ret (a1, ())))) .fail) .fail) (.ret (a1, ())))
noncomputable def event_run_l0 (st : event_run_S0) : Option event_run_Q0 := LT.loop event_run_b0 FUEL st
noncomputable def event_run_A : Anns := { l := [(1, [.keep [0, 1] []]), (100001, [.keep [1] []])], orc := [(1, genOrc event_run_h0 event_run_x0 event_run_l0)], N := 1000, rng := [], ro := [], outs := none, nils := [] }
theorem event_run_s0 : ∀ (st : event_run_S0) m k, loopX event_run_A (loopN Tryz.prog 39 0) (prep (tabsG L_event_letter) (annOf event_run_A (loopN Tryz.prog 39 0))) (evalC Tryz.prog (tabsG L_event_letter) event_run_A (loopN Tryz.prog 39 0)) (m + 1) (event_run_h0.enc st) (outK (tabsG L_event_letter) event_run_A (loopN Tryz.prog 39 0) k) = (event_run_b0 st).run (exK event_run_x0 k) (fun st' => loopX event_run_A (loopN Tryz.prog 39 0) (prep (tabsG L_event_letter) (annOf event_run_A (loopN Tryz.prog 39 0))) (evalC Tryz.prog (tabsG L_event_letter) event_run_A (loopN Tryz.prog 39 0)) m (event_run_h0.enc st') (outK (tabsG L_event_letter) event_run_A (loopN Tryz.prog 39 0) k)) := by
  intro st m k
  obtain ⟨a0, a1, ⟨⟩⟩ := st
  kernel_rfl
theorem event_run_o0 : OrcOk Tryz.prog (tabsG L_event_letter) event_run_A (loopN Tryz.prog 39 0) := genOrc_ok (h := event_run_h0) (xs := event_run_x0) (F := event_run_l0) (bd := event_run_b0) (fun _ => FUEL) (by kernel_rfl) (fun _ _ h => h) event_run_s0
noncomputable def event_run_t (p0 : ByteArray) (p1 : Int) : FT (Int) := (.opt (event_run_l0 (p0, p1, ())) fun x6 => (.ret x6.fst))
noncomputable def event_run (p0 : ByteArray) (p1 : Int) : Option (Int) := (event_run_t p0 p1).fin
noncomputable def event_run_sp : CSpec := genSpec [.str, (.int .i64)] [(.int .i64)] (fun x => event_run x.1 x.2)
theorem event_run_ok : EnterOk Tryz.prog 39 ∧ CSpecOk Tryz.prog cfgG 39 event_run_sp := ⟨enter Tryz.func39 (by kernel_rfl) (by kernel_rfl), genSpec_ok (A := event_run_A) (sa := [.str, (.int .i64)]) (sr := [(.int .i64)]) (bd := fun (x : (ArgT [.str, (.int .i64)])) => event_run_t x.1 x.2) (fitG L_event_letter) s_event_letter mixed (by kernel_rfl) (loopsAll (l := [loopN Tryz.prog 39 0]) (by kernel_rfl) ⟨event_run_o0, trivial⟩) (fun _ => rfl) (by
  intro x
  obtain ⟨p0, p1⟩ := x
  kernel_rfl)⟩
noncomputable def L_event_run : List (Nat × CSpec) := (39, event_run_sp) :: L_event_letter
theorem s_event_run : SpecsOk Tryz.prog (tabsG L_event_run) := oneSpecGT s_event_letter event_run_ok
noncomputable def event_Name_A : Anns := { l := [], orc := [], N := 1000, rng := [], ro := [], outs := none, nils := [] }
noncomputable def event_Name_t (p0 : ByteArray) : FT (Bool) := (.br (decide (Int.ofNat p0.size ≥ 1)) (.br (decide (Int.ofNat p0.size ≤ 16)) (.br (decide (0 < Int.ofNat p0.size)) (.br (decide (Int.ofNat (p0.data.toList.getD (Int.toNat 0) 0).toNat ≥ 97)) (.br (decide (0 < Int.ofNat p0.size)) (.br (decide (Int.ofNat (p0.data.toList.getD (Int.toNat 0) 0).toNat ≤ 122)) (.opt (event_run p0 0) fun x2 => (.ret (x2 == Int.ofNat p0.size))) (.ret false)) .fail) (.ret false)) .fail) (.ret false)) (.ret false))
noncomputable def event_Name (p0 : ByteArray) : Option (Bool) := (event_Name_t p0).fin
noncomputable def event_Name_sp : CSpec := genSpec [.str] [.bool] (fun x => event_Name x)
theorem event_Name_ok : EnterOk Tryz.prog 17 ∧ CSpecOk Tryz.prog cfgG 17 event_Name_sp := ⟨enter Tryz.func17 (by kernel_rfl) (by kernel_rfl), genSpec_ok (A := event_Name_A) (sa := [.str]) (sr := [.bool]) (bd := fun (x : (ArgT [.str])) => event_Name_t x) (fitG L_event_run) s_event_run mixed (by kernel_rfl) (loopsAll (l := []) (by kernel_rfl) trivial) (fun _ => rfl) (by
  intro x
  skip
  kernel_rfl)⟩
noncomputable def L_event_Name : List (Nat × CSpec) := (17, event_Name_sp) :: L_event_run
theorem s_event_Name : SpecsOk Tryz.prog (tabsG L_event_Name) := oneSpecGT s_event_run event_Name_ok
noncomputable def fault_At_A : Anns := { l := [], orc := [], N := 1000, rng := [], ro := [], outs := none, nils := [] }
noncomputable def fault_At_t (p0 : Int) (p1 : Int) (p2 : Err) : FT (Err) := (.br (Option.isNone p2) (.ret none) (.opt p2 fun x2 => (.ret (some ((p0, p1) :: x2.fst, x2.snd)))))
noncomputable def fault_At (p0 : Int) (p1 : Int) (p2 : Err) : Option (Err) := (fault_At_t p0 p1 p2).fin
noncomputable def fault_At_sp : CSpec := genSpec [(.int .i64), (.int .i64), .err] [.err] (fun x => fault_At x.1 x.2.1 x.2.2)
theorem fault_At_ok : EnterOk Tryz.prog 35 ∧ CSpecOk Tryz.prog cfgG 35 fault_At_sp := ⟨enter Tryz.func35 (by kernel_rfl) (by kernel_rfl), genSpec_ok (A := fault_At_A) (sa := [(.int .i64), (.int .i64), .err]) (sr := [.err]) (bd := fun (x : (ArgT [(.int .i64), (.int .i64), .err])) => fault_At_t x.1 x.2.1 x.2.2) (fitG L_event_Name) s_event_Name mixed (by kernel_rfl) (loopsAll (l := []) (by kernel_rfl) trivial) (fun _ => rfl) (by
  intro x
  obtain ⟨p0, p1, p2⟩ := x
  kernel_rfl)⟩
noncomputable def L_fault_At : List (Nat × CSpec) := (35, fault_At_sp) :: L_event_Name
theorem s_fault_At : SpecsOk Tryz.prog (tabsG L_fault_At) := oneSpecGT s_event_Name fault_At_ok
noncomputable def event_Check_h0 : EP := ⟨[(3, .d .str), (11, .d (.sl shAttr)), (12, .d (.int .i64)), (13, .d (.int .i64))], []⟩
noncomputable def event_Check_x0 : List (Exit × EP) := [(Exit.ret, ⟨[(2, .d .err)], []⟩), (Exit.exit 0, ⟨[], []⟩)]
abbrev event_Check_S0 : Type := ByteArray × (List (ByteArray × V)) × Int × Int × Unit
abbrev event_Check_Q0 : Type := (Err × Unit) ⊕ (Unit)
noncomputable def event_Check_b0 : event_Check_S0 → LT event_Check_S0 event_Check_Q0 := fun st => match st with
  | (a3, a11, a12, a13, ()) => (.br (decide (a13 < a12)) (.br (decide (0 ≤ a13)) (.br (decide (a13 < Int.ofNat a11.length)) (.opt (event_Name (getI a11 a13 (ByteArray.mk #[], 0, 0, ByteArray.mk #[], false)).fst) fun x10 => (.br (!x10) (.ret (.inl ((some ([(2, a13)], 3)), ()))) (.br (Op.bytesLess (ByteArray.toList (getI a11 a13 (ByteArray.mk #[], 0, 0, ByteArray.mk #[], false)).fst) a3.toList || ByteArray.toList (getI a11 a13 (ByteArray.mk #[], 0, 0, ByteArray.mk #[], false)).fst == a3.toList) (.ret (.inl ((some ([(2, a13)], 3)), ()))) (.opt (value_Check (getI a11 a13 (ByteArray.mk #[], 0, 0, ByteArray.mk #[], false)).snd) fun x11 => (.br (!x11.isNone) (.opt (fault_At 2 a13 x11) fun x12 => (.ret (.inl (x12, ())))) (.next (((getI a11 a13 (ByteArray.mk #[], 0, 0, ByteArray.mk #[], false)).fst), a11, a12, (IntKind.i64.wrap (a13 + 1)), ()))))))) .fail) .fail) (.ret (.inr ())))
noncomputable def event_Check_l0 (st : event_Check_S0) : Option event_Check_Q0 := LT.loop event_Check_b0 FUEL st
noncomputable def event_Check_A : Anns := { l := [(5, [.keep [3, 11, 12, 13] []]), (100005, [.keep [2] []])], orc := [(5, genOrc event_Check_h0 event_Check_x0 event_Check_l0)], N := 1000, rng := [], ro := [], outs := none, nils := [] }
theorem event_Check_s0 : ∀ (st : event_Check_S0) m k, loopX event_Check_A (loopN Tryz.prog 15 0) (prep (tabsG L_fault_At) (annOf event_Check_A (loopN Tryz.prog 15 0))) (evalC Tryz.prog (tabsG L_fault_At) event_Check_A (loopN Tryz.prog 15 0)) (m + 1) (event_Check_h0.enc st) (outK (tabsG L_fault_At) event_Check_A (loopN Tryz.prog 15 0) k) = (event_Check_b0 st).run (exK event_Check_x0 k) (fun st' => loopX event_Check_A (loopN Tryz.prog 15 0) (prep (tabsG L_fault_At) (annOf event_Check_A (loopN Tryz.prog 15 0))) (evalC Tryz.prog (tabsG L_fault_At) event_Check_A (loopN Tryz.prog 15 0)) m (event_Check_h0.enc st') (outK (tabsG L_fault_At) event_Check_A (loopN Tryz.prog 15 0) k)) := by
  intro st m k
  obtain ⟨a3, a11, a12, a13, ⟨⟩⟩ := st
  kernel_rfl
theorem event_Check_o0 : OrcOk Tryz.prog (tabsG L_fault_At) event_Check_A (loopN Tryz.prog 15 0) := genOrc_ok (h := event_Check_h0) (xs := event_Check_x0) (F := event_Check_l0) (bd := event_Check_b0) (fun _ => FUEL) (by kernel_rfl) (fun _ _ h => h) event_Check_s0
noncomputable def event_Check_t (p0 : (List (ByteArray × V))) : FT (Err) := (.br (decide (Int.ofNat p0.length > 16)) (.ret (some ([], 2))) (.opt (event_Check_l0 (ByteArray.mk #[], p0, Int.ofNat p0.length, 0, ())) fun x16 => (.alt x16 (fun x17 => (.ret x17.fst)) (fun _ => (.ret none)))))
noncomputable def event_Check (p0 : (List (ByteArray × V))) : Option (Err) := (event_Check_t p0).fin
noncomputable def event_Check_sp : CSpec := genSpec [(.sl shAttr)] [.err] (fun x => event_Check x)
theorem event_Check_ok : EnterOk Tryz.prog 15 ∧ CSpecOk Tryz.prog cfgG 15 event_Check_sp := ⟨enter Tryz.func15 (by kernel_rfl) (by kernel_rfl), genSpec_ok (A := event_Check_A) (sa := [(.sl shAttr)]) (sr := [.err]) (bd := fun (x : (ArgT [(.sl shAttr)])) => event_Check_t x) (fitG L_fault_At) s_fault_At mixed (by kernel_rfl) (loopsAll (l := [loopN Tryz.prog 15 0]) (by kernel_rfl) ⟨event_Check_o0, trivial⟩) (fun _ => rfl) (by
  intro x
  skip
  kernel_rfl)⟩
noncomputable def L_event_Check : List (Nat × CSpec) := (15, event_Check_sp) :: L_fault_At
theorem s_event_Check : SpecsOk Tryz.prog (tabsG L_event_Check) := oneSpecGT s_fault_At event_Check_ok
noncomputable def event_Text_h0 : EP := ⟨[(5, .own 9005), (15, .d (.sl shAttr)), (16, .d (.int .i64)), (17, .d (.int .i64))], [(9005, .row 9 .str)]⟩
noncomputable def event_Text_x0 : List (Exit × EP) := [(Exit.exit 0, ⟨[(5, .own 9005)], [(9005, .row 9 .str)]⟩)]
abbrev event_Text_S0 : Type := (List (ByteArray × V)) × Int × Int × (List ByteArray) × Unit
abbrev event_Text_Q0 : Type := ((List ByteArray) × Unit)
noncomputable def event_Text_b0 : event_Text_S0 → LT event_Text_S0 event_Text_Q0 := fun st => match st with
  | (a15, a16, a17, r9005, ()) => (.br (decide (a17 < a16)) (.br (decide (0 ≤ a17)) (.br (decide (a17 < Int.ofNat a15.length)) (.opt (value_Text (getI a15 a17 (ByteArray.mk #[], 0, 0, ByteArray.mk #[], false)).snd) fun x7 => (.br (decide (ByteArray.size (getI a15 a17 (ByteArray.mk #[], 0, 0, ByteArray.mk #[], false)).fst + (ByteArray.mk #[61]).size ≤ 9223372036854775807)) (.br (decide (((getI a15 a17 (ByteArray.mk #[], 0, 0, ByteArray.mk #[], false)).fst ++ ByteArray.mk #[61]).size + ByteArray.size x7.fst ≤ 9223372036854775807)) (.br (appLim 16 r9005.length 1) (.next (a15, a16, (IntKind.i64.wrap (a17 + 1)), (r9005 ++ [(getI a15 a17 (ByteArray.mk #[], 0, 0, ByteArray.mk #[], false)).fst ++ ByteArray.mk #[61] ++ x7.fst]), ())) .fail) .fail) .fail)) .fail) .fail) (.ret (r9005, ())))
noncomputable def event_Text_l0 (st : event_Text_S0) : Option event_Text_Q0 := LT.loop event_Text_b0 FUEL st
noncomputable def event_Text_A : Anns := { l := [(6, [.keep [5, 15, 16, 17] [34], .ownS 5 9005 9, .keep [5, 15, 16, 17] [9005]]), (100006, [.keep [5] [9005]])], orc := [(6, genOrc event_Text_h0 event_Text_x0 event_Text_l0)], N := 1000, rng := [], ro := [], outs := none, nils := [] }
theorem event_Text_s0 : ∀ (st : event_Text_S0) m k, loopX event_Text_A (loopN Tryz.prog 11 0) (prep (tabsG L_event_Check) (annOf event_Text_A (loopN Tryz.prog 11 0))) (evalC Tryz.prog (tabsG L_event_Check) event_Text_A (loopN Tryz.prog 11 0)) (m + 1) (event_Text_h0.enc st) (outK (tabsG L_event_Check) event_Text_A (loopN Tryz.prog 11 0) k) = (event_Text_b0 st).run (exK event_Text_x0 k) (fun st' => loopX event_Text_A (loopN Tryz.prog 11 0) (prep (tabsG L_event_Check) (annOf event_Text_A (loopN Tryz.prog 11 0))) (evalC Tryz.prog (tabsG L_event_Check) event_Text_A (loopN Tryz.prog 11 0)) m (event_Text_h0.enc st') (outK (tabsG L_event_Check) event_Text_A (loopN Tryz.prog 11 0) k)) := by
  intro st m k
  obtain ⟨a15, a16, a17, r9005, ⟨⟩⟩ := st
  kernel_rfl
theorem event_Text_o0 : OrcOk Tryz.prog (tabsG L_event_Check) event_Text_A (loopN Tryz.prog 11 0) := genOrc_ok (h := event_Text_h0) (xs := event_Text_x0) (F := event_Text_l0) (bd := event_Text_b0) (fun _ => FUEL) (by kernel_rfl) (fun _ _ h => h) event_Text_s0
noncomputable def event_Text_t (p0 : (List (ByteArray × V))) : FT (ByteArray × Err) := (.opt (event_Check p0) fun x11 => (.br (!x11.isNone) (.ret ((ByteArray.mk #[], x11))) (.opt (event_Text_l0 (p0, Int.ofNat p0.length, 0, [], ())) fun x12 => (.opt (joinF x12.fst (ByteArray.mk #[44, 32])) fun x13 => (.ret ((x13, none)))))))
noncomputable def event_Text (p0 : (List (ByteArray × V))) : Option (ByteArray × Err) := (event_Text_t p0).fin
noncomputable def event_Text_sp : CSpec := genSpec [(.sl shAttr)] [.str, .err] (fun x => event_Text x)
theorem event_Text_ok : EnterOk Tryz.prog 11 ∧ CSpecOk Tryz.prog cfgG 11 event_Text_sp := ⟨enter Tryz.func11 (by kernel_rfl) (by kernel_rfl), genSpec_ok (A := event_Text_A) (sa := [(.sl shAttr)]) (sr := [.str, .err]) (bd := fun (x : (ArgT [(.sl shAttr)])) => event_Text_t x) (fitG L_event_Check) s_event_Check mixed (by kernel_rfl) (loopsAll (l := [loopN Tryz.prog 11 0]) (by kernel_rfl) ⟨event_Text_o0, trivial⟩) (fun _ => rfl) (by
  intro x
  skip
  kernel_rfl)⟩
noncomputable def L_event_Text : List (Nat × CSpec) := (11, event_Text_sp) :: L_event_Check
theorem s_event_Text : SpecsOk Tryz.prog (tabsG L_event_Text) := oneSpecGT s_event_Check event_Text_ok
noncomputable def event_bad_A : Anns := { l := [], orc := [], N := 1000, rng := [], ro := [], outs := none, nils := [] }
noncomputable def event_bad_t (p0 : Int) : FT (Err) := (.ret (some ([(1, p0)], 4)))
noncomputable def event_bad (p0 : Int) : Option (Err) := (event_bad_t p0).fin
noncomputable def event_bad_sp : CSpec := genSpec [(.int .i64)] [.err] (fun x => event_bad x)
theorem event_bad_ok : EnterOk Tryz.prog 41 ∧ CSpecOk Tryz.prog cfgG 41 event_bad_sp := ⟨enter Tryz.func41 (by kernel_rfl) (by kernel_rfl), genSpec_ok (A := event_bad_A) (sa := [(.int .i64)]) (sr := [.err]) (bd := fun (x : (ArgT [(.int .i64)])) => event_bad_t x) (fitG L_event_Text) s_event_Text mixed (by kernel_rfl) (loopsAll (l := []) (by kernel_rfl) trivial) (fun _ => rfl) (by
  intro x
  skip
  kernel_rfl)⟩
noncomputable def L_event_bad : List (Nat × CSpec) := (41, event_bad_sp) :: L_event_Text
theorem s_event_bad : SpecsOk Tryz.prog (tabsG L_event_bad) := oneSpecGT s_event_Text event_bad_ok
noncomputable def event_comma_h0 : EP := ⟨[(0, .d .str), (1, .d (.int .i64)), (5, .d .bool)], []⟩
noncomputable def event_comma_x0 : List (Exit × EP) := [(Exit.ret, ⟨[(0, .d .str), (4, .d (.int .i64))], []⟩), (Exit.exit 0, ⟨[(0, .d .str)], []⟩)]
abbrev event_comma_S0 : Type := ByteArray × Int × Bool × Unit
abbrev event_comma_Q0 : Type := (ByteArray × Int × Unit) ⊕ (ByteArray × Unit)
noncomputable def event_comma_b0 : event_comma_S0 → LT event_comma_S0 event_comma_Q0 := fun st => match st with
  | (a0, a1, a5, ()) => (.br (decide (a1 < Int.ofNat a0.size)) (.br (decide (0 ≤ a1)) (.br (decide (a1 < Int.ofNat a0.size)) (.br a5 (.br (Int.ofNat (a0.data.toList.getD a1.toNat 0).toNat == 92) (.next (a0, (IntKind.i64.wrap (IntKind.i64.wrap (a1 + 1) + 1)), a5, ())) (.br (Int.ofNat (a0.data.toList.getD a1.toNat 0).toNat == 34) (.next (a0, (IntKind.i64.wrap (a1 + 1)), (!a5), ())) (.br (Int.ofNat (a0.data.toList.getD a1.toNat 0).toNat == 44) (.br (!a5) (.ret (.inl (a0, a1, ()))) (.next (a0, (IntKind.i64.wrap (a1 + 1)), a5, ()))) (.next (a0, (IntKind.i64.wrap (a1 + 1)), a5, ()))))) (.br (Int.ofNat (a0.data.toList.getD a1.toNat 0).toNat == 34) (.next (a0, (IntKind.i64.wrap (a1 + 1)), (!a5), ())) (.br (Int.ofNat (a0.data.toList.getD a1.toNat 0).toNat == 44) (.br (!a5) (.ret (.inl (a0, a1, ()))) (.next (a0, (IntKind.i64.wrap (a1 + 1)), a5, ()))) (.next (a0, (IntKind.i64.wrap (a1 + 1)), a5, ()))))) .fail) .fail) (.ret (.inr (a0, ()))))
noncomputable def event_comma_l0 (st : event_comma_S0) : Option event_comma_Q0 := LT.loop event_comma_b0 FUEL st
noncomputable def event_comma_A : Anns := { l := [(2, [.keep [0, 1, 5] []]), (100002, [.keep [0, 4] []])], orc := [(2, genOrc event_comma_h0 event_comma_x0 event_comma_l0)], N := 1000, rng := [], ro := [], outs := none, nils := [] }
theorem event_comma_s0 : ∀ (st : event_comma_S0) m k, loopX event_comma_A (loopN Tryz.prog 42 0) (prep (tabsG L_event_bad) (annOf event_comma_A (loopN Tryz.prog 42 0))) (evalC Tryz.prog (tabsG L_event_bad) event_comma_A (loopN Tryz.prog 42 0)) (m + 1) (event_comma_h0.enc st) (outK (tabsG L_event_bad) event_comma_A (loopN Tryz.prog 42 0) k) = (event_comma_b0 st).run (exK event_comma_x0 k) (fun st' => loopX event_comma_A (loopN Tryz.prog 42 0) (prep (tabsG L_event_bad) (annOf event_comma_A (loopN Tryz.prog 42 0))) (evalC Tryz.prog (tabsG L_event_bad) event_comma_A (loopN Tryz.prog 42 0)) m (event_comma_h0.enc st') (outK (tabsG L_event_bad) event_comma_A (loopN Tryz.prog 42 0) k)) := by
  intro st m k
  obtain ⟨a0, a1, a5, ⟨⟩⟩ := st
  kernel_rfl
theorem event_comma_o0 : OrcOk Tryz.prog (tabsG L_event_bad) event_comma_A (loopN Tryz.prog 42 0) := genOrc_ok (h := event_comma_h0) (xs := event_comma_x0) (F := event_comma_l0) (bd := event_comma_b0) (fun _ => FUEL) (by kernel_rfl) (fun _ _ h => h) event_comma_s0
noncomputable def event_comma_t (p0 : ByteArray) (p1 : Int) : FT (Int) := (.opt (event_comma_l0 (p0, p1, false, ())) fun x4 => (.alt x4 (fun x5 => (.ret x5.snd.fst)) (fun x6 => (.ret (Int.ofNat (ByteArray.size x6.fst))))))
noncomputable def event_comma (p0 : ByteArray) (p1 : Int) : Option (Int) := (event_comma_t p0 p1).fin
noncomputable def event_comma_sp : CSpec := genSpec [.str, (.int .i64)] [(.int .i64)] (fun x => event_comma x.1 x.2)
theorem event_comma_ok : EnterOk Tryz.prog 42 ∧ CSpecOk Tryz.prog cfgG 42 event_comma_sp := ⟨enter Tryz.func42 (by kernel_rfl) (by kernel_rfl), genSpec_ok (A := event_comma_A) (sa := [.str, (.int .i64)]) (sr := [(.int .i64)]) (bd := fun (x : (ArgT [.str, (.int .i64)])) => event_comma_t x.1 x.2) (fitG L_event_bad) s_event_bad mixed (by kernel_rfl) (loopsAll (l := [loopN Tryz.prog 42 0]) (by kernel_rfl) ⟨event_comma_o0, trivial⟩) (fun _ => rfl) (by
  intro x
  obtain ⟨p0, p1⟩ := x
  kernel_rfl)⟩
noncomputable def L_event_comma : List (Nat × CSpec) := (42, event_comma_sp) :: L_event_bad
theorem s_event_comma : SpecsOk Tryz.prog (tabsG L_event_comma) := oneSpecGT s_event_bad event_comma_ok
noncomputable def value_bad_A : Anns := { l := [], orc := [], N := 1000, rng := [], ro := [], outs := none, nils := [] }
noncomputable def value_bad_t (p0 : Int) : FT (Err) := (.ret (some ([(1, p0)], 4)))
noncomputable def value_bad (p0 : Int) : Option (Err) := (value_bad_t p0).fin
noncomputable def value_bad_sp : CSpec := genSpec [(.int .i64)] [.err] (fun x => value_bad x)
theorem value_bad_ok : EnterOk Tryz.prog 68 ∧ CSpecOk Tryz.prog cfgG 68 value_bad_sp := ⟨enter Tryz.func68 (by kernel_rfl) (by kernel_rfl), genSpec_ok (A := value_bad_A) (sa := [(.int .i64)]) (sr := [.err]) (bd := fun (x : (ArgT [(.int .i64)])) => value_bad_t x) (fitG L_event_comma) s_event_comma mixed (by kernel_rfl) (loopsAll (l := []) (by kernel_rfl) trivial) (fun _ => rfl) (by
  intro x
  skip
  kernel_rfl)⟩
noncomputable def L_value_bad : List (Nat × CSpec) := (68, value_bad_sp) :: L_event_comma
theorem s_value_bad : SpecsOk Tryz.prog (tabsG L_value_bad) := oneSpecGT s_event_comma value_bad_ok
noncomputable def value_number_h0 : EP := ⟨[(0, .d .str), (2, .ref 2 0), (4, .d (.int .i64)), (5, .d (.int .i64))], [(2, .box 48 [.d (.int .i64), .d (.int .i64), .d .str, .d .bool])]⟩
noncomputable def value_number_x0 : List (Exit × EP) := [(Exit.ret, ⟨[(0, .d .str), (2, .ref 2 0), (3, .d .err)], [(2, .box 48 [.d (.int .i64), .d (.int .i64), .d .str, .d .bool])]⟩), (Exit.exit 0, ⟨[(0, .d .str), (2, .ref 2 0)], [(2, .box 48 [.d (.int .i64), .d (.int .i64), .d .str, .d .bool])]⟩)]
abbrev value_number_S0 : Type := ByteArray × Int × Int × Int × Int × ByteArray × Bool × Unit
abbrev value_number_Q0 : Type := (ByteArray × Err × Int × Int × ByteArray × Bool × Unit) ⊕ (ByteArray × Int × Int × ByteArray × Bool × Unit)
noncomputable def value_number_b0 : value_number_S0 → LT value_number_S0 value_number_Q0 := fun st => match st with
  | (a0, a4, a5, r2_0, r2_1, r2_2, r2_3, ()) => (.br (decide (a5 < Int.ofNat a0.size)) (.br (decide (0 ≤ a5)) (.br (decide (a5 < Int.ofNat a0.size)) (.br (decide (Int.ofNat (a0.data.toList.getD a5.toNat 0).toNat < 48)) (.ret (.inl (a0, (some ([(1, a5)], 4)), 0, 0, (ByteArray.mk #[]), false, ()))) (.br (decide (0 ≤ a5)) (.br (decide (a5 < Int.ofNat a0.size)) (.br (decide (Int.ofNat (a0.data.toList.getD a5.toNat 0).toNat > 57)) (.ret (.inl (a0, (some ([(1, a5)], 4)), 0, 0, (ByteArray.mk #[]), false, ()))) (.br (decide (a5 > a4)) (.br (decide (0 ≤ a4)) (.br (decide (a4 < Int.ofNat a0.size)) (.br (Int.ofNat (a0.data.toList.getD a4.toNat 0).toNat == 48) (.ret (.inl (a0, (some ([(1, a5)], 4)), 0, 0, (ByteArray.mk #[]), false, ()))) (.br (decide (0 ≤ IntKind.i64.wrap (a5 + 1))) (.br (decide (IntKind.i64.wrap (a5 + 1) ≤ Int.ofNat a0.size)) (.br (decide ((a0.extract (Int.toNat 0) (IntKind.i64.wrap (a5 + 1)).toNat).size ≤ 281474976710656)) (.br (piOk (a0.extract (Int.toNat 0) (IntKind.i64.wrap (a5 + 1)).toNat)) (.next (a0, a4, (IntKind.i64.wrap (a5 + 1)), r2_0, r2_1, r2_2, r2_3, ())) (.ret (.inl (a0, (some ([(1, a5)], 4)), 0, 0, (ByteArray.mk #[]), false, ())))) .fail) .fail) .fail)) .fail) .fail) (.br (decide (0 ≤ IntKind.i64.wrap (a5 + 1))) (.br (decide (IntKind.i64.wrap (a5 + 1) ≤ Int.ofNat a0.size)) (.br (decide ((a0.extract (Int.toNat 0) (IntKind.i64.wrap (a5 + 1)).toNat).size ≤ 281474976710656)) (.br (piOk (a0.extract (Int.toNat 0) (IntKind.i64.wrap (a5 + 1)).toNat)) (.next (a0, a4, (IntKind.i64.wrap (a5 + 1)), r2_0, r2_1, r2_2, r2_3, ())) (.ret (.inl (a0, (some ([(1, a5)], 4)), 0, 0, (ByteArray.mk #[]), false, ())))) .fail) .fail) .fail))) .fail) .fail)) .fail) .fail) (.ret (.inr (a0, r2_0, r2_1, r2_2, r2_3, ()))))
noncomputable def value_number_l0 (st : value_number_S0) : Option value_number_Q0 := LT.loop value_number_b0 FUEL st
noncomputable def value_number_A : Anns := { l := [(7, [.keep [0, 2, 4, 5] [2]]), (100007, [.keep [0, 2, 3] [2]])], orc := [(7, genOrc value_number_h0 value_number_x0 value_number_l0)], N := 1000, rng := [], ro := [], outs := none, nils := [] }
theorem value_number_s0 : ∀ (st : value_number_S0) m k, loopX value_number_A (loopN Tryz.prog 69 0) (prep (tabsG L_value_bad) (annOf value_number_A (loopN Tryz.prog 69 0))) (evalC Tryz.prog (tabsG L_value_bad) value_number_A (loopN Tryz.prog 69 0)) (m + 1) (value_number_h0.enc st) (outK (tabsG L_value_bad) value_number_A (loopN Tryz.prog 69 0) k) = (value_number_b0 st).run (exK value_number_x0 k) (fun st' => loopX value_number_A (loopN Tryz.prog 69 0) (prep (tabsG L_value_bad) (annOf value_number_A (loopN Tryz.prog 69 0))) (evalC Tryz.prog (tabsG L_value_bad) value_number_A (loopN Tryz.prog 69 0)) m (value_number_h0.enc st') (outK (tabsG L_value_bad) value_number_A (loopN Tryz.prog 69 0) k)) := by
  intro st m k
  obtain ⟨a0, a4, a5, r2_0, r2_1, r2_2, r2_3, ⟨⟩⟩ := st
  kernel_rfl
theorem value_number_o0 : OrcOk Tryz.prog (tabsG L_value_bad) value_number_A (loopN Tryz.prog 69 0) := genOrc_ok (h := value_number_h0) (xs := value_number_x0) (F := value_number_l0) (bd := value_number_b0) (fun _ => FUEL) (by kernel_rfl) (fun _ _ h => h) value_number_s0
noncomputable def value_number_t (p0 : ByteArray) : FT (V × Err) := (.br (decide (0 < Int.ofNat p0.size)) (.br (Int.ofNat (p0.data.toList.getD (Int.toNat 0) 0).toNat == 45) (.br (Int.ofNat p0.size == 1) (.ret (((0, 0, ByteArray.mk #[], false), some ([(1, 1)], 4)))) (.br (decide (1 < Int.ofNat p0.size)) (.br (decide (Int.ofNat (p0.data.toList.getD (Int.toNat 1) 0).toNat < 49)) (.ret (((0, 0, ByteArray.mk #[], false), some ([(1, 1)], 4)))) (.br (decide (1 < Int.ofNat p0.size)) (.br (decide (Int.ofNat (p0.data.toList.getD (Int.toNat 1) 0).toNat > 57)) (.ret (((0, 0, ByteArray.mk #[], false), some ([(1, 1)], 4)))) (.opt (value_number_l0 (p0, 1, 1, 0, 0, ByteArray.mk #[], false, ())) fun x7 => (.alt x7 (fun x8 => (.ret (((x8.snd.snd.fst, x8.snd.snd.snd.fst, x8.snd.snd.snd.snd.fst, x8.snd.snd.snd.snd.snd.fst), x8.snd.fst)))) (fun x9 => (.br (decide (ByteArray.size x9.fst ≤ 281474976710656)) (.br (piOk x9.fst) (.ret (((1, piV x9.fst, ByteArray.mk #[], false), none))) (.ret (((1, piV x9.fst, ByteArray.mk #[], false), none)))) .fail))))) .fail)) .fail)) (.opt (value_number_l0 (p0, 0, 0, 0, 0, ByteArray.mk #[], false, ())) fun x10 => (.alt x10 (fun x11 => (.ret (((x11.snd.snd.fst, x11.snd.snd.snd.fst, x11.snd.snd.snd.snd.fst, x11.snd.snd.snd.snd.snd.fst), x11.snd.fst)))) (fun x12 => (.br (decide (ByteArray.size x12.fst ≤ 281474976710656)) (.br (piOk x12.fst) (.ret (((1, piV x12.fst, ByteArray.mk #[], false), none))) (.ret (((1, piV x12.fst, ByteArray.mk #[], false), none)))) .fail))))) .fail)
noncomputable def value_number (p0 : ByteArray) : Option (V × Err) := (value_number_t p0).fin
noncomputable def value_number_sp : CSpec := genSpec [.str] [shVal, .err] (fun x => value_number x)
theorem value_number_ok : EnterOk Tryz.prog 69 ∧ CSpecOk Tryz.prog cfgG 69 value_number_sp := ⟨enter Tryz.func69 (by kernel_rfl) (by kernel_rfl), genSpec_ok (A := value_number_A) (sa := [.str]) (sr := [shVal, .err]) (bd := fun (x : (ArgT [.str])) => value_number_t x) (fitG L_value_bad) s_value_bad mixed (by kernel_rfl) (loopsAll (l := [loopN Tryz.prog 69 0]) (by kernel_rfl) ⟨value_number_o0, trivial⟩) (fun _ => rfl) (by
  intro x
  skip
  kernel_rfl)⟩
noncomputable def L_value_number : List (Nat × CSpec) := (69, value_number_sp) :: L_value_bad
theorem s_value_number : SpecsOk Tryz.prog (tabsG L_value_number) := oneSpecGT s_value_bad value_number_ok
noncomputable def value_digit_A : Anns := { l := [], orc := [], N := 1000, rng := [], ro := [], outs := none, nils := [] }
noncomputable def value_digit_t (p0 : Int) : FT (Int) := (.br (decide (p0 ≥ 48)) (.br (decide (p0 ≤ 57)) (.ret (IntKind.i64.wrap (IntKind.u8.wrap (p0 - 48)))) (.br (decide (p0 ≥ 97)) (.br (decide (p0 ≤ 102)) (.ret (IntKind.i64.wrap (IntKind.i64.wrap (IntKind.u8.wrap (p0 - 97)) + 10))) (.ret (Int.negSucc 0))) (.ret (Int.negSucc 0)))) (.br (decide (p0 ≥ 97)) (.br (decide (p0 ≤ 102)) (.ret (IntKind.i64.wrap (IntKind.i64.wrap (IntKind.u8.wrap (p0 - 97)) + 10))) (.ret (Int.negSucc 0))) (.ret (Int.negSucc 0))))
noncomputable def value_digit (p0 : Int) : Option (Int) := (value_digit_t p0).fin
noncomputable def value_digit_sp : CSpec := genSpec [(.int .u8)] [(.int .i64)] (fun x => value_digit x)
theorem value_digit_ok : EnterOk Tryz.prog 108 ∧ CSpecOk Tryz.prog cfgG 108 value_digit_sp := ⟨enter Tryz.func108 (by kernel_rfl) (by kernel_rfl), genSpec_ok (A := value_digit_A) (sa := [(.int .u8)]) (sr := [(.int .i64)]) (bd := fun (x : (ArgT [(.int .u8)])) => value_digit_t x) (fitG L_value_number) s_value_number mixed (by kernel_rfl) (loopsAll (l := []) (by kernel_rfl) trivial) (fun _ => rfl) (by
  intro x
  skip
  kernel_rfl)⟩
noncomputable def L_value_digit : List (Nat × CSpec) := (108, value_digit_sp) :: L_value_number
theorem s_value_digit : SpecsOk Tryz.prog (tabsG L_value_digit) := oneSpecGT s_value_number value_digit_ok
noncomputable def value_escape_h0 : EP := ⟨[(0, .d .str), (1, .d (.int .i64)), (7, .d (.int .i64)), (8, .d (.int .i64))], []⟩
noncomputable def value_escape_x0 : List (Exit × EP) := [(Exit.ret, ⟨[(1, .d (.int .i64)), (4, .d (.int .u8)), (5, .d (.int .i64)), (6, .d .err), (7, .d (.int .i64))], []⟩), (Exit.exit 1, ⟨[(1, .d (.int .i64)), (7, .d (.int .i64))], []⟩)]
abbrev value_escape_S0 : Type := ByteArray × Int × Int × Int × Unit
abbrev value_escape_Q0 : Type := (Int × Int × Int × Err × Int × Unit) ⊕ (Int × Int × Unit)
noncomputable def value_escape_b0 : value_escape_S0 → LT value_escape_S0 value_escape_Q0 := fun st => match st with
  | (a0, a1, a7, a8, ()) => (.br (decide (a8 < IntKind.i64.wrap (a1 + 3))) (.br (decide (a8 ≥ Int.ofNat a0.size)) (.ret (.inl (a1, 0, 0, (some ([(1, bif decide (Int.ofNat a0.size < a8) then Int.ofNat a0.size else a8)], 4)), a7, ()))) (.br (decide (0 ≤ a8)) (.br (decide (a8 < Int.ofNat a0.size)) (.opt (value_digit (Int.ofNat (a0.data.toList.getD a8.toNat 0).toNat)) fun x7 => (.br (decide (x7 < 0)) (.ret (.inl (a1, 0, 0, (some ([(1, bif decide (Int.ofNat a0.size < a8) then Int.ofNat a0.size else a8)], 4)), a7, ()))) (.br (decide (0 ≤ a8)) (.br (decide (a8 < Int.ofNat a0.size)) (.opt (value_digit (Int.ofNat (a0.data.toList.getD a8.toNat 0).toNat)) fun x8 => (.next (a0, a1, (IntKind.i64.wrap (IntKind.i64.wrap (a7 * 2 ^ min 4 IntKind.i64.bits) + x8)), (IntKind.i64.wrap (a8 + 1)), ()))) .fail) .fail))) .fail) .fail)) (.ret (.inr (a1, a7, ()))))
noncomputable def value_escape_l0 (st : value_escape_S0) : Option value_escape_Q0 := LT.loop value_escape_b0 FUEL st
noncomputable def value_escape_A : Anns := { l := [(11, [.keep [0, 1, 7, 8] []]), (100011, [.keep [1, 4, 5, 6, 7] []])], orc := [(11, genOrc value_escape_h0 value_escape_x0 value_escape_l0)], N := 1000, rng := [], ro := [], outs := none, nils := [] }
theorem value_escape_s0 : ∀ (st : value_escape_S0) m k, loopX value_escape_A (loopN Tryz.prog 94 0) (prep (tabsG L_value_digit) (annOf value_escape_A (loopN Tryz.prog 94 0))) (evalC Tryz.prog (tabsG L_value_digit) value_escape_A (loopN Tryz.prog 94 0)) (m + 1) (value_escape_h0.enc st) (outK (tabsG L_value_digit) value_escape_A (loopN Tryz.prog 94 0) k) = (value_escape_b0 st).run (exK value_escape_x0 k) (fun st' => loopX value_escape_A (loopN Tryz.prog 94 0) (prep (tabsG L_value_digit) (annOf value_escape_A (loopN Tryz.prog 94 0))) (evalC Tryz.prog (tabsG L_value_digit) value_escape_A (loopN Tryz.prog 94 0)) m (value_escape_h0.enc st') (outK (tabsG L_value_digit) value_escape_A (loopN Tryz.prog 94 0) k)) := by
  intro st m k
  obtain ⟨a0, a1, a7, a8, ⟨⟩⟩ := st
  kernel_rfl
theorem value_escape_o0 : OrcOk Tryz.prog (tabsG L_value_digit) value_escape_A (loopN Tryz.prog 94 0) := genOrc_ok (h := value_escape_h0) (xs := value_escape_x0) (F := value_escape_l0) (bd := value_escape_b0) (fun _ => FUEL) (by kernel_rfl) (fun _ _ h => h) value_escape_s0
noncomputable def value_escape_t (p0 : ByteArray) (p1 : Int) : FT (Int × Int × Err) := (.br (p1 == Int.ofNat p0.size) (.ret ((0, 0, some ([(1, p1)], 4)))) (.br (decide (0 ≤ p1)) (.br (decide (p1 < Int.ofNat p0.size)) (.br (Int.ofNat (p0.data.toList.getD p1.toNat 0).toNat == 34) (.br (Int.ofNat (p0.data.toList.getD p1.toNat 0).toNat == 34) (.br (decide (0 ≤ p1)) (.br (decide (p1 < Int.ofNat p0.size)) (.ret ((Int.ofNat (p0.data.toList.getD p1.toNat 0).toNat, IntKind.i64.wrap (p1 + 1), none))) .fail) .fail) (.br (Int.ofNat (p0.data.toList.getD p1.toNat 0).toNat == 120) (.opt (value_escape_l0 (p0, p1, 0, IntKind.i64.wrap (p1 + 1), ())) fun x15 => (.alt x15 (fun x16 => (.ret ((x16.snd.fst, x16.snd.snd.fst, x16.snd.snd.snd.fst)))) (fun x17 => (.br (decide (x17.snd.fst ≥ 32)) (.br (decide (x17.snd.fst ≤ 126)) (.ret ((0, 0, some ([(1, IntKind.i64.wrap (x17.fst + 2))], 4)))) (.ret ((IntKind.u8.wrap x17.snd.fst, IntKind.i64.wrap (x17.fst + 3), none)))) (.ret ((IntKind.u8.wrap x17.snd.fst, IntKind.i64.wrap (x17.fst + 3), none))))))) (.ret ((0, 0, some ([(1, p1)], 4)))))) (.br (Int.ofNat (p0.data.toList.getD p1.toNat 0).toNat == 92) (.br (decide (0 ≤ p1)) (.br (decide (p1 < Int.ofNat p0.size)) (.ret ((Int.ofNat (p0.data.toList.getD p1.toNat 0).toNat, IntKind.i64.wrap (p1 + 1), none))) .fail) .fail) (.br (Int.ofNat (p0.data.toList.getD p1.toNat 0).toNat == 120) (.opt (value_escape_l0 (p0, p1, 0, IntKind.i64.wrap (p1 + 1), ())) fun x18 => (.alt x18 (fun x19 => (.ret ((x19.snd.fst, x19.snd.snd.fst, x19.snd.snd.snd.fst)))) (fun x20 => (.br (decide (x20.snd.fst ≥ 32)) (.br (decide (x20.snd.fst ≤ 126)) (.ret ((0, 0, some ([(1, IntKind.i64.wrap (x20.fst + 2))], 4)))) (.ret ((IntKind.u8.wrap x20.snd.fst, IntKind.i64.wrap (x20.fst + 3), none)))) (.ret ((IntKind.u8.wrap x20.snd.fst, IntKind.i64.wrap (x20.fst + 3), none))))))) (.ret ((0, 0, some ([(1, p1)], 4))))))) .fail) .fail))
noncomputable def value_escape (p0 : ByteArray) (p1 : Int) : Option (Int × Int × Err) := (value_escape_t p0 p1).fin
noncomputable def value_escape_sp : CSpec := genSpec [.str, (.int .i64)] [(.int .u8), (.int .i64), .err] (fun x => value_escape x.1 x.2)
theorem value_escape_ok : EnterOk Tryz.prog 94 ∧ CSpecOk Tryz.prog cfgG 94 value_escape_sp := ⟨enter Tryz.func94 (by kernel_rfl) (by kernel_rfl), genSpec_ok (A := value_escape_A) (sa := [.str, (.int .i64)]) (sr := [(.int .u8), (.int .i64), .err]) (bd := fun (x : (ArgT [.str, (.int .i64)])) => value_escape_t x.1 x.2) (fitG L_value_digit) s_value_digit mixed (by kernel_rfl) (loopsAll (l := [loopN Tryz.prog 94 0]) (by kernel_rfl) ⟨value_escape_o0, trivial⟩) (fun _ => rfl) (by
  intro x
  obtain ⟨p0, p1⟩ := x
  kernel_rfl)⟩
noncomputable def L_value_escape : List (Nat × CSpec) := (94, value_escape_sp) :: L_value_digit
theorem s_value_escape : SpecsOk Tryz.prog (tabsG L_value_escape) := oneSpecGT s_value_digit value_escape_ok
noncomputable def value_str_h0 : EP := ⟨[(0, .d .str), (2, .ref 2 0), (4, .own 9004), (5, .d (.int .i64))], [(2, .box 48 [.d (.int .i64), .d (.int .i64), .d .str, .d .bool]), (9004, .row 5 (.int .u8))]⟩
noncomputable def value_str_x0 : List (Exit × EP) := [(Exit.ret, ⟨[(0, .d .str), (2, .ref 2 0), (3, .d .err)], [(2, .box 48 [.d (.int .i64), .d (.int .i64), .d .str, .d .bool])]⟩), (Exit.exit 0, ⟨[(0, .d .str), (2, .ref 2 0)], [(2, .box 48 [.d (.int .i64), .d (.int .i64), .d .str, .d .bool])]⟩)]
abbrev value_str_S0 : Type := ByteArray × Int × Int × Int × ByteArray × Bool × (List Int) × Unit
abbrev value_str_Q0 : Type := (ByteArray × Err × Int × Int × ByteArray × Bool × Unit) ⊕ (ByteArray × Int × Int × ByteArray × Bool × Unit)
noncomputable def value_str_b0 : value_str_S0 → LT value_str_S0 value_str_Q0 := fun st => match st with
  | (a0, a5, r2_0, r2_1, r2_2, r2_3, r9004, ()) => (.br (decide (a5 < Int.ofNat a0.size)) (.br (decide (0 ≤ a5)) (.br (decide (a5 < Int.ofNat a0.size)) (.br (Int.ofNat (a0.data.toList.getD a5.toNat 0).toNat == 34) (.br (decide (IntKind.i64.wrap (a5 + 1) < Int.ofNat a0.size)) (.ret (.inl (a0, (some ([(1, IntKind.i64.wrap (a5 + 1))], 4)), 0, 0, (ByteArray.mk #[]), false, ()))) (.br (decide (Int.ofNat r9004.length > 1000)) (.ret (.inl (a0, (some ([], 2)), 0, 0, (ByteArray.mk #[]), false, ()))) (.ret (.inl (a0, none, 2, 0, (ofU8s r9004), false, ()))))) (.br (decide (Int.ofNat (a0.data.toList.getD a5.toNat 0).toNat < 32)) (.ret (.inl (a0, (some ([(1, a5)], 4)), 0, 0, (ByteArray.mk #[]), false, ()))) (.br (decide (Int.ofNat (a0.data.toList.getD a5.toNat 0).toNat > 126)) (.ret (.inl (a0, (some ([(1, a5)], 4)), 0, 0, (ByteArray.mk #[]), false, ()))) (.br (Int.ofNat (a0.data.toList.getD a5.toNat 0).toNat == 92) (.opt (value_escape a0 (IntKind.i64.wrap (a5 + 1))) fun x6 => (.br (!Option.isNone x6.snd.snd) (.ret (.inl (a0, x6.snd.snd, 0, 0, (ByteArray.mk #[]), false, ()))) (.br (appLim 1 r9004.length 1) (.next (a0, x6.snd.fst, r2_0, r2_1, r2_2, r2_3, (r9004 ++ [x6.fst]), ())) .fail))) (.br (appLim 1 r9004.length 1) (.next (a0, (IntKind.i64.wrap (a5 + 1)), r2_0, r2_1, r2_2, r2_3, (r9004 ++ [Int.ofNat (a0.data.toList.getD a5.toNat 0).toNat]), ())) .fail))))) .fail) .fail) (.ret (.inr (a0, r2_0, r2_1, r2_2, r2_3, ()))))
noncomputable def value_str_l0 (st : value_str_S0) : Option value_str_Q0 := LT.loop value_str_b0 FUEL st
noncomputable def value_str_A : Anns := { l := [(3, [.keep [0, 2, 4, 5] [2, 65], .ownS 4 9004 5, .keep [0, 2, 4, 5] [2, 9004]]), (100003, [.keep [0, 2, 3] [2]])], orc := [(3, genOrc value_str_h0 value_str_x0 value_str_l0)], N := 1000, rng := [], ro := [], outs := none, nils := [] }
theorem value_str_s0 : ∀ (st : value_str_S0) m k, loopX value_str_A (loopN Tryz.prog 70 0) (prep (tabsG L_value_escape) (annOf value_str_A (loopN Tryz.prog 70 0))) (evalC Tryz.prog (tabsG L_value_escape) value_str_A (loopN Tryz.prog 70 0)) (m + 1) (value_str_h0.enc st) (outK (tabsG L_value_escape) value_str_A (loopN Tryz.prog 70 0) k) = (value_str_b0 st).run (exK value_str_x0 k) (fun st' => loopX value_str_A (loopN Tryz.prog 70 0) (prep (tabsG L_value_escape) (annOf value_str_A (loopN Tryz.prog 70 0))) (evalC Tryz.prog (tabsG L_value_escape) value_str_A (loopN Tryz.prog 70 0)) m (value_str_h0.enc st') (outK (tabsG L_value_escape) value_str_A (loopN Tryz.prog 70 0) k)) := by
  intro st m k
  obtain ⟨a0, a5, r2_0, r2_1, r2_2, r2_3, r9004, ⟨⟩⟩ := st
  kernel_rfl
theorem value_str_o0 : OrcOk Tryz.prog (tabsG L_value_escape) value_str_A (loopN Tryz.prog 70 0) := genOrc_ok (h := value_str_h0) (xs := value_str_x0) (F := value_str_l0) (bd := value_str_b0) (fun _ => FUEL) (by kernel_rfl) (fun _ _ h => h) value_str_s0
noncomputable def value_str_t (p0 : ByteArray) : FT (V × Err) := (.opt (value_str_l0 (p0, 1, 0, 0, ByteArray.mk #[], false, [], ())) fun x10 => (.alt x10 (fun x11 => (.ret (((x11.snd.snd.fst, x11.snd.snd.snd.fst, x11.snd.snd.snd.snd.fst, x11.snd.snd.snd.snd.snd.fst), x11.snd.fst)))) (fun x12 => (.ret (((0, 0, ByteArray.mk #[], false), some ([(1, Int.ofNat (ByteArray.size x12.fst))], 4)))))))
noncomputable def value_str (p0 : ByteArray) : Option (V × Err) := (value_str_t p0).fin
noncomputable def value_str_sp : CSpec := genSpec [.str] [shVal, .err] (fun x => value_str x)
theorem value_str_ok : EnterOk Tryz.prog 70 ∧ CSpecOk Tryz.prog cfgG 70 value_str_sp := ⟨enter Tryz.func70 (by kernel_rfl) (by kernel_rfl), genSpec_ok (A := value_str_A) (sa := [.str]) (sr := [shVal, .err]) (bd := fun (x : (ArgT [.str])) => value_str_t x) (fitG L_value_escape) s_value_escape mixed (by kernel_rfl) (loopsAll (l := [loopN Tryz.prog 70 0]) (by kernel_rfl) ⟨value_str_o0, trivial⟩) (fun _ => rfl) (by
  intro x
  skip
  kernel_rfl)⟩
noncomputable def L_value_str : List (Nat × CSpec) := (70, value_str_sp) :: L_value_escape
theorem s_value_str : SpecsOk Tryz.prog (tabsG L_value_str) := oneSpecGT s_value_escape value_str_ok
noncomputable def value_word_h0 : EP := ⟨[(0, .d .str), (1, .d .str), (2, .d .bool), (6, .ref 6 0), (10, .d (.int .i64)), (11, .d (.int .i64))], [(6, .box 48 [.d (.int .i64), .d (.int .i64), .d .str, .d .bool])]⟩
noncomputable def value_word_x0 : List (Exit × EP) := [(Exit.ret, ⟨[(0, .d .str), (1, .d .str), (2, .d .bool), (6, .ref 6 0), (7, .d .err)], [(6, .box 48 [.d (.int .i64), .d (.int .i64), .d .str, .d .bool])]⟩), (Exit.exit 0, ⟨[(0, .d .str), (1, .d .str), (2, .d .bool), (6, .ref 6 0)], [(6, .box 48 [.d (.int .i64), .d (.int .i64), .d .str, .d .bool])]⟩)]
abbrev value_word_S0 : Type := ByteArray × ByteArray × Bool × Int × Int × Int × Int × ByteArray × Bool × Unit
abbrev value_word_Q0 : Type := (ByteArray × ByteArray × Bool × Err × Int × Int × ByteArray × Bool × Unit) ⊕ (ByteArray × ByteArray × Bool × Int × Int × ByteArray × Bool × Unit)
noncomputable def value_word_b0 : value_word_S0 → LT value_word_S0 value_word_Q0 := fun st => match st with
  | (a0, a1, a2, a10, a11, r6_0, r6_1, r6_2, r6_3, ()) => (.br (decide (a11 < a10)) (.br (decide (a11 ≥ Int.ofNat a1.size)) (.ret (.inl (a0, a1, a2, (some ([(1, a11)], 4)), 0, 0, (ByteArray.mk #[]), false, ()))) (.br (decide (0 ≤ a11)) (.br (decide (a11 < Int.ofNat a0.size)) (.br (decide (0 ≤ a11)) (.br (decide (a11 < Int.ofNat a1.size)) (.br (Int.ofNat (a0.data.toList.getD a11.toNat 0).toNat != Int.ofNat (a1.data.toList.getD a11.toNat 0).toNat) (.ret (.inl (a0, a1, a2, (some ([(1, a11)], 4)), 0, 0, (ByteArray.mk #[]), false, ()))) (.next (a0, a1, a2, a10, (IntKind.i64.wrap (a11 + 1)), r6_0, r6_1, r6_2, r6_3, ()))) .fail) .fail) .fail) .fail)) (.ret (.inr (a0, a1, a2, r6_0, r6_1, r6_2, r6_3, ()))))
noncomputable def value_word_l0 (st : value_word_S0) : Option value_word_Q0 := LT.loop value_word_b0 FUEL st
noncomputable def value_word_A : Anns := { l := [(2, [.keep [0, 1, 2, 6, 10, 11] [6]]), (100002, [.keep [0, 1, 2, 6, 7] [6]])], orc := [(2, genOrc value_word_h0 value_word_x0 value_word_l0)], N := 1000, rng := [], ro := [], outs := none, nils := [] }
theorem value_word_s0 : ∀ (st : value_word_S0) m k, loopX value_word_A (loopN Tryz.prog 71 0) (prep (tabsG L_value_str) (annOf value_word_A (loopN Tryz.prog 71 0))) (evalC Tryz.prog (tabsG L_value_str) value_word_A (loopN Tryz.prog 71 0)) (m + 1) (value_word_h0.enc st) (outK (tabsG L_value_str) value_word_A (loopN Tryz.prog 71 0) k) = (value_word_b0 st).run (exK value_word_x0 k) (fun st' => loopX value_word_A (loopN Tryz.prog 71 0) (prep (tabsG L_value_str) (annOf value_word_A (loopN Tryz.prog 71 0))) (evalC Tryz.prog (tabsG L_value_str) value_word_A (loopN Tryz.prog 71 0)) m (value_word_h0.enc st') (outK (tabsG L_value_str) value_word_A (loopN Tryz.prog 71 0) k)) := by
  intro st m k
  obtain ⟨a0, a1, a2, a10, a11, r6_0, r6_1, r6_2, r6_3, ⟨⟩⟩ := st
  kernel_rfl
theorem value_word_o0 : OrcOk Tryz.prog (tabsG L_value_str) value_word_A (loopN Tryz.prog 71 0) := genOrc_ok (h := value_word_h0) (xs := value_word_x0) (F := value_word_l0) (bd := value_word_b0) (fun _ => FUEL) (by kernel_rfl) (fun _ _ h => h) value_word_s0
noncomputable def value_word_t (p0 : ByteArray) (p1 : ByteArray) (p2 : Bool) : FT (V × Err) := (.opt (value_word_l0 (p0, p1, p2, Int.ofNat p0.size, 0, 0, 0, ByteArray.mk #[], false, ())) fun x4 => (.alt x4 (fun x5 => (.ret (((x5.snd.snd.snd.snd.fst, x5.snd.snd.snd.snd.snd.fst, x5.snd.snd.snd.snd.snd.snd.fst, x5.snd.snd.snd.snd.snd.snd.snd.fst), x5.snd.snd.snd.fst)))) (fun x6 => (.br (decide (Int.ofNat (ByteArray.size x6.fst) < Int.ofNat (ByteArray.size x6.snd.fst))) (.ret (((0, 0, ByteArray.mk #[], false), some ([(1, Int.ofNat (ByteArray.size x6.fst))], 4)))) (.ret (((3, 0, ByteArray.mk #[], x6.snd.snd.fst), none)))))))
noncomputable def value_word (p0 : ByteArray) (p1 : ByteArray) (p2 : Bool) : Option (V × Err) := (value_word_t p0 p1 p2).fin
noncomputable def value_word_sp : CSpec := genSpec [.str, .str, .bool] [shVal, .err] (fun x => value_word x.1 x.2.1 x.2.2)
theorem value_word_ok : EnterOk Tryz.prog 71 ∧ CSpecOk Tryz.prog cfgG 71 value_word_sp := ⟨enter Tryz.func71 (by kernel_rfl) (by kernel_rfl), genSpec_ok (A := value_word_A) (sa := [.str, .str, .bool]) (sr := [shVal, .err]) (bd := fun (x : (ArgT [.str, .str, .bool])) => value_word_t x.1 x.2.1 x.2.2) (fitG L_value_str) s_value_str mixed (by kernel_rfl) (loopsAll (l := [loopN Tryz.prog 71 0]) (by kernel_rfl) ⟨value_word_o0, trivial⟩) (fun _ => rfl) (by
  intro x
  obtain ⟨p0, p1, p2⟩ := x
  kernel_rfl)⟩
noncomputable def L_value_word : List (Nat × CSpec) := (71, value_word_sp) :: L_value_str
theorem s_value_word : SpecsOk Tryz.prog (tabsG L_value_word) := oneSpecGT s_value_str value_word_ok
noncomputable def value_Read_A : Anns := { l := [], orc := [], N := 1000, rng := [], ro := [], outs := none, nils := [] }
noncomputable def value_Read_t (p0 : ByteArray) : FT (V × Err) := (.br (decide (Int.ofNat p0.size > 8000)) (.ret (((0, 0, ByteArray.mk #[], false), some ([], 2)))) (.br (p0.toList == (ByteArray.mk #[]).toList) (.ret (((0, 0, ByteArray.mk #[], false), some ([(1, 0)], 4)))) (.br (decide (0 < Int.ofNat p0.size)) (.br (Int.ofNat (p0.data.toList.getD (Int.toNat 0) 0).toNat == 45) (.opt (value_number p0) fun x9 => (.ret x9)) (.br (decide (Int.ofNat (p0.data.toList.getD (Int.toNat 0) 0).toNat ≥ 48)) (.br (decide (Int.ofNat (p0.data.toList.getD (Int.toNat 0) 0).toNat ≤ 57)) (.opt (value_number p0) fun x10 => (.ret x10)) (.br (Int.ofNat (p0.data.toList.getD (Int.toNat 0) 0).toNat == 34) (.opt (value_str p0) fun x11 => (.ret x11)) (.br (Int.ofNat (p0.data.toList.getD (Int.toNat 0) 0).toNat == 116) (.opt (value_word p0 (ByteArray.mk #[116, 114, 117, 101]) true) fun x12 => (.ret x12)) (.br (Int.ofNat (p0.data.toList.getD (Int.toNat 0) 0).toNat == 102) (.opt (value_word p0 (ByteArray.mk #[102, 97, 108, 115, 101]) false) fun x13 => (.ret x13)) (.ret (((0, 0, ByteArray.mk #[], false), some ([(1, 0)], 4)))))))) (.br (Int.ofNat (p0.data.toList.getD (Int.toNat 0) 0).toNat == 34) (.opt (value_str p0) fun x14 => (.ret x14)) (.br (Int.ofNat (p0.data.toList.getD (Int.toNat 0) 0).toNat == 116) (.opt (value_word p0 (ByteArray.mk #[116, 114, 117, 101]) true) fun x15 => (.ret x15)) (.br (Int.ofNat (p0.data.toList.getD (Int.toNat 0) 0).toNat == 102) (.opt (value_word p0 (ByteArray.mk #[102, 97, 108, 115, 101]) false) fun x16 => (.ret x16)) (.ret (((0, 0, ByteArray.mk #[], false), some ([(1, 0)], 4))))))))) .fail)))
noncomputable def value_Read (p0 : ByteArray) : Option (V × Err) := (value_Read_t p0).fin
noncomputable def value_Read_sp : CSpec := genSpec [.str] [shVal, .err] (fun x => value_Read x)
theorem value_Read_ok : EnterOk Tryz.prog 43 ∧ CSpecOk Tryz.prog cfgG 43 value_Read_sp := ⟨enter Tryz.func43 (by kernel_rfl) (by kernel_rfl), genSpec_ok (A := value_Read_A) (sa := [.str]) (sr := [shVal, .err]) (bd := fun (x : (ArgT [.str])) => value_Read_t x) (fitG L_value_word) s_value_word mixed (by kernel_rfl) (loopsAll (l := []) (by kernel_rfl) trivial) (fun _ => rfl) (by
  intro x
  skip
  kernel_rfl)⟩
noncomputable def L_value_Read : List (Nat × CSpec) := (43, value_Read_sp) :: L_value_word
theorem s_value_Read : SpecsOk Tryz.prog (tabsG L_value_Read) := oneSpecGT s_value_word value_Read_ok
noncomputable def fault_first_A : Anns := { l := [], orc := [], N := 1000, rng := [], ro := [], outs := none, nils := [] }
noncomputable def fault_first_t (p0 : Err) : FT ((Option ((Int × Int) × Err))) := (.br ((errHead p0).isSome) (.opt (errHead p0) fun x2 => (.ret (some x2))) (.ret none))
noncomputable def fault_first (p0 : Err) : Option ((Option ((Int × Int) × Err))) := (fault_first_t p0).fin
noncomputable def fault_first_sp : CSpec := genSpec [.err] [(.pt (.pair shPlace .err))] (fun x => fault_first x)
theorem fault_first_ok : EnterOk Tryz.prog 74 ∧ CSpecOk Tryz.prog cfgG 74 fault_first_sp := ⟨enter Tryz.func74 (by kernel_rfl) (by kernel_rfl), genSpec_ok (A := fault_first_A) (sa := [.err]) (sr := [(.pt (.pair shPlace .err))]) (bd := fun (x : (ArgT [.err])) => fault_first_t x) (fitG L_value_Read) s_value_Read mixed (by kernel_rfl) (loopsAll (l := []) (by kernel_rfl) trivial) (fun _ => rfl) (by
  intro x
  skip
  kernel_rfl)⟩
noncomputable def L_fault_first : List (Nat × CSpec) := (74, fault_first_sp) :: L_value_Read
theorem s_fault_first : SpecsOk Tryz.prog (tabsG L_fault_first) := oneSpecGT s_value_Read fault_first_ok
noncomputable def fault_Shift_A : Anns := { l := [], orc := [], N := 1000, rng := [], ro := [], outs := none, nils := [] }
noncomputable def fault_Shift_t (p0 : Err) (p1 : Int) (p2 : Int) : FT (Err) := (.opt (fault_first p0) fun x6 => (.br x6.isNone (.ret p0) (.opt x6 fun x7 => (.br (x7.fst.fst != p1) (.ret p0) (.opt x6 fun x8 => (.opt x6 fun x9 => (.opt (fault_At p1 (IntKind.i64.wrap (x8.fst.snd + p2)) x9.snd) fun x10 => (.ret x10))))))))
noncomputable def fault_Shift (p0 : Err) (p1 : Int) (p2 : Int) : Option (Err) := (fault_Shift_t p0 p1 p2).fin
noncomputable def fault_Shift_sp : CSpec := genSpec [.err, (.int .i64), (.int .i64)] [.err] (fun x => fault_Shift x.1 x.2.1 x.2.2)
theorem fault_Shift_ok : EnterOk Tryz.prog 45 ∧ CSpecOk Tryz.prog cfgG 45 fault_Shift_sp := ⟨enter Tryz.func45 (by kernel_rfl) (by kernel_rfl), genSpec_ok (A := fault_Shift_A) (sa := [.err, (.int .i64), (.int .i64)]) (sr := [.err]) (bd := fun (x : (ArgT [.err, (.int .i64), (.int .i64)])) => fault_Shift_t x.1 x.2.1 x.2.2) (fitG L_fault_first) s_fault_first mixed (by kernel_rfl) (loopsAll (l := []) (by kernel_rfl) trivial) (fun _ => rfl) (by
  intro x
  obtain ⟨p0, p1, p2⟩ := x
  kernel_rfl)⟩
noncomputable def L_fault_Shift : List (Nat × CSpec) := (45, fault_Shift_sp) :: L_fault_first
theorem s_fault_Shift : SpecsOk Tryz.prog (tabsG L_fault_Shift) := oneSpecGT s_fault_first fault_Shift_ok
noncomputable def event_Read_h0 : EP := ⟨[(0, .d .str), (4, .own 9004), (5, .d .str), (6, .d (.int .i64))], [(9004, .row 50 shAttr)]⟩
noncomputable def event_Read_x0 : List (Exit × EP) := [(Exit.ret, ⟨[(2, .nsl), (3, .d .err), (4, .own 9004)], [(9004, .row 50 shAttr)]⟩), (Exit.exit 0, ⟨[(4, .own 85)], [(85, .row 50 shAttr)]⟩), (Exit.ret, ⟨[(2, .nsl), (3, .d .err), (4, .own 85)], [(85, .row 50 shAttr)]⟩), (Exit.exit 0, ⟨[(4, .own 9004)], [(9004, .row 50 shAttr)]⟩)]
abbrev event_Read_S0 : Type := ByteArray × ByteArray × Int × (List (ByteArray × V)) × Unit
abbrev event_Read_Q0 : Type := (Err × (List (ByteArray × V)) × Unit) ⊕ ((List (ByteArray × V)) × Unit) ⊕ (Err × (List (ByteArray × V)) × Unit) ⊕ ((List (ByteArray × V)) × Unit)
noncomputable def event_Read_b0 : event_Read_S0 → LT event_Read_S0 event_Read_Q0 := fun st => match st with
  | (a0, a5, a6, r9004, ()) => (.br (decide (Int.ofNat a0.size > 0)) (.opt (event_run a0 a6) fun x31 => (.br (decide (0 ≤ a6)) (.br (decide (a6 ≤ x31)) (.br (decide (x31 ≤ Int.ofNat a0.size)) (.opt (event_Name (a0.extract a6.toNat x31.toNat)) fun x32 => (.br (!x32) (.ret (.inl ((some ([(1, a6)], 4)), r9004, ()))) (.br (Op.bytesLess (a0.extract a6.toNat x31.toNat).toList a5.toList || (a0.extract a6.toNat x31.toNat).toList == a5.toList) (.ret (.inl ((some ([(1, a6)], 4)), r9004, ()))) (.br (Int.ofNat r9004.length == 16) (.ret (.inl ((some ([(1, a6)], 4)), r9004, ()))) (.br (x31 == Int.ofNat a0.size) (.ret (.inl ((some ([(1, x31)], 4)), r9004, ()))) (.br (decide (0 ≤ x31)) (.br (decide (x31 < Int.ofNat a0.size)) (.br (Int.ofNat (a0.data.toList.getD x31.toNat 0).toNat != 61) (.ret (.inl ((some ([(1, x31)], 4)), r9004, ()))) (.opt (event_comma a0 (IntKind.i64.wrap (x31 + 1))) fun x33 => (.br (decide (0 ≤ IntKind.i64.wrap (x31 + 1))) (.br (decide (IntKind.i64.wrap (x31 + 1) ≤ x33)) (.br (decide (x33 ≤ Int.ofNat a0.size)) (.opt (value_Read (a0.extract (IntKind.i64.wrap (x31 + 1)).toNat x33.toNat)) fun x34 => (.opt (isF x34.snd (some ([], 2))) fun x35 => (.br x35 (.ret (.inl ((some ([(1, IntKind.i64.wrap (x31 + 1))], 4)), r9004, ()))) (.br (!Option.isNone x34.snd) (.opt (fault_Shift x34.snd 1 (IntKind.i64.wrap (x31 + 1))) fun x36 => (.ret (.inl (x36, r9004, ())))) (.br (appLim 56 r9004.length 1) (.br (x33 == Int.ofNat a0.size) (.ret (.inr (.inl ((r9004 ++ [(a0.extract a6.toNat x31.toNat, x34.fst)]), ())))) (.br (IntKind.i64.wrap (x33 + 1) == Int.ofNat a0.size) (.ret (.inr (.inr (.inl ((some ([(1, IntKind.i64.wrap (x33 + 1))], 4)), (r9004 ++ [(a0.extract a6.toNat x31.toNat, x34.fst)]), ()))))) (.br (decide (0 ≤ IntKind.i64.wrap (x33 + 1))) (.br (decide (IntKind.i64.wrap (x33 + 1) < Int.ofNat a0.size)) (.br (Int.ofNat (a0.data.toList.getD (IntKind.i64.wrap (x33 + 1)).toNat 0).toNat != 32) (.ret (.inr (.inr (.inl ((some ([(1, IntKind.i64.wrap (x33 + 1))], 4)), (r9004 ++ [(a0.extract a6.toNat x31.toNat, x34.fst)]), ()))))) (.next (a0, (a0.extract a6.toNat x31.toNat), (IntKind.i64.wrap (x33 + 2)), (r9004 ++ [(a0.extract a6.toNat x31.toNat, x34.fst)]), ()))) .fail) .fail))) .fail))))) .fail) .fail) .fail))) .fail) .fail)))))) .fail) .fail) .fail)) (.ret (.inr (.inr (.inr (r9004, ()))))))
noncomputable def event_Read_l0 (st : event_Read_S0) : Option event_Read_Q0 := LT.loop event_Read_b0 FUEL st
noncomputable def event_Read_A : Anns := { l := [(6, [.keep [0, 4, 5, 6] [85], .ownS 4 9004 50, .keep [0, 4, 5, 6] [9004]]), (100006, [.keep [2, 3, 4] [85, 9004]])], orc := [(6, genOrc event_Read_h0 event_Read_x0 event_Read_l0)], N := 1000, rng := [], ro := [], outs := none, nils := [] }
theorem event_Read_s0 : ∀ (st : event_Read_S0) m k, loopX event_Read_A (loopN Tryz.prog 19 0) (prep (tabsG L_fault_Shift) (annOf event_Read_A (loopN Tryz.prog 19 0))) (evalC Tryz.prog (tabsG L_fault_Shift) event_Read_A (loopN Tryz.prog 19 0)) (m + 1) (event_Read_h0.enc st) (outK (tabsG L_fault_Shift) event_Read_A (loopN Tryz.prog 19 0) k) = (event_Read_b0 st).run (exK event_Read_x0 k) (fun st' => loopX event_Read_A (loopN Tryz.prog 19 0) (prep (tabsG L_fault_Shift) (annOf event_Read_A (loopN Tryz.prog 19 0))) (evalC Tryz.prog (tabsG L_fault_Shift) event_Read_A (loopN Tryz.prog 19 0)) m (event_Read_h0.enc st') (outK (tabsG L_fault_Shift) event_Read_A (loopN Tryz.prog 19 0) k)) := by
  intro st m k
  obtain ⟨a0, a5, a6, r9004, ⟨⟩⟩ := st
  kernel_rfl
theorem event_Read_o0 : OrcOk Tryz.prog (tabsG L_fault_Shift) event_Read_A (loopN Tryz.prog 19 0) := genOrc_ok (h := event_Read_h0) (xs := event_Read_x0) (F := event_Read_l0) (bd := event_Read_b0) (fun _ => FUEL) (by kernel_rfl) (fun _ _ h => h) event_Read_s0
noncomputable def event_Read_t (p0 : ByteArray) : FT ((List (ByteArray × V)) × Err) := (.br (decide (Int.ofNat p0.size > 8000)) (.ret (([], some ([], 2)))) (.opt (event_Read_l0 (p0, ByteArray.mk #[], 0, [], ())) fun x44 => (.alt x44 (fun x45 => (.ret (([], x45.fst)))) (fun x46 => (.alt x46 (fun x47 => (.ret ((x47.fst, none)))) (fun x48 => (.alt x48 (fun x49 => (.ret (([], x49.fst)))) (fun x50 => (.ret ((x50.fst, none)))))))))))
noncomputable def event_Read (p0 : ByteArray) : Option ((List (ByteArray × V)) × Err) := (event_Read_t p0).fin
noncomputable def event_Read_sp : CSpec := genSpec [.str] [(.sl shAttr), .err] (fun x => event_Read x)
theorem event_Read_ok : EnterOk Tryz.prog 19 ∧ CSpecOk Tryz.prog cfgG 19 event_Read_sp := ⟨enter Tryz.func19 (by kernel_rfl) (by kernel_rfl), genSpec_ok (A := event_Read_A) (sa := [.str]) (sr := [(.sl shAttr), .err]) (bd := fun (x : (ArgT [.str])) => event_Read_t x) (fitG L_fault_Shift) s_fault_Shift mixed (by kernel_rfl) (loopsAll (l := [loopN Tryz.prog 19 0]) (by kernel_rfl) ⟨event_Read_o0, trivial⟩) (fun _ => rfl) (by
  intro x
  skip
  kernel_rfl)⟩
noncomputable def L_event_Read : List (Nat × CSpec) := (19, event_Read_sp) :: L_fault_Shift
theorem s_event_Read : SpecsOk Tryz.prog (tabsG L_event_Read) := oneSpecGT s_fault_Shift event_Read_ok
noncomputable def event_asked_A : Anns := { l := [], orc := [], N := 1000, rng := [], ro := [], outs := none, nils := [] }
noncomputable def event_asked_t (p0 : (List (ByteArray × V))) (p1 : ByteArray) : FT (Err) := (.opt (event_Check p0) fun x3 => (.br (!x3.isNone) (.ret x3) (.opt (event_Name p1) fun x4 => (.br (!x4) (.ret (some ([], 3))) (.ret none)))))
noncomputable def event_asked (p0 : (List (ByteArray × V))) (p1 : ByteArray) : Option (Err) := (event_asked_t p0 p1).fin
noncomputable def event_asked_sp : CSpec := genSpec [(.sl shAttr), .str] [.err] (fun x => event_asked x.1 x.2)
theorem event_asked_ok : EnterOk Tryz.prog 51 ∧ CSpecOk Tryz.prog cfgG 51 event_asked_sp := ⟨enter Tryz.func51 (by kernel_rfl) (by kernel_rfl), genSpec_ok (A := event_asked_A) (sa := [(.sl shAttr), .str]) (sr := [.err]) (bd := fun (x : (ArgT [(.sl shAttr), .str])) => event_asked_t x.1 x.2) (fitG L_event_Read) s_event_Read mixed (by kernel_rfl) (loopsAll (l := []) (by kernel_rfl) trivial) (fun _ => rfl) (by
  intro x
  obtain ⟨p0, p1⟩ := x
  kernel_rfl)⟩
noncomputable def L_event_asked : List (Nat × CSpec) := (51, event_asked_sp) :: L_event_Read
theorem s_event_asked : SpecsOk Tryz.prog (tabsG L_event_asked) := oneSpecGT s_event_Read event_asked_ok
noncomputable def event_Find_1_A : Anns := { l := [], orc := [], N := 1000, rng := [], ro := [], outs := none, nils := [] }
noncomputable def event_Find_1_t (p0 : (ByteArray × V)) (p1 : ByteArray) : FT (Int) := (.ret (Lib.compareBytes p0.fst.data.toList p1.data.toList))
noncomputable def event_Find_1 (p0 : (ByteArray × V)) (p1 : ByteArray) : Option (Int) := (event_Find_1_t p0 p1).fin
noncomputable def event_Find_1_sp : CSpec := genSpec [shAttr, .str] [(.int .i64)] (fun x => event_Find_1 x.1 x.2)
theorem event_Find_1_ok : EnterOk Tryz.prog 80 ∧ CSpecOk Tryz.prog cfgG 80 event_Find_1_sp := ⟨enter Tryz.func80 (by kernel_rfl) (by kernel_rfl), genSpec_ok (A := event_Find_1_A) (sa := [shAttr, .str]) (sr := [(.int .i64)]) (bd := fun (x : (ArgT [shAttr, .str])) => event_Find_1_t x.1 x.2) (fitG L_event_asked) s_event_asked mixed (by kernel_rfl) (loopsAll (l := []) (by kernel_rfl) trivial) (fun _ => rfl) (by
  intro x
  obtain ⟨p0, p1⟩ := x
  kernel_rfl)⟩
noncomputable def L_event_Find_1 : List (Nat × CSpec) := (80, event_Find_1_sp) :: L_event_asked
theorem s_event_Find_1 : SpecsOk Tryz.prog (tabsG L_event_Find_1) := oneSpecGT s_event_asked event_Find_1_ok
noncomputable def slices_BinarySearchFunc_h0 : EP := ⟨[(0, .d (.sl shAttr)), (1, .d .str), (2, .fn 80), (8, .d (.int .i64)), (9, .d (.int .i64)), (10, .d (.int .i64))], []⟩
noncomputable def slices_BinarySearchFunc_x0 : List (Exit × EP) := [(Exit.exit 0, ⟨[(0, .d (.sl shAttr)), (1, .d .str), (2, .fn 80), (8, .d (.int .i64)), (9, .d (.int .i64))], []⟩)]
abbrev slices_BinarySearchFunc_S0 : Type := (List (ByteArray × V)) × ByteArray × Int × Int × Int × Unit
abbrev slices_BinarySearchFunc_Q0 : Type := ((List (ByteArray × V)) × ByteArray × Int × Int × Unit)
noncomputable def slices_BinarySearchFunc_b0 : slices_BinarySearchFunc_S0 → LT slices_BinarySearchFunc_S0 slices_BinarySearchFunc_Q0 := fun st => match st with
  | (a0, a1, a8, a9, a10, ()) => (.br (decide (a9 < a10)) (.br (decide (0 ≤ IntKind.i64.wrap ((IntKind.u64.wrap (IntKind.i64.wrap (a9 + a10))).fdiv (2 ^ min 1 IntKind.u64.bits)))) (.br (decide (IntKind.i64.wrap ((IntKind.u64.wrap (IntKind.i64.wrap (a9 + a10))).fdiv (2 ^ min 1 IntKind.u64.bits)) < Int.ofNat a0.length)) (.br (decide (Lib.compareBytes (getI a0 (IntKind.i64.wrap ((IntKind.u64.wrap (IntKind.i64.wrap (a9 + a10))).fdiv (2 ^ min 1 IntKind.u64.bits))) (ByteArray.mk #[], 0, 0, ByteArray.mk #[], false)).fst.data.toList a1.data.toList < 0)) (.next (a0, a1, a8, (IntKind.i64.wrap (IntKind.i64.wrap ((IntKind.u64.wrap (IntKind.i64.wrap (a9 + a10))).fdiv (2 ^ min 1 IntKind.u64.bits)) + 1)), a10, ())) (.next (a0, a1, a8, a9, (IntKind.i64.wrap ((IntKind.u64.wrap (IntKind.i64.wrap (a9 + a10))).fdiv (2 ^ min 1 IntKind.u64.bits))), ()))) .fail) .fail) (.ret (a0, a1, a8, a9, ())))
noncomputable def slices_BinarySearchFunc_l0 (st : slices_BinarySearchFunc_S0) : Option slices_BinarySearchFunc_Q0 := LT.loop slices_BinarySearchFunc_b0 FUEL st
noncomputable def slices_BinarySearchFunc_A : Anns := { l := [(3, [.keep [0, 1, 2, 8, 9, 10] []]), (100003, [.keep [0, 1, 2, 8, 9] []])], orc := [(3, genOrc slices_BinarySearchFunc_h0 slices_BinarySearchFunc_x0 slices_BinarySearchFunc_l0)], N := 1000, rng := [], ro := [], outs := none, nils := [] }
theorem slices_BinarySearchFunc_s0 : ∀ (st : slices_BinarySearchFunc_S0) m k, loopX slices_BinarySearchFunc_A (loopN Tryz.prog 79 0) (prep (tabsG L_event_Find_1) (annOf slices_BinarySearchFunc_A (loopN Tryz.prog 79 0))) (evalC Tryz.prog (tabsG L_event_Find_1) slices_BinarySearchFunc_A (loopN Tryz.prog 79 0)) (m + 1) (slices_BinarySearchFunc_h0.enc st) (outK (tabsG L_event_Find_1) slices_BinarySearchFunc_A (loopN Tryz.prog 79 0) k) = (slices_BinarySearchFunc_b0 st).run (exK slices_BinarySearchFunc_x0 k) (fun st' => loopX slices_BinarySearchFunc_A (loopN Tryz.prog 79 0) (prep (tabsG L_event_Find_1) (annOf slices_BinarySearchFunc_A (loopN Tryz.prog 79 0))) (evalC Tryz.prog (tabsG L_event_Find_1) slices_BinarySearchFunc_A (loopN Tryz.prog 79 0)) m (slices_BinarySearchFunc_h0.enc st') (outK (tabsG L_event_Find_1) slices_BinarySearchFunc_A (loopN Tryz.prog 79 0) k)) := by
  intro st m k
  obtain ⟨a0, a1, a8, a9, a10, ⟨⟩⟩ := st
  kernel_rfl
theorem slices_BinarySearchFunc_o0 : OrcOk Tryz.prog (tabsG L_event_Find_1) slices_BinarySearchFunc_A (loopN Tryz.prog 79 0) := genOrc_ok (h := slices_BinarySearchFunc_h0) (xs := slices_BinarySearchFunc_x0) (F := slices_BinarySearchFunc_l0) (bd := slices_BinarySearchFunc_b0) (fun _ => FUEL) (by kernel_rfl) (fun _ _ h => h) slices_BinarySearchFunc_s0
noncomputable def slices_BinarySearchFunc_t (p0 : (List (ByteArray × V))) (p1 : ByteArray) : FT (Int × Bool) := (.opt (slices_BinarySearchFunc_l0 (p0, p1, Int.ofNat p0.length, 0, Int.ofNat p0.length, ())) fun x2 => (.br (decide (x2.snd.snd.snd.fst < x2.snd.snd.fst)) (.br (decide (0 ≤ x2.snd.snd.snd.fst)) (.br (decide (x2.snd.snd.snd.fst < Int.ofNat (List.length x2.fst))) (.ret ((x2.snd.snd.snd.fst, Lib.compareBytes (getI x2.fst x2.snd.snd.snd.fst (ByteArray.mk #[], 0, 0, ByteArray.mk #[], false)).fst.data.toList x2.snd.fst.data.toList == 0))) .fail) .fail) (.ret ((x2.snd.snd.snd.fst, false)))))
noncomputable def slices_BinarySearchFunc (p0 : (List (ByteArray × V))) (p1 : ByteArray) : Option (Int × Bool) := (slices_BinarySearchFunc_t p0 p1).fin
noncomputable def slices_BinarySearchFunc_sp : CSpec := genSpecX [(.sl shAttr), .str] [(.int .i64), .bool] [80] (fun x => slices_BinarySearchFunc x.1 x.2)
theorem slices_BinarySearchFunc_ok : EnterOk Tryz.prog 79 ∧ CSpecOk Tryz.prog cfgG 79 slices_BinarySearchFunc_sp := ⟨enter Tryz.func79 (by kernel_rfl) (by kernel_rfl), genSpecX_ok (A := slices_BinarySearchFunc_A) (sa := [(.sl shAttr), .str]) (sr := [(.int .i64), .bool]) (ex := [80]) (bd := fun (x : (ArgT [(.sl shAttr), .str])) => slices_BinarySearchFunc_t x.1 x.2) (fitG L_event_Find_1) s_event_Find_1 mixed (by kernel_rfl) (loopsAll (l := [loopN Tryz.prog 79 0]) (by kernel_rfl) ⟨slices_BinarySearchFunc_o0, trivial⟩) (fun _ => rfl) (by
  intro x
  obtain ⟨p0, p1⟩ := x
  kernel_rfl)⟩
noncomputable def L_slices_BinarySearchFunc : List (Nat × CSpec) := (79, slices_BinarySearchFunc_sp) :: L_event_Find_1
theorem s_slices_BinarySearchFunc : SpecsOk Tryz.prog (tabsG L_slices_BinarySearchFunc) := oneSpecGT s_event_Find_1 slices_BinarySearchFunc_ok
noncomputable def event_Find_A : Anns := { l := [], orc := [], N := 1000, rng := [], ro := [], outs := none, nils := [] }
noncomputable def event_Find_t (p0 : (List (ByteArray × V))) (p1 : ByteArray) : FT (Int × Bool) := (.opt (slices_BinarySearchFunc p0 p1) fun x2 => (.ret x2))
noncomputable def event_Find (p0 : (List (ByteArray × V))) (p1 : ByteArray) : Option (Int × Bool) := (event_Find_t p0 p1).fin
noncomputable def event_Find_sp : CSpec := genSpec [(.sl shAttr), .str] [(.int .i64), .bool] (fun x => event_Find x.1 x.2)
theorem event_Find_ok : EnterOk Tryz.prog 52 ∧ CSpecOk Tryz.prog cfgG 52 event_Find_sp := ⟨enter Tryz.func52 (by kernel_rfl) (by kernel_rfl), genSpec_ok (A := event_Find_A) (sa := [(.sl shAttr), .str]) (sr := [(.int .i64), .bool]) (bd := fun (x : (ArgT [(.sl shAttr), .str])) => event_Find_t x.1 x.2) (fitG L_slices_BinarySearchFunc) s_slices_BinarySearchFunc mixed (by kernel_rfl) (loopsAll (l := []) (by kernel_rfl) trivial) (fun _ => rfl) (by
  intro x
  obtain ⟨p0, p1⟩ := x
  kernel_rfl)⟩
noncomputable def L_event_Find : List (Nat × CSpec) := (52, event_Find_sp) :: L_slices_BinarySearchFunc
theorem s_event_Find : SpecsOk Tryz.prog (tabsG L_event_Find) := oneSpecGT s_slices_BinarySearchFunc event_Find_ok
noncomputable def event_Get_A : Anns := { l := [], orc := [], N := 1000, rng := [], ro := [], outs := none, nils := [] }
noncomputable def event_Get_t (p0 : (List (ByteArray × V))) (p1 : ByteArray) : FT (V × Err) := (.opt (event_asked p0 p1) fun x3 => (.br (!x3.isNone) (.ret (((0, 0, ByteArray.mk #[], false), x3))) (.opt (event_Find p0 p1) fun x4 => (.br x4.snd (.br (decide (0 ≤ x4.fst)) (.br (decide (x4.fst < Int.ofNat p0.length)) (.ret (((getI p0 x4.fst (ByteArray.mk #[], 0, 0, ByteArray.mk #[], false)).snd, none))) .fail) .fail) (.ret (((0, 0, ByteArray.mk #[], false), some ([], 10))))))))
noncomputable def event_Get (p0 : (List (ByteArray × V))) (p1 : ByteArray) : Option (V × Err) := (event_Get_t p0 p1).fin
noncomputable def event_Get_sp : CSpec := genSpec [(.sl shAttr), .str] [shVal, .err] (fun x => event_Get x.1 x.2)
theorem event_Get_ok : EnterOk Tryz.prog 23 ∧ CSpecOk Tryz.prog cfgG 23 event_Get_sp := ⟨enter Tryz.func23 (by kernel_rfl) (by kernel_rfl), genSpec_ok (A := event_Get_A) (sa := [(.sl shAttr), .str]) (sr := [shVal, .err]) (bd := fun (x : (ArgT [(.sl shAttr), .str])) => event_Get_t x.1 x.2) (fitG L_event_Find) s_event_Find mixed (by kernel_rfl) (loopsAll (l := []) (by kernel_rfl) trivial) (fun _ => rfl) (by
  intro x
  obtain ⟨p0, p1⟩ := x
  kernel_rfl)⟩
noncomputable def L_event_Get : List (Nat × CSpec) := (23, event_Get_sp) :: L_event_Find
theorem s_event_Get : SpecsOk Tryz.prog (tabsG L_event_Get) := oneSpecGT s_event_Find event_Get_ok
noncomputable def law03_num_A : Anns := { l := [], orc := [], N := 1000, rng := [], ro := [], outs := none, nils := [] }
noncomputable def law03_num_t (p0 : Int) : FT (V) := (.ret ((1, p0, ByteArray.mk #[], false)))
noncomputable def law03_num (p0 : Int) : Option (V) := (law03_num_t p0).fin
noncomputable def law03_num_sp : CSpec := genSpec [(.int .i64)] [shVal] (fun x => law03_num x)
theorem law03_num_ok : EnterOk Tryz.prog 29 ∧ CSpecOk Tryz.prog cfgG 29 law03_num_sp := ⟨enter Tryz.func29 (by kernel_rfl) (by kernel_rfl), genSpec_ok (A := law03_num_A) (sa := [(.int .i64)]) (sr := [shVal]) (bd := fun (x : (ArgT [(.int .i64)])) => law03_num_t x) (fitG L_event_Get) s_event_Get mixed (by kernel_rfl) (loopsAll (l := []) (by kernel_rfl) trivial) (fun _ => rfl) (by
  intro x
  skip
  kernel_rfl)⟩
noncomputable def L_law03_num : List (Nat × CSpec) := (29, law03_num_sp) :: L_event_Get
theorem s_law03_num : SpecsOk Tryz.prog (tabsG L_law03_num) := oneSpecGT s_event_Get law03_num_ok
noncomputable def law03_awake_A : Anns := { l := [], orc := [], N := 1000, rng := [], ro := [], outs := none, nils := [] }
noncomputable def law03_awake_t  : FT (Bool) := (.ret true)
noncomputable def law03_awake  : Option (Bool) := (law03_awake_t ).fin
noncomputable def law03_awake_sp : CSpec := genSpec [] [.bool] (fun x => law03_awake)
theorem law03_awake_ok : EnterOk Tryz.prog 10 ∧ CSpecOk Tryz.prog cfgG 10 law03_awake_sp := ⟨enter Tryz.func10 (by kernel_rfl) (by kernel_rfl), genSpec_ok (A := law03_awake_A) (sa := []) (sr := [.bool]) (bd := fun (x : (ArgT [])) => law03_awake_t) (fitG L_law03_num) s_law03_num mixed (by kernel_rfl) (loopsAll (l := []) (by kernel_rfl) trivial) (fun _ => rfl) (by
  intro x
  obtain ⟨⟩ := x
  kernel_rfl)⟩
noncomputable def L_law03_awake : List (Nat × CSpec) := (10, law03_awake_sp) :: L_law03_num
theorem s_law03_awake : SpecsOk Tryz.prog (tabsG L_law03_awake) := oneSpecGT s_law03_num law03_awake_ok
noncomputable def ref03_Twin_A : Anns := { l := [], orc := [], N := 1000, rng := [], ro := [], outs := none, nils := [] }
noncomputable def ref03_Twin_t (p0 : (List (ByteArray × V))) : FT ((List (ByteArray × V))) := (.br (appLim 56 0 p0.length) (.ret p0) .fail)
noncomputable def ref03_Twin (p0 : (List (ByteArray × V))) : Option ((List (ByteArray × V))) := (ref03_Twin_t p0).fin
noncomputable def ref03_Twin_sp : CSpec := genSpec [(.sl shAttr)] [(.sl shAttr)] (fun x => ref03_Twin x)
theorem ref03_Twin_ok : EnterOk Tryz.prog 12 ∧ CSpecOk Tryz.prog cfgG 12 ref03_Twin_sp := ⟨enter Tryz.func12 (by kernel_rfl) (by kernel_rfl), genSpec_ok (A := ref03_Twin_A) (sa := [(.sl shAttr)]) (sr := [(.sl shAttr)]) (bd := fun (x : (ArgT [(.sl shAttr)])) => ref03_Twin_t x) (fitG L_law03_awake) s_law03_awake mixed (by kernel_rfl) (loopsAll (l := []) (by kernel_rfl) trivial) (fun _ => rfl) (by
  intro x
  skip
  kernel_rfl)⟩
noncomputable def L_ref03_Twin : List (Nat × CSpec) := (12, ref03_Twin_sp) :: L_law03_awake
theorem s_ref03_Twin : SpecsOk Tryz.prog (tabsG L_ref03_Twin) := oneSpecGT s_law03_awake ref03_Twin_ok
noncomputable def ref01_Same_h0 : EP := ⟨[(2, .ref 2 0), (3, .ref 3 0), (29, .d (.int .i64)), (30, .d (.int .i64))], [(2, .box 33 [.d .bool, .d (.sl shPlace), .d (.int .i64)]), (3, .box 33 [.d .bool, .d (.sl shPlace), .d (.int .i64)])]⟩
noncomputable def ref01_Same_x0 : List (Exit × EP) := [(Exit.ret, ⟨[(4, .d .bool)], []⟩), (Exit.exit 0, ⟨[], []⟩)]
abbrev ref01_Same_S0 : Type := Int × Int × Bool × (List (Int × Int)) × Int × Bool × (List (Int × Int)) × Int × Unit
abbrev ref01_Same_Q0 : Type := (Bool × Unit) ⊕ (Unit)
noncomputable def ref01_Same_b0 : ref01_Same_S0 → LT ref01_Same_S0 ref01_Same_Q0 := fun st => match st with
  | (a29, a30, r2_0, r2_1, r2_2, r3_0, r3_1, r3_2, ()) => (.br (decide (a30 < a29)) (.br (decide (0 ≤ a30)) (.br (decide (a30 < Int.ofNat r2_1.length)) (.br (decide (0 ≤ a30)) (.br (decide (a30 < Int.ofNat r3_1.length)) (.br (!eqB shPlace (getI r2_1 a30 (0, 0)) (getI r3_1 a30 (0, 0))) (.ret (.inl (false, ()))) (.next (a29, (IntKind.i64.wrap (a30 + 1)), r2_0, r2_1, r2_2, r3_0, r3_1, r3_2, ()))) .fail) .fail) .fail) .fail) (.ret (.inr ())))
noncomputable def ref01_Same_l0 (st : ref01_Same_S0) : Option ref01_Same_Q0 := LT.loop ref01_Same_b0 FUEL st
noncomputable def ref01_Same_A : Anns := { l := [(4, [.keep [2, 3, 29, 30] [2, 3]]), (100004, [.keep [4] []])], orc := [(4, genOrc ref01_Same_h0 ref01_Same_x0 ref01_Same_l0)], N := 1000, rng := [], ro := [], outs := none, nils := [] }
theorem ref01_Same_s0 : ∀ (st : ref01_Same_S0) m k, loopX ref01_Same_A (loopN Tryz.prog 33 0) (prep (tabsG L_ref03_Twin) (annOf ref01_Same_A (loopN Tryz.prog 33 0))) (evalC Tryz.prog (tabsG L_ref03_Twin) ref01_Same_A (loopN Tryz.prog 33 0)) (m + 1) (ref01_Same_h0.enc st) (outK (tabsG L_ref03_Twin) ref01_Same_A (loopN Tryz.prog 33 0) k) = (ref01_Same_b0 st).run (exK ref01_Same_x0 k) (fun st' => loopX ref01_Same_A (loopN Tryz.prog 33 0) (prep (tabsG L_ref03_Twin) (annOf ref01_Same_A (loopN Tryz.prog 33 0))) (evalC Tryz.prog (tabsG L_ref03_Twin) ref01_Same_A (loopN Tryz.prog 33 0)) m (ref01_Same_h0.enc st') (outK (tabsG L_ref03_Twin) ref01_Same_A (loopN Tryz.prog 33 0) k)) := by
  intro st m k
  obtain ⟨a29, a30, r2_0, r2_1, r2_2, r3_0, r3_1, r3_2, ⟨⟩⟩ := st
  kernel_rfl
theorem ref01_Same_o0 : OrcOk Tryz.prog (tabsG L_ref03_Twin) ref01_Same_A (loopN Tryz.prog 33 0) := genOrc_ok (h := ref01_Same_h0) (xs := ref01_Same_x0) (F := ref01_Same_l0) (bd := ref01_Same_b0) (fun _ => FUEL) (by kernel_rfl) (fun _ _ h => h) ref01_Same_s0
noncomputable def ref01_Same_t (p0 : (Bool × List (Int × Int) × Int)) (p1 : (Bool × List (Int × Int) × Int)) : FT (Bool) := (.br (!p0.fst == p1.fst) (.ret false) (.br (p0.snd.snd != p1.snd.snd) (.ret false) (.br (Int.ofNat (List.length p0.snd.fst) != Int.ofNat (List.length p1.snd.fst)) (.ret false) (.opt (ref01_Same_l0 (Int.ofNat (List.length p0.snd.fst), 0, p0.fst, p0.snd.fst, p0.snd.snd, p1.fst, p1.snd.fst, p1.snd.snd, ())) fun x4 => (.alt x4 (fun x5 => (.ret x5.fst)) (fun _ => (.ret true)))))))
noncomputable def ref01_Same (p0 : (Bool × List (Int × Int) × Int)) (p1 : (Bool × List (Int × Int) × Int)) : Option (Bool) := (ref01_Same_t p0 p1).fin
noncomputable def ref01_Same_sp : CSpec := genSpec [shE, shE] [.bool] (fun x => ref01_Same x.1 x.2)
theorem ref01_Same_ok : EnterOk Tryz.prog 33 ∧ CSpecOk Tryz.prog cfgG 33 ref01_Same_sp := ⟨enter Tryz.func33 (by kernel_rfl) (by kernel_rfl), genSpec_ok (A := ref01_Same_A) (sa := [shE, shE]) (sr := [.bool]) (bd := fun (x : (ArgT [shE, shE])) => ref01_Same_t x.1 x.2) (fitG L_ref03_Twin) s_ref03_Twin mixed (by kernel_rfl) (loopsAll (l := [loopN Tryz.prog 33 0]) (by kernel_rfl) ⟨ref01_Same_o0, trivial⟩) (fun _ => rfl) (by
  intro x
  obtain ⟨p0, p1⟩ := x
  kernel_rfl)⟩
noncomputable def L_ref01_Same : List (Nat × CSpec) := (33, ref01_Same_sp) :: L_ref03_Twin
theorem s_ref01_Same : SpecsOk Tryz.prog (tabsG L_ref01_Same) := oneSpecGT s_ref03_Twin ref01_Same_ok
noncomputable def law01_Of_h0 : EP := ⟨[(0, .d .err), (2, .ref 2 0), (3, .ref 3 0), (10, .d (.int .i64))], [(2, .box 33 [.d .bool, .nsl, .d (.int .i64)]), (3, .box 33 [.d .bool, .own 9525, .d (.int .i64)]), (9525, .row 103 shPlace)]⟩
noncomputable def law01_Of_x0 : List (Exit × EP) := [(Exit.exit 0, ⟨[(0, .d .err), (2, .ref 2 0), (3, .ref 3 0)], [(2, .box 33 [.d .bool, .nsl, .d (.int .i64)]), (3, .box 33 [.d .bool, .own 9525, .d (.int .i64)]), (9525, .row 103 shPlace)]⟩)]
abbrev law01_Of_S0 : Type := Err × Int × Bool × Int × Bool × Int × (List (Int × Int)) × Unit
abbrev law01_Of_Q0 : Type := (Err × Bool × Int × Bool × Int × (List (Int × Int)) × Unit)
noncomputable def law01_Of_b0 : law01_Of_S0 → LT law01_Of_S0 law01_Of_Q0 := fun st => match st with
  | (a0, a10, r2_0, r2_1, r3_0, r3_1, r9525, ()) => (.br (decide (a10 < 200)) (.br ((errHead a0).isSome) (.opt (errHead a0) fun x6 => (.br (appLim 16 r9525.length 1) (.next (x6.snd, (IntKind.i64.wrap (a10 + 1)), r2_0, r2_1, r3_0, r3_1, (r9525 ++ [x6.fst]), ())) .fail)) (.ret (a0, r2_0, r2_1, r3_0, r3_1, r9525, ()))) (.ret (a0, r2_0, r2_1, r3_0, r3_1, r9525, ())))
noncomputable def law01_Of_l0 (st : law01_Of_S0) : Option law01_Of_Q0 := LT.loop law01_Of_b0 FUEL st
noncomputable def law01_Of_A : Anns := { l := [(5, [.keep [0, 2, 3, 10] [2, 3, 27], .ownB 3 1 9525 103, .keep [0, 2, 3, 10] [2, 3, 9525]]), (100005, [.keep [0, 2, 3] [2, 3, 9525]])], orc := [(5, genOrc law01_Of_h0 law01_Of_x0 law01_Of_l0)], N := 1000, rng := [], ro := [], outs := none, nils := [] }
theorem law01_Of_s0 : ∀ (st : law01_Of_S0) m k, loopX law01_Of_A (loopN Tryz.prog 34 0) (prep (tabsG L_ref01_Same) (annOf law01_Of_A (loopN Tryz.prog 34 0))) (evalC Tryz.prog (tabsG L_ref01_Same) law01_Of_A (loopN Tryz.prog 34 0)) (m + 1) (law01_Of_h0.enc st) (outK (tabsG L_ref01_Same) law01_Of_A (loopN Tryz.prog 34 0) k) = (law01_Of_b0 st).run (exK law01_Of_x0 k) (fun st' => loopX law01_Of_A (loopN Tryz.prog 34 0) (prep (tabsG L_ref01_Same) (annOf law01_Of_A (loopN Tryz.prog 34 0))) (evalC Tryz.prog (tabsG L_ref01_Same) law01_Of_A (loopN Tryz.prog 34 0)) m (law01_Of_h0.enc st') (outK (tabsG L_ref01_Same) law01_Of_A (loopN Tryz.prog 34 0) k)) := by
  intro st m k
  obtain ⟨a0, a10, r2_0, r2_1, r3_0, r3_1, r9525, ⟨⟩⟩ := st
  kernel_rfl
theorem law01_Of_o0 : OrcOk Tryz.prog (tabsG L_ref01_Same) law01_Of_A (loopN Tryz.prog 34 0) := genOrc_ok (h := law01_Of_h0) (xs := law01_Of_x0) (F := law01_Of_l0) (bd := law01_Of_b0) (fun _ => FUEL) (by kernel_rfl) (fun _ _ h => h) law01_Of_s0
noncomputable def law01_Of_t (p0 : Err) : FT ((Bool × List (Int × Int) × Int)) := (.br (Option.isNone p0) (.ret ((false, [], 0))) (.opt (law01_Of_l0 (p0, 0, false, 0, true, 0, [], ())) fun x9 => (.br (Option.isSome x9.fst) (.opt x9.fst fun x10 => (.ret ((x9.snd.snd.snd.fst, x9.snd.snd.snd.snd.snd.fst, x10.snd)))) (.ret ((x9.snd.snd.snd.fst, x9.snd.snd.snd.snd.snd.fst, x9.snd.snd.snd.snd.fst))))))
noncomputable def law01_Of (p0 : Err) : Option ((Bool × List (Int × Int) × Int)) := (law01_Of_t p0).fin
noncomputable def law01_Of_sp : CSpec := genSpec [.err] [shE] (fun x => law01_Of x)
theorem law01_Of_ok : EnterOk Tryz.prog 34 ∧ CSpecOk Tryz.prog cfgG 34 law01_Of_sp := ⟨enter Tryz.func34 (by kernel_rfl) (by kernel_rfl), genSpec_ok (A := law01_Of_A) (sa := [.err]) (sr := [shE]) (bd := fun (x : (ArgT [.err])) => law01_Of_t x) (fitG L_ref01_Same) s_ref01_Same mixed (by kernel_rfl) (loopsAll (l := [loopN Tryz.prog 34 0]) (by kernel_rfl) ⟨law01_Of_o0, trivial⟩) (fun _ => rfl) (by
  intro x
  skip
  kernel_rfl)⟩
noncomputable def L_law01_Of : List (Nat × CSpec) := (34, law01_Of_sp) :: L_ref01_Same
theorem s_law01_Of : SpecsOk Tryz.prog (tabsG L_law01_Of) := oneSpecGT s_ref01_Same law01_Of_ok
noncomputable def law03_fails_A : Anns := { l := [], orc := [], N := 1000, rng := [], ro := [], outs := none, nils := [] }
noncomputable def law03_fails_t (p0 : Err) (p1 : (Bool × List (Int × Int) × Int)) : FT (Bool) := (.opt (law01_Of p0) fun x3 => (.opt (ref01_Same x3 p1) fun x4 => (.ret x4)))
noncomputable def law03_fails (p0 : Err) (p1 : (Bool × List (Int × Int) × Int)) : Option (Bool) := (law03_fails_t p0 p1).fin
noncomputable def law03_fails_sp : CSpec := genSpec [.err, shE] [.bool] (fun x => law03_fails x.1 x.2)
theorem law03_fails_ok : EnterOk Tryz.prog 14 ∧ CSpecOk Tryz.prog cfgG 14 law03_fails_sp := ⟨enter Tryz.func14 (by kernel_rfl) (by kernel_rfl), genSpec_ok (A := law03_fails_A) (sa := [.err, shE]) (sr := [.bool]) (bd := fun (x : (ArgT [.err, shE])) => law03_fails_t x.1 x.2) (fitG L_law01_Of) s_law01_Of mixed (by kernel_rfl) (loopsAll (l := []) (by kernel_rfl) trivial) (fun _ => rfl) (by
  intro x
  obtain ⟨p0, p1⟩ := x
  kernel_rfl)⟩
noncomputable def L_law03_fails : List (Nat × CSpec) := (14, law03_fails_sp) :: L_law01_Of
theorem s_law03_fails : SpecsOk Tryz.prog (tabsG L_law03_fails) := oneSpecGT s_law01_Of law03_fails_ok
noncomputable def ref03_Same_h0 : EP := ⟨[(0, .d (.sl shAttr)), (1, .d (.sl shAttr)), (12, .d (.int .i64)), (13, .d (.int .i64))], []⟩
noncomputable def ref03_Same_x0 : List (Exit × EP) := [(Exit.ret, ⟨[(4, .d .bool)], []⟩), (Exit.exit 0, ⟨[], []⟩)]
abbrev ref03_Same_S0 : Type := (List (ByteArray × V)) × (List (ByteArray × V)) × Int × Int × Unit
abbrev ref03_Same_Q0 : Type := (Bool × Unit) ⊕ (Unit)
noncomputable def ref03_Same_b0 : ref03_Same_S0 → LT ref03_Same_S0 ref03_Same_Q0 := fun st => match st with
  | (a0, a1, a12, a13, ()) => (.br (decide (a13 < a12)) (.br (decide (0 ≤ a13)) (.br (decide (a13 < Int.ofNat a0.length)) (.br (decide (0 ≤ a13)) (.br (decide (a13 < Int.ofNat a1.length)) (.br (!eqB shAttr (getI a0 a13 (ByteArray.mk #[], 0, 0, ByteArray.mk #[], false)) (getI a1 a13 (ByteArray.mk #[], 0, 0, ByteArray.mk #[], false))) (.ret (.inl (false, ()))) (.next (a0, a1, a12, (IntKind.i64.wrap (a13 + 1)), ()))) .fail) .fail) .fail) .fail) (.ret (.inr ())))
noncomputable def ref03_Same_l0 (st : ref03_Same_S0) : Option ref03_Same_Q0 := LT.loop ref03_Same_b0 FUEL st
noncomputable def ref03_Same_A : Anns := { l := [(4, [.keep [0, 1, 12, 13] []]), (100004, [.keep [4] []])], orc := [(4, genOrc ref03_Same_h0 ref03_Same_x0 ref03_Same_l0)], N := 1000, rng := [], ro := [], outs := none, nils := [] }
theorem ref03_Same_s0 : ∀ (st : ref03_Same_S0) m k, loopX ref03_Same_A (loopN Tryz.prog 21 0) (prep (tabsG L_law03_fails) (annOf ref03_Same_A (loopN Tryz.prog 21 0))) (evalC Tryz.prog (tabsG L_law03_fails) ref03_Same_A (loopN Tryz.prog 21 0)) (m + 1) (ref03_Same_h0.enc st) (outK (tabsG L_law03_fails) ref03_Same_A (loopN Tryz.prog 21 0) k) = (ref03_Same_b0 st).run (exK ref03_Same_x0 k) (fun st' => loopX ref03_Same_A (loopN Tryz.prog 21 0) (prep (tabsG L_law03_fails) (annOf ref03_Same_A (loopN Tryz.prog 21 0))) (evalC Tryz.prog (tabsG L_law03_fails) ref03_Same_A (loopN Tryz.prog 21 0)) m (ref03_Same_h0.enc st') (outK (tabsG L_law03_fails) ref03_Same_A (loopN Tryz.prog 21 0) k)) := by
  intro st m k
  obtain ⟨a0, a1, a12, a13, ⟨⟩⟩ := st
  kernel_rfl
theorem ref03_Same_o0 : OrcOk Tryz.prog (tabsG L_law03_fails) ref03_Same_A (loopN Tryz.prog 21 0) := genOrc_ok (h := ref03_Same_h0) (xs := ref03_Same_x0) (F := ref03_Same_l0) (bd := ref03_Same_b0) (fun _ => FUEL) (by kernel_rfl) (fun _ _ h => h) ref03_Same_s0
noncomputable def ref03_Same_t (p0 : (List (ByteArray × V))) (p1 : (List (ByteArray × V))) : FT (Bool) := (.br (Int.ofNat p0.length != Int.ofNat p1.length) (.ret false) (.opt (ref03_Same_l0 (p0, p1, Int.ofNat p0.length, 0, ())) fun x4 => (.alt x4 (fun x5 => (.ret x5.fst)) (fun _ => (.ret true)))))
noncomputable def ref03_Same (p0 : (List (ByteArray × V))) (p1 : (List (ByteArray × V))) : Option (Bool) := (ref03_Same_t p0 p1).fin
noncomputable def ref03_Same_sp : CSpec := genSpec [(.sl shAttr), (.sl shAttr)] [.bool] (fun x => ref03_Same x.1 x.2)
theorem ref03_Same_ok : EnterOk Tryz.prog 21 ∧ CSpecOk Tryz.prog cfgG 21 ref03_Same_sp := ⟨enter Tryz.func21 (by kernel_rfl) (by kernel_rfl), genSpec_ok (A := ref03_Same_A) (sa := [(.sl shAttr), (.sl shAttr)]) (sr := [.bool]) (bd := fun (x : (ArgT [(.sl shAttr), (.sl shAttr)])) => ref03_Same_t x.1 x.2) (fitG L_law03_fails) s_law03_fails mixed (by kernel_rfl) (loopsAll (l := [loopN Tryz.prog 21 0]) (by kernel_rfl) ⟨ref03_Same_o0, trivial⟩) (fun _ => rfl) (by
  intro x
  obtain ⟨p0, p1⟩ := x
  kernel_rfl)⟩
noncomputable def L_ref03_Same : List (Nat × CSpec) := (21, ref03_Same_sp) :: L_law03_fails
theorem s_ref03_Same : SpecsOk Tryz.prog (tabsG L_ref03_Same) := oneSpecGT s_law03_fails ref03_Same_ok
noncomputable def fault_First_h0 : EP := ⟨[(5, .d (.sl .err)), (6, .d (.int .i64)), (7, .d (.int .i64))], []⟩
noncomputable def fault_First_x0 : List (Exit × EP) := [(Exit.ret, ⟨[(2, .d .err)], []⟩), (Exit.exit 0, ⟨[], []⟩)]
abbrev fault_First_S0 : Type := (List Err) × Int × Int × Unit
abbrev fault_First_Q0 : Type := (Err × Unit) ⊕ (Unit)
noncomputable def fault_First_b0 : fault_First_S0 → LT fault_First_S0 fault_First_Q0 := fun st => match st with
  | (a5, a6, a7, ()) => (.br (decide (a7 < a6)) (.br (decide (0 ≤ a7)) (.br (decide (a7 < Int.ofNat a5.length)) (.br (!Option.isNone (getI a5 a7 none)) (.ret (.inl ((getI a5 a7 none), ()))) (.next (a5, a6, (IntKind.i64.wrap (a7 + 1)), ()))) .fail) .fail) (.ret (.inr ())))
noncomputable def fault_First_l0 (st : fault_First_S0) : Option fault_First_Q0 := LT.loop fault_First_b0 FUEL st
noncomputable def fault_First_A : Anns := { l := [(2, [.keep [5, 6, 7] []]), (100002, [.keep [2] []])], orc := [(2, genOrc fault_First_h0 fault_First_x0 fault_First_l0)], N := 1000, rng := [], ro := [], outs := none, nils := [] }
theorem fault_First_s0 : ∀ (st : fault_First_S0) m k, loopX fault_First_A (loopN Tryz.prog 50 0) (prep (tabsG L_ref03_Same) (annOf fault_First_A (loopN Tryz.prog 50 0))) (evalC Tryz.prog (tabsG L_ref03_Same) fault_First_A (loopN Tryz.prog 50 0)) (m + 1) (fault_First_h0.enc st) (outK (tabsG L_ref03_Same) fault_First_A (loopN Tryz.prog 50 0) k) = (fault_First_b0 st).run (exK fault_First_x0 k) (fun st' => loopX fault_First_A (loopN Tryz.prog 50 0) (prep (tabsG L_ref03_Same) (annOf fault_First_A (loopN Tryz.prog 50 0))) (evalC Tryz.prog (tabsG L_ref03_Same) fault_First_A (loopN Tryz.prog 50 0)) m (fault_First_h0.enc st') (outK (tabsG L_ref03_Same) fault_First_A (loopN Tryz.prog 50 0) k)) := by
  intro st m k
  obtain ⟨a5, a6, a7, ⟨⟩⟩ := st
  kernel_rfl
theorem fault_First_o0 : OrcOk Tryz.prog (tabsG L_ref03_Same) fault_First_A (loopN Tryz.prog 50 0) := genOrc_ok (h := fault_First_h0) (xs := fault_First_x0) (F := fault_First_l0) (bd := fault_First_b0) (fun _ => FUEL) (by kernel_rfl) (fun _ _ h => h) fault_First_s0
noncomputable def fault_First_t (p0 : (List Err)) : FT (Err) := (.opt (fault_First_l0 (p0, Int.ofNat p0.length, 0, ())) fun x4 => (.alt x4 (fun x5 => (.ret x5.fst)) (fun _ => (.ret none))))
noncomputable def fault_First (p0 : (List Err)) : Option (Err) := (fault_First_t p0).fin
noncomputable def fault_First_sp : CSpec := genSpec [(.sl .err)] [.err] (fun x => fault_First x)
theorem fault_First_ok : EnterOk Tryz.prog 50 ∧ CSpecOk Tryz.prog cfgG 50 fault_First_sp := ⟨enter Tryz.func50 (by kernel_rfl) (by kernel_rfl), genSpec_ok (A := fault_First_A) (sa := [(.sl .err)]) (sr := [.err]) (bd := fun (x : (ArgT [(.sl .err)])) => fault_First_t x) (fitG L_ref03_Same) s_ref03_Same mixed (by kernel_rfl) (loopsAll (l := [loopN Tryz.prog 50 0]) (by kernel_rfl) ⟨fault_First_o0, trivial⟩) (fun _ => rfl) (by
  intro x
  skip
  kernel_rfl)⟩
noncomputable def L_fault_First : List (Nat × CSpec) := (50, fault_First_sp) :: L_ref03_Same
theorem s_fault_First : SpecsOk Tryz.prog (tabsG L_fault_First) := oneSpecGT s_ref03_Same fault_First_ok
noncomputable def slices_Clone_A : Anns := { l := [], orc := [], N := 1000, rng := [], ro := [], outs := none, nils := [1] }
noncomputable def slices_Clone_t (p0 : (List (ByteArray × V))) : FT ((List (ByteArray × V))) := (.rel (anyW (bif p0.isEmpty then [true, false] else [false])) (anyW_good (bif p0.isEmpty then [true, false] else [false])) fun x2 => (.br x2 (.ret ([])) (.br (appLim 56 0 p0.length) (.ret p0) .fail)))
noncomputable def slices_Clone (p0 : (List (ByteArray × V))) : Option ((List (ByteArray × V))) := (slices_Clone_t p0).fin
noncomputable def slices_Clone_sp : CSpec := genSpec [(.sl shAttr)] [(.sl shAttr)] (fun x => slices_Clone x)
theorem slices_Clone_ok : EnterOk Tryz.prog 53 ∧ CSpecOk Tryz.prog cfgG 53 slices_Clone_sp := ⟨enter Tryz.func53 (by kernel_rfl) (by kernel_rfl), genSpec_ok (A := slices_Clone_A) (sa := [(.sl shAttr)]) (sr := [(.sl shAttr)]) (bd := fun (x : (ArgT [(.sl shAttr)])) => slices_Clone_t x) (fitG L_fault_First) s_fault_First mixed (by kernel_rfl) (loopsAll (l := []) (by kernel_rfl) trivial) (fun _ => rfl) (by
  intro x
  skip
  kernel_rfl)⟩
noncomputable def L_slices_Clone : List (Nat × CSpec) := (53, slices_Clone_sp) :: L_fault_First
theorem s_slices_Clone : SpecsOk Tryz.prog (tabsG L_slices_Clone) := oneSpecGT s_fault_First slices_Clone_ok
noncomputable def ref03_Find_h0 : EP := ⟨[(1, .d .str), (7, .d (.sl shAttr)), (8, .d (.int .i64)), (9, .d (.int .i64))], []⟩
noncomputable def ref03_Find_x0 : List (Exit × EP) := [(Exit.ret, ⟨[(4, .d (.int .i64))], []⟩), (Exit.exit 0, ⟨[], []⟩)]
abbrev ref03_Find_S0 : Type := ByteArray × (List (ByteArray × V)) × Int × Int × Unit
abbrev ref03_Find_Q0 : Type := (Int × Unit) ⊕ (Unit)
noncomputable def ref03_Find_b0 : ref03_Find_S0 → LT ref03_Find_S0 ref03_Find_Q0 := fun st => match st with
  | (a1, a7, a8, a9, ()) => (.br (decide (a9 < a8)) (.br (decide (0 ≤ a9)) (.br (decide (a9 < Int.ofNat a7.length)) (.br (ByteArray.toList (getI a7 a9 (ByteArray.mk #[], 0, 0, ByteArray.mk #[], false)).fst == a1.toList) (.ret (.inl (a9, ()))) (.next (a1, a7, a8, (IntKind.i64.wrap (a9 + 1)), ()))) .fail) .fail) (.ret (.inr ())))
noncomputable def ref03_Find_l0 (st : ref03_Find_S0) : Option ref03_Find_Q0 := LT.loop ref03_Find_b0 FUEL st
noncomputable def ref03_Find_A : Anns := { l := [(2, [.keep [1, 7, 8, 9] []]), (100002, [.keep [4] []])], orc := [(2, genOrc ref03_Find_h0 ref03_Find_x0 ref03_Find_l0)], N := 1000, rng := [], ro := [], outs := none, nils := [] }
theorem ref03_Find_s0 : ∀ (st : ref03_Find_S0) m k, loopX ref03_Find_A (loopN Tryz.prog 56 0) (prep (tabsG L_slices_Clone) (annOf ref03_Find_A (loopN Tryz.prog 56 0))) (evalC Tryz.prog (tabsG L_slices_Clone) ref03_Find_A (loopN Tryz.prog 56 0)) (m + 1) (ref03_Find_h0.enc st) (outK (tabsG L_slices_Clone) ref03_Find_A (loopN Tryz.prog 56 0) k) = (ref03_Find_b0 st).run (exK ref03_Find_x0 k) (fun st' => loopX ref03_Find_A (loopN Tryz.prog 56 0) (prep (tabsG L_slices_Clone) (annOf ref03_Find_A (loopN Tryz.prog 56 0))) (evalC Tryz.prog (tabsG L_slices_Clone) ref03_Find_A (loopN Tryz.prog 56 0)) m (ref03_Find_h0.enc st') (outK (tabsG L_slices_Clone) ref03_Find_A (loopN Tryz.prog 56 0) k)) := by
  intro st m k
  obtain ⟨a1, a7, a8, a9, ⟨⟩⟩ := st
  kernel_rfl
theorem ref03_Find_o0 : OrcOk Tryz.prog (tabsG L_slices_Clone) ref03_Find_A (loopN Tryz.prog 56 0) := genOrc_ok (h := ref03_Find_h0) (xs := ref03_Find_x0) (F := ref03_Find_l0) (bd := ref03_Find_b0) (fun _ => FUEL) (by kernel_rfl) (fun _ _ h => h) ref03_Find_s0
noncomputable def ref03_Find_t (p0 : (List (ByteArray × V))) (p1 : ByteArray) : FT (Int) := (.opt (ref03_Find_l0 (p1, p0, Int.ofNat p0.length, 0, ())) fun x4 => (.alt x4 (fun x5 => (.ret x5.fst)) (fun _ => (.ret (Int.negSucc 0)))))
noncomputable def ref03_Find (p0 : (List (ByteArray × V))) (p1 : ByteArray) : Option (Int) := (ref03_Find_t p0 p1).fin
noncomputable def ref03_Find_sp : CSpec := genSpec [(.sl shAttr), .str] [(.int .i64)] (fun x => ref03_Find x.1 x.2)
theorem ref03_Find_ok : EnterOk Tryz.prog 56 ∧ CSpecOk Tryz.prog cfgG 56 ref03_Find_sp := ⟨enter Tryz.func56 (by kernel_rfl) (by kernel_rfl), genSpec_ok (A := ref03_Find_A) (sa := [(.sl shAttr), .str]) (sr := [(.int .i64)]) (bd := fun (x : (ArgT [(.sl shAttr), .str])) => ref03_Find_t x.1 x.2) (fitG L_slices_Clone) s_slices_Clone mixed (by kernel_rfl) (loopsAll (l := [loopN Tryz.prog 56 0]) (by kernel_rfl) ⟨ref03_Find_o0, trivial⟩) (fun _ => rfl) (by
  intro x
  obtain ⟨p0, p1⟩ := x
  kernel_rfl)⟩
noncomputable def L_ref03_Find : List (Nat × CSpec) := (56, ref03_Find_sp) :: L_slices_Clone
theorem s_ref03_Find : SpecsOk Tryz.prog (tabsG L_ref03_Find) := oneSpecGT s_slices_Clone ref03_Find_ok
noncomputable def ref01_N_A : Anns := { l := [], orc := [], N := 1000, rng := [], ro := [], outs := none, nils := [] }
noncomputable def ref01_N_t (p0 : Int) : FT ((Bool × List (Int × Int) × Int)) := (.ret ((true, [], p0)))
noncomputable def ref01_N (p0 : Int) : Option ((Bool × List (Int × Int) × Int)) := (ref01_N_t p0).fin
noncomputable def ref01_N_sp : CSpec := genSpec [(.int .i64)] [shE] (fun x => ref01_N x)
theorem ref01_N_ok : EnterOk Tryz.prog 28 ∧ CSpecOk Tryz.prog cfgG 28 ref01_N_sp := ⟨enter Tryz.func28 (by kernel_rfl) (by kernel_rfl), genSpec_ok (A := ref01_N_A) (sa := [(.int .i64)]) (sr := [shE]) (bd := fun (x : (ArgT [(.int .i64)])) => ref01_N_t x) (fitG L_ref03_Find) s_ref03_Find mixed (by kernel_rfl) (loopsAll (l := []) (by kernel_rfl) trivial) (fun _ => rfl) (by
  intro x
  skip
  kernel_rfl)⟩
noncomputable def L_ref01_N : List (Nat × CSpec) := (28, ref01_N_sp) :: L_ref03_Find
theorem s_ref01_N : SpecsOk Tryz.prog (tabsG L_ref01_N) := oneSpecGT s_ref03_Find ref01_N_ok
noncomputable def ref03_letter_A : Anns := { l := [], orc := [], N := 1000, rng := [], ro := [], outs := none, nils := [] }
noncomputable def ref03_letter_t (p0 : Int) : FT (Bool) := (.br (decide (p0 ≥ 97)) (.br (decide (p0 ≤ 122)) (.ret true) (.br (decide (p0 ≥ 48)) (.br (decide (p0 ≤ 57)) (.ret true) (.ret (p0 == 95))) (.ret (p0 == 95)))) (.br (decide (p0 ≥ 48)) (.br (decide (p0 ≤ 57)) (.ret true) (.ret (p0 == 95))) (.ret (p0 == 95))))
noncomputable def ref03_letter (p0 : Int) : Option (Bool) := (ref03_letter_t p0).fin
noncomputable def ref03_letter_sp : CSpec := genSpec [(.int .u8)] [.bool] (fun x => ref03_letter x)
theorem ref03_letter_ok : EnterOk Tryz.prog 40 ∧ CSpecOk Tryz.prog cfgG 40 ref03_letter_sp := ⟨enter Tryz.func40 (by kernel_rfl) (by kernel_rfl), genSpec_ok (A := ref03_letter_A) (sa := [(.int .u8)]) (sr := [.bool]) (bd := fun (x : (ArgT [(.int .u8)])) => ref03_letter_t x) (fitG L_ref01_N) s_ref01_N mixed (by kernel_rfl) (loopsAll (l := []) (by kernel_rfl) trivial) (fun _ => rfl) (by
  intro x
  skip
  kernel_rfl)⟩
noncomputable def L_ref03_letter : List (Nat × CSpec) := (40, ref03_letter_sp) :: L_ref01_N
theorem s_ref03_letter : SpecsOk Tryz.prog (tabsG L_ref03_letter) := oneSpecGT s_ref01_N ref03_letter_ok
noncomputable def ref03_Name_h0 : EP := ⟨[(0, .d .str), (3, .d (.int .i64))], []⟩
noncomputable def ref03_Name_x0 : List (Exit × EP) := [(Exit.ret, ⟨[(2, .d .bool)], []⟩), (Exit.exit 0, ⟨[], []⟩)]
abbrev ref03_Name_S0 : Type := ByteArray × Int × Unit
abbrev ref03_Name_Q0 : Type := (Bool × Unit) ⊕ (Unit)
noncomputable def ref03_Name_b0 : ref03_Name_S0 → LT ref03_Name_S0 ref03_Name_Q0 := fun st => match st with
  | (a0, a3, ()) => (.br (decide (a3 < Int.ofNat a0.size)) (.br (decide (0 ≤ a3)) (.br (decide (a3 < Int.ofNat a0.size)) (.opt (ref03_letter (Int.ofNat (a0.data.toList.getD a3.toNat 0).toNat)) fun x4 => (.br (!x4) (.ret (.inl (false, ()))) (.next (a0, (IntKind.i64.wrap (a3 + 1)), ())))) .fail) .fail) (.ret (.inr ())))
noncomputable def ref03_Name_l0 (st : ref03_Name_S0) : Option ref03_Name_Q0 := LT.loop ref03_Name_b0 FUEL st
noncomputable def ref03_Name_A : Anns := { l := [(4, [.keep [0, 3] []]), (100004, [.keep [2] []])], orc := [(4, genOrc ref03_Name_h0 ref03_Name_x0 ref03_Name_l0)], N := 1000, rng := [], ro := [], outs := none, nils := [] }
theorem ref03_Name_s0 : ∀ (st : ref03_Name_S0) m k, loopX ref03_Name_A (loopN Tryz.prog 18 0) (prep (tabsG L_ref03_letter) (annOf ref03_Name_A (loopN Tryz.prog 18 0))) (evalC Tryz.prog (tabsG L_ref03_letter) ref03_Name_A (loopN Tryz.prog 18 0)) (m + 1) (ref03_Name_h0.enc st) (outK (tabsG L_ref03_letter) ref03_Name_A (loopN Tryz.prog 18 0) k) = (ref03_Name_b0 st).run (exK ref03_Name_x0 k) (fun st' => loopX ref03_Name_A (loopN Tryz.prog 18 0) (prep (tabsG L_ref03_letter) (annOf ref03_Name_A (loopN Tryz.prog 18 0))) (evalC Tryz.prog (tabsG L_ref03_letter) ref03_Name_A (loopN Tryz.prog 18 0)) m (ref03_Name_h0.enc st') (outK (tabsG L_ref03_letter) ref03_Name_A (loopN Tryz.prog 18 0) k)) := by
  intro st m k
  obtain ⟨a0, a3, ⟨⟩⟩ := st
  kernel_rfl
theorem ref03_Name_o0 : OrcOk Tryz.prog (tabsG L_ref03_letter) ref03_Name_A (loopN Tryz.prog 18 0) := genOrc_ok (h := ref03_Name_h0) (xs := ref03_Name_x0) (F := ref03_Name_l0) (bd := ref03_Name_b0) (fun _ => FUEL) (by kernel_rfl) (fun _ _ h => h) ref03_Name_s0
noncomputable def ref03_Name_t (p0 : ByteArray) : FT (Bool) := (.br (decide (Int.ofNat p0.size < 1)) (.ret false) (.br (decide (Int.ofNat p0.size > 16)) (.ret false) (.br (decide (0 < Int.ofNat p0.size)) (.br (decide (Int.ofNat (p0.data.toList.getD (Int.toNat 0) 0).toNat < 97)) (.ret false) (.br (decide (0 < Int.ofNat p0.size)) (.br (decide (Int.ofNat (p0.data.toList.getD (Int.toNat 0) 0).toNat > 122)) (.ret false) (.opt (ref03_Name_l0 (p0, 0, ())) fun x8 => (.alt x8 (fun x9 => (.ret x9.fst)) (fun _ => (.ret true))))) .fail)) .fail)))
noncomputable def ref03_Name (p0 : ByteArray) : Option (Bool) := (ref03_Name_t p0).fin
noncomputable def ref03_Name_sp : CSpec := genSpec [.str] [.bool] (fun x => ref03_Name x)
theorem ref03_Name_ok : EnterOk Tryz.prog 18 ∧ CSpecOk Tryz.prog cfgG 18 ref03_Name_sp := ⟨enter Tryz.func18 (by kernel_rfl) (by kernel_rfl), genSpec_ok (A := ref03_Name_A) (sa := [.str]) (sr := [.bool]) (bd := fun (x : (ArgT [.str])) => ref03_Name_t x) (fitG L_ref03_letter) s_ref03_letter mixed (by kernel_rfl) (loopsAll (l := [loopN Tryz.prog 18 0]) (by kernel_rfl) ⟨ref03_Name_o0, trivial⟩) (fun _ => rfl) (by
  intro x
  skip
  kernel_rfl)⟩
noncomputable def L_ref03_Name : List (Nat × CSpec) := (18, ref03_Name_sp) :: L_ref03_letter
theorem s_ref03_Name : SpecsOk Tryz.prog (tabsG L_ref03_Name) := oneSpecGT s_ref03_letter ref03_Name_ok
noncomputable def ref01_At_A : Anns := { l := [], orc := [], N := 1000, rng := [], ro := [], outs := none, nils := [] }
noncomputable def ref01_At_t (p0 : Int) (p1 : Int) (p2 : (Bool × List (Int × Int) × Int)) : FT ((Bool × List (Int × Int) × Int)) := (.br (!p2.fst) (.ret p2) (.br (appLim 16 1 (List.length p2.snd.fst)) (.ret ((true, (p0, p1) :: p2.snd.fst, p2.snd.snd))) .fail))
noncomputable def ref01_At (p0 : Int) (p1 : Int) (p2 : (Bool × List (Int × Int) × Int)) : Option ((Bool × List (Int × Int) × Int)) := (ref01_At_t p0 p1 p2).fin
noncomputable def ref01_At_sp : CSpec := genSpec [(.int .i64), (.int .i64), shE] [shE] (fun x => ref01_At x.1 x.2.1 x.2.2)
theorem ref01_At_ok : EnterOk Tryz.prog 37 ∧ CSpecOk Tryz.prog cfgG 37 ref01_At_sp := ⟨enter Tryz.func37 (by kernel_rfl) (by kernel_rfl), genSpec_ok (A := ref01_At_A) (sa := [(.int .i64), (.int .i64), shE]) (sr := [shE]) (bd := fun (x : (ArgT [(.int .i64), (.int .i64), shE])) => ref01_At_t x.1 x.2.1 x.2.2) (fitG L_ref03_Name) s_ref03_Name mixed (by kernel_rfl) (loopsAll (l := []) (by kernel_rfl) trivial) (fun _ => rfl) (by
  intro x
  obtain ⟨p0, p1, p2⟩ := x
  kernel_rfl)⟩
noncomputable def L_ref01_At : List (Nat × CSpec) := (37, ref01_At_sp) :: L_ref03_Name
theorem s_ref01_At : SpecsOk Tryz.prog (tabsG L_ref01_At) := oneSpecGT s_ref03_Name ref01_At_ok
noncomputable def ref02_Check_A : Anns := { l := [], orc := [], N := 1000, rng := [], ro := [], outs := none, nils := [] }
noncomputable def ref02_Check_t (p0 : V) : FT ((Bool × List (Int × Int) × Int)) := (.br (p0.fst == 1) (.br (!ByteArray.toList p0.snd.snd.fst == (ByteArray.mk #[]).toList) (.ret ((true, [], 3))) (.br p0.snd.snd.snd (.ret ((true, [], 3))) (.ret ((false, [], 0))))) (.br (p0.fst == 2) (.br (p0.snd.fst != 0) (.ret ((true, [], 3))) (.br p0.snd.snd.snd (.ret ((true, [], 3))) (.br (decide (Int.ofNat (ByteArray.size p0.snd.snd.fst) > 1000)) (.ret ((true, [], 2))) (.ret ((false, [], 0)))))) (.br (p0.fst == 3) (.br (!ByteArray.toList p0.snd.snd.fst == (ByteArray.mk #[]).toList) (.ret ((true, [], 3))) (.br (p0.snd.fst != 0) (.ret ((true, [], 3))) (.ret ((false, [], 0))))) (.ret ((true, [], 3))))))
noncomputable def ref02_Check (p0 : V) : Option ((Bool × List (Int × Int) × Int)) := (ref02_Check_t p0).fin
noncomputable def ref02_Check_sp : CSpec := genSpec [shVal] [shE] (fun x => ref02_Check x)
theorem ref02_Check_ok : EnterOk Tryz.prog 38 ∧ CSpecOk Tryz.prog cfgG 38 ref02_Check_sp := ⟨enter Tryz.func38 (by kernel_rfl) (by kernel_rfl), genSpec_ok (A := ref02_Check_A) (sa := [shVal]) (sr := [shE]) (bd := fun (x : (ArgT [shVal])) => ref02_Check_t x) (fitG L_ref01_At) s_ref01_At mixed (by kernel_rfl) (loopsAll (l := []) (by kernel_rfl) trivial) (fun _ => rfl) (by
  intro x
  skip
  kernel_rfl)⟩
noncomputable def L_ref02_Check : List (Nat × CSpec) := (38, ref02_Check_sp) :: L_ref01_At
theorem s_ref02_Check : SpecsOk Tryz.prog (tabsG L_ref02_Check) := oneSpecGT s_ref01_At ref02_Check_ok
noncomputable def ref03_Check_h0 : EP := ⟨[(0, .d (.sl shAttr)), (2, .ref 2 0), (10, .d (.sl shAttr)), (11, .d (.int .i64)), (12, .d (.int .i64))], [(2, .box 33 [.d .bool, .nsl, .d (.int .i64)])]⟩
noncomputable def ref03_Check_x0 : List (Exit × EP) := [(Exit.ret, ⟨[(2, .ref 2 0)], [(2, .box 33 [.d .bool, .d (.sl shPlace), .d (.int .i64)])]⟩), (Exit.exit 0, ⟨[(2, .ref 2 0)], [(2, .box 33 [.d .bool, .nsl, .d (.int .i64)])]⟩)]
abbrev ref03_Check_S0 : Type := (List (ByteArray × V)) × (List (ByteArray × V)) × Int × Int × Bool × Int × Unit
abbrev ref03_Check_Q0 : Type := (Bool × (List (Int × Int)) × Int × Unit) ⊕ (Bool × Int × Unit)
noncomputable def ref03_Check_b0 : ref03_Check_S0 → LT ref03_Check_S0 ref03_Check_Q0 := fun st => match st with
  | (a0, a10, a11, a12, r2_0, r2_1, ()) => (.br (decide (a12 < a11)) (.br (decide (0 ≤ a12)) (.br (decide (a12 < Int.ofNat a10.length)) (.opt (ref03_Name (getI a10 a12 (ByteArray.mk #[], 0, 0, ByteArray.mk #[], false)).fst) fun x16 => (.br (!x16) (.ret (.inl (true, ([(2, a12)]), 3, ()))) (.br (decide (a12 > 0)) (.br (decide (0 ≤ IntKind.i64.wrap (a12 - 1))) (.br (decide (IntKind.i64.wrap (a12 - 1) < Int.ofNat a0.length)) (.br (!Op.bytesLess (ByteArray.toList (getI a0 (IntKind.i64.wrap (a12 - 1)) (ByteArray.mk #[], 0, 0, ByteArray.mk #[], false)).fst) (ByteArray.toList (getI a10 a12 (ByteArray.mk #[], 0, 0, ByteArray.mk #[], false)).fst)) (.ret (.inl (true, ([(2, a12)]), 3, ()))) (.opt (ref02_Check (getI a10 a12 (ByteArray.mk #[], 0, 0, ByteArray.mk #[], false)).snd) fun x17 => (.br x17.fst (.opt (ref01_At 2 a12 x17) fun x18 => (.ret (.inl (x18.fst, x18.snd.fst, x18.snd.snd, ())))) (.next (a0, a10, a11, (IntKind.i64.wrap (a12 + 1)), r2_0, r2_1, ()))))) .fail) .fail) (.opt (ref02_Check (getI a10 a12 (ByteArray.mk #[], 0, 0, ByteArray.mk #[], false)).snd) fun x19 => (.br x19.fst (.opt (ref01_At 2 a12 x19) fun x20 => (.ret (.inl (x20.fst, x20.snd.fst, x20.snd.snd, ())))) (.next (a0, a10, a11, (IntKind.i64.wrap (a12 + 1)), r2_0, r2_1, ()))))))) .fail) .fail) (.ret (.inr (r2_0, r2_1, ()))))
noncomputable def ref03_Check_l0 (st : ref03_Check_S0) : Option ref03_Check_Q0 := LT.loop ref03_Check_b0 FUEL st
noncomputable def ref03_Check_A : Anns := { l := [(4, [.keep [0, 2, 10, 11, 12] [2]]), (100004, [.keep [2] [2]])], orc := [(4, genOrc ref03_Check_h0 ref03_Check_x0 ref03_Check_l0)], N := 1000, rng := [], ro := [], outs := none, nils := [] }
theorem ref03_Check_s0 : ∀ (st : ref03_Check_S0) m k, loopX ref03_Check_A (loopN Tryz.prog 16 0) (prep (tabsG L_ref02_Check) (annOf ref03_Check_A (loopN Tryz.prog 16 0))) (evalC Tryz.prog (tabsG L_ref02_Check) ref03_Check_A (loopN Tryz.prog 16 0)) (m + 1) (ref03_Check_h0.enc st) (outK (tabsG L_ref02_Check) ref03_Check_A (loopN Tryz.prog 16 0) k) = (ref03_Check_b0 st).run (exK ref03_Check_x0 k) (fun st' => loopX ref03_Check_A (loopN Tryz.prog 16 0) (prep (tabsG L_ref02_Check) (annOf ref03_Check_A (loopN Tryz.prog 16 0))) (evalC Tryz.prog (tabsG L_ref02_Check) ref03_Check_A (loopN Tryz.prog 16 0)) m (ref03_Check_h0.enc st') (outK (tabsG L_ref02_Check) ref03_Check_A (loopN Tryz.prog 16 0) k)) := by
  intro st m k
  obtain ⟨a0, a10, a11, a12, r2_0, r2_1, ⟨⟩⟩ := st
  kernel_rfl
theorem ref03_Check_o0 : OrcOk Tryz.prog (tabsG L_ref02_Check) ref03_Check_A (loopN Tryz.prog 16 0) := genOrc_ok (h := ref03_Check_h0) (xs := ref03_Check_x0) (F := ref03_Check_l0) (bd := ref03_Check_b0) (fun _ => FUEL) (by kernel_rfl) (fun _ _ h => h) ref03_Check_s0
noncomputable def ref03_Check_t (p0 : (List (ByteArray × V))) : FT ((Bool × List (Int × Int) × Int)) := (.br (decide (Int.ofNat p0.length > 16)) (.ret ((true, [], 2))) (.opt (ref03_Check_l0 (p0, p0, Int.ofNat p0.length, 0, false, 0, ())) fun x24 => (.alt x24 (fun x25 => (.ret ((x25.fst, x25.snd.fst, x25.snd.snd.fst)))) (fun _ => (.ret ((false, [], 0)))))))
noncomputable def ref03_Check (p0 : (List (ByteArray × V))) : Option ((Bool × List (Int × Int) × Int)) := (ref03_Check_t p0).fin
noncomputable def ref03_Check_sp : CSpec := genSpec [(.sl shAttr)] [shE] (fun x => ref03_Check x)
theorem ref03_Check_ok : EnterOk Tryz.prog 16 ∧ CSpecOk Tryz.prog cfgG 16 ref03_Check_sp := ⟨enter Tryz.func16 (by kernel_rfl) (by kernel_rfl), genSpec_ok (A := ref03_Check_A) (sa := [(.sl shAttr)]) (sr := [shE]) (bd := fun (x : (ArgT [(.sl shAttr)])) => ref03_Check_t x) (fitG L_ref02_Check) s_ref02_Check mixed (by kernel_rfl) (loopsAll (l := [loopN Tryz.prog 16 0]) (by kernel_rfl) ⟨ref03_Check_o0, trivial⟩) (fun _ => rfl) (by
  intro x
  skip
  kernel_rfl)⟩
noncomputable def L_ref03_Check : List (Nat × CSpec) := (16, ref03_Check_sp) :: L_ref02_Check
theorem s_ref03_Check : SpecsOk Tryz.prog (tabsG L_ref03_Check) := oneSpecGT s_ref02_Check ref03_Check_ok
noncomputable def ref03_begin_A : Anns := { l := [], orc := [], N := 1000, rng := [], ro := [], outs := none, nils := [] }
noncomputable def ref03_begin_t (p0 : (List (ByteArray × V))) (p1 : ByteArray) : FT ((Bool × List (Int × Int) × Int)) := (.opt (ref03_Check p0) fun x3 => (.br (!x3.fst) (.opt (ref03_Name p1) fun x4 => (.br (!x4) (.ret ((true, [], 3))) (.ret x3))) (.ret x3)))
noncomputable def ref03_begin (p0 : (List (ByteArray × V))) (p1 : ByteArray) : Option ((Bool × List (Int × Int) × Int)) := (ref03_begin_t p0 p1).fin
noncomputable def ref03_begin_sp : CSpec := genSpec [(.sl shAttr), .str] [shE] (fun x => ref03_begin x.1 x.2)
theorem ref03_begin_ok : EnterOk Tryz.prog 55 ∧ CSpecOk Tryz.prog cfgG 55 ref03_begin_sp := ⟨enter Tryz.func55 (by kernel_rfl) (by kernel_rfl), genSpec_ok (A := ref03_begin_A) (sa := [(.sl shAttr), .str]) (sr := [shE]) (bd := fun (x : (ArgT [(.sl shAttr), .str])) => ref03_begin_t x.1 x.2) (fitG L_ref03_Check) s_ref03_Check mixed (by kernel_rfl) (loopsAll (l := []) (by kernel_rfl) trivial) (fun _ => rfl) (by
  intro x
  obtain ⟨p0, p1⟩ := x
  kernel_rfl)⟩
noncomputable def L_ref03_begin : List (Nat × CSpec) := (55, ref03_begin_sp) :: L_ref03_Check
theorem s_ref03_begin : SpecsOk Tryz.prog (tabsG L_ref03_begin) := oneSpecGT s_ref03_Check ref03_begin_ok
noncomputable def ref03_DocGet_A : Anns := { l := [], orc := [], N := 1000, rng := [], ro := [], outs := none, nils := [] }
noncomputable def ref03_DocGet_t (p0 : (List (ByteArray × V))) (p1 : ByteArray) : FT (V × (Bool × List (Int × Int) × Int)) := (.opt (ref03_begin p0 p1) fun x3 => (.br x3.fst (.ret (((0, 0, ByteArray.mk #[], false), x3))) (.opt (ref03_Find p0 p1) fun x4 => (.br (decide (x4 < 0)) (.ret (((0, 0, ByteArray.mk #[], false), true, [], 10))) (.br (decide (0 ≤ x4)) (.br (decide (x4 < Int.ofNat p0.length)) (.ret (((getI p0 x4 (ByteArray.mk #[], 0, 0, ByteArray.mk #[], false)).snd, x3))) .fail) .fail)))))
noncomputable def ref03_DocGet (p0 : (List (ByteArray × V))) (p1 : ByteArray) : Option (V × (Bool × List (Int × Int) × Int)) := (ref03_DocGet_t p0 p1).fin
noncomputable def ref03_DocGet_sp : CSpec := genSpec [(.sl shAttr), .str] [shVal, shE] (fun x => ref03_DocGet x.1 x.2)
theorem ref03_DocGet_ok : EnterOk Tryz.prog 24 ∧ CSpecOk Tryz.prog cfgG 24 ref03_DocGet_sp := ⟨enter Tryz.func24 (by kernel_rfl) (by kernel_rfl), genSpec_ok (A := ref03_DocGet_A) (sa := [(.sl shAttr), .str]) (sr := [shVal, shE]) (bd := fun (x : (ArgT [(.sl shAttr), .str])) => ref03_DocGet_t x.1 x.2) (fitG L_ref03_begin) s_ref03_begin mixed (by kernel_rfl) (loopsAll (l := []) (by kernel_rfl) trivial) (fun _ => rfl) (by
  intro x
  obtain ⟨p0, p1⟩ := x
  kernel_rfl)⟩
noncomputable def L_ref03_DocGet : List (Nat × CSpec) := (24, ref03_DocGet_sp) :: L_ref03_begin
theorem s_ref03_DocGet : SpecsOk Tryz.prog (tabsG L_ref03_DocGet) := oneSpecGT s_ref03_begin ref03_DocGet_ok
noncomputable def ref01_First_h0 : EP := ⟨[(2, .ref 2 0), (5, .d (.sl shE)), (6, .d (.int .i64)), (7, .d (.int .i64))], [(2, .box 33 [.d .bool, .nsl, .d (.int .i64)])]⟩
noncomputable def ref01_First_x0 : List (Exit × EP) := [(Exit.ret, ⟨[(2, .ref 2 0)], [(2, .box 33 [.d .bool, .d (.sl shPlace), .d (.int .i64)])]⟩), (Exit.exit 0, ⟨[(2, .ref 2 0)], [(2, .box 33 [.d .bool, .nsl, .d (.int .i64)])]⟩)]
abbrev ref01_First_S0 : Type := (List (Bool × List (Int × Int) × Int)) × Int × Int × Bool × Int × Unit
abbrev ref01_First_Q0 : Type := (Bool × (List (Int × Int)) × Int × Unit) ⊕ (Bool × Int × Unit)
noncomputable def ref01_First_b0 : ref01_First_S0 → LT ref01_First_S0 ref01_First_Q0 := fun st => match st with
  | (a5, a6, a7, r2_0, r2_1, ()) => (.br (decide (a7 < a6)) (.br (decide (0 ≤ a7)) (.br (decide (a7 < Int.ofNat a5.length)) (.br ((getI a5 a7 (false, [], 0)).fst) (.ret (.inl (((getI a5 a7 (false, [], 0)).fst), ((getI a5 a7 (false, [], 0)).snd.fst), ((getI a5 a7 (false, [], 0)).snd.snd), ()))) (.next (a5, a6, (IntKind.i64.wrap (a7 + 1)), r2_0, r2_1, ()))) .fail) .fail) (.ret (.inr (r2_0, r2_1, ()))))
noncomputable def ref01_First_l0 (st : ref01_First_S0) : Option ref01_First_Q0 := LT.loop ref01_First_b0 FUEL st
noncomputable def ref01_First_A : Anns := { l := [(2, [.keep [2, 5, 6, 7] [2]]), (100002, [.keep [2] [2]])], orc := [(2, genOrc ref01_First_h0 ref01_First_x0 ref01_First_l0)], N := 1000, rng := [], ro := [], outs := none, nils := [] }
theorem ref01_First_s0 : ∀ (st : ref01_First_S0) m k, loopX ref01_First_A (loopN Tryz.prog 57 0) (prep (tabsG L_ref03_DocGet) (annOf ref01_First_A (loopN Tryz.prog 57 0))) (evalC Tryz.prog (tabsG L_ref03_DocGet) ref01_First_A (loopN Tryz.prog 57 0)) (m + 1) (ref01_First_h0.enc st) (outK (tabsG L_ref03_DocGet) ref01_First_A (loopN Tryz.prog 57 0) k) = (ref01_First_b0 st).run (exK ref01_First_x0 k) (fun st' => loopX ref01_First_A (loopN Tryz.prog 57 0) (prep (tabsG L_ref03_DocGet) (annOf ref01_First_A (loopN Tryz.prog 57 0))) (evalC Tryz.prog (tabsG L_ref03_DocGet) ref01_First_A (loopN Tryz.prog 57 0)) m (ref01_First_h0.enc st') (outK (tabsG L_ref03_DocGet) ref01_First_A (loopN Tryz.prog 57 0) k)) := by
  intro st m k
  obtain ⟨a5, a6, a7, r2_0, r2_1, ⟨⟩⟩ := st
  kernel_rfl
theorem ref01_First_o0 : OrcOk Tryz.prog (tabsG L_ref03_DocGet) ref01_First_A (loopN Tryz.prog 57 0) := genOrc_ok (h := ref01_First_h0) (xs := ref01_First_x0) (F := ref01_First_l0) (bd := ref01_First_b0) (fun _ => FUEL) (by kernel_rfl) (fun _ _ h => h) ref01_First_s0
noncomputable def ref01_First_t (p0 : (List (Bool × List (Int × Int) × Int))) : FT ((Bool × List (Int × Int) × Int)) := (.opt (ref01_First_l0 (p0, Int.ofNat p0.length, 0, false, 0, ())) fun x4 => (.alt x4 (fun x5 => (.ret ((x5.fst, x5.snd.fst, x5.snd.snd.fst)))) (fun _ => (.ret ((false, [], 0))))))
noncomputable def ref01_First (p0 : (List (Bool × List (Int × Int) × Int))) : Option ((Bool × List (Int × Int) × Int)) := (ref01_First_t p0).fin
noncomputable def ref01_First_sp : CSpec := genSpec [(.sl shE)] [shE] (fun x => ref01_First x)
theorem ref01_First_ok : EnterOk Tryz.prog 57 ∧ CSpecOk Tryz.prog cfgG 57 ref01_First_sp := ⟨enter Tryz.func57 (by kernel_rfl) (by kernel_rfl), genSpec_ok (A := ref01_First_A) (sa := [(.sl shE)]) (sr := [shE]) (bd := fun (x : (ArgT [(.sl shE)])) => ref01_First_t x) (fitG L_ref03_DocGet) s_ref03_DocGet mixed (by kernel_rfl) (loopsAll (l := [loopN Tryz.prog 57 0]) (by kernel_rfl) ⟨ref01_First_o0, trivial⟩) (fun _ => rfl) (by
  intro x
  skip
  kernel_rfl)⟩
noncomputable def L_ref01_First : List (Nat × CSpec) := (57, ref01_First_sp) :: L_ref03_DocGet
theorem s_ref01_First : SpecsOk Tryz.prog (tabsG L_ref01_First) := oneSpecGT s_ref03_DocGet ref01_First_ok
noncomputable def ref03_DocSet_h0 : EP := ⟨[(1, .d .str), (5, .ref 5 0), (7, .ref 7 0), (8, .ref 8 0), (9, .own 9009), (10, .d .bool), (38, .d (.sl shAttr)), (39, .d (.int .i64)), (40, .d (.int .i64))], [(5, .box 48 [.d (.int .i64), .d (.int .i64), .d .str, .d .bool]), (7, .box 33 [.d .bool, .nsl, .d (.int .i64)]), (8, .box 33 [.d .bool, .d (.sl shPlace), .d (.int .i64)]), (9009, .row 50 shAttr)]⟩
noncomputable def ref03_DocSet_x0 : List (Exit × EP) := [(Exit.exit 0, ⟨[(1, .d .str), (5, .ref 5 0), (7, .ref 7 0), (8, .ref 8 0), (9, .own 9009), (10, .d .bool)], [(5, .box 48 [.d (.int .i64), .d (.int .i64), .d .str, .d .bool]), (7, .box 33 [.d .bool, .nsl, .d (.int .i64)]), (8, .box 33 [.d .bool, .d (.sl shPlace), .d (.int .i64)]), (9009, .row 50 shAttr)]⟩)]
abbrev ref03_DocSet_S0 : Type := ByteArray × Bool × (List (ByteArray × V)) × Int × Int × Int × Int × ByteArray × Bool × Bool × Int × Bool × (List (Int × Int)) × Int × (List (ByteArray × V)) × Unit
abbrev ref03_DocSet_Q0 : Type := (ByteArray × Bool × Int × Int × ByteArray × Bool × Bool × Int × Bool × (List (Int × Int)) × Int × (List (ByteArray × V)) × Unit)
noncomputable def ref03_DocSet_b0 : ref03_DocSet_S0 → LT ref03_DocSet_S0 ref03_DocSet_Q0 := fun st => match st with
  | (a1, a10, a38, a39, a40, r5_0, r5_1, r5_2, r5_3, r7_0, r7_1, r8_0, r8_1, r8_2, r9009, ()) => (.br (decide (a40 < a39)) (.br (decide (0 ≤ a40)) (.br (decide (a40 < Int.ofNat a38.length)) (.br (!a10) (.br (!Op.bytesLess (ByteArray.toList (getI a38 a40 (ByteArray.mk #[], 0, 0, ByteArray.mk #[], false)).fst) a1.toList) (.br (appLim 56 r9009.length 1) (.br (!ByteArray.toList (getI a38 a40 (ByteArray.mk #[], 0, 0, ByteArray.mk #[], false)).fst == a1.toList) (.br (appLim 56 (r9009 ++ [(a1, r5_0, r5_1, r5_2, r5_3)]).length 1) (.next (a1, true, a38, a39, (IntKind.i64.wrap (a40 + 1)), r5_0, r5_1, r5_2, r5_3, r7_0, r7_1, r8_0, r8_1, r8_2, (r9009 ++ [(a1, r5_0, r5_1, r5_2, r5_3)] ++ [getI a38 a40 (ByteArray.mk #[], 0, 0, ByteArray.mk #[], false)]), ())) .fail) (.next (a1, true, a38, a39, (IntKind.i64.wrap (a40 + 1)), r5_0, r5_1, r5_2, r5_3, r7_0, r7_1, r8_0, r8_1, r8_2, (r9009 ++ [(a1, r5_0, r5_1, r5_2, r5_3)]), ()))) .fail) (.br (!ByteArray.toList (getI a38 a40 (ByteArray.mk #[], 0, 0, ByteArray.mk #[], false)).fst == a1.toList) (.br (appLim 56 r9009.length 1) (.next (a1, a10, a38, a39, (IntKind.i64.wrap (a40 + 1)), r5_0, r5_1, r5_2, r5_3, r7_0, r7_1, r8_0, r8_1, r8_2, (r9009 ++ [getI a38 a40 (ByteArray.mk #[], 0, 0, ByteArray.mk #[], false)]), ())) .fail) (.next (a1, a10, a38, a39, (IntKind.i64.wrap (a40 + 1)), r5_0, r5_1, r5_2, r5_3, r7_0, r7_1, r8_0, r8_1, r8_2, r9009, ())))) (.br (!ByteArray.toList (getI a38 a40 (ByteArray.mk #[], 0, 0, ByteArray.mk #[], false)).fst == a1.toList) (.br (appLim 56 r9009.length 1) (.next (a1, a10, a38, a39, (IntKind.i64.wrap (a40 + 1)), r5_0, r5_1, r5_2, r5_3, r7_0, r7_1, r8_0, r8_1, r8_2, (r9009 ++ [getI a38 a40 (ByteArray.mk #[], 0, 0, ByteArray.mk #[], false)]), ())) .fail) (.next (a1, a10, a38, a39, (IntKind.i64.wrap (a40 + 1)), r5_0, r5_1, r5_2, r5_3, r7_0, r7_1, r8_0, r8_1, r8_2, r9009, ())))) .fail) .fail) (.ret (a1, a10, r5_0, r5_1, r5_2, r5_3, r7_0, r7_1, r8_0, r8_1, r8_2, r9009, ())))
noncomputable def ref03_DocSet_l0 (st : ref03_DocSet_S0) : Option ref03_DocSet_Q0 := LT.loop ref03_DocSet_b0 FUEL st
noncomputable def ref03_DocSet_A : Anns := { l := [(9, [.keep [1, 5, 7, 8, 9, 10, 38, 39, 40] [5, 7, 8, 57, 65, 9009], .ownS 9 9009 50, .keep [1, 5, 7, 8, 9, 10, 38, 39, 40] [5, 7, 8, 9009]]), (100009, [.keep [1, 5, 7, 8, 9, 10] [5, 7, 8, 9009]])], orc := [(9, genOrc ref03_DocSet_h0 ref03_DocSet_x0 ref03_DocSet_l0)], N := 1000, rng := [], ro := [], outs := none, nils := [] }
theorem ref03_DocSet_s0 : ∀ (st : ref03_DocSet_S0) m k, loopX ref03_DocSet_A (loopN Tryz.prog 25 0) (prep (tabsG L_ref01_First) (annOf ref03_DocSet_A (loopN Tryz.prog 25 0))) (evalC Tryz.prog (tabsG L_ref01_First) ref03_DocSet_A (loopN Tryz.prog 25 0)) (m + 1) (ref03_DocSet_h0.enc st) (outK (tabsG L_ref01_First) ref03_DocSet_A (loopN Tryz.prog 25 0) k) = (ref03_DocSet_b0 st).run (exK ref03_DocSet_x0 k) (fun st' => loopX ref03_DocSet_A (loopN Tryz.prog 25 0) (prep (tabsG L_ref01_First) (annOf ref03_DocSet_A (loopN Tryz.prog 25 0))) (evalC Tryz.prog (tabsG L_ref01_First) ref03_DocSet_A (loopN Tryz.prog 25 0)) m (ref03_DocSet_h0.enc st') (outK (tabsG L_ref01_First) ref03_DocSet_A (loopN Tryz.prog 25 0) k)) := by
  intro st m k
  obtain ⟨a1, a10, a38, a39, a40, r5_0, r5_1, r5_2, r5_3, r7_0, r7_1, r8_0, r8_1, r8_2, r9009, ⟨⟩⟩ := st
  kernel_rfl
theorem ref03_DocSet_o0 : OrcOk Tryz.prog (tabsG L_ref01_First) ref03_DocSet_A (loopN Tryz.prog 25 0) := genOrc_ok (h := ref03_DocSet_h0) (xs := ref03_DocSet_x0) (F := ref03_DocSet_l0) (bd := ref03_DocSet_b0) (fun _ => FUEL) (by kernel_rfl) (fun _ _ h => h) ref03_DocSet_s0
noncomputable def ref03_DocSet_t (p0 : (List (ByteArray × V))) (p1 : ByteArray) (p2 : V) : FT ((List (ByteArray × V)) × (Bool × List (Int × Int) × Int)) := (.opt (ref03_begin p0 p1) fun x12 => (.opt (ref02_Check p2) fun x13 => (.opt (ref01_First [x12, x13]) fun x14 => (.br (!x14.fst) (.opt (ref03_Find p0 p1) fun x15 => (.br (decide (x15 < 0)) (.br (Int.ofNat p0.length == 16) (.ret (([], true, [], 11))) (.br x14.fst (.ret (([], x14))) (.opt (ref03_DocSet_l0 (p1, false, p0, Int.ofNat p0.length, 0, p2.fst, p2.snd.fst, p2.snd.snd.fst, p2.snd.snd.snd, false, 0, x14.fst, x14.snd.fst, x14.snd.snd, [], ())) fun x16 => (.br (!x16.snd.fst) (.br (appLim 56 x16.snd.snd.snd.snd.snd.snd.snd.snd.snd.snd.snd.fst.length 1) (.ret ((x16.snd.snd.snd.snd.snd.snd.snd.snd.snd.snd.snd.fst ++ [(x16.fst, x16.snd.snd.fst, x16.snd.snd.snd.fst, x16.snd.snd.snd.snd.fst, x16.snd.snd.snd.snd.snd.fst)], x16.snd.snd.snd.snd.snd.snd.snd.snd.fst, x16.snd.snd.snd.snd.snd.snd.snd.snd.snd.fst, x16.snd.snd.snd.snd.snd.snd.snd.snd.snd.snd.fst))) .fail) (.ret ((x16.snd.snd.snd.snd.snd.snd.snd.snd.snd.snd.snd.fst, x16.snd.snd.snd.snd.snd.snd.snd.snd.fst, x16.snd.snd.snd.snd.snd.snd.snd.snd.snd.fst, x16.snd.snd.snd.snd.snd.snd.snd.snd.snd.snd.fst))))))) (.br x14.fst (.ret (([], x14))) (.opt (ref03_DocSet_l0 (p1, false, p0, Int.ofNat p0.length, 0, p2.fst, p2.snd.fst, p2.snd.snd.fst, p2.snd.snd.snd, false, 0, x14.fst, x14.snd.fst, x14.snd.snd, [], ())) fun x17 => (.br (!x17.snd.fst) (.br (appLim 56 x17.snd.snd.snd.snd.snd.snd.snd.snd.snd.snd.snd.fst.length 1) (.ret ((x17.snd.snd.snd.snd.snd.snd.snd.snd.snd.snd.snd.fst ++ [(x17.fst, x17.snd.snd.fst, x17.snd.snd.snd.fst, x17.snd.snd.snd.snd.fst, x17.snd.snd.snd.snd.snd.fst)], x17.snd.snd.snd.snd.snd.snd.snd.snd.fst, x17.snd.snd.snd.snd.snd.snd.snd.snd.snd.fst, x17.snd.snd.snd.snd.snd.snd.snd.snd.snd.snd.fst))) .fail) (.ret ((x17.snd.snd.snd.snd.snd.snd.snd.snd.snd.snd.snd.fst, x17.snd.snd.snd.snd.snd.snd.snd.snd.fst, x17.snd.snd.snd.snd.snd.snd.snd.snd.snd.fst, x17.snd.snd.snd.snd.snd.snd.snd.snd.snd.snd.fst)))))))) (.br x14.fst (.ret (([], x14))) (.opt (ref03_DocSet_l0 (p1, false, p0, Int.ofNat p0.length, 0, p2.fst, p2.snd.fst, p2.snd.snd.fst, p2.snd.snd.snd, false, 0, x14.fst, x14.snd.fst, x14.snd.snd, [], ())) fun x18 => (.br (!x18.snd.fst) (.br (appLim 56 x18.snd.snd.snd.snd.snd.snd.snd.snd.snd.snd.snd.fst.length 1) (.ret ((x18.snd.snd.snd.snd.snd.snd.snd.snd.snd.snd.snd.fst ++ [(x18.fst, x18.snd.snd.fst, x18.snd.snd.snd.fst, x18.snd.snd.snd.snd.fst, x18.snd.snd.snd.snd.snd.fst)], x18.snd.snd.snd.snd.snd.snd.snd.snd.fst, x18.snd.snd.snd.snd.snd.snd.snd.snd.snd.fst, x18.snd.snd.snd.snd.snd.snd.snd.snd.snd.snd.fst))) .fail) (.ret ((x18.snd.snd.snd.snd.snd.snd.snd.snd.snd.snd.snd.fst, x18.snd.snd.snd.snd.snd.snd.snd.snd.fst, x18.snd.snd.snd.snd.snd.snd.snd.snd.snd.fst, x18.snd.snd.snd.snd.snd.snd.snd.snd.snd.snd.fst))))))))))
noncomputable def ref03_DocSet (p0 : (List (ByteArray × V))) (p1 : ByteArray) (p2 : V) : Option ((List (ByteArray × V)) × (Bool × List (Int × Int) × Int)) := (ref03_DocSet_t p0 p1 p2).fin
noncomputable def ref03_DocSet_sp : CSpec := genSpec [(.sl shAttr), .str, shVal] [(.sl shAttr), shE] (fun x => ref03_DocSet x.1 x.2.1 x.2.2)
theorem ref03_DocSet_ok : EnterOk Tryz.prog 25 ∧ CSpecOk Tryz.prog cfgG 25 ref03_DocSet_sp := ⟨enter Tryz.func25 (by kernel_rfl) (by kernel_rfl), genSpec_ok (A := ref03_DocSet_A) (sa := [(.sl shAttr), .str, shVal]) (sr := [(.sl shAttr), shE]) (bd := fun (x : (ArgT [(.sl shAttr), .str, shVal])) => ref03_DocSet_t x.1 x.2.1 x.2.2) (fitG L_ref01_First) s_ref01_First mixed (by kernel_rfl) (loopsAll (l := [loopN Tryz.prog 25 0]) (by kernel_rfl) ⟨ref03_DocSet_o0, trivial⟩) (fun _ => rfl) (by
  intro x
  obtain ⟨p0, p1, p2⟩ := x
  kernel_rfl)⟩
noncomputable def L_ref03_DocSet : List (Nat × CSpec) := (25, ref03_DocSet_sp) :: L_ref01_First
theorem s_ref03_DocSet : SpecsOk Tryz.prog (tabsG L_ref03_DocSet) := oneSpecGT s_ref01_First ref03_DocSet_ok
noncomputable def ref03_DocDrop_h0 : EP := ⟨[(1, .d .str), (5, .ref 5 0), (6, .ref 6 0), (7, .own 9007), (26, .d (.sl shAttr)), (27, .d (.int .i64)), (28, .d (.int .i64))], [(5, .box 33 [.d .bool, .nsl, .d (.int .i64)]), (6, .box 33 [.d .bool, .d (.sl shPlace), .d (.int .i64)]), (9007, .row 50 shAttr)]⟩
noncomputable def ref03_DocDrop_x0 : List (Exit × EP) := [(Exit.exit 0, ⟨[(5, .ref 5 0), (6, .ref 6 0), (7, .own 9007)], [(5, .box 33 [.d .bool, .nsl, .d (.int .i64)]), (6, .box 33 [.d .bool, .d (.sl shPlace), .d (.int .i64)]), (9007, .row 50 shAttr)]⟩)]
abbrev ref03_DocDrop_S0 : Type := ByteArray × (List (ByteArray × V)) × Int × Int × Bool × Int × Bool × (List (Int × Int)) × Int × (List (ByteArray × V)) × Unit
abbrev ref03_DocDrop_Q0 : Type := (Bool × Int × Bool × (List (Int × Int)) × Int × (List (ByteArray × V)) × Unit)
noncomputable def ref03_DocDrop_b0 : ref03_DocDrop_S0 → LT ref03_DocDrop_S0 ref03_DocDrop_Q0 := fun st => match st with
  | (a1, a26, a27, a28, r5_0, r5_1, r6_0, r6_1, r6_2, r9007, ()) => (.br (decide (a28 < a27)) (.br (decide (0 ≤ a28)) (.br (decide (a28 < Int.ofNat a26.length)) (.br (!ByteArray.toList (getI a26 a28 (ByteArray.mk #[], 0, 0, ByteArray.mk #[], false)).fst == a1.toList) (.br (appLim 56 r9007.length 1) (.next (a1, a26, a27, (IntKind.i64.wrap (a28 + 1)), r5_0, r5_1, r6_0, r6_1, r6_2, (r9007 ++ [getI a26 a28 (ByteArray.mk #[], 0, 0, ByteArray.mk #[], false)]), ())) .fail) (.next (a1, a26, a27, (IntKind.i64.wrap (a28 + 1)), r5_0, r5_1, r6_0, r6_1, r6_2, r9007, ()))) .fail) .fail) (.ret (r5_0, r5_1, r6_0, r6_1, r6_2, r9007, ())))
noncomputable def ref03_DocDrop_l0 (st : ref03_DocDrop_S0) : Option ref03_DocDrop_Q0 := LT.loop ref03_DocDrop_b0 FUEL st
noncomputable def ref03_DocDrop_A : Anns := { l := [(8, [.keep [1, 5, 6, 7, 26, 27, 28] [5, 6, 39, 9007], .ownS 7 9007 50, .keep [1, 5, 6, 7, 26, 27, 28] [5, 6, 9007]]), (100008, [.keep [5, 6, 7] [5, 6, 9007]])], orc := [(8, genOrc ref03_DocDrop_h0 ref03_DocDrop_x0 ref03_DocDrop_l0)], N := 1000, rng := [], ro := [], outs := none, nils := [] }
theorem ref03_DocDrop_s0 : ∀ (st : ref03_DocDrop_S0) m k, loopX ref03_DocDrop_A (loopN Tryz.prog 27 0) (prep (tabsG L_ref03_DocSet) (annOf ref03_DocDrop_A (loopN Tryz.prog 27 0))) (evalC Tryz.prog (tabsG L_ref03_DocSet) ref03_DocDrop_A (loopN Tryz.prog 27 0)) (m + 1) (ref03_DocDrop_h0.enc st) (outK (tabsG L_ref03_DocSet) ref03_DocDrop_A (loopN Tryz.prog 27 0) k) = (ref03_DocDrop_b0 st).run (exK ref03_DocDrop_x0 k) (fun st' => loopX ref03_DocDrop_A (loopN Tryz.prog 27 0) (prep (tabsG L_ref03_DocSet) (annOf ref03_DocDrop_A (loopN Tryz.prog 27 0))) (evalC Tryz.prog (tabsG L_ref03_DocSet) ref03_DocDrop_A (loopN Tryz.prog 27 0)) m (ref03_DocDrop_h0.enc st') (outK (tabsG L_ref03_DocSet) ref03_DocDrop_A (loopN Tryz.prog 27 0) k)) := by
  intro st m k
  obtain ⟨a1, a26, a27, a28, r5_0, r5_1, r6_0, r6_1, r6_2, r9007, ⟨⟩⟩ := st
  kernel_rfl
theorem ref03_DocDrop_o0 : OrcOk Tryz.prog (tabsG L_ref03_DocSet) ref03_DocDrop_A (loopN Tryz.prog 27 0) := genOrc_ok (h := ref03_DocDrop_h0) (xs := ref03_DocDrop_x0) (F := ref03_DocDrop_l0) (bd := ref03_DocDrop_b0) (fun _ => FUEL) (by kernel_rfl) (fun _ _ h => h) ref03_DocDrop_s0
noncomputable def ref03_DocDrop_t (p0 : (List (ByteArray × V))) (p1 : ByteArray) : FT ((List (ByteArray × V)) × (Bool × List (Int × Int) × Int)) := (.opt (ref03_begin p0 p1) fun x7 => (.br (!x7.fst) (.opt (ref03_Find p0 p1) fun x8 => (.br (decide (x8 < 0)) (.ret (([], true, [], 10))) (.br x7.fst (.ret (([], x7))) (.opt (ref03_DocDrop_l0 (p1, p0, Int.ofNat p0.length, 0, false, 0, x7.fst, x7.snd.fst, x7.snd.snd, [], ())) fun x9 => (.ret ((x9.snd.snd.snd.snd.snd.fst, x9.snd.snd.fst, x9.snd.snd.snd.fst, x9.snd.snd.snd.snd.fst))))))) (.br x7.fst (.ret (([], x7))) (.opt (ref03_DocDrop_l0 (p1, p0, Int.ofNat p0.length, 0, false, 0, x7.fst, x7.snd.fst, x7.snd.snd, [], ())) fun x10 => (.ret ((x10.snd.snd.snd.snd.snd.fst, x10.snd.snd.fst, x10.snd.snd.snd.fst, x10.snd.snd.snd.snd.fst)))))))
noncomputable def ref03_DocDrop (p0 : (List (ByteArray × V))) (p1 : ByteArray) : Option ((List (ByteArray × V)) × (Bool × List (Int × Int) × Int)) := (ref03_DocDrop_t p0 p1).fin
noncomputable def ref03_DocDrop_sp : CSpec := genSpec [(.sl shAttr), .str] [(.sl shAttr), shE] (fun x => ref03_DocDrop x.1 x.2)
theorem ref03_DocDrop_ok : EnterOk Tryz.prog 27 ∧ CSpecOk Tryz.prog cfgG 27 ref03_DocDrop_sp := ⟨enter Tryz.func27 (by kernel_rfl) (by kernel_rfl), genSpec_ok (A := ref03_DocDrop_A) (sa := [(.sl shAttr), .str]) (sr := [(.sl shAttr), shE]) (bd := fun (x : (ArgT [(.sl shAttr), .str])) => ref03_DocDrop_t x.1 x.2) (fitG L_ref03_DocSet) s_ref03_DocSet mixed (by kernel_rfl) (loopsAll (l := [loopN Tryz.prog 27 0]) (by kernel_rfl) ⟨ref03_DocDrop_o0, trivial⟩) (fun _ => rfl) (by
  intro x
  obtain ⟨p0, p1⟩ := x
  kernel_rfl)⟩
noncomputable def L_ref03_DocDrop : List (Nat × CSpec) := (27, ref03_DocDrop_sp) :: L_ref03_DocSet
theorem s_ref03_DocDrop : SpecsOk Tryz.prog (tabsG L_ref03_DocDrop) := oneSpecGT s_ref03_DocSet ref03_DocDrop_ok
end Go.Proofs.YtkkgimhjjhhkjaaGreatDoor
