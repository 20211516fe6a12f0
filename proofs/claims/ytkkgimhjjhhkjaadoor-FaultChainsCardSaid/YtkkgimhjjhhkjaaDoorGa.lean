/- Trees of functions, their loops and contracts: printed by PevGen (own tool). -/
import Derived.Test.YtkkgimhjjhhkjaaDoorSp
set_option maxRecDepth 100000
namespace Go.Proofs.YtkkgimhjjhhkjaaDoor
open Go Go.Pev
noncomputable def fault_At_A : Anns := ⟨[], [], 1000⟩
noncomputable def fault_At_t (p0 : Int) (p1 : Int) (p2 : Err) : FT (Err) := (.br (Option.isNone p2) (.ret none) (.opt p2 fun x2 => (.ret (some ((p0, p1) :: x2.fst, x2.snd)))))
noncomputable def fault_At (p0 : Int) (p1 : Int) (p2 : Err) : Option (Err) := (fault_At_t p0 p1 p2).fin
noncomputable def fault_At_sp : CSpec := genSpec [(.int .i64), (.int .i64), .err] [.err] (fun x => fault_At x.1 x.2.1 x.2.2)
theorem fault_At_ok : EnterOk Tryd.prog 18 ∧ CSpecOk Tryd.prog cfgG 18 fault_At_sp := ⟨enter Tryd.func18 (by kernel_rfl) (by kernel_rfl), genSpec_ok (A := fault_At_A) (sa := [(.int .i64), (.int .i64), .err]) (sr := [.err]) (bd := fun (x : ArgT [(.int .i64), (.int .i64), .err]) => fault_At_t x.1 x.2.1 x.2.2) (fitG L0) s0 mixed (by kernel_rfl) (loopsAll (l := []) (by kernel_rfl) trivial) (fun _ => rfl) (by
  intro x
  obtain ⟨p0, p1, p2⟩ := x
  kernel_rfl)⟩
noncomputable def L_fault_At : List (Nat × CSpec) := (18, fault_At_sp) :: L0
theorem s_fault_At : SpecsOk Tryd.prog (tabsG L_fault_At) := oneSpecGT s0 fault_At_ok
noncomputable def fault_Code_A : Anns := ⟨[], [], 1000⟩
noncomputable def fault_Code_t (p0 : Err) : FT (Int) := (.br (Option.isSome p0) (.opt p0 fun x2 => (.ret x2.snd)) (.ret 0))
noncomputable def fault_Code (p0 : Err) : Option (Int) := (fault_Code_t p0).fin
noncomputable def fault_Code_sp : CSpec := genSpec [.err] [(.int .i64)] (fun x => fault_Code x)
theorem fault_Code_ok : EnterOk Tryd.prog 19 ∧ CSpecOk Tryd.prog cfgG 19 fault_Code_sp := ⟨enter Tryd.func19 (by kernel_rfl) (by kernel_rfl), genSpec_ok (A := fault_Code_A) (sa := [.err]) (sr := [(.int .i64)]) (bd := fun (x : ArgT [.err]) => fault_Code_t x) (fitG L_fault_At) s_fault_At mixed (by kernel_rfl) (loopsAll (l := []) (by kernel_rfl) trivial) (fun _ => rfl) (by
  intro x
  skip
  kernel_rfl)⟩
noncomputable def L_fault_Code : List (Nat × CSpec) := (19, fault_Code_sp) :: L_fault_At
theorem s_fault_Code : SpecsOk Tryd.prog (tabsG L_fault_Code) := oneSpecGT s_fault_At fault_Code_ok
noncomputable def fault_first_A : Anns := ⟨[], [], 1000⟩
noncomputable def fault_first_t (p0 : Err) : FT ((Option ((Int × Int) × Err))) := (.br ((errHead p0).isSome) (.opt (errHead p0) fun x2 => (.ret (some x2))) (.ret none))
noncomputable def fault_first (p0 : Err) : Option ((Option ((Int × Int) × Err))) := (fault_first_t p0).fin
noncomputable def fault_first_sp : CSpec := genSpec [.err] [(.pt (.pair shPlace .err))] (fun x => fault_first x)
theorem fault_first_ok : EnterOk Tryd.prog 36 ∧ CSpecOk Tryd.prog cfgG 36 fault_first_sp := ⟨enter Tryd.func36 (by kernel_rfl) (by kernel_rfl), genSpec_ok (A := fault_first_A) (sa := [.err]) (sr := [(.pt (.pair shPlace .err))]) (bd := fun (x : ArgT [.err]) => fault_first_t x) (fitG L_fault_Code) s_fault_Code mixed (by kernel_rfl) (loopsAll (l := []) (by kernel_rfl) trivial) (fun _ => rfl) (by
  intro x
  skip
  kernel_rfl)⟩
noncomputable def L_fault_first : List (Nat × CSpec) := (36, fault_first_sp) :: L_fault_Code
theorem s_fault_first : SpecsOk Tryd.prog (tabsG L_fault_first) := oneSpecGT s_fault_Code fault_first_ok
noncomputable def fault_Places_h0 : EP := ⟨[(3, .own 9003), (4, .pel (.pair shPlace .err))], [(9003, .row 37 shPlace)]⟩
noncomputable def fault_Places_x0 : List (Exit × EP) := [(Exit.exit 0, ⟨[(3, .own 9003)], [(9003, .row 37 shPlace)]⟩)]
abbrev fault_Places_S0 : Type := (Option ((Int × Int) × Err)) × (List (Int × Int)) × Unit
abbrev fault_Places_Q0 : Type := ((List (Int × Int)) × Unit)
noncomputable def fault_Places_b0 : fault_Places_S0 → LT fault_Places_S0 fault_Places_Q0 := fun st => match st with
  | (a4, r9003, ()) => (.br (!a4.isNone) (.opt a4 fun x17 => (.br (appLim 16 r9003.length 1) (.opt a4 fun x18 => (.opt (fault_first x18.snd) fun x19 => (.next (x19, (r9003 ++ [x17.fst]), ())))) .fail)) (.ret (r9003, ())))
noncomputable def fault_Places_l0 (st : fault_Places_S0) : Option fault_Places_Q0 := LT.loop fault_Places_b0 FUEL st
noncomputable def fault_Places_A : Anns := ⟨[(3, [.keep [3, 4] [20], .ownS 3 9003 37, .keep [3, 4] [9003]]), (100003, [.keep [3] [9003]])], [(3, genOrc fault_Places_h0 fault_Places_x0 fault_Places_l0)], 1000⟩
theorem fault_Places_s0 : ∀ (st : fault_Places_S0) m k, loopE (prep (tabsG L_fault_first) (annOf fault_Places_A (loopN Tryd.prog 23 0))) (evalC Tryd.prog (tabsG L_fault_first) fault_Places_A (loopN Tryd.prog 23 0)) (m + 1) (fault_Places_h0.enc st) (outK (tabsG L_fault_first) fault_Places_A (loopN Tryd.prog 23 0) k) = (fault_Places_b0 st).run (exK fault_Places_x0 k) (fun st' => loopE (prep (tabsG L_fault_first) (annOf fault_Places_A (loopN Tryd.prog 23 0))) (evalC Tryd.prog (tabsG L_fault_first) fault_Places_A (loopN Tryd.prog 23 0)) m (fault_Places_h0.enc st') (outK (tabsG L_fault_first) fault_Places_A (loopN Tryd.prog 23 0) k)) := by
  intro st m k
  obtain ⟨a4, r9003, ⟨⟩⟩ := st
  kernel_rfl
theorem fault_Places_o0 : OrcOk Tryd.prog (tabsG L_fault_first) fault_Places_A (loopN Tryd.prog 23 0) := genOrc_ok (h := fault_Places_h0) (xs := fault_Places_x0) (F := fault_Places_l0) (bd := fault_Places_b0) (fun _ => FUEL) (by kernel_rfl) (fun _ _ h => h) fault_Places_s0
noncomputable def fault_Places_t (p0 : Err) : FT ((List (Int × Int))) := (.opt (fault_first p0) fun x22 => (.opt (fault_Places_l0 (x22, [], ())) fun x23 => (.ret x23.fst)))
noncomputable def fault_Places (p0 : Err) : Option ((List (Int × Int))) := (fault_Places_t p0).fin
noncomputable def fault_Places_sp : CSpec := genSpec [.err] [(.sl shPlace)] (fun x => fault_Places x)
theorem fault_Places_ok : EnterOk Tryd.prog 23 ∧ CSpecOk Tryd.prog cfgG 23 fault_Places_sp := ⟨enter Tryd.func23 (by kernel_rfl) (by kernel_rfl), genSpec_ok (A := fault_Places_A) (sa := [.err]) (sr := [(.sl shPlace)]) (bd := fun (x : ArgT [.err]) => fault_Places_t x) (fitG L_fault_first) s_fault_first mixed (by kernel_rfl) (loopsAll (l := [loopN Tryd.prog 23 0]) (by kernel_rfl) ⟨fault_Places_o0, trivial⟩) (fun _ => rfl) (by
  intro x
  skip
  kernel_rfl)⟩
noncomputable def L_fault_Places : List (Nat × CSpec) := (23, fault_Places_sp) :: L_fault_first
theorem s_fault_Places : SpecsOk Tryd.prog (tabsG L_fault_Places) := oneSpecGT s_fault_first fault_Places_ok
noncomputable def fault_word_A : Anns := ⟨[], [], 1000⟩
noncomputable def fault_word_t (p0 : Int) : FT (ByteArray) := (.br (p0 == 1) (.ret (ByteArray.mk #[98, 121, 116, 101])) (.br (p0 == 2) (.ret (ByteArray.mk #[105, 116, 101, 109])) (.br (p0 == 3) (.ret (ByteArray.mk #[108, 105, 110, 101])) (.br (p0 == 4) (.ret (ByteArray.mk #[115, 116, 101, 112])) (.br (p0 == 5) (.ret (ByteArray.mk #[110, 111, 100, 101])) (.br (p0 == 6) (.ret (ByteArray.mk #[114, 101, 99, 111, 114, 100])) (.ret (ByteArray.mk #[112, 108, 97, 99, 101]))))))))
noncomputable def fault_word (p0 : Int) : Option (ByteArray) := (fault_word_t p0).fin
noncomputable def fault_word_sp : CSpec := genSpec [(.int .i64)] [.str] (fun x => fault_word x)
theorem fault_word_ok : EnterOk Tryd.prog 33 ∧ CSpecOk Tryd.prog cfgG 33 fault_word_sp := ⟨enter Tryd.func33 (by kernel_rfl) (by kernel_rfl), genSpec_ok (A := fault_word_A) (sa := [(.int .i64)]) (sr := [.str]) (bd := fun (x : ArgT [(.int .i64)]) => fault_word_t x) (fitG L_fault_Places) s_fault_Places mixed (by kernel_rfl) (loopsAll (l := []) (by kernel_rfl) trivial) (fun _ => rfl) (by
  intro x
  skip
  kernel_rfl)⟩
noncomputable def L_fault_word : List (Nat × CSpec) := (33, fault_word_sp) :: L_fault_Places
theorem s_fault_word : SpecsOk Tryd.prog (tabsG L_fault_word) := oneSpecGT s_fault_Places fault_word_ok
noncomputable def fault_size_A : Anns := ⟨[], [], 1000⟩
noncomputable def fault_size_t (p0 : Int) : FT (Int) := (.br (decide (p0 < 0)) (.ret (IntKind.u64.wrap (0 - IntKind.u64.wrap p0))) (.ret (IntKind.u64.wrap p0)))
noncomputable def fault_size (p0 : Int) : Option (Int) := (fault_size_t p0).fin
noncomputable def fault_size_sp : CSpec := genSpec [(.int .i64)] [(.int .u64)] (fun x => fault_size x)
theorem fault_size_ok : EnterOk Tryd.prog 43 ∧ CSpecOk Tryd.prog cfgG 43 fault_size_sp := ⟨enter Tryd.func43 (by kernel_rfl) (by kernel_rfl), genSpec_ok (A := fault_size_A) (sa := [(.int .i64)]) (sr := [(.int .u64)]) (bd := fun (x : ArgT [(.int .i64)]) => fault_size_t x) (fitG L_fault_word) s_fault_word mixed (by kernel_rfl) (loopsAll (l := []) (by kernel_rfl) trivial) (fun _ => rfl) (by
  intro x
  skip
  kernel_rfl)⟩
noncomputable def L_fault_size : List (Nat × CSpec) := (43, fault_size_sp) :: L_fault_word
theorem s_fault_size : SpecsOk Tryd.prog (tabsG L_fault_size) := oneSpecGT s_fault_word fault_size_ok
noncomputable def fault_number_A : Anns := ⟨[], [], 1000⟩
noncomputable def fault_number_t (p0 : Int) : FT (ByteArray) := (.br (decide (p0 < 0)) (.opt (fault_size p0) fun x5 => (.opt (fmtU x5 10) fun x6 => (.br (decide ((ByteArray.mk #[45]).size + x6.size ≤ 9223372036854775807)) (.ret (ByteArray.mk #[45] ++ x6)) .fail))) (.opt (fault_size p0) fun x7 => (.opt (fmtU x7 10) fun x8 => (.br (decide ((ByteArray.mk #[]).size + x8.size ≤ 9223372036854775807)) (.ret (ByteArray.mk #[] ++ x8)) .fail))))
noncomputable def fault_number (p0 : Int) : Option (ByteArray) := (fault_number_t p0).fin
noncomputable def fault_number_sp : CSpec := genSpec [(.int .i64)] [.str] (fun x => fault_number x)
theorem fault_number_ok : EnterOk Tryd.prog 34 ∧ CSpecOk Tryd.prog cfgG 34 fault_number_sp := ⟨enter Tryd.func34 (by kernel_rfl) (by kernel_rfl), genSpec_ok (A := fault_number_A) (sa := [(.int .i64)]) (sr := [.str]) (bd := fun (x : ArgT [(.int .i64)]) => fault_number_t x) (fitG L_fault_size) s_fault_size mixed (by kernel_rfl) (loopsAll (l := []) (by kernel_rfl) trivial) (fun _ => rfl) (by
  intro x
  skip
  kernel_rfl)⟩
noncomputable def L_fault_number : List (Nat × CSpec) := (34, fault_number_sp) :: L_fault_size
theorem s_fault_number : SpecsOk Tryd.prog (tabsG L_fault_number) := oneSpecGT s_fault_size fault_number_ok
noncomputable def fault_says_A : Anns := ⟨[], [], 1000⟩
noncomputable def fault_says_t (p0 : Int) : FT (ByteArray) := (.opt (splitF (ByteArray.mk ((([97, 108, 108, 32, 105, 115, 32, 119, 101, 108, 108, 44, 111, 117, 116, 115, 105, 100, 101, 32, 105, 116, 115, 32, 114, 97, 110, 103, 101, 44, 116, 111].append [111, 32, 108, 111, 110, 103, 44, 110, 111, 116, 32, 111, 102, 32, 116, 104, 101, 32, 102, 111, 114, 109, 44, 110, 111, 116, 32, 115, 117, 99, 104, 32, 97]).append ([32, 116, 101, 120, 116, 44, 117, 110, 108, 105, 107, 101, 32, 107, 105, 110, 100, 115, 44, 116, 111, 111, 32, 115, 104, 111, 114, 116, 44, 97, 32, 119].append [114, 111, 110, 103, 32, 115, 117, 109, 44, 115, 111, 109, 101, 116, 104, 105, 110, 103, 32, 98, 101, 104, 105, 110, 100, 44, 116, 104, 101, 114, 101, 32, 97])).append (([108, 114, 101, 97, 100, 121, 44, 110, 111, 32, 115, 117, 99, 104, 32, 116, 104, 105, 110, 103, 44, 110, 111, 32, 114, 111, 111, 109, 44, 110, 111, 32].append [109, 101, 109, 98, 101, 114, 44, 97, 32, 119, 114, 111, 110, 103, 32, 108, 105, 110, 107, 44, 110, 111, 32, 116, 114, 101, 101, 44, 97, 32, 99, 104, 97]).append ([110, 103, 101, 32, 105, 115, 32, 111, 112, 101, 110, 44, 100, 111, 119, 110, 44, 105, 110, 32, 117, 115, 101, 44, 97, 116, 32, 105, 116, 115, 32, 101, 110].append [100, 44, 110, 105, 108, 44, 111, 117, 116, 32, 111, 102, 32, 111, 114, 100, 101, 114, 44, 116, 104, 101, 32, 119, 114, 111, 110, 103, 32, 116, 105, 109, 101]))).toArray) (ByteArray.mk #[44])) fun x2 => (.br (decide (p0 < 0)) (.ret (ByteArray.mk #[117, 110, 107, 110, 111, 119, 110])) (.br (decide (p0 ≥ Int.ofNat x2.length)) (.ret (ByteArray.mk #[117, 110, 107, 110, 111, 119, 110])) (.br (decide (0 ≤ p0)) (.br (decide (p0 < Int.ofNat x2.length)) (.ret (getI x2 p0 (ByteArray.mk #[]))) .fail) .fail))))
noncomputable def fault_says (p0 : Int) : Option (ByteArray) := (fault_says_t p0).fin
noncomputable def fault_says_sp : CSpec := genSpec [(.int .i64)] [.str] (fun x => fault_says x)
theorem fault_says_ok : EnterOk Tryd.prog 35 ∧ CSpecOk Tryd.prog cfgG 35 fault_says_sp := ⟨enter Tryd.func35 (by kernel_rfl) (by kernel_rfl), genSpec_ok (A := fault_says_A) (sa := [(.int .i64)]) (sr := [.str]) (bd := fun (x : ArgT [(.int .i64)]) => fault_says_t x) (fitG L_fault_number) s_fault_number mixed (by kernel_rfl) (loopsAll (l := []) (by kernel_rfl) trivial) (fun _ => rfl) (by
  intro x
  skip
  kernel_rfl)⟩
noncomputable def L_fault_says : List (Nat × CSpec) := (35, fault_says_sp) :: L_fault_number
theorem s_fault_says : SpecsOk Tryd.prog (tabsG L_fault_says) := oneSpecGT s_fault_number fault_says_ok
noncomputable def fault_Text_h0 : EP := ⟨[(0, .d .err), (3, .d .str), (7, .d (.sl shPlace)), (8, .d (.int .i64)), (9, .d (.int .i64))], []⟩
noncomputable def fault_Text_x0 : List (Exit × EP) := [(Exit.exit 0, ⟨[(0, .d .err), (3, .d .str)], []⟩)]
abbrev fault_Text_S0 : Type := Err × ByteArray × (List (Int × Int)) × Int × Int × Unit
abbrev fault_Text_Q0 : Type := (Err × ByteArray × Unit)
noncomputable def fault_Text_b0 : fault_Text_S0 → LT fault_Text_S0 fault_Text_Q0 := fun st => match st with
  | (a0, a3, a7, a8, a9, ()) => (.br (decide (a9 < a8)) (.br (decide (0 ≤ a9)) (.br (decide (a9 < Int.ofNat a7.length)) (.opt (fault_word (getI a7 a9 (0, 0)).fst) fun x8 => (.br (decide (x8.size + (ByteArray.mk #[32]).size ≤ 9223372036854775807)) (.opt (fault_number (getI a7 a9 (0, 0)).snd) fun x9 => (.br (decide ((x8 ++ ByteArray.mk #[32]).size + x9.size ≤ 9223372036854775807)) (.br (decide ((x8 ++ ByteArray.mk #[32] ++ x9).size + (ByteArray.mk #[58, 32]).size ≤ 9223372036854775807)) (.br (decide (a3.size + (x8 ++ ByteArray.mk #[32] ++ x9 ++ ByteArray.mk #[58, 32]).size ≤ 9223372036854775807)) (.next (a0, (a3 ++ (x8 ++ ByteArray.mk #[32] ++ x9 ++ ByteArray.mk #[58, 32])), a7, a8, (IntKind.i64.wrap (a9 + 1)), ())) .fail) .fail) .fail)) .fail)) .fail) .fail) (.ret (a0, a3, ())))
noncomputable def fault_Text_l0 (st : fault_Text_S0) : Option fault_Text_Q0 := LT.loop fault_Text_b0 FUEL st
noncomputable def fault_Text_A : Anns := ⟨[(3, [.keep [0, 3, 7, 8, 9] []]), (100003, [.keep [0, 3] []])], [(3, genOrc fault_Text_h0 fault_Text_x0 fault_Text_l0)], 1000⟩
theorem fault_Text_s0 : ∀ (st : fault_Text_S0) m k, loopE (prep (tabsG L_fault_says) (annOf fault_Text_A (loopN Tryd.prog 17 0))) (evalC Tryd.prog (tabsG L_fault_says) fault_Text_A (loopN Tryd.prog 17 0)) (m + 1) (fault_Text_h0.enc st) (outK (tabsG L_fault_says) fault_Text_A (loopN Tryd.prog 17 0) k) = (fault_Text_b0 st).run (exK fault_Text_x0 k) (fun st' => loopE (prep (tabsG L_fault_says) (annOf fault_Text_A (loopN Tryd.prog 17 0))) (evalC Tryd.prog (tabsG L_fault_says) fault_Text_A (loopN Tryd.prog 17 0)) m (fault_Text_h0.enc st') (outK (tabsG L_fault_says) fault_Text_A (loopN Tryd.prog 17 0) k)) := by
  intro st m k
  obtain ⟨a0, a3, a7, a8, a9, ⟨⟩⟩ := st
  kernel_rfl
theorem fault_Text_o0 : OrcOk Tryd.prog (tabsG L_fault_says) fault_Text_A (loopN Tryd.prog 17 0) := genOrc_ok (h := fault_Text_h0) (xs := fault_Text_x0) (F := fault_Text_l0) (bd := fault_Text_b0) (fun _ => FUEL) (by kernel_rfl) (fun _ _ h => h) fault_Text_s0
noncomputable def fault_Text_t (p0 : Err) : FT (ByteArray) := (.opt (fault_Places p0) fun x14 => (.opt (fault_Text_l0 (p0, ByteArray.mk #[], x14, Int.ofNat x14.length, 0, ())) fun x15 => (.opt (fault_Code x15.fst) fun x16 => (.opt (fault_says x16) fun x17 => (.br (decide (ByteArray.size x15.snd.fst + x17.size ≤ 9223372036854775807)) (.ret (x15.snd.fst ++ x17)) .fail)))))
noncomputable def fault_Text (p0 : Err) : Option (ByteArray) := (fault_Text_t p0).fin
noncomputable def fault_Text_sp : CSpec := genSpec [.err] [.str] (fun x => fault_Text x)
theorem fault_Text_ok : EnterOk Tryd.prog 17 ∧ CSpecOk Tryd.prog cfgG 17 fault_Text_sp := ⟨enter Tryd.func17 (by kernel_rfl) (by kernel_rfl), genSpec_ok (A := fault_Text_A) (sa := [.err]) (sr := [.str]) (bd := fun (x : ArgT [.err]) => fault_Text_t x) (fitG L_fault_says) s_fault_says mixed (by kernel_rfl) (loopsAll (l := [loopN Tryd.prog 17 0]) (by kernel_rfl) ⟨fault_Text_o0, trivial⟩) (fun _ => rfl) (by
  intro x
  skip
  kernel_rfl)⟩
noncomputable def L_fault_Text : List (Nat × CSpec) := (17, fault_Text_sp) :: L_fault_says
theorem s_fault_Text : SpecsOk Tryd.prog (tabsG L_fault_Text) := oneSpecGT s_fault_says fault_Text_ok
noncomputable def fault_Shift_A : Anns := ⟨[], [], 1000⟩
noncomputable def fault_Shift_t (p0 : Err) (p1 : Int) (p2 : Int) : FT (Err) := (.opt (fault_first p0) fun x6 => (.br x6.isNone (.ret p0) (.opt x6 fun x7 => (.br (x7.fst.fst != p1) (.ret p0) (.opt x6 fun x8 => (.opt x6 fun x9 => (.opt (fault_At p1 (IntKind.i64.wrap (x8.fst.snd + p2)) x9.snd) fun x10 => (.ret x10))))))))
noncomputable def fault_Shift (p0 : Err) (p1 : Int) (p2 : Int) : Option (Err) := (fault_Shift_t p0 p1 p2).fin
noncomputable def fault_Shift_sp : CSpec := genSpec [.err, (.int .i64), (.int .i64)] [.err] (fun x => fault_Shift x.1 x.2.1 x.2.2)
theorem fault_Shift_ok : EnterOk Tryd.prog 20 ∧ CSpecOk Tryd.prog cfgG 20 fault_Shift_sp := ⟨enter Tryd.func20 (by kernel_rfl) (by kernel_rfl), genSpec_ok (A := fault_Shift_A) (sa := [.err, (.int .i64), (.int .i64)]) (sr := [.err]) (bd := fun (x : ArgT [.err, (.int .i64), (.int .i64)]) => fault_Shift_t x.1 x.2.1 x.2.2) (fitG L_fault_Text) s_fault_Text mixed (by kernel_rfl) (loopsAll (l := []) (by kernel_rfl) trivial) (fun _ => rfl) (by
  intro x
  obtain ⟨p0, p1, p2⟩ := x
  kernel_rfl)⟩
noncomputable def L_fault_Shift : List (Nat × CSpec) := (20, fault_Shift_sp) :: L_fault_Text
theorem s_fault_Shift : SpecsOk Tryd.prog (tabsG L_fault_Shift) := oneSpecGT s_fault_Text fault_Shift_ok
noncomputable def fault_Least_h0 : EP := ⟨[(3, .d .err), (6, .d (.sl .err)), (7, .d (.int .i64)), (8, .d (.int .i64))], []⟩
noncomputable def fault_Least_x0 : List (Exit × EP) := [(Exit.exit 0, ⟨[(3, .d .err)], []⟩)]
abbrev fault_Least_S0 : Type := Err × (List Err) × Int × Int × Unit
abbrev fault_Least_Q0 : Type := (Err × Unit)
noncomputable def fault_Least_b0 : fault_Least_S0 → LT fault_Least_S0 fault_Least_Q0 := fun st => match st with
  | (a3, a6, a7, a8, ()) => (.br (decide (a8 < a7)) (.br (decide (0 ≤ a8)) (.br (decide (a8 < Int.ofNat a6.length)) (.br (!Option.isNone (getI a6 a8 none)) (.br (Option.isNone a3) (.next ((getI a6 a8 none), a6, a7, (IntKind.i64.wrap (a8 + 1)), ())) (.opt (fault_Code a3) fun x13 => (.opt (isF (getI a6 a8 none) (some ([], x13))) fun x14 => (.br (!x14) (.opt (fault_Code (getI a6 a8 none)) fun x15 => (.opt (fault_Code a3) fun x16 => (.br (decide (x15 < x16)) (.next ((getI a6 a8 none), a6, a7, (IntKind.i64.wrap (a8 + 1)), ())) (.next (a3, a6, a7, (IntKind.i64.wrap (a8 + 1)), ()))))) (.next (a3, a6, a7, (IntKind.i64.wrap (a8 + 1)), ())))))) (.next (a3, a6, a7, (IntKind.i64.wrap (a8 + 1)), ()))) .fail) .fail) (.ret (a3, ())))
noncomputable def fault_Least_l0 (st : fault_Least_S0) : Option fault_Least_Q0 := LT.loop fault_Least_b0 FUEL st
noncomputable def fault_Least_A : Anns := ⟨[(3, [.keep [3, 6, 7, 8] []]), (100003, [.keep [3] []])], [(3, genOrc fault_Least_h0 fault_Least_x0 fault_Least_l0)], 1000⟩
theorem fault_Least_s0 : ∀ (st : fault_Least_S0) m k, loopE (prep (tabsG L_fault_Shift) (annOf fault_Least_A (loopN Tryd.prog 15 0))) (evalC Tryd.prog (tabsG L_fault_Shift) fault_Least_A (loopN Tryd.prog 15 0)) (m + 1) (fault_Least_h0.enc st) (outK (tabsG L_fault_Shift) fault_Least_A (loopN Tryd.prog 15 0) k) = (fault_Least_b0 st).run (exK fault_Least_x0 k) (fun st' => loopE (prep (tabsG L_fault_Shift) (annOf fault_Least_A (loopN Tryd.prog 15 0))) (evalC Tryd.prog (tabsG L_fault_Shift) fault_Least_A (loopN Tryd.prog 15 0)) m (fault_Least_h0.enc st') (outK (tabsG L_fault_Shift) fault_Least_A (loopN Tryd.prog 15 0) k)) := by
  intro st m k
  obtain ⟨a3, a6, a7, a8, ⟨⟩⟩ := st
  kernel_rfl
theorem fault_Least_o0 : OrcOk Tryd.prog (tabsG L_fault_Shift) fault_Least_A (loopN Tryd.prog 15 0) := genOrc_ok (h := fault_Least_h0) (xs := fault_Least_x0) (F := fault_Least_l0) (bd := fault_Least_b0) (fun _ => FUEL) (by kernel_rfl) (fun _ _ h => h) fault_Least_s0
noncomputable def fault_Least_t (p0 : (List Err)) : FT (Err) := (.opt (fault_Least_l0 (none, p0, Int.ofNat p0.length, 0, ())) fun x18 => (.ret x18.fst))
noncomputable def fault_Least (p0 : (List Err)) : Option (Err) := (fault_Least_t p0).fin
noncomputable def fault_Least_sp : CSpec := genSpec [(.sl .err)] [.err] (fun x => fault_Least x)
theorem fault_Least_ok : EnterOk Tryd.prog 15 ∧ CSpecOk Tryd.prog cfgG 15 fault_Least_sp := ⟨enter Tryd.func15 (by kernel_rfl) (by kernel_rfl), genSpec_ok (A := fault_Least_A) (sa := [(.sl .err)]) (sr := [.err]) (bd := fun (x : ArgT [(.sl .err)]) => fault_Least_t x) (fitG L_fault_Shift) s_fault_Shift mixed (by kernel_rfl) (loopsAll (l := [loopN Tryd.prog 15 0]) (by kernel_rfl) ⟨fault_Least_o0, trivial⟩) (fun _ => rfl) (by
  intro x
  skip
  kernel_rfl)⟩
noncomputable def L_fault_Least : List (Nat × CSpec) := (15, fault_Least_sp) :: L_fault_Shift
theorem s_fault_Least : SpecsOk Tryd.prog (tabsG L_fault_Least) := oneSpecGT s_fault_Shift fault_Least_ok
noncomputable def ref01_N_A : Anns := ⟨[], [], 1000⟩
noncomputable def ref01_N_t (p0 : Int) : FT ((Bool × List (Int × Int) × Int)) := (.ret ((true, [], p0)))
noncomputable def ref01_N (p0 : Int) : Option ((Bool × List (Int × Int) × Int)) := (ref01_N_t p0).fin
noncomputable def ref01_N_sp : CSpec := genSpec [(.int .i64)] [shE] (fun x => ref01_N x)
theorem ref01_N_ok : EnterOk Tryd.prog 24 ∧ CSpecOk Tryd.prog cfgG 24 ref01_N_sp := ⟨enter Tryd.func24 (by kernel_rfl) (by kernel_rfl), genSpec_ok (A := ref01_N_A) (sa := [(.int .i64)]) (sr := [shE]) (bd := fun (x : ArgT [(.int .i64)]) => ref01_N_t x) (fitG L_fault_Least) s_fault_Least mixed (by kernel_rfl) (loopsAll (l := []) (by kernel_rfl) trivial) (fun _ => rfl) (by
  intro x
  skip
  kernel_rfl)⟩
noncomputable def L_ref01_N : List (Nat × CSpec) := (24, ref01_N_sp) :: L_fault_Least
theorem s_ref01_N : SpecsOk Tryd.prog (tabsG L_ref01_N) := oneSpecGT s_fault_Least ref01_N_ok
noncomputable def ref01_At_A : Anns := ⟨[], [], 1000⟩
noncomputable def ref01_At_t (p0 : Int) (p1 : Int) (p2 : (Bool × List (Int × Int) × Int)) : FT ((Bool × List (Int × Int) × Int)) := (.br (!p2.fst) (.ret p2) (.br (appLim 16 1 (List.length p2.snd.fst)) (.ret ((true, (p0, p1) :: p2.snd.fst, p2.snd.snd))) .fail))
noncomputable def ref01_At (p0 : Int) (p1 : Int) (p2 : (Bool × List (Int × Int) × Int)) : Option ((Bool × List (Int × Int) × Int)) := (ref01_At_t p0 p1 p2).fin
noncomputable def ref01_At_sp : CSpec := genSpec [(.int .i64), (.int .i64), shE] [shE] (fun x => ref01_At x.1 x.2.1 x.2.2)
theorem ref01_At_ok : EnterOk Tryd.prog 25 ∧ CSpecOk Tryd.prog cfgG 25 ref01_At_sp := ⟨enter Tryd.func25 (by kernel_rfl) (by kernel_rfl), genSpec_ok (A := ref01_At_A) (sa := [(.int .i64), (.int .i64), shE]) (sr := [shE]) (bd := fun (x : ArgT [(.int .i64), (.int .i64), shE]) => ref01_At_t x.1 x.2.1 x.2.2) (fitG L_ref01_N) s_ref01_N mixed (by kernel_rfl) (loopsAll (l := []) (by kernel_rfl) trivial) (fun _ => rfl) (by
  intro x
  obtain ⟨p0, p1, p2⟩ := x
  kernel_rfl)⟩
noncomputable def L_ref01_At : List (Nat × CSpec) := (25, ref01_At_sp) :: L_ref01_N
theorem s_ref01_At : SpecsOk Tryd.prog (tabsG L_ref01_At) := oneSpecGT s_ref01_N ref01_At_ok
noncomputable def ref01_Same_h0 : EP := ⟨[(2, .ref 2 0), (3, .ref 3 0), (29, .d (.int .i64)), (30, .d (.int .i64))], [(2, .box 28 [.d .bool, .d (.sl shPlace), .d (.int .i64)]), (3, .box 28 [.d .bool, .d (.sl shPlace), .d (.int .i64)])]⟩
noncomputable def ref01_Same_x0 : List (Exit × EP) := [(Exit.ret, ⟨[(4, .d .bool)], []⟩), (Exit.exit 0, ⟨[], []⟩)]
abbrev ref01_Same_S0 : Type := Int × Int × Bool × (List (Int × Int)) × Int × Bool × (List (Int × Int)) × Int × Unit
abbrev ref01_Same_Q0 : Type := (Bool × Unit) ⊕ (Unit)
noncomputable def ref01_Same_b0 : ref01_Same_S0 → LT ref01_Same_S0 ref01_Same_Q0 := fun st => match st with
  | (a29, a30, r2_0, r2_1, r2_2, r3_0, r3_1, r3_2, ()) => (.br (decide (a30 < a29)) (.br (decide (0 ≤ a30)) (.br (decide (a30 < Int.ofNat r2_1.length)) (.br (decide (0 ≤ a30)) (.br (decide (a30 < Int.ofNat r3_1.length)) (.br (!eqB shPlace (getI r2_1 a30 (0, 0)) (getI r3_1 a30 (0, 0))) (.ret (.inl (false, ()))) (.next (a29, (IntKind.i64.wrap (a30 + 1)), r2_0, r2_1, r2_2, r3_0, r3_1, r3_2, ()))) .fail) .fail) .fail) .fail) (.ret (.inr ())))
noncomputable def ref01_Same_l0 (st : ref01_Same_S0) : Option ref01_Same_Q0 := LT.loop ref01_Same_b0 FUEL st
noncomputable def ref01_Same_A : Anns := ⟨[(4, [.keep [2, 3, 29, 30] [2, 3]]), (100004, [.keep [4] []])], [(4, genOrc ref01_Same_h0 ref01_Same_x0 ref01_Same_l0)], 1000⟩
theorem ref01_Same_s0 : ∀ (st : ref01_Same_S0) m k, loopE (prep (tabsG L_ref01_At) (annOf ref01_Same_A (loopN Tryd.prog 32 0))) (evalC Tryd.prog (tabsG L_ref01_At) ref01_Same_A (loopN Tryd.prog 32 0)) (m + 1) (ref01_Same_h0.enc st) (outK (tabsG L_ref01_At) ref01_Same_A (loopN Tryd.prog 32 0) k) = (ref01_Same_b0 st).run (exK ref01_Same_x0 k) (fun st' => loopE (prep (tabsG L_ref01_At) (annOf ref01_Same_A (loopN Tryd.prog 32 0))) (evalC Tryd.prog (tabsG L_ref01_At) ref01_Same_A (loopN Tryd.prog 32 0)) m (ref01_Same_h0.enc st') (outK (tabsG L_ref01_At) ref01_Same_A (loopN Tryd.prog 32 0) k)) := by
  intro st m k
  obtain ⟨a29, a30, r2_0, r2_1, r2_2, r3_0, r3_1, r3_2, ⟨⟩⟩ := st
  kernel_rfl
theorem ref01_Same_o0 : OrcOk Tryd.prog (tabsG L_ref01_At) ref01_Same_A (loopN Tryd.prog 32 0) := genOrc_ok (h := ref01_Same_h0) (xs := ref01_Same_x0) (F := ref01_Same_l0) (bd := ref01_Same_b0) (fun _ => FUEL) (by kernel_rfl) (fun _ _ h => h) ref01_Same_s0
noncomputable def ref01_Same_t (p0 : (Bool × List (Int × Int) × Int)) (p1 : (Bool × List (Int × Int) × Int)) : FT (Bool) := (.br (!p0.fst == p1.fst) (.ret false) (.br (p0.snd.snd != p1.snd.snd) (.ret false) (.br (Int.ofNat (List.length p0.snd.fst) != Int.ofNat (List.length p1.snd.fst)) (.ret false) (.opt (ref01_Same_l0 (Int.ofNat (List.length p0.snd.fst), 0, p0.fst, p0.snd.fst, p0.snd.snd, p1.fst, p1.snd.fst, p1.snd.snd, ())) fun x3 => (.alt x3 (fun x5 => (.ret x5.fst)) (fun x6 => (.ret true)))))))
noncomputable def ref01_Same (p0 : (Bool × List (Int × Int) × Int)) (p1 : (Bool × List (Int × Int) × Int)) : Option (Bool) := (ref01_Same_t p0 p1).fin
noncomputable def ref01_Same_sp : CSpec := genSpec [shE, shE] [.bool] (fun x => ref01_Same x.1 x.2)
theorem ref01_Same_ok : EnterOk Tryd.prog 32 ∧ CSpecOk Tryd.prog cfgG 32 ref01_Same_sp := ⟨enter Tryd.func32 (by kernel_rfl) (by kernel_rfl), genSpec_ok (A := ref01_Same_A) (sa := [shE, shE]) (sr := [.bool]) (bd := fun (x : ArgT [shE, shE]) => ref01_Same_t x.1 x.2) (fitG L_ref01_At) s_ref01_At mixed (by kernel_rfl) (loopsAll (l := [loopN Tryd.prog 32 0]) (by kernel_rfl) ⟨ref01_Same_o0, trivial⟩) (fun _ => rfl) (by
  intro x
  obtain ⟨p0, p1⟩ := x
  kernel_rfl)⟩
noncomputable def L_ref01_Same : List (Nat × CSpec) := (32, ref01_Same_sp) :: L_ref01_At
theorem s_ref01_Same : SpecsOk Tryd.prog (tabsG L_ref01_Same) := oneSpecGT s_ref01_At ref01_Same_ok
noncomputable def ref01_word_A : Anns := ⟨[], [], 1000⟩
noncomputable def ref01_word_t (p0 : Int) : FT (ByteArray) := (.br (p0 == 1) (.ret (ByteArray.mk #[98, 121, 116, 101])) (.br (p0 == 2) (.ret (ByteArray.mk #[105, 116, 101, 109])) (.br (p0 == 3) (.ret (ByteArray.mk #[108, 105, 110, 101])) (.br (p0 == 4) (.ret (ByteArray.mk #[115, 116, 101, 112])) (.br (p0 == 5) (.ret (ByteArray.mk #[110, 111, 100, 101])) (.br (p0 == 6) (.ret (ByteArray.mk #[114, 101, 99, 111, 114, 100])) (.ret (ByteArray.mk #[112, 108, 97, 99, 101]))))))))
noncomputable def ref01_word (p0 : Int) : Option (ByteArray) := (ref01_word_t p0).fin
noncomputable def ref01_word_sp : CSpec := genSpec [(.int .i64)] [.str] (fun x => ref01_word x)
theorem ref01_word_ok : EnterOk Tryd.prog 37 ∧ CSpecOk Tryd.prog cfgG 37 ref01_word_sp := ⟨enter Tryd.func37 (by kernel_rfl) (by kernel_rfl), genSpec_ok (A := ref01_word_A) (sa := [(.int .i64)]) (sr := [.str]) (bd := fun (x : ArgT [(.int .i64)]) => ref01_word_t x) (fitG L_ref01_Same) s_ref01_Same mixed (by kernel_rfl) (loopsAll (l := []) (by kernel_rfl) trivial) (fun _ => rfl) (by
  intro x
  skip
  kernel_rfl)⟩
noncomputable def L_ref01_word : List (Nat × CSpec) := (37, ref01_word_sp) :: L_ref01_Same
theorem s_ref01_word : SpecsOk Tryd.prog (tabsG L_ref01_word) := oneSpecGT s_ref01_Same ref01_word_ok
noncomputable def ref01_words_A : Anns := ⟨[], [], 1000⟩
noncomputable def ref01_words_t (p0 : Int) : FT (ByteArray) := (.br (decide (p0 < 0)) (.ret (ByteArray.mk #[117, 110, 107, 110, 111, 119, 110])) (.br (decide (p0 ≥ 22)) (.ret (ByteArray.mk #[117, 110, 107, 110, 111, 119, 110])) (.br (decide (0 ≤ p0)) (.br (decide (p0 < 22)) (.br (decide (0 ≤ p0)) (.br (decide (p0 < 22)) (.ret (getI [ByteArray.mk #[97, 108, 108, 32, 105, 115, 32, 119, 101, 108, 108], ByteArray.mk #[111, 117, 116, 115, 105, 100, 101, 32, 105, 116, 115, 32, 114, 97, 110, 103, 101], ByteArray.mk #[116, 111, 111, 32, 108, 111, 110, 103], ByteArray.mk #[110, 111, 116, 32, 111, 102, 32, 116, 104, 101, 32, 102, 111, 114, 109], ByteArray.mk #[110, 111, 116, 32, 115, 117, 99, 104, 32, 97, 32, 116, 101, 120, 116], ByteArray.mk #[117, 110, 108, 105, 107, 101, 32, 107, 105, 110, 100, 115], ByteArray.mk #[116, 111, 111, 32, 115, 104, 111, 114, 116], ByteArray.mk #[97, 32, 119, 114, 111, 110, 103, 32, 115, 117, 109], ByteArray.mk #[115, 111, 109, 101, 116, 104, 105, 110, 103, 32, 98, 101, 104, 105, 110, 100], ByteArray.mk #[116, 104, 101, 114, 101, 32, 97, 108, 114, 101, 97, 100, 121], ByteArray.mk #[110, 111, 32, 115, 117, 99, 104, 32, 116, 104, 105, 110, 103], ByteArray.mk #[110, 111, 32, 114, 111, 111, 109], ByteArray.mk #[110, 111, 32, 109, 101, 109, 98, 101, 114], ByteArray.mk #[97, 32, 119, 114, 111, 110, 103, 32, 108, 105, 110, 107], ByteArray.mk #[110, 111, 32, 116, 114, 101, 101], ByteArray.mk #[97, 32, 99, 104, 97, 110, 103, 101, 32, 105, 115, 32, 111, 112, 101, 110], ByteArray.mk #[100, 111, 119, 110], ByteArray.mk #[105, 110, 32, 117, 115, 101], ByteArray.mk #[97, 116, 32, 105, 116, 115, 32, 101, 110, 100], ByteArray.mk #[110, 105, 108], ByteArray.mk #[111, 117, 116, 32, 111, 102, 32, 111, 114, 100, 101, 114], ByteArray.mk #[116, 104, 101, 32, 119, 114, 111, 110, 103, 32, 116, 105, 109, 101]] p0 (ByteArray.mk #[]))) .fail) .fail) .fail) .fail)))
noncomputable def ref01_words (p0 : Int) : Option (ByteArray) := (ref01_words_t p0).fin
noncomputable def ref01_words_sp : CSpec := genSpec [(.int .i64)] [.str] (fun x => ref01_words x)
theorem ref01_words_ok : EnterOk Tryd.prog 39 ∧ CSpecOk Tryd.prog cfgG 39 ref01_words_sp := ⟨enter Tryd.func39 (by kernel_rfl) (by kernel_rfl), genSpec_ok (A := ref01_words_A) (sa := [(.int .i64)]) (sr := [.str]) (bd := fun (x : ArgT [(.int .i64)]) => ref01_words_t x) (fitG L_ref01_word) s_ref01_word mixed (by kernel_rfl) (loopsAll (l := []) (by kernel_rfl) trivial) (fun _ => rfl) (by
  intro x
  skip
  kernel_rfl)⟩
noncomputable def L_ref01_words : List (Nat × CSpec) := (39, ref01_words_sp) :: L_ref01_word
theorem s_ref01_words : SpecsOk Tryd.prog (tabsG L_ref01_words) := oneSpecGT s_ref01_word ref01_words_ok
noncomputable def ref01_Text_h0 : EP := ⟨[(1, .ref 1 0), (3, .d .str), (7, .d (.sl shPlace)), (8, .d (.int .i64)), (9, .d (.int .i64))], [(1, .box 28 [.d .bool, .d (.sl shPlace), .d (.int .i64)])]⟩
noncomputable def ref01_Text_x0 : List (Exit × EP) := [(Exit.exit 0, ⟨[(1, .ref 1 0), (3, .d .str)], [(1, .box 28 [.d .bool, .d (.sl shPlace), .d (.int .i64)])]⟩)]
abbrev ref01_Text_S0 : Type := ByteArray × (List (Int × Int)) × Int × Int × Bool × (List (Int × Int)) × Int × Unit
abbrev ref01_Text_Q0 : Type := (ByteArray × Bool × (List (Int × Int)) × Int × Unit)
noncomputable def ref01_Text_b0 : ref01_Text_S0 → LT ref01_Text_S0 ref01_Text_Q0 := fun st => match st with
  | (a3, a7, a8, a9, r1_0, r1_1, r1_2, ()) => (.br (decide (a9 < a8)) (.br (decide (0 ≤ a9)) (.br (decide (a9 < Int.ofNat a7.length)) (.opt (ref01_word (getI a7 a9 (0, 0)).fst) fun x7 => (.br (decide (x7.size + (ByteArray.mk #[32]).size ≤ 9223372036854775807)) (.opt (itoaF (getI a7 a9 (0, 0)).snd) fun x8 => (.br (decide ((x7 ++ ByteArray.mk #[32]).size + x8.size ≤ 9223372036854775807)) (.br (decide ((x7 ++ ByteArray.mk #[32] ++ x8).size + (ByteArray.mk #[58, 32]).size ≤ 9223372036854775807)) (.br (decide (a3.size + (x7 ++ ByteArray.mk #[32] ++ x8 ++ ByteArray.mk #[58, 32]).size ≤ 9223372036854775807)) (.next ((a3 ++ (x7 ++ ByteArray.mk #[32] ++ x8 ++ ByteArray.mk #[58, 32])), a7, a8, (IntKind.i64.wrap (a9 + 1)), r1_0, r1_1, r1_2, ())) .fail) .fail) .fail)) .fail)) .fail) .fail) (.ret (a3, r1_0, r1_1, r1_2, ())))
noncomputable def ref01_Text_l0 (st : ref01_Text_S0) : Option ref01_Text_Q0 := LT.loop ref01_Text_b0 FUEL st
noncomputable def ref01_Text_A : Anns := ⟨[(3, [.keep [1, 3, 7, 8, 9] [1]]), (100003, [.keep [1, 3] [1]])], [(3, genOrc ref01_Text_h0 ref01_Text_x0 ref01_Text_l0)], 1000⟩
theorem ref01_Text_s0 : ∀ (st : ref01_Text_S0) m k, loopE (prep (tabsG L_ref01_words) (annOf ref01_Text_A (loopN Tryd.prog 22 0))) (evalC Tryd.prog (tabsG L_ref01_words) ref01_Text_A (loopN Tryd.prog 22 0)) (m + 1) (ref01_Text_h0.enc st) (outK (tabsG L_ref01_words) ref01_Text_A (loopN Tryd.prog 22 0) k) = (ref01_Text_b0 st).run (exK ref01_Text_x0 k) (fun st' => loopE (prep (tabsG L_ref01_words) (annOf ref01_Text_A (loopN Tryd.prog 22 0))) (evalC Tryd.prog (tabsG L_ref01_words) ref01_Text_A (loopN Tryd.prog 22 0)) m (ref01_Text_h0.enc st') (outK (tabsG L_ref01_words) ref01_Text_A (loopN Tryd.prog 22 0) k)) := by
  intro st m k
  obtain ⟨a3, a7, a8, a9, r1_0, r1_1, r1_2, ⟨⟩⟩ := st
  kernel_rfl
theorem ref01_Text_o0 : OrcOk Tryd.prog (tabsG L_ref01_words) ref01_Text_A (loopN Tryd.prog 22 0) := genOrc_ok (h := ref01_Text_h0) (xs := ref01_Text_x0) (F := ref01_Text_l0) (bd := ref01_Text_b0) (fun _ => FUEL) (by kernel_rfl) (fun _ _ h => h) ref01_Text_s0
noncomputable def ref01_Text_t (p0 : (Bool × List (Int × Int) × Int)) : FT (ByteArray) := (.opt (ref01_Text_l0 (ByteArray.mk #[], p0.snd.fst, Int.ofNat (List.length p0.snd.fst), 0, p0.fst, p0.snd.fst, p0.snd.snd, ())) fun x11 => (.opt (ref01_words x11.snd.snd.snd.fst) fun x12 => (.br (decide (ByteArray.size x11.fst + x12.size ≤ 9223372036854775807)) (.ret (x11.fst ++ x12)) .fail)))
noncomputable def ref01_Text (p0 : (Bool × List (Int × Int) × Int)) : Option (ByteArray) := (ref01_Text_t p0).fin
noncomputable def ref01_Text_sp : CSpec := genSpec [shE] [.str] (fun x => ref01_Text x)
theorem ref01_Text_ok : EnterOk Tryd.prog 22 ∧ CSpecOk Tryd.prog cfgG 22 ref01_Text_sp := ⟨enter Tryd.func22 (by kernel_rfl) (by kernel_rfl), genSpec_ok (A := ref01_Text_A) (sa := [shE]) (sr := [.str]) (bd := fun (x : ArgT [shE]) => ref01_Text_t x) (fitG L_ref01_words) s_ref01_words mixed (by kernel_rfl) (loopsAll (l := [loopN Tryd.prog 22 0]) (by kernel_rfl) ⟨ref01_Text_o0, trivial⟩) (fun _ => rfl) (by
  intro x
  skip
  kernel_rfl)⟩
noncomputable def L_ref01_Text : List (Nat × CSpec) := (22, ref01_Text_sp) :: L_ref01_words
theorem s_ref01_Text : SpecsOk Tryd.prog (tabsG L_ref01_Text) := oneSpecGT s_ref01_words ref01_Text_ok
noncomputable def ref01_Shift_A : Anns := ⟨[], [], 1000⟩
noncomputable def ref01_Shift_t (p0 : (Bool × List (Int × Int) × Int)) (p1 : Int) (p2 : Int) : FT ((Bool × List (Int × Int) × Int)) := (.br (Int.ofNat (List.length p0.snd.fst) == 0) (.ret p0) (.br (decide (0 < Int.ofNat (List.length p0.snd.fst))) (.br ((getI p0.snd.fst 0 (0, 0)).fst != p1) (.ret p0) (.br (appLim 16 0 (List.length p0.snd.fst)) (.br (decide (0 < Int.ofNat ([] ++ p0.snd.fst).length)) (.br (decide (0 < Int.ofNat ([] ++ p0.snd.fst).length)) (.br (decide (0 < Int.ofNat ([] ++ p0.snd.fst).length)) (.br (decide (0 < Int.ofNat ([] ++ p0.snd.fst).length)) (.ret ((p0.fst, ([] ++ p0.snd.fst).set (Int.toNat 0) ((getI ([] ++ p0.snd.fst) 0 (0, 0)).fst, IntKind.i64.wrap ((getI ([] ++ p0.snd.fst) 0 (0, 0)).snd + p2)), p0.snd.snd))) .fail) .fail) .fail) .fail) .fail)) .fail))
noncomputable def ref01_Shift (p0 : (Bool × List (Int × Int) × Int)) (p1 : Int) (p2 : Int) : Option ((Bool × List (Int × Int) × Int)) := (ref01_Shift_t p0 p1 p2).fin
noncomputable def ref01_Shift_sp : CSpec := genSpec [shE, (.int .i64), (.int .i64)] [shE] (fun x => ref01_Shift x.1 x.2.1 x.2.2)
theorem ref01_Shift_ok : EnterOk Tryd.prog 21 ∧ CSpecOk Tryd.prog cfgG 21 ref01_Shift_sp := ⟨enter Tryd.func21 (by kernel_rfl) (by kernel_rfl), genSpec_ok (A := ref01_Shift_A) (sa := [shE, (.int .i64), (.int .i64)]) (sr := [shE]) (bd := fun (x : ArgT [shE, (.int .i64), (.int .i64)]) => ref01_Shift_t x.1 x.2.1 x.2.2) (fitG L_ref01_Text) s_ref01_Text mixed (by kernel_rfl) (loopsAll (l := []) (by kernel_rfl) trivial) (fun _ => rfl) (by
  intro x
  obtain ⟨p0, p1, p2⟩ := x
  kernel_rfl)⟩
noncomputable def L_ref01_Shift : List (Nat × CSpec) := (21, ref01_Shift_sp) :: L_ref01_Text
theorem s_ref01_Shift : SpecsOk Tryd.prog (tabsG L_ref01_Shift) := oneSpecGT s_ref01_Text ref01_Shift_ok
noncomputable def ref01_Least_h0 : EP := ⟨[(2, .ref 2 0), (3, .ref 3 0), (7, .d (.sl shE)), (8, .d (.int .i64)), (9, .d (.int .i64))], [(2, .box 28 [.d .bool, .nsl, .d (.int .i64)]), (3, .box 28 [.d .bool, .d (.sl shPlace), .d (.int .i64)])]⟩
noncomputable def ref01_Least_x0 : List (Exit × EP) := [(Exit.exit 0, ⟨[(2, .ref 2 0), (3, .ref 3 0)], [(2, .box 28 [.d .bool, .nsl, .d (.int .i64)]), (3, .box 28 [.d .bool, .d (.sl shPlace), .d (.int .i64)])]⟩)]
abbrev ref01_Least_S0 : Type := (List (Bool × List (Int × Int) × Int)) × Int × Int × Bool × Int × Bool × (List (Int × Int)) × Int × Unit
abbrev ref01_Least_Q0 : Type := (Bool × Int × Bool × (List (Int × Int)) × Int × Unit)
noncomputable def ref01_Least_b0 : ref01_Least_S0 → LT ref01_Least_S0 ref01_Least_Q0 := fun st => match st with
  | (a7, a8, a9, r2_0, r2_1, r3_0, r3_1, r3_2, ()) => (.br (decide (a9 < a8)) (.br (decide (0 ≤ a9)) (.br (decide (a9 < Int.ofNat a7.length)) (.br ((getI a7 a9 (false, [], 0)).fst) (.br (!r3_0) (.next (a7, a8, (IntKind.i64.wrap (a9 + 1)), r2_0, r2_1, ((getI a7 a9 (false, [], 0)).fst), ((getI a7 a9 (false, [], 0)).snd.fst), ((getI a7 a9 (false, [], 0)).snd.snd), ())) (.br (decide ((getI a7 a9 (false, [], 0)).snd.snd < r3_2)) (.next (a7, a8, (IntKind.i64.wrap (a9 + 1)), r2_0, r2_1, ((getI a7 a9 (false, [], 0)).fst), ((getI a7 a9 (false, [], 0)).snd.fst), ((getI a7 a9 (false, [], 0)).snd.snd), ())) (.next (a7, a8, (IntKind.i64.wrap (a9 + 1)), r2_0, r2_1, r3_0, r3_1, r3_2, ())))) (.next (a7, a8, (IntKind.i64.wrap (a9 + 1)), r2_0, r2_1, r3_0, r3_1, r3_2, ()))) .fail) .fail) (.ret (r2_0, r2_1, r3_0, r3_1, r3_2, ())))
noncomputable def ref01_Least_l0 (st : ref01_Least_S0) : Option ref01_Least_Q0 := LT.loop ref01_Least_b0 FUEL st
noncomputable def ref01_Least_A : Anns := ⟨[(3, [.keep [2, 3, 7, 8, 9] [2, 3], .datB 3 shE, .keep [2, 3, 7, 8, 9] [2, 3]]), (100003, [.keep [2, 3] [2, 3]])], [(3, genOrc ref01_Least_h0 ref01_Least_x0 ref01_Least_l0)], 1000⟩
theorem ref01_Least_s0 : ∀ (st : ref01_Least_S0) m k, loopE (prep (tabsG L_ref01_Shift) (annOf ref01_Least_A (loopN Tryd.prog 16 0))) (evalC Tryd.prog (tabsG L_ref01_Shift) ref01_Least_A (loopN Tryd.prog 16 0)) (m + 1) (ref01_Least_h0.enc st) (outK (tabsG L_ref01_Shift) ref01_Least_A (loopN Tryd.prog 16 0) k) = (ref01_Least_b0 st).run (exK ref01_Least_x0 k) (fun st' => loopE (prep (tabsG L_ref01_Shift) (annOf ref01_Least_A (loopN Tryd.prog 16 0))) (evalC Tryd.prog (tabsG L_ref01_Shift) ref01_Least_A (loopN Tryd.prog 16 0)) m (ref01_Least_h0.enc st') (outK (tabsG L_ref01_Shift) ref01_Least_A (loopN Tryd.prog 16 0) k)) := by
  intro st m k
  obtain ⟨a7, a8, a9, r2_0, r2_1, r3_0, r3_1, r3_2, ⟨⟩⟩ := st
  kernel_rfl
theorem ref01_Least_o0 : OrcOk Tryd.prog (tabsG L_ref01_Shift) ref01_Least_A (loopN Tryd.prog 16 0) := genOrc_ok (h := ref01_Least_h0) (xs := ref01_Least_x0) (F := ref01_Least_l0) (bd := ref01_Least_b0) (fun _ => FUEL) (by kernel_rfl) (fun _ _ h => h) ref01_Least_s0
noncomputable def ref01_Least_t (p0 : (List (Bool × List (Int × Int) × Int))) : FT ((Bool × List (Int × Int) × Int)) := (.opt (ref01_Least_l0 (p0, Int.ofNat p0.length, 0, false, 0, false, [], 0, ())) fun x2 => (.ret ((x2.snd.snd.fst, x2.snd.snd.snd.fst, x2.snd.snd.snd.snd.fst))))
noncomputable def ref01_Least (p0 : (List (Bool × List (Int × Int) × Int))) : Option ((Bool × List (Int × Int) × Int)) := (ref01_Least_t p0).fin
noncomputable def ref01_Least_sp : CSpec := genSpec [(.sl shE)] [shE] (fun x => ref01_Least x)
theorem ref01_Least_ok : EnterOk Tryd.prog 16 ∧ CSpecOk Tryd.prog cfgG 16 ref01_Least_sp := ⟨enter Tryd.func16 (by kernel_rfl) (by kernel_rfl), genSpec_ok (A := ref01_Least_A) (sa := [(.sl shE)]) (sr := [shE]) (bd := fun (x : ArgT [(.sl shE)]) => ref01_Least_t x) (fitG L_ref01_Shift) s_ref01_Shift mixed (by kernel_rfl) (loopsAll (l := [loopN Tryd.prog 16 0]) (by kernel_rfl) ⟨ref01_Least_o0, trivial⟩) (fun _ => rfl) (by
  intro x
  skip
  kernel_rfl)⟩
noncomputable def L_ref01_Least : List (Nat × CSpec) := (16, ref01_Least_sp) :: L_ref01_Shift
theorem s_ref01_Least : SpecsOk Tryd.prog (tabsG L_ref01_Least) := oneSpecGT s_ref01_Shift ref01_Least_ok
noncomputable def law01_Of_h0 : EP := ⟨[(0, .d .err), (2, .ref 2 0), (3, .ref 3 0), (10, .d (.int .i64))], [(2, .box 28 [.d .bool, .nsl, .d (.int .i64)]), (3, .box 28 [.d .bool, .own 9525, .d (.int .i64)]), (9525, .row 37 shPlace)]⟩
noncomputable def law01_Of_x0 : List (Exit × EP) := [(Exit.exit 0, ⟨[(0, .d .err), (2, .ref 2 0), (3, .ref 3 0)], [(2, .box 28 [.d .bool, .nsl, .d (.int .i64)]), (3, .box 28 [.d .bool, .own 9525, .d (.int .i64)]), (9525, .row 37 shPlace)]⟩)]
abbrev law01_Of_S0 : Type := Err × Int × Bool × Int × Bool × Int × (List (Int × Int)) × Unit
abbrev law01_Of_Q0 : Type := (Err × Bool × Int × Bool × Int × (List (Int × Int)) × Unit)
noncomputable def law01_Of_b0 : law01_Of_S0 → LT law01_Of_S0 law01_Of_Q0 := fun st => match st with
  | (a0, a10, r2_0, r2_1, r3_0, r3_1, r9525, ()) => (.br (decide (a10 < 200)) (.br ((errHead a0).isSome) (.opt (errHead a0) fun x6 => (.br (appLim 16 r9525.length 1) (.next (x6.snd, (IntKind.i64.wrap (a10 + 1)), r2_0, r2_1, r3_0, r3_1, (r9525 ++ [x6.fst]), ())) .fail)) (.ret (a0, r2_0, r2_1, r3_0, r3_1, r9525, ()))) (.ret (a0, r2_0, r2_1, r3_0, r3_1, r9525, ())))
noncomputable def law01_Of_l0 (st : law01_Of_S0) : Option law01_Of_Q0 := LT.loop law01_Of_b0 FUEL st
noncomputable def law01_Of_A : Anns := ⟨[(5, [.keep [0, 2, 3, 10] [2, 3, 27], .ownB 3 1 9525 37, .keep [0, 2, 3, 10] [2, 3, 9525]]), (100005, [.keep [0, 2, 3] [2, 3, 9525]])], [(5, genOrc law01_Of_h0 law01_Of_x0 law01_Of_l0)], 1000⟩
theorem law01_Of_s0 : ∀ (st : law01_Of_S0) m k, loopE (prep (tabsG L_ref01_Least) (annOf law01_Of_A (loopN Tryd.prog 13 0))) (evalC Tryd.prog (tabsG L_ref01_Least) law01_Of_A (loopN Tryd.prog 13 0)) (m + 1) (law01_Of_h0.enc st) (outK (tabsG L_ref01_Least) law01_Of_A (loopN Tryd.prog 13 0) k) = (law01_Of_b0 st).run (exK law01_Of_x0 k) (fun st' => loopE (prep (tabsG L_ref01_Least) (annOf law01_Of_A (loopN Tryd.prog 13 0))) (evalC Tryd.prog (tabsG L_ref01_Least) law01_Of_A (loopN Tryd.prog 13 0)) m (law01_Of_h0.enc st') (outK (tabsG L_ref01_Least) law01_Of_A (loopN Tryd.prog 13 0) k)) := by
  intro st m k
  obtain ⟨a0, a10, r2_0, r2_1, r3_0, r3_1, r9525, ⟨⟩⟩ := st
  kernel_rfl
theorem law01_Of_o0 : OrcOk Tryd.prog (tabsG L_ref01_Least) law01_Of_A (loopN Tryd.prog 13 0) := genOrc_ok (h := law01_Of_h0) (xs := law01_Of_x0) (F := law01_Of_l0) (bd := law01_Of_b0) (fun _ => FUEL) (by kernel_rfl) (fun _ _ h => h) law01_Of_s0
noncomputable def law01_Of_t (p0 : Err) : FT ((Bool × List (Int × Int) × Int)) := (.br (Option.isNone p0) (.ret ((false, [], 0))) (.opt (law01_Of_l0 (p0, 0, false, 0, true, 0, [], ())) fun x9 => (.br (Option.isSome x9.fst) (.opt x9.fst fun x10 => (.ret ((x9.snd.snd.snd.fst, x9.snd.snd.snd.snd.snd.fst, x10.snd)))) (.ret ((x9.snd.snd.snd.fst, x9.snd.snd.snd.snd.snd.fst, x9.snd.snd.snd.snd.fst))))))
noncomputable def law01_Of (p0 : Err) : Option ((Bool × List (Int × Int) × Int)) := (law01_Of_t p0).fin
noncomputable def law01_Of_sp : CSpec := genSpec [.err] [shE] (fun x => law01_Of x)
theorem law01_Of_ok : EnterOk Tryd.prog 13 ∧ CSpecOk Tryd.prog cfgG 13 law01_Of_sp := ⟨enter Tryd.func13 (by kernel_rfl) (by kernel_rfl), genSpec_ok (A := law01_Of_A) (sa := [.err]) (sr := [shE]) (bd := fun (x : ArgT [.err]) => law01_Of_t x) (fitG L_ref01_Least) s_ref01_Least mixed (by kernel_rfl) (loopsAll (l := [loopN Tryd.prog 13 0]) (by kernel_rfl) ⟨law01_Of_o0, trivial⟩) (fun _ => rfl) (by
  intro x
  skip
  kernel_rfl)⟩
noncomputable def L_law01_Of : List (Nat × CSpec) := (13, law01_Of_sp) :: L_ref01_Least
theorem s_law01_Of : SpecsOk Tryd.prog (tabsG L_law01_Of) := oneSpecGT s_ref01_Least law01_Of_ok
noncomputable def law01_fails_A : Anns := ⟨[], [], 1000⟩
noncomputable def law01_fails_t (p0 : Err) (p1 : (Bool × List (Int × Int) × Int)) : FT (Bool) := (.opt (law01_Of p0) fun x3 => (.opt (ref01_Same x3 p1) fun x4 => (.ret x4)))
noncomputable def law01_fails (p0 : Err) (p1 : (Bool × List (Int × Int) × Int)) : Option (Bool) := (law01_fails_t p0 p1).fin
noncomputable def law01_fails_sp : CSpec := genSpec [.err, shE] [.bool] (fun x => law01_fails x.1 x.2)
theorem law01_fails_ok : EnterOk Tryd.prog 12 ∧ CSpecOk Tryd.prog cfgG 12 law01_fails_sp := ⟨enter Tryd.func12 (by kernel_rfl) (by kernel_rfl), genSpec_ok (A := law01_fails_A) (sa := [.err, shE]) (sr := [.bool]) (bd := fun (x : ArgT [.err, shE]) => law01_fails_t x.1 x.2) (fitG L_law01_Of) s_law01_Of mixed (by kernel_rfl) (loopsAll (l := []) (by kernel_rfl) trivial) (fun _ => rfl) (by
  intro x
  obtain ⟨p0, p1⟩ := x
  kernel_rfl)⟩
noncomputable def L_law01_fails : List (Nat × CSpec) := (12, law01_fails_sp) :: L_law01_Of
theorem s_law01_fails : SpecsOk Tryd.prog (tabsG L_law01_fails) := oneSpecGT s_law01_Of law01_fails_ok
noncomputable def law01_build_h0 : EP := ⟨[(0, .d (.sl shPlace)), (5, .ref 5 0), (6, .d .err), (7, .ref 7 0), (8, .d (.int .i64))], [(5, .box 28 [.d .bool, .nsl, .d (.int .i64)]), (7, .box 28 [.d .bool, .d (.sl shPlace), .d (.int .i64)])]⟩
noncomputable def law01_build_x0 : List (Exit × EP) := [(Exit.exit 0, ⟨[(5, .ref 5 0), (6, .d .err), (7, .ref 7 0)], [(5, .box 28 [.d .bool, .nsl, .d (.int .i64)]), (7, .box 28 [.d .bool, .d (.sl shPlace), .d (.int .i64)])]⟩)]
abbrev law01_build_S0 : Type := (List (Int × Int)) × Err × Int × Bool × Int × Bool × (List (Int × Int)) × Int × Unit
abbrev law01_build_Q0 : Type := (Err × Bool × Int × Bool × (List (Int × Int)) × Int × Unit)
noncomputable def law01_build_b0 : law01_build_S0 → LT law01_build_S0 law01_build_Q0 := fun st => match st with
  | (a0, a6, a8, r5_0, r5_1, r7_0, r7_1, r7_2, ()) => (.br (decide (a8 ≥ 0)) (.br (decide (0 ≤ a8)) (.br (decide (a8 < Int.ofNat a0.length)) (.br (decide (0 ≤ a8)) (.br (decide (a8 < Int.ofNat a0.length)) (.opt (fault_At (getI a0 a8 (0, 0)).fst (getI a0 a8 (0, 0)).snd a6) fun x7 => (.br (decide (0 ≤ a8)) (.br (decide (a8 < Int.ofNat a0.length)) (.br (decide (0 ≤ a8)) (.br (decide (a8 < Int.ofNat a0.length)) (.opt (ref01_At (getI a0 a8 (0, 0)).fst (getI a0 a8 (0, 0)).snd (r7_0, r7_1, r7_2)) fun x8 => (.next (a0, x7, (IntKind.i64.wrap (a8 - 1)), r5_0, r5_1, x8.fst, x8.snd.fst, x8.snd.snd, ()))) .fail) .fail) .fail) .fail)) .fail) .fail) .fail) .fail) (.ret (a6, r5_0, r5_1, r7_0, r7_1, r7_2, ())))
noncomputable def law01_build_l0 (st : law01_build_S0) : Option law01_build_Q0 := LT.loop law01_build_b0 FUEL st
noncomputable def law01_build_A : Anns := ⟨[(4, [.keep [0, 5, 6, 7, 8] [5, 7]]), (100004, [.keep [5, 6, 7] [5, 7]])], [(4, genOrc law01_build_h0 law01_build_x0 law01_build_l0)], 1000⟩
theorem law01_build_s0 : ∀ (st : law01_build_S0) m k, loopE (prep (tabsG L_law01_fails) (annOf law01_build_A (loopN Tryd.prog 9 0))) (evalC Tryd.prog (tabsG L_law01_fails) law01_build_A (loopN Tryd.prog 9 0)) (m + 1) (law01_build_h0.enc st) (outK (tabsG L_law01_fails) law01_build_A (loopN Tryd.prog 9 0) k) = (law01_build_b0 st).run (exK law01_build_x0 k) (fun st' => loopE (prep (tabsG L_law01_fails) (annOf law01_build_A (loopN Tryd.prog 9 0))) (evalC Tryd.prog (tabsG L_law01_fails) law01_build_A (loopN Tryd.prog 9 0)) m (law01_build_h0.enc st') (outK (tabsG L_law01_fails) law01_build_A (loopN Tryd.prog 9 0) k)) := by
  intro st m k
  obtain ⟨a0, a6, a8, r5_0, r5_1, r7_0, r7_1, r7_2, ⟨⟩⟩ := st
  kernel_rfl
theorem law01_build_o0 : OrcOk Tryd.prog (tabsG L_law01_fails) law01_build_A (loopN Tryd.prog 9 0) := genOrc_ok (h := law01_build_h0) (xs := law01_build_x0) (F := law01_build_l0) (bd := law01_build_b0) (fun _ => FUEL) (by kernel_rfl) (fun _ _ h => h) law01_build_s0
noncomputable def law01_build_t (p0 : (List (Int × Int))) (p1 : Int) : FT (Err × (Bool × List (Int × Int) × Int)) := (.opt (law01_build_l0 (p0, some ([], p1), IntKind.i64.wrap (Int.ofNat p0.length - 1), false, 0, true, [], p1, ())) fun x10 => (.ret ((x10.fst, x10.snd.snd.snd.fst, x10.snd.snd.snd.snd.fst, x10.snd.snd.snd.snd.snd.fst))))
noncomputable def law01_build (p0 : (List (Int × Int))) (p1 : Int) : Option (Err × (Bool × List (Int × Int) × Int)) := (law01_build_t p0 p1).fin
noncomputable def law01_build_sp : CSpec := genSpec [(.sl shPlace), (.int .i64)] [.err, shE] (fun x => law01_build x.1 x.2)
theorem law01_build_ok : EnterOk Tryd.prog 9 ∧ CSpecOk Tryd.prog cfgG 9 law01_build_sp := ⟨enter Tryd.func9 (by kernel_rfl) (by kernel_rfl), genSpec_ok (A := law01_build_A) (sa := [(.sl shPlace), (.int .i64)]) (sr := [.err, shE]) (bd := fun (x : ArgT [(.sl shPlace), (.int .i64)]) => law01_build_t x.1 x.2) (fitG L_law01_fails) s_law01_fails mixed (by kernel_rfl) (loopsAll (l := [loopN Tryd.prog 9 0]) (by kernel_rfl) ⟨law01_build_o0, trivial⟩) (fun _ => rfl) (by
  intro x
  obtain ⟨p0, p1⟩ := x
  kernel_rfl)⟩
noncomputable def L_law01_build : List (Nat × CSpec) := (9, law01_build_sp) :: L_law01_fails
theorem s_law01_build : SpecsOk Tryd.prog (tabsG L_law01_build) := oneSpecGT s_law01_fails law01_build_ok
noncomputable def law01_errorOf_A : Anns := ⟨[], [], 1000⟩
noncomputable def law01_errorOf_t (p0 : (List (Int × Int))) (p1 : Int) : FT (Err) := (.opt (law01_build p0 p1) fun x2 => (.ret x2.fst))
noncomputable def law01_errorOf (p0 : (List (Int × Int))) (p1 : Int) : Option (Err) := (law01_errorOf_t p0 p1).fin
noncomputable def law01_errorOf_sp : CSpec := genSpec [(.sl shPlace), (.int .i64)] [.err] (fun x => law01_errorOf x.1 x.2)
theorem law01_errorOf_ok : EnterOk Tryd.prog 14 ∧ CSpecOk Tryd.prog cfgG 14 law01_errorOf_sp := ⟨enter Tryd.func14 (by kernel_rfl) (by kernel_rfl), genSpec_ok (A := law01_errorOf_A) (sa := [(.sl shPlace), (.int .i64)]) (sr := [.err]) (bd := fun (x : ArgT [(.sl shPlace), (.int .i64)]) => law01_errorOf_t x.1 x.2) (fitG L_law01_build) s_law01_build mixed (by kernel_rfl) (loopsAll (l := []) (by kernel_rfl) trivial) (fun _ => rfl) (by
  intro x
  obtain ⟨p0, p1⟩ := x
  kernel_rfl)⟩
noncomputable def L_law01_errorOf : List (Nat × CSpec) := (14, law01_errorOf_sp) :: L_law01_build
theorem s_law01_errorOf : SpecsOk Tryd.prog (tabsG L_law01_errorOf) := oneSpecGT s_law01_build law01_errorOf_ok
noncomputable def law01_awake_A : Anns := ⟨[], [], 1000⟩
noncomputable def law01_awake_t  : FT (Bool) := (.opt (fault_Text (some ([(3, 3), (1, 7)], 6))) fun x2 => (.br (x2.toList == (ByteArray.mk #[108, 105, 110, 101, 32, 51, 58, 32, 98, 121, 116, 101, 32, 55, 58, 32, 116, 111, 111, 32, 115, 104, 111, 114, 116]).toList) (.ret true) (.ret false)))
noncomputable def law01_awake  : Option (Bool) := (law01_awake_t ).fin
noncomputable def law01_awake_sp : CSpec := genSpec [] [.bool] (fun x => law01_awake)
theorem law01_awake_ok : EnterOk Tryd.prog 8 ∧ CSpecOk Tryd.prog cfgG 8 law01_awake_sp := ⟨enter Tryd.func8 (by kernel_rfl) (by kernel_rfl), genSpec_ok (A := law01_awake_A) (sa := []) (sr := [.bool]) (bd := fun (x : ArgT []) => law01_awake_t) (fitG L_law01_errorOf) s_law01_errorOf mixed (by kernel_rfl) (loopsAll (l := []) (by kernel_rfl) trivial) (fun _ => rfl) (by
  intro x
  obtain ⟨⟩ := x
  kernel_rfl)⟩
noncomputable def L_law01_awake : List (Nat × CSpec) := (8, law01_awake_sp) :: L_law01_errorOf
theorem s_law01_awake : SpecsOk Tryd.prog (tabsG L_law01_awake) := oneSpecGT s_law01_errorOf law01_awake_ok
noncomputable def law01_FaultIs_A : Anns := ⟨[], [], 1000⟩
noncomputable def law01_FaultIs_t (p0 : (List (Int × Int))) (p1 : Int) (p2 : Int) : FT (Bool) := (.opt law01_awake fun x10 => (.br (!x10) (.ret false) (.br (decide (Int.ofNat p0.length > 100)) (.ret true) (.opt (law01_build p0 p1) fun x11 => (.br (Option.isSome x11.fst) (.opt x11.fst fun x12 => (.br (x12.snd != p1) (.ret false) (.opt (isF x11.fst (some ([], p2))) fun x13 => (.br (!x13 == (p1 == p2)) (.ret false) (.br (Int.ofNat p0.length == 0) (.br ((errHead x11.fst).isSome) (.opt (errHead x11.fst) fun x14 => (.ret false)) (.ret true)) (.br ((errHead x11.fst).isSome) (.opt (errHead x11.fst) fun x15 => (.br (decide (0 < Int.ofNat p0.length)) (.br (eqB shPlace x15.fst (getI p0 0 (0, 0))) (.br (decide (1 ≤ Int.ofNat p0.length)) (.br (decide (Int.ofNat p0.length ≤ Int.ofNat p0.length)) (.opt (law01_errorOf (List.take (Int.ofNat p0.length - 1).toNat (List.drop (Int.toNat 1) p0)) p1) fun x16 => (.opt (law01_Of x16) fun x17 => (.opt (law01_fails x15.snd x17) fun x18 => (.ret x18)))) .fail) .fail) (.ret false)) .fail)) (.ret false))))))) (.ret false))))))
noncomputable def law01_FaultIs (p0 : (List (Int × Int))) (p1 : Int) (p2 : Int) : Option (Bool) := (law01_FaultIs_t p0 p1 p2).fin
noncomputable def law01_FaultIs_sp : CSpec := genSpec [(.sl shPlace), (.int .i64), (.int .i64)] [.bool] (fun x => law01_FaultIs x.1 x.2.1 x.2.2)
theorem law01_FaultIs_ok : EnterOk Tryd.prog 3 ∧ CSpecOk Tryd.prog cfgG 3 law01_FaultIs_sp := ⟨enter Tryd.func3 (by kernel_rfl) (by kernel_rfl), genSpec_ok (A := law01_FaultIs_A) (sa := [(.sl shPlace), (.int .i64), (.int .i64)]) (sr := [.bool]) (bd := fun (x : ArgT [(.sl shPlace), (.int .i64), (.int .i64)]) => law01_FaultIs_t x.1 x.2.1 x.2.2) (fitG L_law01_awake) s_law01_awake mixed (by kernel_rfl) (loopsAll (l := []) (by kernel_rfl) trivial) (fun _ => rfl) (by
  intro x
  obtain ⟨p0, p1, p2⟩ := x
  kernel_rfl)⟩
noncomputable def L_law01_FaultIs : List (Nat × CSpec) := (3, law01_FaultIs_sp) :: L_law01_awake
theorem s_law01_FaultIs : SpecsOk Tryd.prog (tabsG L_law01_FaultIs) := oneSpecGT s_law01_awake law01_FaultIs_ok
noncomputable def law01_FaultLeast_h0 : EP := ⟨[(1, .d (.sl .bool)), (5, .own 9005), (6, .own 9006), (16, .d (.sl (.int .i64))), (17, .d (.int .i64)), (18, .d (.int .i64))], [(9005, .row 25 .err), (9006, .row 28 shE)]⟩
noncomputable def law01_FaultLeast_x0 : List (Exit × EP) := [(Exit.exit 0, ⟨[(5, .own 9005), (6, .own 9006)], [(9005, .row 25 .err), (9006, .row 28 shE)]⟩)]
abbrev law01_FaultLeast_S0 : Type := (List Bool) × (List Int) × Int × Int × (List Err) × (List (Bool × List (Int × Int) × Int)) × Unit
abbrev law01_FaultLeast_Q0 : Type := ((List Err) × (List (Bool × List (Int × Int) × Int)) × Unit)
noncomputable def law01_FaultLeast_b0 : law01_FaultLeast_S0 → LT law01_FaultLeast_S0 law01_FaultLeast_Q0 := fun st => match st with
  | (a1, a16, a17, a18, r9005, r9006, ()) => (.br (decide (a18 < a17)) (.br (decide (0 ≤ a18)) (.br (decide (a18 < Int.ofNat a16.length)) (.br (decide (a18 < Int.ofNat a1.length)) (.br (decide (0 ≤ a18)) (.br (decide (a18 < Int.ofNat a1.length)) (.br (getI a1 a18 false) (.br (appLim 16 r9005.length 1) (.br (appLim 40 r9006.length 1) (.next (a1, a16, a17, (IntKind.i64.wrap (a18 + 1)), (r9005 ++ [none]), (r9006 ++ [(false, [], 0)]), ())) .fail) .fail) (.br (appLim 16 r9005.length 1) (.br (appLim 40 r9006.length 1) (.next (a1, a16, a17, (IntKind.i64.wrap (a18 + 1)), (r9005 ++ [some ([(2, a18)], getI a16 a18 0)]), (r9006 ++ [(true, [(2, a18)], getI a16 a18 0)]), ())) .fail) .fail)) .fail) .fail) (.br (appLim 16 r9005.length 1) (.br (appLim 40 r9006.length 1) (.next (a1, a16, a17, (IntKind.i64.wrap (a18 + 1)), (r9005 ++ [some ([(2, a18)], getI a16 a18 0)]), (r9006 ++ [(true, [(2, a18)], getI a16 a18 0)]), ())) .fail) .fail)) .fail) .fail) (.ret (r9005, r9006, ())))
noncomputable def law01_FaultLeast_l0 (st : law01_FaultLeast_S0) : Option law01_FaultLeast_Q0 := LT.loop law01_FaultLeast_b0 FUEL st
noncomputable def law01_FaultLeast_A : Anns := ⟨[(8, [.keep [1, 5, 6, 16, 17, 18] [35, 39, 51, 55], .ownS 5 9005 25, .ownS 6 9006 28, .keep [1, 5, 6, 16, 17, 18] [9005, 9006]]), (100008, [.keep [5, 6] [9005, 9006]])], [(8, genOrc law01_FaultLeast_h0 law01_FaultLeast_x0 law01_FaultLeast_l0)], 1000⟩
theorem law01_FaultLeast_s0 : ∀ (st : law01_FaultLeast_S0) m k, loopE (prep (tabsG L_law01_FaultIs) (annOf law01_FaultLeast_A (loopN Tryd.prog 4 0))) (evalC Tryd.prog (tabsG L_law01_FaultIs) law01_FaultLeast_A (loopN Tryd.prog 4 0)) (m + 1) (law01_FaultLeast_h0.enc st) (outK (tabsG L_law01_FaultIs) law01_FaultLeast_A (loopN Tryd.prog 4 0) k) = (law01_FaultLeast_b0 st).run (exK law01_FaultLeast_x0 k) (fun st' => loopE (prep (tabsG L_law01_FaultIs) (annOf law01_FaultLeast_A (loopN Tryd.prog 4 0))) (evalC Tryd.prog (tabsG L_law01_FaultIs) law01_FaultLeast_A (loopN Tryd.prog 4 0)) m (law01_FaultLeast_h0.enc st') (outK (tabsG L_law01_FaultIs) law01_FaultLeast_A (loopN Tryd.prog 4 0) k)) := by
  intro st m k
  obtain ⟨a1, a16, a17, a18, r9005, r9006, ⟨⟩⟩ := st
  kernel_rfl
theorem law01_FaultLeast_o0 : OrcOk Tryd.prog (tabsG L_law01_FaultIs) law01_FaultLeast_A (loopN Tryd.prog 4 0) := genOrc_ok (h := law01_FaultLeast_h0) (xs := law01_FaultLeast_x0) (F := law01_FaultLeast_l0) (bd := law01_FaultLeast_b0) (fun _ => FUEL) (by kernel_rfl) (fun _ _ h => h) law01_FaultLeast_s0
noncomputable def law01_FaultLeast_t (p0 : (List Int)) (p1 : (List Bool)) : FT (Bool) := (.opt law01_awake fun x7 => (.br (!x7) (.ret false) (.br (decide (Int.ofNat p0.length > 100)) (.ret true) (.opt (law01_FaultLeast_l0 (p1, p0, Int.ofNat p0.length, 0, [], [], ())) fun x8 => (.opt (fault_Least x8.fst) fun x9 => (.opt (ref01_Least x8.snd.fst) fun x10 => (.opt (law01_fails x9 x10) fun x11 => (.ret x11))))))))
noncomputable def law01_FaultLeast (p0 : (List Int)) (p1 : (List Bool)) : Option (Bool) := (law01_FaultLeast_t p0 p1).fin
noncomputable def law01_FaultLeast_sp : CSpec := genSpec [(.sl (.int .i64)), (.sl .bool)] [.bool] (fun x => law01_FaultLeast x.1 x.2)
theorem law01_FaultLeast_ok : EnterOk Tryd.prog 4 ∧ CSpecOk Tryd.prog cfgG 4 law01_FaultLeast_sp := ⟨enter Tryd.func4 (by kernel_rfl) (by kernel_rfl), genSpec_ok (A := law01_FaultLeast_A) (sa := [(.sl (.int .i64)), (.sl .bool)]) (sr := [.bool]) (bd := fun (x : ArgT [(.sl (.int .i64)), (.sl .bool)]) => law01_FaultLeast_t x.1 x.2) (fitG L_law01_FaultIs) s_law01_FaultIs mixed (by kernel_rfl) (loopsAll (l := [loopN Tryd.prog 4 0]) (by kernel_rfl) ⟨law01_FaultLeast_o0, trivial⟩) (fun _ => rfl) (by
  intro x
  obtain ⟨p0, p1⟩ := x
  kernel_rfl)⟩
noncomputable def L_law01_FaultLeast : List (Nat × CSpec) := (4, law01_FaultLeast_sp) :: L_law01_FaultIs
theorem s_law01_FaultLeast : SpecsOk Tryd.prog (tabsG L_law01_FaultLeast) := oneSpecGT s_law01_FaultIs law01_FaultLeast_ok
noncomputable def law01_FaultPieces_A : Anns := ⟨[], [], 1000⟩
noncomputable def law01_FaultPieces_t (p0 : (List (Int × Int))) (p1 : Int) (p2 : (Int × Int)) : FT (Bool) := (.opt law01_awake fun x10 => (.br (!x10) (.ret false) (.br (decide (Int.ofNat p0.length > 100)) (.ret true) (.opt (law01_build p0 p1) fun x11 => (.opt (fault_Text (some ([p2], 19))) fun x12 => (.opt (fault_Text (some ([], 19))) fun x13 => (.opt (fault_At p2.fst p2.snd x11.fst) fun x14 => (.opt (fault_Text x14) fun x15 => (.br (decide (IntKind.i64.wrap (Int.ofNat x12.size - Int.ofNat x13.size) > 0)) (.br (decide (Int.ofNat x15.size > IntKind.i64.wrap (Int.ofNat x12.size - Int.ofNat x13.size))) (.br (decide (0 ≤ IntKind.i64.wrap (Int.ofNat x12.size - Int.ofNat x13.size))) (.br (decide (IntKind.i64.wrap (Int.ofNat x12.size - Int.ofNat x13.size) ≤ Int.ofNat x15.size)) (.br (decide (0 ≤ IntKind.i64.wrap (Int.ofNat x12.size - Int.ofNat x13.size))) (.br (decide (IntKind.i64.wrap (Int.ofNat x12.size - Int.ofNat x13.size) ≤ Int.ofNat x12.size)) (.br ((x15.extract (Int.toNat 0) (IntKind.i64.wrap (Int.ofNat x12.size - Int.ofNat x13.size)).toNat).toList == (x12.extract (Int.toNat 0) (IntKind.i64.wrap (Int.ofNat x12.size - Int.ofNat x13.size)).toNat).toList) (.br (decide (0 ≤ IntKind.i64.wrap (Int.ofNat x12.size - Int.ofNat x13.size))) (.br (decide (IntKind.i64.wrap (Int.ofNat x12.size - Int.ofNat x13.size) ≤ Int.ofNat x15.size)) (.br (decide (Int.ofNat x15.size ≤ Int.ofNat x15.size)) (.opt (fault_Text x11.fst) fun x16 => (.br ((x15.extract (IntKind.i64.wrap (Int.ofNat x12.size - Int.ofNat x13.size)).toNat (Int.ofNat x15.size).toNat).toList == x16.toList) (.opt (fault_At p2.fst p2.snd x11.fst) fun x17 => (.opt (fault_Code x17) fun x18 => (.ret (x18 == p1)))) (.ret false))) .fail) .fail) .fail) (.ret false)) .fail) .fail) .fail) .fail) (.ret false)) (.ret false))))))))))
noncomputable def law01_FaultPieces (p0 : (List (Int × Int))) (p1 : Int) (p2 : (Int × Int)) : Option (Bool) := (law01_FaultPieces_t p0 p1 p2).fin
noncomputable def law01_FaultPieces_sp : CSpec := genSpec [(.sl shPlace), (.int .i64), shPlace] [.bool] (fun x => law01_FaultPieces x.1 x.2.1 x.2.2)
theorem law01_FaultPieces_ok : EnterOk Tryd.prog 5 ∧ CSpecOk Tryd.prog cfgG 5 law01_FaultPieces_sp := ⟨enter Tryd.func5 (by kernel_rfl) (by kernel_rfl), genSpec_ok (A := law01_FaultPieces_A) (sa := [(.sl shPlace), (.int .i64), shPlace]) (sr := [.bool]) (bd := fun (x : ArgT [(.sl shPlace), (.int .i64), shPlace]) => law01_FaultPieces_t x.1 x.2.1 x.2.2) (fitG L_law01_FaultLeast) s_law01_FaultLeast mixed (by kernel_rfl) (loopsAll (l := []) (by kernel_rfl) trivial) (fun _ => rfl) (by
  intro x
  obtain ⟨p0, p1, p2⟩ := x
  kernel_rfl)⟩
noncomputable def L_law01_FaultPieces : List (Nat × CSpec) := (5, law01_FaultPieces_sp) :: L_law01_FaultLeast
theorem s_law01_FaultPieces : SpecsOk Tryd.prog (tabsG L_law01_FaultPieces) := oneSpecGT s_law01_FaultLeast law01_FaultPieces_ok
noncomputable def law01_FaultShifts_A : Anns := ⟨[], [], 1000⟩
noncomputable def law01_FaultShifts_t (p0 : (List (Int × Int))) (p1 : Int) (p2 : Int) : FT (Bool) := (.opt law01_awake fun x7 => (.br (!x7) (.ret false) (.br (decide (Int.ofNat p0.length > 100)) (.ret true) (.opt (law01_build p0 6) fun x8 => (.opt (fault_Shift x8.fst p1 p2) fun x9 => (.opt (ref01_Shift x8.snd p1 p2) fun x10 => (.opt (law01_fails x9 x10) fun x11 => (.br x11 (.opt (law01_fails x8.fst x8.snd) fun x12 => (.br x12 (.ret true) (.ret false))) (.ret false)))))))))
noncomputable def law01_FaultShifts (p0 : (List (Int × Int))) (p1 : Int) (p2 : Int) : Option (Bool) := (law01_FaultShifts_t p0 p1 p2).fin
noncomputable def law01_FaultShifts_sp : CSpec := genSpec [(.sl shPlace), (.int .i64), (.int .i64)] [.bool] (fun x => law01_FaultShifts x.1 x.2.1 x.2.2)
theorem law01_FaultShifts_ok : EnterOk Tryd.prog 6 ∧ CSpecOk Tryd.prog cfgG 6 law01_FaultShifts_sp := ⟨enter Tryd.func6 (by kernel_rfl) (by kernel_rfl), genSpec_ok (A := law01_FaultShifts_A) (sa := [(.sl shPlace), (.int .i64), (.int .i64)]) (sr := [.bool]) (bd := fun (x : ArgT [(.sl shPlace), (.int .i64), (.int .i64)]) => law01_FaultShifts_t x.1 x.2.1 x.2.2) (fitG L_law01_FaultPieces) s_law01_FaultPieces mixed (by kernel_rfl) (loopsAll (l := []) (by kernel_rfl) trivial) (fun _ => rfl) (by
  intro x
  obtain ⟨p0, p1, p2⟩ := x
  kernel_rfl)⟩
noncomputable def L_law01_FaultShifts : List (Nat × CSpec) := (6, law01_FaultShifts_sp) :: L_law01_FaultPieces
theorem s_law01_FaultShifts : SpecsOk Tryd.prog (tabsG L_law01_FaultShifts) := oneSpecGT s_law01_FaultPieces law01_FaultShifts_ok
noncomputable def law01_FaultChains_h0 : EP := ⟨[(0, .d (.sl shPlace)), (1, .d (.int .i64)), (7, .d (.sl shPlace)), (45, .d (.int .i64)), (46, .d (.int .i64))], []⟩
noncomputable def law01_FaultChains_x0 : List (Exit × EP) := [(Exit.ret, ⟨[(1, .d (.int .i64)), (4, .d .bool)], []⟩), (Exit.exit 0, ⟨[(1, .d (.int .i64))], []⟩)]
abbrev law01_FaultChains_S0 : Type := (List (Int × Int)) × Int × (List (Int × Int)) × Int × Int × Unit
abbrev law01_FaultChains_Q0 : Type := (Int × Bool × Unit) ⊕ (Int × Unit)
noncomputable def law01_FaultChains_b0 : law01_FaultChains_S0 → LT law01_FaultChains_S0 law01_FaultChains_Q0 := fun st => match st with
  | (a0, a1, a7, a45, a46, ()) => (.br (decide (a46 < a45)) (.br (decide (0 ≤ a46)) (.br (decide (a46 < Int.ofNat a7.length)) (.br (decide (0 ≤ a46)) (.br (decide (a46 < Int.ofNat a0.length)) (.br (!eqB shPlace (getI a7 a46 (0, 0)) (getI a0 a46 (0, 0))) (.ret (.inl (a1, false, ()))) (.next (a0, a1, a7, a45, (IntKind.i64.wrap (a46 + 1)), ()))) .fail) .fail) .fail) .fail) (.ret (.inr (a1, ()))))
noncomputable def law01_FaultChains_l0 (st : law01_FaultChains_S0) : Option law01_FaultChains_Q0 := LT.loop law01_FaultChains_b0 FUEL st
noncomputable def law01_FaultChains_A : Anns := ⟨[(12, [.keep [0, 1, 7, 45, 46] []]), (100012, [.keep [1, 4] []])], [(12, genOrc law01_FaultChains_h0 law01_FaultChains_x0 law01_FaultChains_l0)], 1000⟩
theorem law01_FaultChains_s0 : ∀ (st : law01_FaultChains_S0) m k, loopE (prep (tabsG L_law01_FaultShifts) (annOf law01_FaultChains_A (loopN Tryd.prog 7 0))) (evalC Tryd.prog (tabsG L_law01_FaultShifts) law01_FaultChains_A (loopN Tryd.prog 7 0)) (m + 1) (law01_FaultChains_h0.enc st) (outK (tabsG L_law01_FaultShifts) law01_FaultChains_A (loopN Tryd.prog 7 0) k) = (law01_FaultChains_b0 st).run (exK law01_FaultChains_x0 k) (fun st' => loopE (prep (tabsG L_law01_FaultShifts) (annOf law01_FaultChains_A (loopN Tryd.prog 7 0))) (evalC Tryd.prog (tabsG L_law01_FaultShifts) law01_FaultChains_A (loopN Tryd.prog 7 0)) m (law01_FaultChains_h0.enc st') (outK (tabsG L_law01_FaultShifts) law01_FaultChains_A (loopN Tryd.prog 7 0) k)) := by
  intro st m k
  obtain ⟨a0, a1, a7, a45, a46, ⟨⟩⟩ := st
  kernel_rfl
theorem law01_FaultChains_o0 : OrcOk Tryd.prog (tabsG L_law01_FaultShifts) law01_FaultChains_A (loopN Tryd.prog 7 0) := genOrc_ok (h := law01_FaultChains_h0) (xs := law01_FaultChains_x0) (F := law01_FaultChains_l0) (bd := law01_FaultChains_b0) (fun _ => FUEL) (by kernel_rfl) (fun _ _ h => h) law01_FaultChains_s0
noncomputable def law01_FaultChains_t (p0 : (List (Int × Int))) (p1 : Int) : FT (Bool) := (.opt law01_awake fun x18 => (.br (!x18) (.ret false) (.br (decide (Int.ofNat p0.length > 100)) (.ret true) (.opt (law01_build p0 p1) fun x19 => (.opt (law01_fails x19.fst x19.snd) fun x20 => (.br (!x20) (.ret false) (.opt (fault_Code x19.fst) fun x21 => (.br (x21 != p1) (.ret false) (.opt (fault_Text x19.fst) fun x22 => (.opt (ref01_Text x19.snd) fun x23 => (.br (!x22.toList == x23.toList) (.ret false) (.opt (fault_Places x19.fst) fun x24 => (.br (Int.ofNat x24.length != Int.ofNat p0.length) (.ret false) (.opt (law01_FaultChains_l0 (p0, p1, x24, Int.ofNat x24.length, 0, ())) fun x25 => (.alt x25 (fun x27 => (.ret x27.snd.fst)) (fun x28 => (.opt (fault_Text none) fun x27 => (.ret (x27.toList == (ByteArray.mk #[97, 108, 108, 32, 105, 115, 32, 119, 101, 108, 108]).toList)))))))))))))))))))
noncomputable def law01_FaultChains (p0 : (List (Int × Int))) (p1 : Int) : Option (Bool) := (law01_FaultChains_t p0 p1).fin
noncomputable def law01_FaultChains_sp : CSpec := genSpec [(.sl shPlace), (.int .i64)] [.bool] (fun x => law01_FaultChains x.1 x.2)
theorem law01_FaultChains_ok : EnterOk Tryd.prog 7 ∧ CSpecOk Tryd.prog cfgG 7 law01_FaultChains_sp := ⟨enter Tryd.func7 (by kernel_rfl) (by kernel_rfl), genSpec_ok (A := law01_FaultChains_A) (sa := [(.sl shPlace), (.int .i64)]) (sr := [.bool]) (bd := fun (x : ArgT [(.sl shPlace), (.int .i64)]) => law01_FaultChains_t x.1 x.2) (fitG L_law01_FaultShifts) s_law01_FaultShifts mixed (by kernel_rfl) (loopsAll (l := [loopN Tryd.prog 7 0]) (by kernel_rfl) ⟨law01_FaultChains_o0, trivial⟩) (fun _ => rfl) (by
  intro x
  obtain ⟨p0, p1⟩ := x
  kernel_rfl)⟩
noncomputable def L_law01_FaultChains : List (Nat × CSpec) := (7, law01_FaultChains_sp) :: L_law01_FaultShifts
theorem s_law01_FaultChains : SpecsOk Tryd.prog (tabsG L_law01_FaultChains) := oneSpecGT s_law01_FaultShifts law01_FaultChains_ok
end Go.Proofs.YtkkgimhjjhhkjaaDoor
