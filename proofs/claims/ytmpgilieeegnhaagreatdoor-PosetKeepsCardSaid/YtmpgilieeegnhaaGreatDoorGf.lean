/- Trees of functions, their loops and contracts: printed by PewGen (own tool). -/
import Derived.Test.YtmpgilieeegnhaaGreatDoorGe
set_option maxRecDepth 100000
namespace Go.Proofs.YtmpgilieeegnhaaGreatDoor
open Go Go.Pev
noncomputable def cloneR_A : Anns := { l := [], orc := [], N := 1000, rng := [], ro := [], outs := some true, nils := [1] }
noncomputable def cloneR_t (p0 : (List Bd)) : FT ((List Bd) × (List Bd)) := (.rel (anyW (bif p0.isEmpty then [true, false] else [false])) (anyW_good (bif p0.isEmpty then [true, false] else [false])) fun x2 => (.br x2 (.ret (([], p0))) (.br (appLim 72 0 p0.length) (.ret ((p0, p0))) .fail)))
noncomputable def cloneR (p0 : (List Bd)) : Option ((List Bd) × (List Bd)) := (cloneR_t p0).fin
noncomputable def cloneR_sp : CSpec := genSpecR [.row 64 shBound] [.d (.sl shBound), .own 64 shBound] (some 0) false (fun x => cloneR x.1)
theorem cloneR_ok : EnterOk Tryz.prog 60 ∧ CSpecOk Tryz.prog cfgG 60 cloneR_sp := ⟨enter Tryz.func60 (by kernel_rfl) (by kernel_rfl), genSpecR_ok (A := cloneR_A) (ap := [.row 64 shBound]) (l := [.d (.sl shBound), .own 64 shBound]) (own := (some 0)) (reg := false) (bd := fun (x : (ATy [.row 64 shBound])) => cloneR_t x.1) (fitG L_law07_PosetNone) s_law07_PosetNone mixed (by kernel_rfl) (loopsAll (l := []) (by kernel_rfl) trivial) (fun _ => rfl) (by
  intro x
  obtain ⟨p0, ⟨⟩⟩ := x
  kernel_rfl)⟩
noncomputable def L_cloneR : List (Nat × CSpec) := (60, cloneR_sp) :: L_law07_PosetNone
theorem s_cloneR : SpecsOk Tryz.prog (tabsG L_cloneR) := oneSpecGT s_law07_PosetNone cloneR_ok
noncomputable def copyR_A : Anns := { l := [], orc := [], N := 1000, rng := [], ro := [], outs := some true, nils := [] }
noncomputable def copyR_t (p0 : (Bool × (List Bd))) : FT (Fil × (List Bd)) := (.opt (cloneR p0.snd) fun x2 => (.ret (((p0.fst, x2.fst), x2.snd))))
noncomputable def copyR (p0 : (Bool × (List Bd))) : Option (Fil × (List Bd)) := (copyR_t p0).fin
noncomputable def copyR_sp : CSpec := genSpecR [.bag 64 shBound] [.d shFil, .own 64 shBound] (some 0) false (fun x => copyR x.1)
theorem copyR_ok : EnterOk Tryz.prog 41 ∧ CSpecOk Tryz.prog cfgG 41 copyR_sp := ⟨enter Tryz.func41 (by kernel_rfl) (by kernel_rfl), genSpecR_ok (A := copyR_A) (ap := [.bag 64 shBound]) (l := [.d shFil, .own 64 shBound]) (own := (some 0)) (reg := false) (bd := fun (x : (ATy [.bag 64 shBound])) => copyR_t x.1) (fitG L_cloneR) s_cloneR mixed (by kernel_rfl) (loopsAll (l := []) (by kernel_rfl) trivial) (fun _ => rfl) (by
  intro x
  obtain ⟨p0, ⟨⟩⟩ := x
  kernel_rfl)⟩
noncomputable def L_copyR : List (Nat × CSpec) := (41, copyR_sp) :: L_cloneR
theorem s_copyR : SpecsOk Tryz.prog (tabsG L_copyR) := oneSpecGT s_cloneR copyR_ok
noncomputable def checkR_h0 : EP := ⟨[(1, .ref 1 0), (3, .d .str), (12, .own 7000), (13, .d (.int .i64)), (14, .d (.int .i64))], [(1, .box 31 [.d .bool, .own 7000]), (7000, .row 64 shBound)]⟩
noncomputable def checkR_x0 : List (Exit × EP) := [(Exit.ret, ⟨[(2, .d .err)], [(7000, .row 64 shBound)]⟩), (Exit.exit 0, ⟨[], [(7000, .row 64 shBound)]⟩)]
abbrev checkR_S0 : Type := ByteArray × Int × Int × Bool × (List Bd) × Unit
abbrev checkR_Q0 : Type := (Err × (List Bd) × Unit) ⊕ ((List Bd) × Unit)
noncomputable def checkR_b0 : checkR_S0 → LT checkR_S0 checkR_Q0 := fun st => match st with
  | (a3, a13, a14, r1, r7000, ()) => (.br (decide (a14 < a13)) (.br (decide (0 ≤ a14)) (.br (decide (a14 < Int.ofNat r7000.length)) (.br (decide (0 ≤ a14)) (.br (decide (a14 < Int.ofNat r7000.length)) (.br r1 (.ret (.inl ((some ([], 3)), r7000, ()))) (.opt (filter_Right (getI r7000 a14 (ByteArray.mk #[], 0, 0, 0, false, ByteArray.mk #[], false, false)) a3) fun x4 => (.br (!x4) (.ret (.inl ((some ([], 3)), r7000, ()))) (.next (((getI r7000 a14 (ByteArray.mk #[], 0, 0, 0, false, ByteArray.mk #[], false, false)).fst), a13, (IntKind.i64.wrap (a14 + 1)), r1, r7000, ()))))) .fail) .fail) .fail) .fail) (.ret (.inr (r7000, ()))))
noncomputable def checkR_l0 (st : checkR_S0) : Option checkR_Q0 := LT.loop checkR_b0 FUEL st
noncomputable def checkR_A : Anns := { l := [(5, [.keep [1, 3, 12, 13, 14] [1, 7000]]), (100005, [.keep [2] [7000]])], orc := [(5, genOrc checkR_h0 checkR_x0 checkR_l0)], N := 1000, rng := [], ro := [], outs := some true, nils := [] }
theorem checkR_s0 : ∀ (st : checkR_S0) m k, loopX checkR_A (loopN Tryz.prog 46 0) (prep (tabsG L_copyR) (annOf checkR_A (loopN Tryz.prog 46 0))) (evalC Tryz.prog (tabsG L_copyR) checkR_A (loopN Tryz.prog 46 0)) (m + 1) (checkR_h0.enc st) (outK (tabsG L_copyR) checkR_A (loopN Tryz.prog 46 0) k) = (checkR_b0 st).run (exK checkR_x0 k) (fun st' => loopX checkR_A (loopN Tryz.prog 46 0) (prep (tabsG L_copyR) (annOf checkR_A (loopN Tryz.prog 46 0))) (evalC Tryz.prog (tabsG L_copyR) checkR_A (loopN Tryz.prog 46 0)) m (checkR_h0.enc st') (outK (tabsG L_copyR) checkR_A (loopN Tryz.prog 46 0) k)) := by
  intro st m k
  obtain ⟨a3, a13, a14, r1, r7000, ⟨⟩⟩ := st
  kernel_rfl
theorem checkR_o0 : OrcOk Tryz.prog (tabsG L_copyR) checkR_A (loopN Tryz.prog 46 0) := genOrc_ok (h := checkR_h0) (xs := checkR_x0) (F := checkR_l0) (bd := checkR_b0) (fun _ => FUEL) (by kernel_rfl) (fun _ _ h => h) checkR_s0
noncomputable def checkR_t (p0 : (Bool × (List Bd))) : FT (Err × (List Bd)) := (.br (decide (Int.ofNat p0.snd.length > 16)) (.ret ((some ([], 2), p0.snd))) (.opt (checkR_l0 (ByteArray.mk #[], Int.ofNat p0.snd.length, 0, p0.fst, p0.snd, ())) fun x8 => (.alt x8 (fun x9 => (.ret ((x9.fst, x9.snd.fst)))) (fun x10 => (.ret ((none, x10.fst)))))))
noncomputable def checkR (p0 : (Bool × (List Bd))) : Option (Err × (List Bd)) := (checkR_t p0).fin
noncomputable def checkR_sp : CSpec := genSpecR [.bag 64 shBound] [.d .err, .own 64 shBound] (some 0) false (fun x => checkR x.1)
theorem checkR_ok : EnterOk Tryz.prog 46 ∧ CSpecOk Tryz.prog cfgG 46 checkR_sp := ⟨enter Tryz.func46 (by kernel_rfl) (by kernel_rfl), genSpecR_ok (A := checkR_A) (ap := [.bag 64 shBound]) (l := [.d .err, .own 64 shBound]) (own := (some 0)) (reg := false) (bd := fun (x : (ATy [.bag 64 shBound])) => checkR_t x.1) (fitG L_copyR) s_copyR mixed (by kernel_rfl) (loopsAll (l := [loopN Tryz.prog 46 0]) (by kernel_rfl) ⟨checkR_o0, trivial⟩) (fun _ => rfl) (by
  intro x
  obtain ⟨p0, ⟨⟩⟩ := x
  kernel_rfl)⟩
noncomputable def L_checkR : List (Nat × CSpec) := (46, checkR_sp) :: L_copyR
theorem s_checkR : SpecsOk Tryz.prog (tabsG L_checkR) := oneSpecGT s_copyR checkR_ok
noncomputable def insertR_A : Anns := { l := [], orc := [], N := 1000, rng := [], ro := [], outs := some true, nils := [] }
noncomputable def insertR_t (p0 : (Option Nat)) (p1 : Int) (p2 : (Bool × (List Bd))) (lk : (List Nat)) (H : (List Pev.Node)) : FT (Err × (List Bd) × (List Pev.Node)) := (.br p0.isNone (.ret ((some ([], 19), p2.snd, H))) (.opt (checkR p2) fun x27 => (.br (!Option.isNone x27.fst) (.ret ((x27.fst, x27.snd, H))) (.br p0.isSome (.br p0.isSome (.opt (getBox 80 shPos H (p0.getD 0)) fun _ => (.opt (getBox 80 shPos H (p0.getD 0)) fun x29 => (.br x29.isSome (.opt (getMap false true (Sh.int IntKind.i64) shFil H (x29.getD 0)) fun x30 => (.br ((lookL (Sh.int IntKind.i64) shFil p1 x30).isSome) (.ret ((some ([], 9), x27.snd, H))) (.br p0.isSome (.br p0.isSome (.opt (getBox 80 shPos H (p0.getD 0)) fun _ => (.opt (getBox 80 shPos H (p0.getD 0)) fun x32 => (.br x32.isSome (.opt (getMap false true (Sh.int IntKind.i64) shFil H (x32.getD 0)) fun x33 => (.br (decide (Int.ofNat x33.length ≥ 512)) (.ret ((some ([], 11), x27.snd, H))) (.br p0.isSome (.br p0.isSome (.opt (getBox 80 shPos H (p0.getD 0)) fun _ => (.opt (getBox 80 shPos H (p0.getD 0)) fun x35 => (.opt (copyR (p2.fst, x27.snd)) fun x36 => (.br x35.isSome (.br (wrOk lk [] (x35.getD 0)) (.opt (getMap false true (Sh.int IntKind.i64) shFil H (x35.getD 0)) fun x37 => (.ret ((none, x36.snd, H.set (x35.getD 0) (Node.map false true (Sh.int IntKind.i64) shFil (putL (Sh.int IntKind.i64) shFil p1 x36.fst x37)))))) .fail) .fail)))) .fail) .fail))) (.br p0.isSome (.br p0.isSome (.opt (getBox 80 shPos H (p0.getD 0)) fun _ => (.opt (getBox 80 shPos H (p0.getD 0)) fun x39 => (.opt (copyR (p2.fst, x27.snd)) fun x40 => (.br x39.isSome (.br (wrOk lk [] (x39.getD 0)) (.opt (getMap false true (Sh.int IntKind.i64) shFil H (x39.getD 0)) fun x41 => (.ret ((none, x40.snd, H.set (x39.getD 0) (Node.map false true (Sh.int IntKind.i64) shFil (putL (Sh.int IntKind.i64) shFil p1 x40.fst x41)))))) .fail) .fail)))) .fail) .fail)))) .fail) .fail))) (.br p0.isSome (.br p0.isSome (.opt (getBox 80 shPos H (p0.getD 0)) fun _ => (.opt (getBox 80 shPos H (p0.getD 0)) fun x43 => (.br x43.isSome (.opt (getMap false true (Sh.int IntKind.i64) shFil H (x43.getD 0)) fun x44 => (.br (decide (Int.ofNat x44.length ≥ 512)) (.ret ((some ([], 11), x27.snd, H))) (.br p0.isSome (.br p0.isSome (.opt (getBox 80 shPos H (p0.getD 0)) fun _ => (.opt (getBox 80 shPos H (p0.getD 0)) fun x46 => (.opt (copyR (p2.fst, x27.snd)) fun x47 => (.br x46.isSome (.br (wrOk lk [] (x46.getD 0)) (.opt (getMap false true (Sh.int IntKind.i64) shFil H (x46.getD 0)) fun x48 => (.ret ((none, x47.snd, H.set (x46.getD 0) (Node.map false true (Sh.int IntKind.i64) shFil (putL (Sh.int IntKind.i64) shFil p1 x47.fst x48)))))) .fail) .fail)))) .fail) .fail))) (.br p0.isSome (.br p0.isSome (.opt (getBox 80 shPos H (p0.getD 0)) fun _ => (.opt (getBox 80 shPos H (p0.getD 0)) fun x50 => (.opt (copyR (p2.fst, x27.snd)) fun x51 => (.br x50.isSome (.br (wrOk lk [] (x50.getD 0)) (.opt (getMap false true (Sh.int IntKind.i64) shFil H (x50.getD 0)) fun x52 => (.ret ((none, x51.snd, H.set (x50.getD 0) (Node.map false true (Sh.int IntKind.i64) shFil (putL (Sh.int IntKind.i64) shFil p1 x51.fst x52)))))) .fail) .fail)))) .fail) .fail)))) .fail) .fail)))) .fail) .fail))))
noncomputable def insertR (p0 : (Option Nat)) (p1 : Int) (p2 : (Bool × (List Bd))) (lk : (List Nat)) (H : (List Pev.Node)) : Option (Err × (List Bd) × (List Pev.Node)) := (insertR_t p0 p1 p2 lk H).fin
noncomputable def insertR_sp : CSpec := genSpecR [.d (.rf .ptr), .d (.int .i64), .bag 64 shBound, .hin] [.d .err, .own 64 shBound, .reg] (some 2) true (fun x => insertR x.1 x.2.1 x.2.2.1 x.2.2.2.1 x.2.2.2.2.1)
theorem insertR_ok : EnterOk Tryz.prog 17 ∧ CSpecOk Tryz.prog cfgG 17 insertR_sp := ⟨enter Tryz.func17 (by kernel_rfl) (by kernel_rfl), genSpecR_ok (A := insertR_A) (ap := [.d (.rf .ptr), .d (.int .i64), .bag 64 shBound, .hin]) (l := [.d .err, .own 64 shBound, .reg]) (own := (some 2)) (reg := true) (bd := fun (x : (ATy [.d (.rf .ptr), .d (.int .i64), .bag 64 shBound, .hin])) => insertR_t x.1 x.2.1 x.2.2.1 x.2.2.2.1 x.2.2.2.2.1) (fitG L_checkR) s_checkR mixed (by kernel_rfl) (loopsAll (l := []) (by kernel_rfl) trivial) (fun _ => rfl) (by
  intro x
  obtain ⟨p0, p1, p2, lk, H, ⟨⟩⟩ := x
  kernel_rfl)⟩
noncomputable def L_insertR : List (Nat × CSpec) := (17, insertR_sp) :: L_checkR
theorem s_insertR : SpecsOk Tryz.prog (tabsG L_insertR) := oneSpecGT s_checkR insertR_ok
noncomputable def cloneN_A : Anns := { l := [], orc := [], N := 1000, rng := [], ro := [(0, (0, (64, shBound)))], outs := some false, nils := [1] }
noncomputable def cloneN_t (p0 : (List Bd)) (lk : (List Nat)) (H : (List Pev.Node)) : FT ((List Bd) × (List Pev.Node)) := (.rel (anyW (bif p0.isEmpty then [true, false] else [false])) (anyW_good (bif p0.isEmpty then [true, false] else [false])) fun x2 => (.br x2 (.ret (([], H))) (.br (appLim 72 0 p0.length) (.ret ((p0, H))) .fail)))
noncomputable def cloneN (p0 : (List Bd)) (lk : (List Nat)) (H : (List Pev.Node)) : Option ((List Bd) × (List Pev.Node)) := (cloneN_t p0 lk H).fin
noncomputable def cloneN_sp : CSpec := genSpecR [.d (.sl shBound), .hin] [.row 64 shBound, .reg] none true (fun x => cloneN x.1 x.2.1 x.2.2.1)
theorem cloneN_ok : EnterOk Tryz.prog 60 ∧ CSpecOk Tryz.prog cfgG 60 cloneN_sp := ⟨enter Tryz.func60 (by kernel_rfl) (by kernel_rfl), genSpecR_ok (A := cloneN_A) (ap := [.d (.sl shBound), .hin]) (l := [.row 64 shBound, .reg]) (own := none) (reg := true) (bd := fun (x : (ATy [.d (.sl shBound), .hin])) => cloneN_t x.1 x.2.1 x.2.2.1) (fitG L_insertR) s_insertR mixed (by kernel_rfl) (loopsAll (l := []) (by kernel_rfl) trivial) (fun _ => rfl) (by
  intro x
  obtain ⟨p0, lk, H, ⟨⟩⟩ := x
  kernel_rfl)⟩
noncomputable def L_cloneN : List (Nat × CSpec) := (60, cloneN_sp) :: L_insertR
theorem s_cloneN : SpecsOk Tryz.prog (tabsG L_cloneN) := oneSpecGT s_insertR cloneN_ok
noncomputable def copyN_A : Anns := { l := [], orc := [], N := 1000, rng := [], ro := [(0, (1, (64, shBound)))], outs := some false, nils := [] }
noncomputable def copyN_t (p0 : Fil) (lk : (List Nat)) (H : (List Pev.Node)) : FT ((Bool × (List Bd)) × (List Pev.Node)) := (.opt (cloneN p0.snd (itLocks [] ++ lk) H) fun x2 => (.ret (((p0.fst, x2.fst), x2.snd))))
noncomputable def copyN (p0 : Fil) (lk : (List Nat)) (H : (List Pev.Node)) : Option ((Bool × (List Bd)) × (List Pev.Node)) := (copyN_t p0 lk H).fin
noncomputable def copyN_sp : CSpec := genSpecR [.d shFil, .hin] [.bag 64 shBound, .reg] none true (fun x => copyN x.1 x.2.1 x.2.2.1)
theorem copyN_ok : EnterOk Tryz.prog 41 ∧ CSpecOk Tryz.prog cfgG 41 copyN_sp := ⟨enter Tryz.func41 (by kernel_rfl) (by kernel_rfl), genSpecR_ok (A := copyN_A) (ap := [.d shFil, .hin]) (l := [.bag 64 shBound, .reg]) (own := none) (reg := true) (bd := fun (x : (ATy [.d shFil, .hin])) => copyN_t x.1 x.2.1 x.2.2.1) (fitG L_cloneN) s_cloneN mixed (by kernel_rfl) (loopsAll (l := []) (by kernel_rfl) trivial) (fun _ => rfl) (by
  intro x
  obtain ⟨p0, lk, H, ⟨⟩⟩ := x
  kernel_rfl)⟩
noncomputable def L_copyN : List (Nat × CSpec) := (41, copyN_sp) :: L_cloneN
theorem s_copyN : SpecsOk Tryz.prog (tabsG L_copyN) := oneSpecGT s_cloneN copyN_ok
noncomputable def getR_A : Anns := { l := [], orc := [], N := 1000, rng := [], ro := [(0, (1, (64, shBound)))], outs := some false, nils := [] }
noncomputable def getR_t (p0 : (Option Nat)) (p1 : Int) (lk : (List Nat)) (H : (List Pev.Node)) : FT ((Bool × (List Bd)) × Err × (List Pev.Node)) := (.opt (poset_Poset_there p0 p1 (itLocks [] ++ lk) H) fun x7 => (.br (!Option.isNone x7.fst) (.ret (((false, []), x7))) (.br p0.isSome (.br p0.isSome (.opt (getBox 80 shPos x7.snd (p0.getD 0)) fun _ => (.opt (getBox 80 shPos x7.snd (p0.getD 0)) fun x9 => (.br x9.isSome (.opt (getMap false true (Sh.int IntKind.i64) shFil x7.snd (x9.getD 0)) fun x10 => (.opt (copyN ((lookL (Sh.int IntKind.i64) shFil p1 x10).getD (false, [])) (itLocks [] ++ lk) x7.snd) fun x11 => (.ret ((x11.fst, none, x11.snd))))) (.opt (copyN (false, []) (itLocks [] ++ lk) x7.snd) fun x12 => (.ret ((x12.fst, none, x12.snd))))))) .fail) .fail)))
noncomputable def getR (p0 : (Option Nat)) (p1 : Int) (lk : (List Nat)) (H : (List Pev.Node)) : Option ((Bool × (List Bd)) × Err × (List Pev.Node)) := (getR_t p0 p1 lk H).fin
noncomputable def getR_sp : CSpec := genSpecR [.d (.rf .ptr), .d (.int .i64), .hin] [.bag 64 shBound, .d .err, .reg] none true (fun x => getR x.1 x.2.1 x.2.2.1 x.2.2.2.1)
theorem getR_ok : EnterOk Tryz.prog 12 ∧ CSpecOk Tryz.prog cfgG 12 getR_sp := ⟨enter Tryz.func12 (by kernel_rfl) (by kernel_rfl), genSpecR_ok (A := getR_A) (ap := [.d (.rf .ptr), .d (.int .i64), .hin]) (l := [.bag 64 shBound, .d .err, .reg]) (own := none) (reg := true) (bd := fun (x : (ATy [.d (.rf .ptr), .d (.int .i64), .hin])) => getR_t x.1 x.2.1 x.2.2.1 x.2.2.2.1) (fitG L_copyN) s_copyN mixed (by kernel_rfl) (loopsAll (l := []) (by kernel_rfl) trivial) (fun _ => rfl) (by
  intro x
  obtain ⟨p0, p1, lk, H, ⟨⟩⟩ := x
  kernel_rfl)⟩
noncomputable def L_getR : List (Nat × CSpec) := (12, getR_sp) :: L_copyN
theorem s_getR : SpecsOk Tryz.prog (tabsG L_getR) := oneSpecGT s_copyN getR_ok
noncomputable def twinR_A : Anns := { l := [], orc := [], N := 1000, rng := [], ro := [(0, (1, (64, shBound)))], outs := some false, nils := [] }
noncomputable def twinR_t (p0 : Fil) (lk : (List Nat)) (H : (List Pev.Node)) : FT ((Bool × (List Bd)) × (List Pev.Node)) := (.br (appLim 72 0 (List.length p0.snd)) (.ret (((p0.fst, [] ++ p0.snd), H))) .fail)
noncomputable def twinR (p0 : Fil) (lk : (List Nat)) (H : (List Pev.Node)) : Option ((Bool × (List Bd)) × (List Pev.Node)) := (twinR_t p0 lk H).fin
noncomputable def twinR_sp : CSpec := genSpecR [.d shFil, .hin] [.bag 64 shBound, .reg] none true (fun x => twinR x.1 x.2.1 x.2.2.1)
theorem twinR_ok : EnterOk Tryz.prog 25 ∧ CSpecOk Tryz.prog cfgG 25 twinR_sp := ⟨enter Tryz.func25 (by kernel_rfl) (by kernel_rfl), genSpecR_ok (A := twinR_A) (ap := [.d shFil, .hin]) (l := [.bag 64 shBound, .reg]) (own := none) (reg := true) (bd := fun (x : (ATy [.d shFil, .hin])) => twinR_t x.1 x.2.1 x.2.2.1) (fitG L_getR) s_getR mixed (by kernel_rfl) (loopsAll (l := []) (by kernel_rfl) trivial) (fun _ => rfl) (by
  intro x
  obtain ⟨p0, lk, H, ⟨⟩⟩ := x
  kernel_rfl)⟩
noncomputable def L_twinR : List (Nat × CSpec) := (25, twinR_sp) :: L_getR
theorem s_twinR : SpecsOk Tryz.prog (tabsG L_twinR) := oneSpecGT s_getR twinR_ok
noncomputable def twinL_A : Anns := { l := [], orc := [], N := 1000, rng := [], ro := [], outs := some true, nils := [] }
noncomputable def twinL_t (p0 : (Bool × (List Bd))) (lk : (List Nat)) (H : (List Pev.Node)) : FT (Fil × (List Bd) × (List Pev.Node)) := (.br (appLim 72 0 p0.snd.length) (.ret (((p0.fst, [] ++ p0.snd), p0.snd, H))) .fail)
noncomputable def twinL (p0 : (Bool × (List Bd))) (lk : (List Nat)) (H : (List Pev.Node)) : Option (Fil × (List Bd) × (List Pev.Node)) := (twinL_t p0 lk H).fin
noncomputable def twinL_sp : CSpec := genSpecR [.bag 64 shBound, .hin] [.d shFil, .own 64 shBound, .reg] (some 0) true (fun x => twinL x.1 x.2.1 x.2.2.1)
theorem twinL_ok : EnterOk Tryz.prog 25 ∧ CSpecOk Tryz.prog cfgG 25 twinL_sp := ⟨enter Tryz.func25 (by kernel_rfl) (by kernel_rfl), genSpecR_ok (A := twinL_A) (ap := [.bag 64 shBound, .hin]) (l := [.d shFil, .own 64 shBound, .reg]) (own := (some 0)) (reg := true) (bd := fun (x : (ATy [.bag 64 shBound, .hin])) => twinL_t x.1 x.2.1 x.2.2.1) (fitG L_twinR) s_twinR mixed (by kernel_rfl) (loopsAll (l := []) (by kernel_rfl) trivial) (fun _ => rfl) (by
  intro x
  obtain ⟨p0, lk, H, ⟨⟩⟩ := x
  kernel_rfl)⟩
noncomputable def L_twinL : List (Nat × CSpec) := (25, twinL_sp) :: L_twinR
theorem s_twinL : SpecsOk Tryz.prog (tabsG L_twinL) := oneSpecGT s_twinR twinL_ok
end Go.Proofs.YtmpgilieeegnhaaGreatDoor
