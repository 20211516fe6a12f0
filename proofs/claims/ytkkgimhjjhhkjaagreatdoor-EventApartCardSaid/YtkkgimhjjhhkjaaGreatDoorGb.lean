/- Trees of functions, their loops and contracts: printed by PewGen (own tool). -/
import Derived.Test.YtkkgimhjjhhkjaaGreatDoorPd
set_option maxRecDepth 100000
namespace Go.Proofs.YtkkgimhjjhhkjaaGreatDoor
open Go Go.Pev
noncomputable def cloneN_A : Anns := { l := [], orc := [], N := 1000, rng := [], ro := [(0, (0, (50, shAttr)))], outs := some false, nils := [1] }
noncomputable def cloneN_t (p0 : (List (ByteArray × V))) (lk : (List Nat)) (H : (List Pev.Node)) : FT ((List (ByteArray × V)) × (List Pev.Node)) := (.rel (anyW (bif p0.isEmpty then [true, false] else [false])) (anyW_good (bif p0.isEmpty then [true, false] else [false])) fun x2 => (.br x2 (.ret (([], H))) (.br (appLim 56 0 p0.length) (.ret ((p0, H))) .fail)))
noncomputable def cloneN (p0 : (List (ByteArray × V))) (lk : (List Nat)) (H : (List Pev.Node)) : Option ((List (ByteArray × V)) × (List Pev.Node)) := (cloneN_t p0 lk H).fin
noncomputable def cloneN_sp : CSpec := genSpecR [.d (.sl shAttr), .hin] [.row 50 shAttr, .reg] none true (fun x => cloneN x.1 x.2.1 x.2.2.1)
theorem cloneN_ok : EnterOk Tryz.prog 53 ∧ CSpecOk Tryz.prog cfgG 53 cloneN_sp := ⟨enter Tryz.func53 (by kernel_rfl) (by kernel_rfl), genSpecR_ok (A := cloneN_A) (ap := [.d (.sl shAttr), .hin]) (l := [.row 50 shAttr, .reg]) (own := none) (reg := true) (bd := fun (x : (ATy [.d (.sl shAttr), .hin])) => cloneN_t x.1 x.2.1 x.2.2.1) (fitG L_delete) s_delete mixed (by kernel_rfl) (loopsAll (l := []) (by kernel_rfl) trivial) (fun _ => rfl) (by
  intro x
  obtain ⟨p0, lk, H, ⟨⟩⟩ := x
  kernel_rfl)⟩
noncomputable def L_cloneN : List (Nat × CSpec) := (53, cloneN_sp) :: L_delete
theorem s_cloneN : SpecsOk Tryz.prog (tabsG L_cloneN) := oneSpecGT s_delete cloneN_ok
noncomputable def event_Set_A : Anns := { l := [], orc := [], N := 1000, rng := [], ro := [], outs := some false, nils := [] }
noncomputable def event_Set_t (p0 : (List (ByteArray × V))) (p1 : ByteArray) (p2 : V) (lk : (List Nat)) (H : (List Pev.Node)) : FT ((List (ByteArray × V)) × Err × (List Pev.Node)) := (.opt (event_asked p0 p1) fun x7 => (.opt (value_Check p2) fun x8 => (.opt (fault_First [x7, x8]) fun x9 => (.br (!x9.isNone) (.ret (([], x9, H))) (.opt (event_Find p0 p1) fun x10 => (.opt (cloneN p0 (itLocks [] ++ lk) H) fun x11 => (.br x10.snd (.br (decide (0 ≤ x10.fst)) (.br (decide (x10.fst < Int.ofNat (List.length x11.fst))) (.br (decide (0 ≤ x10.fst)) (.br (decide (x10.fst < Int.ofNat (List.length x11.fst))) (.ret ((List.set x11.fst (Int.toNat x10.fst) ((getI x11.fst x10.fst (ByteArray.mk #[], 0, 0, ByteArray.mk #[], false)).fst, p2), none, x11.snd))) .fail) .fail) .fail) .fail) (.br (Int.ofNat p0.length == 16) (.ret (([], some ([], 11), x11.snd))) (.opt (insC 56 x11.fst x10.fst [(p1, p2)]) fun x12 => (.ret ((x12, none, x11.snd))))))))))))
noncomputable def event_Set (p0 : (List (ByteArray × V))) (p1 : ByteArray) (p2 : V) (lk : (List Nat)) (H : (List Pev.Node)) : Option ((List (ByteArray × V)) × Err × (List Pev.Node)) := (event_Set_t p0 p1 p2 lk H).fin
noncomputable def event_Set_sp : CSpec := genSpecR [.d (.sl shAttr), .d .str, .d shVal, .hin] [.d (.sl shAttr), .d .err, .reg] none true (fun x => event_Set x.1 x.2.1 x.2.2.1 x.2.2.2.1 x.2.2.2.2.1)
theorem event_Set_ok : EnterOk Tryz.prog 22 ∧ CSpecOk Tryz.prog cfgG 22 event_Set_sp := ⟨enter Tryz.func22 (by kernel_rfl) (by kernel_rfl), genSpecR_ok (A := event_Set_A) (ap := [.d (.sl shAttr), .d .str, .d shVal, .hin]) (l := [.d (.sl shAttr), .d .err, .reg]) (own := none) (reg := true) (bd := fun (x : (ATy [.d (.sl shAttr), .d .str, .d shVal, .hin])) => event_Set_t x.1 x.2.1 x.2.2.1 x.2.2.2.1 x.2.2.2.2.1) (fitG L_cloneN) s_cloneN mixed (by kernel_rfl) (loopsAll (l := []) (by kernel_rfl) trivial) (fun _ => rfl) (by
  intro x
  obtain ⟨p0, p1, p2, lk, H, ⟨⟩⟩ := x
  kernel_rfl)⟩
noncomputable def L_event_Set : List (Nat × CSpec) := (22, event_Set_sp) :: L_cloneN
theorem s_event_Set : SpecsOk Tryz.prog (tabsG L_event_Set) := oneSpecGT s_cloneN event_Set_ok
noncomputable def event_Drop_A : Anns := { l := [], orc := [], N := 1000, rng := [], ro := [], outs := some false, nils := [] }
noncomputable def event_Drop_t (p0 : (List (ByteArray × V))) (p1 : ByteArray) (lk : (List Nat)) (H : (List Pev.Node)) : FT ((List (ByteArray × V)) × Err × (List Pev.Node)) := (.opt (event_asked p0 p1) fun x5 => (.br (!x5.isNone) (.ret (([], x5, H))) (.opt (event_Find p0 p1) fun x6 => (.br (!x6.snd) (.ret (([], some ([], 10), H))) (.opt (cloneN p0 (itLocks [] ++ lk) H) fun x7 => (.opt (delC x7.fst x6.fst (IntKind.i64.wrap (x6.fst + 1))) fun x8 => (.ret ((x8, none, x7.snd)))))))))
noncomputable def event_Drop (p0 : (List (ByteArray × V))) (p1 : ByteArray) (lk : (List Nat)) (H : (List Pev.Node)) : Option ((List (ByteArray × V)) × Err × (List Pev.Node)) := (event_Drop_t p0 p1 lk H).fin
noncomputable def event_Drop_sp : CSpec := genSpecR [.d (.sl shAttr), .d .str, .hin] [.d (.sl shAttr), .d .err, .reg] none true (fun x => event_Drop x.1 x.2.1 x.2.2.1 x.2.2.2.1)
theorem event_Drop_ok : EnterOk Tryz.prog 26 ∧ CSpecOk Tryz.prog cfgG 26 event_Drop_sp := ⟨enter Tryz.func26 (by kernel_rfl) (by kernel_rfl), genSpecR_ok (A := event_Drop_A) (ap := [.d (.sl shAttr), .d .str, .hin]) (l := [.d (.sl shAttr), .d .err, .reg]) (own := none) (reg := true) (bd := fun (x : (ATy [.d (.sl shAttr), .d .str, .hin])) => event_Drop_t x.1 x.2.1 x.2.2.1 x.2.2.2.1) (fitG L_event_Set) s_event_Set mixed (by kernel_rfl) (loopsAll (l := []) (by kernel_rfl) trivial) (fun _ => rfl) (by
  intro x
  obtain ⟨p0, p1, lk, H, ⟨⟩⟩ := x
  kernel_rfl)⟩
noncomputable def L_event_Drop : List (Nat × CSpec) := (26, event_Drop_sp) :: L_event_Set
theorem s_event_Drop : SpecsOk Tryz.prog (tabsG L_event_Drop) := oneSpecGT s_event_Set event_Drop_ok
noncomputable def law03_EventSets_A : Anns := { l := [], orc := [], N := 1000, rng := [], ro := [], outs := some false, nils := [] }
noncomputable def law03_EventSets_t (p0 : (List (ByteArray × V))) (p1 : ByteArray) (p2 : V) (lk : (List Nat)) (H : (List Pev.Node)) : FT (Bool × (List Pev.Node)) := (.br (decide (Int.ofNat p0.length > 100)) (.ret ((true, H))) (.opt (ref03_Twin p0) fun x15 => (.opt (event_Get x15 p1) fun x16 => (.opt (ref03_DocGet p0 p1) fun x17 => (.br (!eqB shVal x16.fst x17.fst) (.ret ((false, H))) (.opt (law03_fails x16.snd x17.snd) fun x18 => (.br (!x18) (.ret ((false, H))) (.opt (ref03_Twin p0) fun x19 => (.opt (event_Set x19 p1 p2 (itLocks [] ++ lk) H) fun x20 => (.opt (ref03_DocSet p0 p1 p2) fun x21 => (.opt (ref03_Same x20.fst x21.fst) fun x22 => (.br (!x22) (.ret ((false, x20.snd.snd))) (.opt (law03_fails x20.snd.fst x21.snd) fun x23 => (.br (!x23) (.ret ((false, x20.snd.snd))) (.opt (ref03_Twin p0) fun x24 => (.opt (event_Drop x24 p1 (itLocks [] ++ lk) x20.snd.snd) fun x25 => (.opt (ref03_DocDrop p0 p1) fun x26 => (.opt (ref03_Same x25.fst x26.fst) fun x27 => (.br x27 (.opt (law03_fails x25.snd.fst x26.snd) fun x28 => (.ret ((x28, x25.snd.snd)))) (.ret ((false, x25.snd.snd))))))))))))))))))))))
noncomputable def law03_EventSets (p0 : (List (ByteArray × V))) (p1 : ByteArray) (p2 : V) (lk : (List Nat)) (H : (List Pev.Node)) : Option (Bool × (List Pev.Node)) := (law03_EventSets_t p0 p1 p2 lk H).fin
noncomputable def law03_EventSets_sp : CSpec := genSpecR [.d (.sl shAttr), .d .str, .d shVal, .hin] [.d .bool, .reg] none true (fun x => law03_EventSets x.1 x.2.1 x.2.2.1 x.2.2.2.1 x.2.2.2.2.1)
theorem law03_EventSets_ok : EnterOk Tryz.prog 7 ∧ CSpecOk Tryz.prog cfgG 7 law03_EventSets_sp := ⟨enter Tryz.func7 (by kernel_rfl) (by kernel_rfl), genSpecR_ok (A := law03_EventSets_A) (ap := [.d (.sl shAttr), .d .str, .d shVal, .hin]) (l := [.d .bool, .reg]) (own := none) (reg := true) (bd := fun (x : (ATy [.d (.sl shAttr), .d .str, .d shVal, .hin])) => law03_EventSets_t x.1 x.2.1 x.2.2.1 x.2.2.2.1 x.2.2.2.2.1) (fitG L_event_Drop) s_event_Drop mixed (by kernel_rfl) (loopsAll (l := []) (by kernel_rfl) trivial) (fun _ => rfl) (by
  intro x
  obtain ⟨p0, p1, p2, lk, H, ⟨⟩⟩ := x
  kernel_rfl)⟩
noncomputable def L_law03_EventSets : List (Nat × CSpec) := (7, law03_EventSets_sp) :: L_event_Drop
theorem s_law03_EventSets : SpecsOk Tryz.prog (tabsG L_law03_EventSets) := oneSpecGT s_event_Drop law03_EventSets_ok
end Go.Proofs.YtkkgimhjjhhkjaaGreatDoor
