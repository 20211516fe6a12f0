/- errors.Is at this program's errors and a number for target: is it that number? -/
import Derived.Test.YtkkgimhjjhhkjaaGreatDoorM
namespace Go.Proofs.YtkkgimhjjhhkjaaGreatDoor
open Go Go.RowKit Go.Extern.Stop Go.Stop Go.Extern
noncomputable def isBody : Code := match Tryz.f73.body with | some c => firstLoop c | none => .skip
theorem is_typeOf (v : Value) (w : World) : (ReflectliteType.typeOf #[.iface 31 v]).run Tryz.prog w = .ok (.iface 141 (.agg #[.pointer (some ⟨7, 31, none⟩)])) w := by kernel_rfl
theorem is_cmp (w : World) : ((ReflectliteType.method fun t => do Rtype.noPackHeld "Comparable" t; (fun a => Value.bool a.comparable) <$> typeInfo t) #[.agg #[.pointer (some ⟨7, 31, none⟩)]]).run Tryz.prog w = .ok (.bool true) w := by kernel_rfl
theorem is_mCmp (v : Value) (w : World) : (Go.method 317 141 v "Comparable").run Tryz.prog w = .ok (155, v) w := by kernel_rfl
theorem is_noP (v : Value) (w : World) : (Instr.typeAssert (.iface 104 v) 26 143 true).run Tryz.prog w = .ok (.tuple #[.nilIface, .bool false]) w := run_typeAssert_lacksB Tryz.underlying143 (by kernel_rfl) (by kernel_rfl) v 26 w
theorem is_hasP (v : Value) (w : World) : (Instr.typeAssert (.iface 104 v) 26 146 true).run Tryz.prog w = .ok (.tuple #[.iface 104 v, .bool true]) w := by kernel_rfl
theorem is_noN (v : Value) (w : World) : (Instr.typeAssert (.iface 31 v) 26 143 true).run Tryz.prog w = .ok (.tuple #[.nilIface, .bool false]) w := run_typeAssert_lacksB Tryz.underlying143 (by kernel_rfl) (by kernel_rfl) v 26 w
theorem is_noN2 (v : Value) (w : World) : (Instr.typeAssert (.iface 31 v) 26 146 true).run Tryz.prog w = .ok (.tuple #[.nilIface, .bool false]) w := run_typeAssert_lacksB Tryz.underlying146 (by kernel_rfl) (by kernel_rfl) v 26 w
theorem is_noN3 (v : Value) (w : World) : (Instr.typeAssert (.iface 31 v) 26 148 true).run Tryz.prog w = .ok (.tuple #[.nilIface, .bool false]) w := run_typeAssert_lacksB Tryz.underlying148 (by kernel_rfl) (by kernel_rfl) v 26 w
theorem is_eqP (p : Value) (m : Int) (w : World) : (Go.binOp .eql 26 (.iface 104 p) (.iface 31 (.int .i64 m))).run Tryz.prog w = .ok (.bool false) w := run_eql_iface_types (P := Tryz.prog) 104 31 p (.int .i64 m) Tryz.underlying26 (by decide) w
theorem is_eqN (n m : Int) (w : World) : (Go.binOp .eql 26 (.iface 31 (.int .i64 n)) (.iface 31 (.int .i64 m))).run Tryz.prog w = .ok (.bool (n == m)) w := by kernel_rfl
set_option maxHeartbeats 4000000 in
set_option maxRecDepth 100000 in
theorem is_round_fault (Q : Exit → Act → World → Prop) (b : Nat) (u1 : TypeId) (u2 : Value) (m : Int) (w : World) (x3 x4 x5 x7 x8 x9 x10 x11 x12 x13 x14 x15 x16 x17 x18 x19 x20 x21 x22 x23 x24 x25 x26 x27 x28 x29 x30 x31 x32 x33 x34 x35 x36 x37 x38 x39 x40 x41 x42 x43 x44 x45 x46 x47 x48 x49 x50 x51 x52 x53 : Value)
    (k a0 : Int) (hU : w.heap[b]? = some (.cells #[.int .i64 k, .int .i64 a0, .iface u1 u2] 108 (0, 0)))
    (hQ : ∀ x3 x4 x5 x7 x8 x9 x10 x11 x12 x13 x14 x15 x16 x17 x18 x19 x20 x21 x22 x23 x24 x25 x26 x27 x28 x29 x30 x31 x32 x33 x34 x35 x36 x37 x38 x39 x40 x41 x42 x43 x44 x45 x46 x47 x48 x49 x50 x51 x52 x53, Q .normal { tmps := #[.iface u1 u2, .iface 31 (.int .i64 m), .bool true, x3, x4, x5, .bool false, x7, x8, x9, x10, x11, x12, x13, x14, x15, x16, x17, x18, x19, x20, x21, x22, x23, x24, x25, x26, x27, x28, x29, x30, x31, x32, x33, x34, x35, x36, x37, x38, x39, x40, x41, x42, x43, x44, x45, x46, x47, x48, x49, x50, x51, x52, x53], defers := [] } w) :
    isBody.wp Tryz.prog Q { tmps := #[.iface 104 (.pointer (some ⟨b, 0, none⟩)), .iface 31 (.int .i64 m), .bool true, x3, x4, x5, .bool false, x7, x8, x9, x10, x11, x12, x13, x14, x15, x16, x17, x18, x19, x20, x21, x22, x23, x24, x25, x26, x27, x28, x29, x30, x31, x32, x33, x34, x35, x36, x37, x38, x39, x40, x41, x42, x43, x44, x45, x46, x47, x48, x49, x50, x51, x52, x53], defers := [] } w := by
  have mU : ∀ (h : Value) (w : World), (Go.method 317 104 h "Unwrap").run Tryz.prog w = .ok (149, h) w := fun h w => by kernel_rfl
  have e1 : ∀ W : World, (Instr.fieldAt 108 (.pointer (some ⟨b, 0, none⟩)) 1).run Tryz.prog W = .ok (.pointer (some ⟨b, 2, none⟩)) W := fun W => by kernel_rfl
  have hc : w.cell? ⟨b, 2, none⟩ = some (.iface u1 u2) := by simp [World.cell?, hU]
  have e2 : (Instr.loadAt 26 (.pointer (some ⟨b, 2, none⟩))).run Tryz.prog w = .ok (.iface u1 u2) w := by
    simp [Instr.loadAt, Instr.sureAddr, loadVar, isAgg, underlying, Tryz.underlying26, hc]
  have e3 : ∀ W : World, (Go.binOp .eql 104 (.pointer (some ⟨b, 0, none⟩)) (.pointer none)).run Tryz.prog W = .ok (.bool false) W := fun W => by kernel_rfl
  have n1 := is_noP
  have n2 := is_hasP
  have n3 := is_eqP
  unfold isBody Tryz.f73
  simp only [firstLoop]
  go_wp2
  exact hQ _ _ _ _ _ _ _ _ _ _ _ _ _ _ _ _ _ _ _ _ _ _ _ _ _ _ _ _ _ _ _ _ _ _ _ _ _ _ _ _ _ _ _ _ _ _ _ _ _ _

set_option maxHeartbeats 4000000 in
set_option maxRecDepth 100000 in
theorem is_round_hit (Q : Exit → Act → World → Prop) (n m : Int) (w : World) (x3 x4 x5 x7 x8 x9 x10 x11 x12 x13 x14 x15 x16 x17 x18 x19 x20 x21 x22 x23 x24 x25 x26 x27 x28 x29 x30 x31 x32 x33 x34 x35 x36 x37 x38 x39 x40 x41 x42 x43 x44 x45 x46 x47 x48 x49 x50 x51 x52 x53 : Value)
    (hQ : ∀ y0 y1 y2 y3 y4 y5 y7 y8 y9 y10 y11 y12 y13 y14 y15 y16 y17 y18 y19 y20 y21 y22 y23 y24 y25 y26 y27 y28 y29 y30 y31 y32 y33 y34 y35 y36 y37 y38 y39 y40 y41 y42 y43 y44 y45 y46 y47 y48 y49 y50 y51 y52 y53, Q .ret { tmps := #[y0, y1, y2, y3, y4, y5, .bool (n == m), y7, y8, y9, y10, y11, y12, y13, y14, y15, y16, y17, y18, y19, y20, y21, y22, y23, y24, y25, y26, y27, y28, y29, y30, y31, y32, y33, y34, y35, y36, y37, y38, y39, y40, y41, y42, y43, y44, y45, y46, y47, y48, y49, y50, y51, y52, y53], defers := [] } w) :
    isBody.wp Tryz.prog Q { tmps := #[.iface 31 (.int .i64 n), .iface 31 (.int .i64 m), .bool true, x3, x4, x5, .bool false, x7, x8, x9, x10, x11, x12, x13, x14, x15, x16, x17, x18, x19, x20, x21, x22, x23, x24, x25, x26, x27, x28, x29, x30, x31, x32, x33, x34, x35, x36, x37, x38, x39, x40, x41, x42, x43, x44, x45, x46, x47, x48, x49, x50, x51, x52, x53], defers := [] } w := by
  have n1 := is_noN
  have n2 := is_noN2
  have n3 := is_noN3
  have n4 := is_eqN n m
  unfold isBody Tryz.f73
  simp only [firstLoop]
  cases hb : (n == m) with
  | true =>
    rw [hb] at n4
    simp only [hb] at hQ
    go_wp2
    exact hQ _ _ _ _ _ _ _ _ _ _ _ _ _ _ _ _ _ _ _ _ _ _ _ _ _ _ _ _ _ _ _ _ _ _ _ _ _ _ _ _ _ _ _ _ _ _ _ _ _ _ _ _ _
  | false =>
    rw [hb] at n4
    simp only [hb] at hQ
    go_wp2
    exact hQ _ _ _ _ _ _ _ _ _ _ _ _ _ _ _ _ _ _ _ _ _ _ _ _ _ _ _ _ _ _ _ _ _ _ _ _ _ _ _ _ _ _ _ _ _ _ _ _ _ _ _ _ _

set_option maxHeartbeats 4000000 in
set_option maxRecDepth 100000 in
theorem is_chain (Q : Exit → Act → World → Prop) (n m : Int) (w : World)
    (hQ : ∀ y0 y1 y2 y3 y4 y5 y7 y8 y9 y10 y11 y12 y13 y14 y15 y16 y17 y18 y19 y20 y21 y22 y23 y24 y25 y26 y27 y28 y29 y30 y31 y32 y33 y34 y35 y36 y37 y38 y39 y40 y41 y42 y43 y44 y45 y46 y47 y48 y49 y50 y51 y52 y53, Q .ret { tmps := #[y0, y1, y2, y3, y4, y5, .bool (n == m), y7, y8, y9, y10, y11, y12, y13, y14, y15, y16, y17, y18, y19, y20, y21, y22, y23, y24, y25, y26, y27, y28, y29, y30, y31, y32, y33, y34, y35, y36, y37, y38, y39, y40, y41, y42, y43, y44, y45, y46, y47, y48, y49, y50, y51, y52, y53], defers := [] } w) :
    ∀ (ps : List (Int × Int)) (v0 : Value) (x3 x4 x5 x7 x8 x9 x10 x11 x12 x13 x14 x15 x16 x17 x18 x19 x20 x21 x22 x23 x24 x25 x26 x27 x28 x29 x30 x31 x32 x33 x34 x35 x36 x37 x38 x39 x40 x41 x42 x43 x44 x45 x46 x47 x48 x49 x50 x51 x52 x53 : Value), Pev.ErrAt cfg w ps n v0 → Code.rounds Tryz.prog isBody Q (ps.length + 1) { tmps := #[v0, .iface 31 (.int .i64 m), .bool true, x3, x4, x5, .bool false, x7, x8, x9, x10, x11, x12, x13, x14, x15, x16, x17, x18, x19, x20, x21, x22, x23, x24, x25, x26, x27, x28, x29, x30, x31, x32, x33, x34, x35, x36, x37, x38, x39, x40, x41, x42, x43, x44, x45, x46, x47, x48, x49, x50, x51, x52, x53], defers := [] } w
  | [], v0, x3, x4, x5, x7, x8, x9, x10, x11, x12, x13, x14, x15, x16, x17, x18, x19, x20, x21, x22, x23, x24, x25, x26, x27, x28, x29, x30, x31, x32, x33, x34, x35, x36, x37, x38, x39, x40, x41, x42, x43, x44, x45, x46, x47, x48, x49, x50, x51, x52, x53, h => by
    obtain rfl : v0 = .iface 31 (.int .i64 n) := h
    exact is_round_hit _ n m w x3 x4 x5 x7 x8 x9 x10 x11 x12 x13 x14 x15 x16 x17 x18 x19 x20 x21 x22 x23 x24 x25 x26 x27 x28 x29 x30 x31 x32 x33 x34 x35 x36 x37 x38 x39 x40 x41 x42 x43 x44 x45 x46 x47 x48 x49 x50 x51 x52 x53 (fun y0 y1 y2 y3 y4 y5 y7 y8 y9 y10 y11 y12 y13 y14 y15 y16 y17 y18 y19 y20 y21 y22 y23 y24 y25 y26 y27 y28 y29 y30 y31 y32 y33 y34 y35 y36 y37 y38 y39 y40 y41 y42 y43 y44 y45 y46 y47 y48 y49 y50 y51 y52 y53 => hQ y0 y1 y2 y3 y4 y5 y7 y8 y9 y10 y11 y12 y13 y14 y15 y16 y17 y18 y19 y20 y21 y22 y23 y24 y25 y26 y27 y28 y29 y30 y31 y32 y33 y34 y35 y36 y37 y38 y39 y40 y41 y42 y43 y44 y45 y46 y47 y48 y49 y50 y51 y52 y53)
  | p :: ps, v0, x3, x4, x5, x7, x8, x9, x10, x11, x12, x13, x14, x15, x16, x17, x18, x19, x20, x21, x22, x23, x24, x25, x26, x27, x28, x29, x30, x31, x32, x33, x34, x35, x36, x37, x38, x39, x40, x41, x42, x43, x44, x45, x46, x47, x48, x49, x50, x51, x52, x53, h => by
    obtain ⟨b, u', rfl, hb, hr⟩ := h
    obtain ⟨u1, u2, rfl⟩ := errAt_iface hr
    exact is_round_fault _ b u1 u2 m w x3 x4 x5 x7 x8 x9 x10 x11 x12 x13 x14 x15 x16 x17 x18 x19 x20 x21 x22 x23 x24 x25 x26 x27 x28 x29 x30 x31 x32 x33 x34 x35 x36 x37 x38 x39 x40 x41 x42 x43 x44 x45 x46 x47 x48 x49 x50 x51 x52 x53 p.1 p.2 hb (fun x3 x4 x5 x7 x8 x9 x10 x11 x12 x13 x14 x15 x16 x17 x18 x19 x20 x21 x22 x23 x24 x25 x26 x27 x28 x29 x30 x31 x32 x33 x34 x35 x36 x37 x38 x39 x40 x41 x42 x43 x44 x45 x46 x47 x48 x49 x50 x51 x52 x53 => is_chain Q n m w hQ ps (.iface u1 u2) x3 x4 x5 x7 x8 x9 x10 x11 x12 x13 x14 x15 x16 x17 x18 x19 x20 x21 x22 x23 x24 x25 x26 x27 x28 x29 x30 x31 x32 x33 x34 x35 x36 x37 x38 x39 x40 x41 x42 x43 x44 x45 x46 x47 x48 x49 x50 x51 x52 x53 hr)
set_option maxHeartbeats 4000000 in
set_option maxRecDepth 100000 in
theorem is_ok (ps : List (Int × Int)) (n m : Int) (v : Value) (w : World) (hv : Pev.ErrAt cfg w ps n v) :
    Calls Tryz.prog 44 #[v, .iface 31 (.int .i64 m)] w fun ev w' => ev = .returned (.bool (n == m)) ∧ w' = w := by
  have hTO := @run_callFunc_extern Tryz.prog 72 _ ReflectliteType.typeOf Tryz.func72 (by kernel_rfl) (by kernel_rfl) (by kernel_rfl) (by kernel_rfl)
  have hCM := @run_callFunc_extern Tryz.prog 155 _ (ReflectliteType.method fun t => do Rtype.noPackHeld "Comparable" t; pure (.bool (← typeInfo t).comparable)) Tryz.func155 (by kernel_rfl) (by kernel_rfl) (by kernel_rfl) (by kernel_rfl)
  have tT := is_typeOf
  have cT := is_cmp
  have mR := is_mCmp
  obtain ⟨u1, u2, rfl⟩ := errAt_iface hv
  go_enter Tryz.func44, Tryz.ntmps44
  go_wp2
  refine wp_loop_rounds (ps.length + 1) ?_
  refine is_chain _ n m w ?_ ps (.iface u1 u2) _ _ _ _ _ _ _ _ _ _ _ _ _ _ _ _ _ _ _ _ _ _ _ _ _ _ _ _ _ _ _ _ _ _ _ _ _ _ _ _ _ _ _ _ _ _ _ _ _ _ hv
  intros
  go_wp2
  go_ret
  exact ⟨rfl, rfl⟩
set_option maxHeartbeats 4000000 in
set_option maxRecDepth 100000 in
theorem is_nil (m : Int) (w : World) : Calls Tryz.prog 44 #[.nilIface, .iface 31 (.int .i64 m)] w fun ev w' => ev = .returned (.bool false) ∧ w' = w := by
  have hn := run_eql_iface_nil_left (P := Tryz.prog) w 31 (.int .i64 m) Tryz.underlying26
  go_enter Tryz.func44, Tryz.ntmps44
  go_wp2
  go_ret
  exact ⟨rfl, rfl⟩
open Go.Pev
def spIs : Pev.CSpec := { f := fun
  | [.err none, .err (some ([], _))] => .ret (.bool false)
  | [.err (some (_, n)), .err (some ([], m))] => .ret (.bool (n == m))
  | _ => .fail }
theorem okIs : EnterOk Tryz.prog 44 ∧ CSpecOk Tryz.prog cfg 44 spIs := ⟨enter Tryz.func44 (by kernel_rfl) (by kernel_rfl), by
  intro args res h
  unfold spIs at h
  simp only at h
  split at h <;> try (cases h; done)
  · rename_i m
    obtain rfl := Option.some.inj h
    refine Contract.of0 ?_ rfl rfl
    intro M w vs _ _ ha
    cases ha with
    | cons h1 t1 =>
      cases t1 with
      | cons h2 t2 =>
        cases t2
        rename_i v1 v2
        obtain rfl : v1 = .nilIface := Rob.now (p := fun w => ErrV cfg w none v1) h1
        obtain rfl : v2 = .iface 31 (.int .i64 m) := Rob.now (p := fun w => ErrV cfg w (some ([], m)) v2) h2
        exact (is_nil m w).mono fun ev w' ⟨q1, q2⟩ => ⟨_, q1, rfl, q2 ▸ KeepS.refl _ _⟩
  · rename_i ps n m
    obtain rfl := Option.some.inj h
    refine Contract.of0 ?_ rfl rfl
    intro M w vs _ _ ha
    cases ha with
    | cons h1 t1 =>
      cases t1 with
      | cons h2 t2 =>
        cases t2
        rename_i v1 v2
        have e1 : ErrAt cfg w ps n v1 := Rob.now (p := fun w => ErrV cfg w (some (ps, n)) v1) h1
        obtain rfl : v2 = .iface 31 (.int .i64 m) := Rob.now (p := fun w => ErrV cfg w (some ([], m)) v2) h2
        exact (is_ok ps n m v1 w e1).mono fun ev w' ⟨q1, q2⟩ => ⟨_, q1, rfl, q2 ▸ KeepS.refl _ _⟩⟩
end Go.Proofs.YtkkgimhjjhhkjaaGreatDoor
