/- Closed facts on what errors.As asks of the model's entries for internal/reflectlite, at this program's types. -/
import Derived.Test.YtkkgimhjjhhkjaaGreatDoorA
import Derived.WalkKit
import Derived.LaidEql
import Derived.Stop.Asserts
import Derived.RowKitTokens
import Derived.LoopN
namespace Go.Proofs.YtkkgimhjjhhkjaaGreatDoor
open Go Go.RowKit Go.Extern.Stop Go.Stop Go.Extern

theorem rlm (z : Sem Value) (f : TypeId → Addr → Nat → Nat → Sem Value) (v : Value) :
    ReflectliteValue.method z f #[v] = (do match ← ReflectliteValue.parts v with | none => z | some (t, a, fl) => f t a fl (fl % 32)) := rfl
abbrev desc (t : Nat) : Value := .agg #[.pointer (some ⟨7, t, none⟩)]
abbrev rval (t : Nat) (p : Addr) (fl : Int) : Value := .agg #[.pointer (some ⟨7, t, none⟩), .pointer (some p), .int .u64 fl]

theorem as_valueOf87 (t : Addr) (w : World) : (ReflectliteValue.unpack (.iface 106 (.pointer (some t)))).run Tryz.prog w = .ok (rval 106 ⟨w.heap.size, 0, none⟩ 150) (w.alloc (.cells #[.pointer (some t)] 106)) := by kernel_rfl
theorem as_valueOf90 (t : Addr) (w : World) : (ReflectliteValue.unpack (.iface 109 (.pointer (some t)))).run Tryz.prog w = .ok (rval 109 ⟨w.heap.size, 0, none⟩ 150) (w.alloc (.cells #[.pointer (some t)] 109)) := by kernel_rfl
theorem as_valueOf85 (e : Addr) (w : World) : (ReflectliteValue.unpack (.iface 104 (.pointer (some e)))).run Tryz.prog w = .ok (rval 104 ⟨w.heap.size, 0, none⟩ 150) (w.alloc (.cells #[.pointer (some e)] 104)) := by kernel_rfl
theorem as_valueOf38 (n : Int) (w : World) : (ReflectliteValue.unpack (.iface 31 (.int .i64 n))).run Tryz.prog w = .ok (rval 31 ⟨w.heap.size, 0, none⟩ 130) (w.alloc (.cells #[.int .i64 n] 31)) := by kernel_rfl
theorem as_type87 (a : Addr) (w : World) : (ReflectliteValue.methodAny (ReflectliteValue.valueError "reflectlite.Value.Type" 0) (fun t _ _ _ => ReflectliteType.toType t) #[rval 106 a 150]).run Tryz.prog w = .ok (.iface 141 (desc 106)) w := by kernel_rfl
theorem as_type90 (a : Addr) (w : World) : (ReflectliteValue.methodAny (ReflectliteValue.valueError "reflectlite.Value.Type" 0) (fun t _ _ _ => ReflectliteType.toType t) #[rval 109 a 150]).run Tryz.prog w = .ok (.iface 141 (desc 109)) w := by kernel_rfl
theorem as_mKind (h : Value) (w : World) : (Go.method (Tryz.prog.types.size + Made.depth) 141 (.agg #[h]) "Kind").run Tryz.prog w = .ok (143, h) w := by kernel_rfl
theorem as_mElem (h : Value) (w : World) : (Go.method (Tryz.prog.types.size + Made.depth) 141 (.agg #[h]) "Elem").run Tryz.prog w = .ok (156, .agg #[h]) w := by kernel_rfl
theorem as_mImplements (h : Value) (w : World) : (Go.method (Tryz.prog.types.size + Made.depth) 141 (.agg #[h]) "Implements").run Tryz.prog w = .ok (157, .agg #[h]) w := by kernel_rfl
theorem as_mAssignableTo (h : Value) (w : World) : (Go.method (Tryz.prog.types.size + Made.depth) 141 (.agg #[h]) "AssignableTo").run Tryz.prog w = .ok (154, .agg #[h]) w := by kernel_rfl
theorem as_mUnwrap (h : Value) (w : World) : (Go.method (Tryz.prog.types.size + Made.depth) 104 h "Unwrap").run Tryz.prog w = .ok (149, h) w := by kernel_rfl
theorem as_kind (t : Nat) (ht : t = 106 ∨ t = 109 ∨ t = 104) (w : World) : ((ReflectliteType.abiMethod fun t => (fun a : Nat => Value.int IntKind.u8 (a : Int)) <$> Rtype.kind t) #[.pointer (some ⟨7, t, none⟩)]).run Tryz.prog w = .ok (.int .u8 22) w := by
  rcases ht with rfl | rfl | rfl <;> kernel_rfl
theorem as_kind38 (w : World) : ((ReflectliteType.abiMethod fun t => (fun a : Nat => Value.int IntKind.u8 (a : Int)) <$> Rtype.kind t) #[.pointer (some ⟨7, 31, none⟩)]).run Tryz.prog w = .ok (.int .u8 2) w := by kernel_rfl
theorem as_elem87 (w : World) : (ReflectliteType.method ReflectliteType.elem #[desc 106]).run Tryz.prog w = .ok (.iface 141 (desc 104)) w := by kernel_rfl
theorem as_elem90 (w : World) : (ReflectliteType.method ReflectliteType.elem #[desc 109]).run Tryz.prog w = .ok (.iface 141 (desc 31)) w := by kernel_rfl
theorem as_impl (t : Nat) (ht : t = 104 ∨ t = 31) (w : World) : (ReflectliteType.relation "Implements" ReflectliteType.implements_ #[desc t, .iface 141 (desc 26)]).run Tryz.prog w = .ok (.bool true) w := by
  rcases ht with rfl | rfl <;> kernel_rfl
theorem as_typeOf85 (v : Value) (w : World) : (ReflectliteType.typeOf #[.iface 104 v]).run Tryz.prog w = .ok (.iface 141 (desc 104)) w := by kernel_rfl
theorem as_typeOf38 (v : Value) (w : World) : (ReflectliteType.typeOf #[.iface 31 v]).run Tryz.prog w = .ok (.iface 141 (desc 31)) w := by kernel_rfl
theorem as_to (s t : Nat) (hs : s = 104 ∨ s = 31) (ht : t = 104 ∨ t = 31) (w : World) : (ReflectliteType.relation "AssignableTo" ReflectliteType.assignableTo #[desc s, .iface 141 (desc t)]).run Tryz.prog w = .ok (.bool (decide (s = t))) w := by
  rcases hs with rfl | rfl <;> rcases ht with rfl | rfl <;> kernel_rfl
theorem as_parts87 (a : Addr) (w : World) : (ReflectliteValue.parts (rval 106 a 150)).run Tryz.prog w = .ok (some (106, a, 150)) w := by kernel_rfl
theorem as_parts90 (a : Addr) (w : World) : (ReflectliteValue.parts (rval 109 a 150)).run Tryz.prog w = .ok (some (109, a, 150)) w := by kernel_rfl
theorem as_parts85 (a : Addr) (w : World) : (ReflectliteValue.parts (rval 104 a 150)).run Tryz.prog w = .ok (some (104, a, 150)) w := by kernel_rfl
theorem as_parts85a (a : Addr) (w : World) : (ReflectliteValue.parts (rval 104 a 406)).run Tryz.prog w = .ok (some (104, a, 406)) w := by kernel_rfl
theorem as_parts38 (a : Addr) (w : World) : (ReflectliteValue.parts (rval 31 a 130)).run Tryz.prog w = .ok (some (31, a, 130)) w := by kernel_rfl
theorem as_parts38a (a : Addr) (w : World) : (ReflectliteValue.parts (rval 31 a 386)).run Tryz.prog w = .ok (some (31, a, 386)) w := by kernel_rfl
theorem as_elemOf87 (w : World) : (Rtype.elem? 106).run Tryz.prog w = .ok (some 104) w := by kernel_rfl
theorem as_elemOf90 (w : World) : (Rtype.elem? 109).run Tryz.prog w = .ok (some 31) w := by kernel_rfl
theorem as_mk85 (p : Addr) (w : World) : (ReflectliteValue.mk 104 p ReflectliteValue.flagAddr).run Tryz.prog w = .ok (rval 104 p 406) w := by kernel_rfl
theorem as_mk38 (p : Addr) (w : World) : (ReflectliteValue.mk 31 p ReflectliteValue.flagAddr).run Tryz.prog w = .ok (rval 31 p 386) w := by kernel_rfl
theorem as_direct (t : Nat) (ht : t = 104 ∨ t = 31) (w : World) : (Rtype.directlyAssignable t t).run Tryz.prog w = .ok true w := by
  rcases ht with rfl | rfl <;> kernel_rfl
theorem as_size (t : Nat) (ht : t = 104 ∨ t = 31) (w : World) : (sizeOf t).run Tryz.prog w = .ok 1 w := by
  rcases ht with rfl | rfl <;> kernel_rfl
theorem as_has (v : Value) (w : World) : (Instr.typeAssert (.iface 104 v) 26 146 true).run Tryz.prog w = .ok (.tuple #[.iface 104 v, .bool true]) w := by kernel_rfl
theorem as_no85 (v : Value) (w : World) : (Instr.typeAssert (.iface 104 v) 26 162 true).run Tryz.prog w = .ok (.tuple #[.nilIface, .bool false]) w := run_typeAssert_lacksB Tryz.underlying162 (by kernel_rfl) (by kernel_rfl) v 26 w
theorem as_no38 (v : Value) (w : World) : (Instr.typeAssert (.iface 31 v) 26 162 true).run Tryz.prog w = .ok (.tuple #[.nilIface, .bool false]) w := run_typeAssert_lacksB Tryz.underlying162 (by kernel_rfl) (by kernel_rfl) v 26 w
theorem as_no38b (v : Value) (w : World) : (Instr.typeAssert (.iface 31 v) 26 146 true).run Tryz.prog w = .ok (.tuple #[.nilIface, .bool false]) w := run_typeAssert_lacksB Tryz.underlying146 (by kernel_rfl) (by kernel_rfl) v 26 w
theorem as_no38c (v : Value) (w : World) : (Instr.typeAssert (.iface 31 v) 26 148 true).run Tryz.prog w = .ok (.tuple #[.nilIface, .bool false]) w := run_typeAssert_lacksB Tryz.underlying148 (by kernel_rfl) (by kernel_rfl) v 26 w
end Go.Proofs.YtkkgimhjjhhkjaaGreatDoor
/- errors.As: the entries that read or write memory. -/
namespace Go.Proofs.YtkkgimhjjhhkjaaGreatDoor
open Go Go.RowKit Go.Extern.Stop Go.Stop Go.Extern

theorem as_isNil87 (a p : Addr) (W : World) (ha : W.cell? a = some (.pointer (some p))) : (ReflectliteValue.method (ReflectliteValue.valueError "reflectlite.Value.IsNil" 0) ReflectliteValue.isNil #[rval 106 a 150]).run Tryz.prog W = .ok (.bool false) W := by
  rw [rlm]
  simp only [Sem.run_bind, as_parts87, Result.andThen]
  simp [ReflectliteValue.isNil, loadVar, isAgg, underlying, Tryz.underlying106, ha, Result.andThen]
theorem as_isNil90 (a p : Addr) (W : World) (ha : W.cell? a = some (.pointer (some p))) : (ReflectliteValue.method (ReflectliteValue.valueError "reflectlite.Value.IsNil" 0) ReflectliteValue.isNil #[rval 109 a 150]).run Tryz.prog W = .ok (.bool false) W := by
  rw [rlm]
  simp only [Sem.run_bind, as_parts90, Result.andThen]
  simp [ReflectliteValue.isNil, loadVar, isAgg, underlying, Tryz.underlying109, ha, Result.andThen]
theorem as_elemV87 (a p : Addr) (W : World) (ha : W.cell? a = some (.pointer (some p))) : (ReflectliteValue.method (ReflectliteValue.valueError "reflectlite.Value.Elem" 0) ReflectliteValue.elem #[rval 106 a 150]).run Tryz.prog W = .ok (rval 104 p 406) W := by
  rw [rlm]
  simp only [Sem.run_bind, as_parts87, Result.andThen]
  simp [ReflectliteValue.elem, loadVar, isAgg, underlying, Tryz.underlying106, ha, Result.andThen, as_elemOf87, as_mk85]
theorem as_elemV90 (a p : Addr) (W : World) (ha : W.cell? a = some (.pointer (some p))) : (ReflectliteValue.method (ReflectliteValue.valueError "reflectlite.Value.Elem" 0) ReflectliteValue.elem #[rval 109 a 150]).run Tryz.prog W = .ok (rval 31 p 386) W := by
  rw [rlm]
  simp only [Sem.run_bind, as_parts90, Result.andThen]
  simp [ReflectliteValue.elem, loadVar, isAgg, underlying, Tryz.underlying109, ha, Result.andThen, as_elemOf90, as_mk38]
theorem rls (v x : Value) : ReflectliteValue.set #[v, x] = (do
    let (some (dst, a, fl), some (src, b, _)) := (← ReflectliteValue.parts v, ← ReflectliteValue.parts x)
      | unsupported (.noEntry "extern/(internal/reflectlite.Value).Set.zeroValue")
    if fl / ReflectliteValue.flagAddr % 2 == 0 then unsupported (.noEntry "extern/(internal/reflectlite.Value).Set.unaddressable")
    let val ← loadVar src b
    if ← Rtype.directlyAssignable dst src then storeVar dst a val
    else if ← Rtype.implements dst src then
      if (← Rtype.kind src) == 20 then
        match val with
        | .nilIface => unsupported (.noEntry "extern/reflectlite: a nil value of one interface type handed on as a value of another")
        | _ => storeVar dst a val
      else storeVar dst a (.iface src val)
    else panicString ("reflectlite.Set: value of type " ++ (← Rtype.spelt src) ++ " is not assignable to type " ++ (← Rtype.spelt dst))
    pure (.tuple #[])) := rfl
theorem as_set85 (ta b e : Addr) (old : Value) (W : World) (hb : W.cell? b = some (.pointer (some e))) (ht : W.cell? ta = some old) (hf : W.frozen? ta = false) :
    (ReflectliteValue.set #[rval 104 ta 406, rval 104 b 150]).run Tryz.prog W = .ok (.tuple #[]) (W.setCell ta (.pointer (some e))) := by
  rw [rls]
  simp only [Sem.run_bind, as_parts85a, as_parts85, Result.andThen]
  simp [ReflectliteValue.flagAddr, loadVar, isAgg, underlying, Tryz.underlying104, hb, Result.andThen, as_direct 104 (.inl rfl), storeVar, Value.cells, as_size 104 (.inl rfl), storeCells, Addr.add]
  rw [run_store Tryz.prog W ta _ _ (by rfl)]
  simp [ht, hf]
theorem as_set38 (ta b : Addr) (n : Int) (old : Value) (W : World) (hb : W.cell? b = some (.int .i64 n)) (ht : W.cell? ta = some old) (hf : W.frozen? ta = false) :
    (ReflectliteValue.set #[rval 31 ta 386, rval 31 b 130]).run Tryz.prog W = .ok (.tuple #[]) (W.setCell ta (.int .i64 n)) := by
  rw [rls]
  simp only [Sem.run_bind, as_parts38a, as_parts38, Result.andThen]
  simp [ReflectliteValue.flagAddr, loadVar, isAgg, underlying, Tryz.underlying31, hb, Result.andThen, as_direct 31 (.inr rfl), storeVar, Value.cells, as_size 31 (.inr rfl), storeCells, Addr.add]
  rw [run_store Tryz.prog W ta _ _ (by rfl)]
  simp [ht, hf]
end Go.Proofs.YtkkgimhjjhhkjaaGreatDoor
/- errors.as, one round: (*api.Fault).Unwrap at a fault. -/
namespace Go.Proofs.YtkkgimhjjhhkjaaGreatDoor
open Go Go.Pev

theorem unwrap_ok (k a : Int) (e : Err) : Contract Tryz.prog cfg 149 [.elt FSh ((k, a), e) 0] (.err e) := done noSpecs (A := A0) rfl (by kernel_rfl) (by kernel_rfl)
end Go.Proofs.YtkkgimhjjhhkjaaGreatDoor
namespace Go.Proofs.YtkkgimhjjhhkjaaGreatDoor
open Go Go.RowKit Go.Extern.Stop Go.Stop Go.Extern
def firstLoop : Code → Code
  | .loop c => c
  | .block _ c => firstLoop c
  | .seq a b => match firstLoop a with | .skip => firstLoop b | c => c
  | _ => .skip
noncomputable def asBody : Code := match Tryz.f92.body with | some c => firstLoop c | none => .skip
set_option maxHeartbeats 4000000 in
set_option maxRecDepth 100000 in
theorem round_fault (Q : Exit → Act → World → Prop) (b : Nat) (u1 : TypeId) (u2 : Value) (t a : Addr) (g : Nat) (w : World) (x4 x5 x7 x9 x10 x11 x12 x13 x14 x15 x16 x17 x18 x19 x20 x21 x22 x23 x24 x25 x26 x27 x28 x29 x30 x31 x32 x33 x34 x35 x36 x37 x38 x39 x40 x41 x42 x43 x44 x45 x46 x47 x48 x49 x50 x51 x52 x53 x54 x55 x56 x57 x58 x59 x60 x61 : Value)
    (k a0 : Int) (hU : w.heap[b]? = some (.cells #[.int .i64 k, .int .i64 a0, .iface u1 u2] 108 (0, 0)))
    (hQ : ∀ x4 x5 x7 x9 x10 x11 x12 x13 x14 x15 x16 x17 x18 x19 x20 x21 x22 x23 x24 x25 x26 x27 x28 x29 x30 x31 x32 x33 x34 x35 x36 x37 x38 x39 x40 x41 x42 x43 x44 x45 x46 x47 x48 x49 x50 x51 x52 x53 x54 x55 x56 x57 x58 x59 x60 x61, Q .normal { tmps := #[.iface u1 u2, .iface 109 (.pointer (some t)), rval 109 a 150, .iface 141 (desc 31), x4, x5, .pointer (some ⟨g, 0, none⟩), x7, .bool false, x9, x10, x11, x12, x13, x14, x15, x16, x17, x18, x19, x20, x21, x22, x23, x24, x25, x26, x27, x28, x29, x30, x31, x32, x33, x34, x35, x36, x37, x38, x39, x40, x41, x42, x43, x44, x45, x46, x47, x48, x49, x50, x51, x52, x53, x54, x55, x56, x57, x58, x59, x60, x61], defers := [] } w) :
    asBody.wp Tryz.prog Q { tmps := #[.iface 104 (.pointer (some ⟨b, 0, none⟩)), .iface 109 (.pointer (some t)), rval 109 a 150, .iface 141 (desc 31), x4, x5, .pointer (some ⟨g, 0, none⟩), x7, .bool false, x9, x10, x11, x12, x13, x14, x15, x16, x17, x18, x19, x20, x21, x22, x23, x24, x25, x26, x27, x28, x29, x30, x31, x32, x33, x34, x35, x36, x37, x38, x39, x40, x41, x42, x43, x44, x45, x46, x47, x48, x49, x50, x51, x52, x53, x54, x55, x56, x57, x58, x59, x60, x61], defers := [] } w := by
  have h10 := @run_callFunc_extern Tryz.prog 72 _ ReflectliteType.typeOf Tryz.func72 (by kernel_rfl) (by kernel_rfl) (by kernel_rfl) (by kernel_rfl)
  have h35 := @run_callFunc_extern Tryz.prog 154 _ (ReflectliteType.relation "AssignableTo" ReflectliteType.assignableTo) Tryz.func154 (by kernel_rfl) (by kernel_rfl) (by kernel_rfl) (by kernel_rfl)
  have tO := as_typeOf85
  have mA : ∀ (h : Value) (w : World), (Go.method 317 141 (.agg #[h]) "AssignableTo").run Tryz.prog w = .ok (154, .agg #[h]) w := fun h w => by kernel_rfl
  have mU : ∀ (h : Value) (w : World), (Go.method 317 104 h "Unwrap").run Tryz.prog w = .ok (149, h) w := fun h w => by kernel_rfl
  have a25 : ∀ w : World, (ReflectliteType.relation "AssignableTo" ReflectliteType.assignableTo #[.agg #[.pointer (some ⟨7, 104, none⟩)], .iface 141 (.agg #[.pointer (some ⟨7, 31, none⟩)])]).run Tryz.prog w = .ok (.bool false) w := fun w => by kernel_rfl
  have e1 : ∀ W : World, (Instr.fieldAt 108 (.pointer (some ⟨b, 0, none⟩)) 1).run Tryz.prog W = .ok (.pointer (some ⟨b, 2, none⟩)) W := fun W => by kernel_rfl
  have hc : w.cell? ⟨b, 2, none⟩ = some (.iface u1 u2) := by simp [World.cell?, hU]
  have e2 : (Instr.loadAt 26 (.pointer (some ⟨b, 2, none⟩))).run Tryz.prog w = .ok (.iface u1 u2) w := by
    simp [Instr.loadAt, Instr.sureAddr, loadVar, isAgg, underlying, Tryz.underlying26, hc]
  have e3 : ∀ W : World, (Go.binOp .eql 104 (.pointer (some ⟨b, 0, none⟩)) (.pointer none)).run Tryz.prog W = .ok (.bool false) W := fun W => by kernel_rfl
  have n1 := as_no85
  have n2 := as_has
  unfold asBody Tryz.f92
  simp only [firstLoop]
  go_wp2
  exact hQ _ _ _ _ _ _ _ _ _ _ _ _ _ _ _ _ _ _ _ _ _ _ _ _ _ _ _ _ _ _ _ _ _ _ _ _ _ _ _ _ _ _ _ _ _ _ _ _ _ _ _ _ _ _ _ _

set_option maxHeartbeats 4000000 in
set_option maxRecDepth 100000 in
theorem round_hit (Q : Exit → Act → World → Prop) (n : Int) (t a : Addr) (g : Nat) (old : Value) (w : World) (x4 x5 x7 x9 x10 x11 x12 x13 x14 x15 x16 x17 x18 x19 x20 x21 x22 x23 x24 x25 x26 x27 x28 x29 x30 x31 x32 x33 x34 x35 x36 x37 x38 x39 x40 x41 x42 x43 x44 x45 x46 x47 x48 x49 x50 x51 x52 x53 x54 x55 x56 x57 x58 x59 x60 x61 : Value)
    (hg : w.heap[g]? = some (.cells #[.pointer (some ⟨7, 109, none⟩), .pointer (some a), .int .u64 150] 129 (0, 0)))
    (ha : w.cell? a = some (.pointer (some t))) (ht : w.cell? t = some old) (hf : w.frozen? t = false)
    (hQ : ∀ y0 y1 y2 y3 y4 y5 y6 y7 y9 y10 y11 y12 y13 y14 y15 y16 y17 y18 y19 y20 y21 y22 y23 y24 y25 y26 y27 y28 y29 y30 y31 y32 y33 y34 y35 y36 y37 y38 y39 y40 y41 y42 y43 y44 y45 y46 y47 y48 y49 y50 y51 y52 y53 y54 y55 y56 y57 y58 y59 y60 y61, Q .ret { tmps := #[y0, y1, y2, y3, y4, y5, y6, y7, .bool true, y9, y10, y11, y12, y13, y14, y15, y16, y17, y18, y19, y20, y21, y22, y23, y24, y25, y26, y27, y28, y29, y30, y31, y32, y33, y34, y35, y36, y37, y38, y39, y40, y41, y42, y43, y44, y45, y46, y47, y48, y49, y50, y51, y52, y53, y54, y55, y56, y57, y58, y59, y60, y61], defers := [] } ((w.alloc (.cells #[.int .i64 n] 31)).setCell t (.int .i64 n))) :
    asBody.wp Tryz.prog Q { tmps := #[.iface 31 (.int .i64 n), .iface 109 (.pointer (some t)), rval 109 a 150, .iface 141 (desc 31), x4, x5, .pointer (some ⟨g, 0, none⟩), x7, .bool false, x9, x10, x11, x12, x13, x14, x15, x16, x17, x18, x19, x20, x21, x22, x23, x24, x25, x26, x27, x28, x29, x30, x31, x32, x33, x34, x35, x36, x37, x38, x39, x40, x41, x42, x43, x44, x45, x46, x47, x48, x49, x50, x51, x52, x53, x54, x55, x56, x57, x58, x59, x60, x61], defers := [] } w := by
  have h10 := @run_callFunc_extern Tryz.prog 72 _ ReflectliteType.typeOf Tryz.func72 (by kernel_rfl) (by kernel_rfl) (by kernel_rfl) (by kernel_rfl)
  have h35 := @run_callFunc_extern Tryz.prog 154 _ (ReflectliteType.relation "AssignableTo" ReflectliteType.assignableTo) Tryz.func154 (by kernel_rfl) (by kernel_rfl) (by kernel_rfl) (by kernel_rfl)
  have h6 := @run_callFunc_extern Tryz.prog 89 _ (fun args => ReflectliteValue.unpack (args.getD 0 (.tuple #[]))) Tryz.func89 (by kernel_rfl) (by kernel_rfl) (by kernel_rfl) (by kernel_rfl)
  have h11 := @run_callFunc_extern Tryz.prog 104 _ (ReflectliteValue.method (ReflectliteValue.valueError "reflectlite.Value.Elem" 0) ReflectliteValue.elem) Tryz.func104 (by kernel_rfl) (by kernel_rfl) (by kernel_rfl) (by kernel_rfl)
  have h12 := @run_callFunc_extern Tryz.prog 105 _ ReflectliteValue.set Tryz.func105 (by kernel_rfl) (by kernel_rfl) (by kernel_rfl) (by kernel_rfl)
  have tO := as_typeOf38
  have mA : ∀ (h : Value) (w : World), (Go.method 317 141 (.agg #[h]) "AssignableTo").run Tryz.prog w = .ok (154, .agg #[h]) w := fun h w => by kernel_rfl
  have a25 : ∀ w : World, (ReflectliteType.relation "AssignableTo" ReflectliteType.assignableTo #[.agg #[.pointer (some ⟨7, 31, none⟩)], .iface 141 (.agg #[.pointer (some ⟨7, 31, none⟩)])]).run Tryz.prog w = .ok (.bool true) w := fun w => by kernel_rfl
  have v38 := as_valueOf38 n
  have htl : t.block < w.heap.size := World.block_lt_of_cell? w t ht
  have c0 : w.cell? ⟨g, 0, none⟩ = some (.pointer (some ⟨7, 109, none⟩)) := by simp [World.cell?, hg]
  have c1 : w.cell? ⟨g, 1, none⟩ = some (.pointer (some a)) := by simp [World.cell?, hg]
  have c2 : w.cell? ⟨g, 2, none⟩ = some (.int .u64 150) := by simp [World.cell?, hg]
  have el := as_elemV90 a t w ha
  have st := as_set38 t ⟨w.heap.size, 0, none⟩ n old (w.alloc (.cells #[.int .i64 n] 31))
    (by rw [World.cell?_alloc_at _ _ _ _ (by simp)]; rfl)
    (by rw [World.cell?_alloc_lt _ _ t htl]; exact ht)
    (by rw [World.frozen?_alloc_old _ _ t (Nat.ne_of_lt htl)]; exact hf)
  unfold asBody Tryz.f92
  simp only [firstLoop]
  go_wp2
  exact hQ _ _ _ _ _ _ _ _ _ _ _ _ _ _ _ _ _ _ _ _ _ _ _ _ _ _ _ _ _ _ _ _ _ _ _ _ _ _ _ _ _ _ _ _ _ _ _ _ _ _ _ _ _ _ _ _ _ _ _ _ _

theorem errAt_iface {C : Pev.Cfg} {w : World} : ∀ {ps : List (Int × Int)} {n : Int} {v : Value}, Pev.ErrAt C w ps n v → ∃ u x, v = .iface u x
  | [], _, _, h => ⟨_, _, h⟩
  | _ :: _, _, _, ⟨_, _, h, _, _⟩ => ⟨_, _, h⟩
set_option maxHeartbeats 4000000 in
set_option maxRecDepth 100000 in
theorem rounds_chain (Q : Exit → Act → World → Prop) (n : Int) (t a : Addr) (g : Nat) (old : Value) (w : World)
    (hg : w.heap[g]? = some (.cells #[.pointer (some ⟨7, 109, none⟩), .pointer (some a), .int .u64 150] 129 (0, 0)))
    (ha : w.cell? a = some (.pointer (some t))) (ht : w.cell? t = some old) (hf : w.frozen? t = false)
    (hQ : ∀ y0 y1 y2 y3 y4 y5 y6 y7 y9 y10 y11 y12 y13 y14 y15 y16 y17 y18 y19 y20 y21 y22 y23 y24 y25 y26 y27 y28 y29 y30 y31 y32 y33 y34 y35 y36 y37 y38 y39 y40 y41 y42 y43 y44 y45 y46 y47 y48 y49 y50 y51 y52 y53 y54 y55 y56 y57 y58 y59 y60 y61, Q .ret { tmps := #[y0, y1, y2, y3, y4, y5, y6, y7, .bool true, y9, y10, y11, y12, y13, y14, y15, y16, y17, y18, y19, y20, y21, y22, y23, y24, y25, y26, y27, y28, y29, y30, y31, y32, y33, y34, y35, y36, y37, y38, y39, y40, y41, y42, y43, y44, y45, y46, y47, y48, y49, y50, y51, y52, y53, y54, y55, y56, y57, y58, y59, y60, y61], defers := [] } ((w.alloc (.cells #[.int .i64 n] 31)).setCell t (.int .i64 n))) :
    ∀ (ps : List (Int × Int)) (v0 : Value) (x4 x5 x7 x9 x10 x11 x12 x13 x14 x15 x16 x17 x18 x19 x20 x21 x22 x23 x24 x25 x26 x27 x28 x29 x30 x31 x32 x33 x34 x35 x36 x37 x38 x39 x40 x41 x42 x43 x44 x45 x46 x47 x48 x49 x50 x51 x52 x53 x54 x55 x56 x57 x58 x59 x60 x61 : Value), Pev.ErrAt cfg w ps n v0 → Code.rounds Tryz.prog asBody Q (ps.length + 1) { tmps := #[v0, .iface 109 (.pointer (some t)), rval 109 a 150, .iface 141 (desc 31), x4, x5, .pointer (some ⟨g, 0, none⟩), x7, .bool false, x9, x10, x11, x12, x13, x14, x15, x16, x17, x18, x19, x20, x21, x22, x23, x24, x25, x26, x27, x28, x29, x30, x31, x32, x33, x34, x35, x36, x37, x38, x39, x40, x41, x42, x43, x44, x45, x46, x47, x48, x49, x50, x51, x52, x53, x54, x55, x56, x57, x58, x59, x60, x61], defers := [] } w
  | [], v0, x4, x5, x7, x9, x10, x11, x12, x13, x14, x15, x16, x17, x18, x19, x20, x21, x22, x23, x24, x25, x26, x27, x28, x29, x30, x31, x32, x33, x34, x35, x36, x37, x38, x39, x40, x41, x42, x43, x44, x45, x46, x47, x48, x49, x50, x51, x52, x53, x54, x55, x56, x57, x58, x59, x60, x61, h => by
    obtain rfl : v0 = .iface 31 (.int .i64 n) := h
    exact round_hit _ n t a g old w x4 x5 x7 x9 x10 x11 x12 x13 x14 x15 x16 x17 x18 x19 x20 x21 x22 x23 x24 x25 x26 x27 x28 x29 x30 x31 x32 x33 x34 x35 x36 x37 x38 x39 x40 x41 x42 x43 x44 x45 x46 x47 x48 x49 x50 x51 x52 x53 x54 x55 x56 x57 x58 x59 x60 x61 hg ha ht hf (fun y0 y1 y2 y3 y4 y5 y6 y7 y9 y10 y11 y12 y13 y14 y15 y16 y17 y18 y19 y20 y21 y22 y23 y24 y25 y26 y27 y28 y29 y30 y31 y32 y33 y34 y35 y36 y37 y38 y39 y40 y41 y42 y43 y44 y45 y46 y47 y48 y49 y50 y51 y52 y53 y54 y55 y56 y57 y58 y59 y60 y61 => hQ y0 y1 y2 y3 y4 y5 y6 y7 y9 y10 y11 y12 y13 y14 y15 y16 y17 y18 y19 y20 y21 y22 y23 y24 y25 y26 y27 y28 y29 y30 y31 y32 y33 y34 y35 y36 y37 y38 y39 y40 y41 y42 y43 y44 y45 y46 y47 y48 y49 y50 y51 y52 y53 y54 y55 y56 y57 y58 y59 y60 y61)
  | p :: ps, v0, x4, x5, x7, x9, x10, x11, x12, x13, x14, x15, x16, x17, x18, x19, x20, x21, x22, x23, x24, x25, x26, x27, x28, x29, x30, x31, x32, x33, x34, x35, x36, x37, x38, x39, x40, x41, x42, x43, x44, x45, x46, x47, x48, x49, x50, x51, x52, x53, x54, x55, x56, x57, x58, x59, x60, x61, h => by
    obtain ⟨b, u', rfl, hb, hr⟩ := h
    obtain ⟨u1, u2, rfl⟩ := errAt_iface hr
    exact round_fault _ b u1 u2 t a g w x4 x5 x7 x9 x10 x11 x12 x13 x14 x15 x16 x17 x18 x19 x20 x21 x22 x23 x24 x25 x26 x27 x28 x29 x30 x31 x32 x33 x34 x35 x36 x37 x38 x39 x40 x41 x42 x43 x44 x45 x46 x47 x48 x49 x50 x51 x52 x53 x54 x55 x56 x57 x58 x59 x60 x61 p.1 p.2 hb (fun x4 x5 x7 x9 x10 x11 x12 x13 x14 x15 x16 x17 x18 x19 x20 x21 x22 x23 x24 x25 x26 x27 x28 x29 x30 x31 x32 x33 x34 x35 x36 x37 x38 x39 x40 x41 x42 x43 x44 x45 x46 x47 x48 x49 x50 x51 x52 x53 x54 x55 x56 x57 x58 x59 x60 x61 => rounds_chain Q n t a g old w hg ha ht hf hQ ps (.iface u1 u2) x4 x5 x7 x9 x10 x11 x12 x13 x14 x15 x16 x17 x18 x19 x20 x21 x22 x23 x24 x25 x26 x27 x28 x29 x30 x31 x32 x33 x34 x35 x36 x37 x38 x39 x40 x41 x42 x43 x44 x45 x46 x47 x48 x49 x50 x51 x52 x53 x54 x55 x56 x57 x58 x59 x60 x61 hr)

end Go.Proofs.YtkkgimhjjhhkjaaGreatDoor
namespace Go.Proofs.YtkkgimhjjhhkjaaGreatDoor
open Go Go.RowKit Go.Extern.Stop Go.Stop Go.Extern
set_option maxHeartbeats 4000000 in
set_option maxRecDepth 100000 in
theorem as64_errno (ps : List (Int × Int)) (n : Int) (v : Value) (t a : Addr) (old : Value) (w : World) (hv : Pev.Rob (fun _ => False) w (fun w => Pev.ErrAt cfg w ps n v)) (ha : w.cell? a = some (.pointer (some t))) (ht : w.cell? t = some old) (hf : w.frozen? t = false) :
    Calls Tryz.prog 92 #[v, .iface 109 (.pointer (some t)), rval 109 a 150, .iface 141 (desc 31)] w fun ev w' => ev = .returned (.bool true) ∧
      w' = ((w.alloc (.cells #[.pointer (some ⟨7, 109, none⟩), .pointer (some a), .int .u64 150] 129)).alloc (.cells #[.int .i64 n] 31)).setCell t (.int .i64 n) := by
  have hal : a.block < w.heap.size := World.block_lt_of_cell? w a ha
  have htl : t.block < w.heap.size := World.block_lt_of_cell? w t ht
  have hv' := hv _ (Pev.KeepS.alloc w (.cells #[.pointer (some ⟨7, 109, none⟩), .pointer (some a), .int .u64 150] 129))
  go_enter Tryz.func92, Tryz.ntmps92
  go_wp2
  refine wp_loop_rounds (ps.length + 1) ?_
  refine rounds_chain _ n t a w.heap.size old _ ?_ ?_ ?_ ?_ ?_ ps v _ _ _ _ _ _ _ _ _ _ _ _ _ _ _ _ _ _ _ _ _ _ _ _ _ _ _ _ _ _ _ _ _ _ _ _ _ _ _ _ _ _ _ _ _ _ _ _ _ _ _ _ _ _ _ _ hv'
  · exact heap_alloc_new w _
  · rw [World.cell?_alloc_lt _ _ a hal]; exact ha
  · rw [World.cell?_alloc_lt _ _ t htl]; exact ht
  · rw [World.frozen?_alloc_old _ _ t (Nat.ne_of_lt htl)]; exact hf
  · intros
    go_wp2
    go_ret
    exact ⟨rfl, rfl⟩
end Go.Proofs.YtkkgimhjjhhkjaaGreatDoor
namespace Go.Proofs.YtkkgimhjjhhkjaaGreatDoor
open Go Go.RowKit Go.Extern.Stop Go.Stop Go.Extern
set_option maxRecDepth 100000 in
theorem as52_nil (x : Value) (w : World) : Calls Tryz.prog 66 #[.nilIface, x] w fun ev w' => ev = .returned (.bool false) ∧ w' = w := by
  go_enter Tryz.func66, Tryz.ntmps66
  go_wp2
  go_ret
  exact ⟨rfl, rfl⟩

set_option maxHeartbeats 4000000 in
set_option maxRecDepth 100000 in
theorem as52_errno (ps : List (Int × Int)) (n : Int) (v : Value) (t : Addr) (old : Value) (w : World) (hg : w.cell? ⟨0, 0, none⟩ = some (.iface 141 (desc 26))) (hv : Pev.Rob (fun _ => False) w (fun w => Pev.ErrAt cfg w ps n v)) (ht : w.cell? t = some old) (hf : w.frozen? t = false) :
    Calls Tryz.prog 66 #[v, .iface 109 (.pointer (some t))] w fun ev w' => ev = .returned (.bool true) ∧ w' = ((((w.alloc (.cells #[.pointer (some t)] 109)).alloc (.cells #[.pointer (some ⟨7, 109, none⟩), .pointer (some ⟨w.heap.size, 0, none⟩), .int .u64 150] 129)).alloc (.cells #[.pointer (some ⟨7, 109, none⟩), .pointer (some ⟨w.heap.size, 0, none⟩), .int .u64 150] 129)).alloc (.cells #[.int .i64 n] 31)).setCell t (.int .i64 n) := by
  have h61 := @run_callFunc_extern Tryz.prog 89 _ (fun args => ReflectliteValue.unpack (args.getD 0 (.tuple #[]))) Tryz.func89 (by kernel_rfl) (by kernel_rfl) (by kernel_rfl) (by kernel_rfl)
  have h62 := @run_callFunc_extern Tryz.prog 90 _ (ReflectliteValue.methodAny (ReflectliteValue.valueError "reflectlite.Value.Type" 0) (fun t _ _ _ => ReflectliteType.toType t)) Tryz.func90 (by kernel_rfl) (by kernel_rfl) (by kernel_rfl) (by kernel_rfl)
  have h63 := @run_callFunc_extern Tryz.prog 91 _ (ReflectliteValue.method (ReflectliteValue.valueError "reflectlite.Value.IsNil" 0) ReflectliteValue.isNil) Tryz.func91 (by kernel_rfl) (by kernel_rfl) (by kernel_rfl) (by kernel_rfl)
  have h100 := @run_callFunc_extern Tryz.prog 143 _ (ReflectliteType.abiMethod fun t => do pure (.int .u8 (← Rtype.kind t))) Tryz.func143 (by kernel_rfl) (by kernel_rfl) (by kernel_rfl) (by kernel_rfl)
  have h115 := @run_callFunc_extern Tryz.prog 156 _ (ReflectliteType.method ReflectliteType.elem) Tryz.func156 (by kernel_rfl) (by kernel_rfl) (by kernel_rfl) (by kernel_rfl)
  have h116 := @run_callFunc_extern Tryz.prog 157 _ (ReflectliteType.relation "Implements" ReflectliteType.implements_) Tryz.func157 (by kernel_rfl) (by kernel_rfl) (by kernel_rfl) (by kernel_rfl)
  have mK : ∀ (h : Value) (w : World), (Go.method 317 141 (.agg #[h]) "Kind").run Tryz.prog w = .ok (143, h) w := fun h w => by kernel_rfl
  have mE : ∀ (h : Value) (w : World), (Go.method 317 141 (.agg #[h]) "Elem").run Tryz.prog w = .ok (156, .agg #[h]) w := fun h w => by kernel_rfl
  have mI : ∀ (h : Value) (w : World), (Go.method 317 141 (.agg #[h]) "Implements").run Tryz.prog w = .ok (157, .agg #[h]) w := fun h w => by kernel_rfl
  have f6 := as_valueOf90
  have f7 := as_type90
  have k1 := as_kind 109 (by decide)
  have k2 := as_kind38
  have e27 := as_elem90
  have i25 := as_impl 31 (by decide)
  have n8 := as_isNil90 ⟨w.heap.size, 0, none⟩ t ((w.alloc (.cells #[.pointer (some t)] 109)).alloc (.cells #[.pointer (some ⟨7, 109, none⟩), .pointer (some ⟨w.heap.size, 0, none⟩), .int .u64 150] 129)) (by simp)
  have hlt : 0 < w.heap.size := World.block_lt_of_cell? w ⟨0, 0, none⟩ hg
  have hg2 : ((w.alloc (.cells #[.pointer (some t)] 109)).alloc (.cells #[.pointer (some ⟨7, 109, none⟩), .pointer (some ⟨w.heap.size, 0, none⟩), .int .u64 150] 129)).cell? ⟨0, 0, none⟩ = some (.iface 141 (desc 26)) := by
    rw [World.cell?_alloc_lt _ _ ⟨0, 0, none⟩ (by simp), World.cell?_alloc_lt _ _ ⟨0, 0, none⟩ hlt]; exact hg
  have htl : t.block < w.heap.size := World.block_lt_of_cell? w t ht
  have hv' := hv (((w.alloc (.cells #[.pointer (some t)] 109)).alloc (.cells #[.pointer (some ⟨7, 109, none⟩), .pointer (some ⟨w.heap.size, 0, none⟩), .int .u64 150] 129)).alloc (.cells #[.pointer (some ⟨7, 109, none⟩), .pointer (some ⟨w.heap.size, 0, none⟩), .int .u64 150] 129)) (((Pev.KeepS.alloc _ _).trans2 (Pev.KeepS.alloc _ _) (fun _ _ h => h)).trans2 (Pev.KeepS.alloc _ _) (fun _ _ h => h))
  have ca : (((w.alloc (.cells #[.pointer (some t)] 109)).alloc (.cells #[.pointer (some ⟨7, 109, none⟩), .pointer (some ⟨w.heap.size, 0, none⟩), .int .u64 150] 129)).alloc (.cells #[.pointer (some ⟨7, 109, none⟩), .pointer (some ⟨w.heap.size, 0, none⟩), .int .u64 150] 129)).cell? ⟨w.heap.size, 0, none⟩ = some (.pointer (some t)) := by rw [World.cell?_alloc_lt _ _ ⟨w.heap.size, 0, none⟩ (by simp; omega)]; simp
  obtain ⟨u1, u2, rfl⟩ := errAt_iface (hv w (Pev.KeepS.refl _ _))
  go_enter Tryz.func66, Tryz.ntmps66
  go_wp2
  refine wp_loop_rounds (ps.length + 1) ?_
  refine rounds_chain _ n t ⟨w.heap.size, 0, none⟩ (w.heap.size + 1 + 1) old _ ?_ ?_ ?_ ?_ ?_ ps (.iface u1 u2) _ _ _ _ _ _ _ _ _ _ _ _ _ _ _ _ _ _ _ _ _ _ _ _ _ _ _ _ _ _ _ _ _ _ _ _ _ _ _ _ _ _ _ _ _ _ _ _ _ _ _ _ _ _ _ _ hv'
  · have h := heap_alloc_new ((w.alloc (.cells #[.pointer (some t)] 109)).alloc (.cells #[.pointer (some ⟨7, 109, none⟩), .pointer (some ⟨w.heap.size, 0, none⟩), .int .u64 150] 129)) (.cells #[.pointer (some ⟨7, 109, none⟩), .pointer (some ⟨w.heap.size, 0, none⟩), .int .u64 150] 129)
    simpa only [World.size_alloc] using h
  · exact ca
  · rw [World.cell?_alloc_lt _ _ t (by simp; omega), World.cell?_alloc_lt _ _ t (by simp; omega), World.cell?_alloc_lt _ _ t htl]; exact ht
  · rw [World.frozen?_alloc_old _ _ t (by simp; omega), World.frozen?_alloc_old _ _ t (by simp; omega), World.frozen?_alloc_old _ _ t (Nat.ne_of_lt htl)]; exact hf
  · intros
    go_wp2
    go_ret
    exact ⟨rfl, rfl⟩

set_option maxHeartbeats 4000000 in
set_option maxRecDepth 100000 in
theorem as52_miss (n : Int) (t : Addr) (w : World) (hg : w.cell? ⟨0, 0, none⟩ = some (.iface 141 (desc 26))) :
    Calls Tryz.prog 66 #[.iface 31 (.int .i64 n), .iface 106 (.pointer (some t))] w fun ev w' => ev = .returned (.bool false) ∧ w' = (((w.alloc (.cells #[.pointer (some t)] 106)).alloc (.cells #[.pointer (some ⟨7, 106, none⟩), .pointer (some ⟨w.heap.size, 0, none⟩), .int .u64 150] 129)).alloc (.cells #[.pointer (some ⟨7, 106, none⟩), .pointer (some ⟨w.heap.size, 0, none⟩), .int .u64 150] 129)) := by
  have h61 := @run_callFunc_extern Tryz.prog 89 _ (fun args => ReflectliteValue.unpack (args.getD 0 (.tuple #[]))) Tryz.func89 (by kernel_rfl) (by kernel_rfl) (by kernel_rfl) (by kernel_rfl)
  have h62 := @run_callFunc_extern Tryz.prog 90 _ (ReflectliteValue.methodAny (ReflectliteValue.valueError "reflectlite.Value.Type" 0) (fun t _ _ _ => ReflectliteType.toType t)) Tryz.func90 (by kernel_rfl) (by kernel_rfl) (by kernel_rfl) (by kernel_rfl)
  have h63 := @run_callFunc_extern Tryz.prog 91 _ (ReflectliteValue.method (ReflectliteValue.valueError "reflectlite.Value.IsNil" 0) ReflectliteValue.isNil) Tryz.func91 (by kernel_rfl) (by kernel_rfl) (by kernel_rfl) (by kernel_rfl)
  have h100 := @run_callFunc_extern Tryz.prog 143 _ (ReflectliteType.abiMethod fun t => do pure (.int .u8 (← Rtype.kind t))) Tryz.func143 (by kernel_rfl) (by kernel_rfl) (by kernel_rfl) (by kernel_rfl)
  have h115 := @run_callFunc_extern Tryz.prog 156 _ (ReflectliteType.method ReflectliteType.elem) Tryz.func156 (by kernel_rfl) (by kernel_rfl) (by kernel_rfl) (by kernel_rfl)
  have h116 := @run_callFunc_extern Tryz.prog 157 _ (ReflectliteType.relation "Implements" ReflectliteType.implements_) Tryz.func157 (by kernel_rfl) (by kernel_rfl) (by kernel_rfl) (by kernel_rfl)
  have h10 := @run_callFunc_extern Tryz.prog 72 _ ReflectliteType.typeOf Tryz.func72 (by kernel_rfl) (by kernel_rfl) (by kernel_rfl) (by kernel_rfl)
  have h35 := @run_callFunc_extern Tryz.prog 154 _ (ReflectliteType.relation "AssignableTo" ReflectliteType.assignableTo) Tryz.func154 (by kernel_rfl) (by kernel_rfl) (by kernel_rfl) (by kernel_rfl)
  have mK : ∀ (h : Value) (w : World), (Go.method 317 141 (.agg #[h]) "Kind").run Tryz.prog w = .ok (143, h) w := fun h w => by kernel_rfl
  have mE : ∀ (h : Value) (w : World), (Go.method 317 141 (.agg #[h]) "Elem").run Tryz.prog w = .ok (156, .agg #[h]) w := fun h w => by kernel_rfl
  have mI : ∀ (h : Value) (w : World), (Go.method 317 141 (.agg #[h]) "Implements").run Tryz.prog w = .ok (157, .agg #[h]) w := fun h w => by kernel_rfl
  have f6 := as_valueOf87
  have f7 := as_type87
  have k1 := as_kind 106 (by decide)
  have k2 := as_kind 104 (by decide)
  have e27 := as_elem87
  have i25 := as_impl 104 (by decide)
  have n8 := as_isNil87 ⟨w.heap.size, 0, none⟩ t ((w.alloc (.cells #[.pointer (some t)] 106)).alloc (.cells #[.pointer (some ⟨7, 106, none⟩), .pointer (some ⟨w.heap.size, 0, none⟩), .int .u64 150] 129)) (by simp)
  have hlt : 0 < w.heap.size := World.block_lt_of_cell? w ⟨0, 0, none⟩ hg
  have hg2 : ((w.alloc (.cells #[.pointer (some t)] 106)).alloc (.cells #[.pointer (some ⟨7, 106, none⟩), .pointer (some ⟨w.heap.size, 0, none⟩), .int .u64 150] 129)).cell? ⟨0, 0, none⟩ = some (.iface 141 (desc 26)) := by
    rw [World.cell?_alloc_lt _ _ ⟨0, 0, none⟩ (by simp), World.cell?_alloc_lt _ _ ⟨0, 0, none⟩ hlt]; exact hg
  have tO := as_typeOf38
  have mA : ∀ (h : Value) (w : World), (Go.method 317 141 (.agg #[h]) "AssignableTo").run Tryz.prog w = .ok (154, .agg #[h]) w := fun h w => by kernel_rfl
  have a25 : ∀ w : World, (ReflectliteType.relation "AssignableTo" ReflectliteType.assignableTo #[.agg #[.pointer (some ⟨7, 31, none⟩)], .iface 141 (.agg #[.pointer (some ⟨7, 104, none⟩)])]).run Tryz.prog w = .ok (.bool false) w := fun w => by kernel_rfl
  have n1 := as_no38
  have n2 := as_no38b
  have n3 := as_no38c
  go_enter Tryz.func66, Tryz.ntmps66
  go_wp2
  refine wp_loop_rounds 1 ?_
  rw [rounds_succ]
  go_wp2
  go_ret
  exact ⟨rfl, rfl⟩

set_option maxHeartbeats 4000000 in
set_option maxRecDepth 100000 in
theorem as52_hit (e t : Addr) (old : Value) (w : World) (hg : w.cell? ⟨0, 0, none⟩ = some (.iface 141 (desc 26))) (ht : w.cell? t = some old) (hf : w.frozen? t = false) :
    Calls Tryz.prog 66 #[.iface 104 (.pointer (some e)), .iface 106 (.pointer (some t))] w fun ev w' => ev = .returned (.bool true) ∧ w' = ((((w.alloc (.cells #[.pointer (some t)] 106)).alloc (.cells #[.pointer (some ⟨7, 106, none⟩), .pointer (some ⟨w.heap.size, 0, none⟩), .int .u64 150] 129)).alloc (.cells #[.pointer (some ⟨7, 106, none⟩), .pointer (some ⟨w.heap.size, 0, none⟩), .int .u64 150] 129)).alloc (.cells #[.pointer (some e)] 104)).setCell t (.pointer (some e)) := by
  have h61 := @run_callFunc_extern Tryz.prog 89 _ (fun args => ReflectliteValue.unpack (args.getD 0 (.tuple #[]))) Tryz.func89 (by kernel_rfl) (by kernel_rfl) (by kernel_rfl) (by kernel_rfl)
  have h62 := @run_callFunc_extern Tryz.prog 90 _ (ReflectliteValue.methodAny (ReflectliteValue.valueError "reflectlite.Value.Type" 0) (fun t _ _ _ => ReflectliteType.toType t)) Tryz.func90 (by kernel_rfl) (by kernel_rfl) (by kernel_rfl) (by kernel_rfl)
  have h63 := @run_callFunc_extern Tryz.prog 91 _ (ReflectliteValue.method (ReflectliteValue.valueError "reflectlite.Value.IsNil" 0) ReflectliteValue.isNil) Tryz.func91 (by kernel_rfl) (by kernel_rfl) (by kernel_rfl) (by kernel_rfl)
  have h100 := @run_callFunc_extern Tryz.prog 143 _ (ReflectliteType.abiMethod fun t => do pure (.int .u8 (← Rtype.kind t))) Tryz.func143 (by kernel_rfl) (by kernel_rfl) (by kernel_rfl) (by kernel_rfl)
  have h115 := @run_callFunc_extern Tryz.prog 156 _ (ReflectliteType.method ReflectliteType.elem) Tryz.func156 (by kernel_rfl) (by kernel_rfl) (by kernel_rfl) (by kernel_rfl)
  have h116 := @run_callFunc_extern Tryz.prog 157 _ (ReflectliteType.relation "Implements" ReflectliteType.implements_) Tryz.func157 (by kernel_rfl) (by kernel_rfl) (by kernel_rfl) (by kernel_rfl)
  have h10 := @run_callFunc_extern Tryz.prog 72 _ ReflectliteType.typeOf Tryz.func72 (by kernel_rfl) (by kernel_rfl) (by kernel_rfl) (by kernel_rfl)
  have h35 := @run_callFunc_extern Tryz.prog 154 _ (ReflectliteType.relation "AssignableTo" ReflectliteType.assignableTo) Tryz.func154 (by kernel_rfl) (by kernel_rfl) (by kernel_rfl) (by kernel_rfl)
  have h11 := @run_callFunc_extern Tryz.prog 104 _ (ReflectliteValue.method (ReflectliteValue.valueError "reflectlite.Value.Elem" 0) ReflectliteValue.elem) Tryz.func104 (by kernel_rfl) (by kernel_rfl) (by kernel_rfl) (by kernel_rfl)
  have h12 := @run_callFunc_extern Tryz.prog 105 _ ReflectliteValue.set Tryz.func105 (by kernel_rfl) (by kernel_rfl) (by kernel_rfl) (by kernel_rfl)
  have mK : ∀ (h : Value) (w : World), (Go.method 317 141 (.agg #[h]) "Kind").run Tryz.prog w = .ok (143, h) w := fun h w => by kernel_rfl
  have mE : ∀ (h : Value) (w : World), (Go.method 317 141 (.agg #[h]) "Elem").run Tryz.prog w = .ok (156, .agg #[h]) w := fun h w => by kernel_rfl
  have mI : ∀ (h : Value) (w : World), (Go.method 317 141 (.agg #[h]) "Implements").run Tryz.prog w = .ok (157, .agg #[h]) w := fun h w => by kernel_rfl
  have f6 := as_valueOf87
  have f7 := as_type87
  have k1 := as_kind 106 (by decide)
  have k2 := as_kind 104 (by decide)
  have e27 := as_elem87
  have i25 := as_impl 104 (by decide)
  have n8 := as_isNil87 ⟨w.heap.size, 0, none⟩ t ((w.alloc (.cells #[.pointer (some t)] 106)).alloc (.cells #[.pointer (some ⟨7, 106, none⟩), .pointer (some ⟨w.heap.size, 0, none⟩), .int .u64 150] 129)) (by simp)
  have hlt : 0 < w.heap.size := World.block_lt_of_cell? w ⟨0, 0, none⟩ hg
  have hg2 : ((w.alloc (.cells #[.pointer (some t)] 106)).alloc (.cells #[.pointer (some ⟨7, 106, none⟩), .pointer (some ⟨w.heap.size, 0, none⟩), .int .u64 150] 129)).cell? ⟨0, 0, none⟩ = some (.iface 141 (desc 26)) := by
    rw [World.cell?_alloc_lt _ _ ⟨0, 0, none⟩ (by simp), World.cell?_alloc_lt _ _ ⟨0, 0, none⟩ hlt]; exact hg
  have tO := as_typeOf85
  have mA : ∀ (h : Value) (w : World), (Go.method 317 141 (.agg #[h]) "AssignableTo").run Tryz.prog w = .ok (154, .agg #[h]) w := fun h w => by kernel_rfl
  have a25 : ∀ w : World, (ReflectliteType.relation "AssignableTo" ReflectliteType.assignableTo #[.agg #[.pointer (some ⟨7, 104, none⟩)], .iface 141 (.agg #[.pointer (some ⟨7, 104, none⟩)])]).run Tryz.prog w = .ok (.bool true) w := fun w => by kernel_rfl
  have v38 := as_valueOf85 e
  have htl : t.block < w.heap.size := World.block_lt_of_cell? w t ht
  have el := as_elemV87 ⟨w.heap.size, 0, none⟩ t (((w.alloc (.cells #[.pointer (some t)] 106)).alloc (.cells #[.pointer (some ⟨7, 106, none⟩), .pointer (some ⟨w.heap.size, 0, none⟩), .int .u64 150] 129)).alloc (.cells #[.pointer (some ⟨7, 106, none⟩), .pointer (some ⟨w.heap.size, 0, none⟩), .int .u64 150] 129)) (by rw [World.cell?_alloc_lt _ _ ⟨w.heap.size, 0, none⟩ (by simp; omega)]; simp)
  have st := as_set85 t ⟨w.heap.size + 1 + 1 + 1, 0, none⟩ e old ((((w.alloc (.cells #[.pointer (some t)] 106)).alloc (.cells #[.pointer (some ⟨7, 106, none⟩), .pointer (some ⟨w.heap.size, 0, none⟩), .int .u64 150] 129)).alloc (.cells #[.pointer (some ⟨7, 106, none⟩), .pointer (some ⟨w.heap.size, 0, none⟩), .int .u64 150] 129)).alloc (.cells #[.pointer (some e)] 104))
    (by rw [World.cell?_alloc_at _ _ _ _ (by simp)]; rfl)
    (by rw [World.cell?_alloc_lt _ _ t (by simp; omega), World.cell?_alloc_lt _ _ t (by simp; omega), World.cell?_alloc_lt _ _ t (by simp; omega), World.cell?_alloc_lt _ _ t htl]; exact ht)
    (by rw [World.frozen?_alloc_old _ _ t (by simp; omega), World.frozen?_alloc_old _ _ t (by simp; omega), World.frozen?_alloc_old _ _ t (by simp; omega), World.frozen?_alloc_old _ _ t (Nat.ne_of_lt htl)]; exact hf)
  go_enter Tryz.func66, Tryz.ntmps66
  go_wp2
  refine wp_loop_rounds 1 ?_
  rw [rounds_succ]
  go_wp2
  go_ret
  exact ⟨rfl, rfl⟩

end Go.Proofs.YtkkgimhjjhhkjaaGreatDoor
/- errors.As, at the two kinds of targets: what the pure evaluator asks of it. -/
namespace Go.Proofs.YtkkgimhjjhhkjaaGreatDoor
open Go Go.Pev
theorem as_keep3 (w : World) (o1 o2 o3 : Obj) : KeepS (fun _ => False) w (((w.alloc o1).alloc o2).alloc o3) :=
  ((KeepS.alloc _ _).trans2 (KeepS.alloc _ _) (fun _ _ h => h)).trans2 (KeepS.alloc _ _) (fun _ _ h => h)
theorem as_keep4 (w : World) (o1 o2 o3 o4 : Obj) (b : Nat) (v : Value) : KeepS (fun k => k = b) w (((((w.alloc o1).alloc o2).alloc o3).alloc o4).setCell ⟨b, 0, none⟩ v) :=
  (((as_keep3 w o1 o2 o3).trans2 (KeepS.alloc _ o4) (fun _ _ h => h)).mono fun _ _ h => h.elim).trans2 (KeepS.setCell _ ⟨b, 0, none⟩ v) (fun _ _ h => h)
theorem as_at4 (w : World) (o1 o2 o3 o4 : Obj) (b : Nat) (v old : Value) (u : TypeId) (h : w.heap[b]? = some (.cells #[old] u (0, 0))) : (((((w.alloc o1).alloc o2).alloc o3).alloc o4).setCell ⟨b, 0, none⟩ v).heap[b]? = some (.cells #[v] u (0, 0)) := by
  have hlt : b < w.heap.size := by
    rcases Nat.lt_or_ge b w.heap.size with h' | h'
    · exact h'
    · rw [Array.getElem?_eq_none h'] at h; cases h
  refine one_setCell (v := old) ?_
  rw [((as_keep3 w o1 o2 o3).trans2 (KeepS.alloc _ o4) (fun _ _ h => h)).block b hlt (fun h => h)]
  exact h

theorem asOk (specs : List (Nat × Pev.CSpec)) : AsOk Tryz.prog (tabsG specs) where
  enter := enter Tryz.func66 (by kernel_rfl) (by kernel_rfl)
  calls := by
    intro M w e v t b u old r hglob hM hb hR hs
    have hg : w.cell? ⟨0, 0, none⟩ = some (.iface 141 (desc 26)) := GV.cell (hglob _ (List.mem_cons_self ..)).1 0
    have ht : w.cell? ⟨b, 0, none⟩ = some old := by simp [World.cell?, hb]
    have hf : w.frozen? ⟨b, 0, none⟩ = false := by simp [World.frozen?, hb]
    have hR : Rob M w (fun w => ErrV cfg w e v) := hR.imp fun w' h => by
      have e1 := ErrV_glob (C := cfg) (g := globG) (w := w') e v
      exact e1 ▸ h
    unfold asSem at hs
    cases h87 : Nat.beq t (tabsG specs).asPtr with
    | true =>
      obtain rfl : t = 106 := Nat.eq_of_beq_eq_true h87
      rw [h87] at hs
      dsimp only at hs
      match e, hs with
      | none, hs =>
        obtain rfl := Option.some.inj hs
        obtain rfl : v = .nilIface := hR.now
        exact (as52_nil _ w).mono fun ev w' ⟨h1, h2⟩ => ⟨h1, h2 ▸ KeepS.refl _ _⟩
      | some ([], n), hs =>
        obtain rfl := Option.some.inj hs
        obtain rfl : v = .iface 31 (.int .i64 n) := hR.now
        exact (as52_miss n ⟨b, 0, none⟩ w hg).mono fun ev w' ⟨h1, h2⟩ => ⟨h1, h2 ▸ as_keep3 w _ _ _⟩
      | some (p :: ps, n), hs =>
        obtain rfl := Option.some.inj hs
        obtain ⟨b', u', hv, h1, h2, h3, h4⟩ := Rob.fault hR
        obtain rfl : v = .iface 104 (.pointer (some ⟨b', 0, none⟩)) := hv
        refine (as52_hit ⟨b', 0, none⟩ ⟨b, 0, none⟩ old w hg ht hf).mono fun ev w' ⟨q1, q2⟩ => ⟨q1, q2 ▸ as_keep4 w _ _ _ _ b _, _, q2 ▸ as_at4 w _ _ _ _ b _ old u hb, ?_⟩
        have hk : KeepS M w w' := (q2 ▸ as_keep4 w _ _ _ _ b _ : KeepS (fun k => k = b) w w').mono fun k _ e => e ▸ hM
        refine (LR_glob (C := cfg) (g := globG) (AV.elt FSh (p, some (ps, n)) 0) _).mpr ?_
        exact Rob.elt (C := cfg) ((hk.block b' h3 h2).trans h1) h2 (Nat.lt_of_lt_of_le h3 hk.size) (h4.step hk fun _ h _ => h)
    | false =>
      rw [h87] at hs
      dsimp only at hs
      cases h90 : Nat.beq t (tabsG specs).asNum with
      | false => rw [h90] at hs; cases hs
      | true =>
        obtain rfl : t = 109 := Nat.eq_of_beq_eq_true h90
        rw [h90] at hs
        dsimp only at hs
        match e, hs with
        | none, hs =>
          obtain rfl := Option.some.inj hs
          obtain rfl : v = .nilIface := hR.now
          exact (as52_nil _ w).mono fun ev w' ⟨h1, h2⟩ => ⟨h1, h2 ▸ KeepS.refl _ _⟩
        | some (ps, n), hs =>
          obtain rfl := Option.some.inj hs
          have hR' : Rob (fun _ => False) w (fun w => ErrAt cfg w ps n v) := hR.step (KeepS.refl M w) fun _ h _ => h.elim
          exact (as52_errno ps n v ⟨b, 0, none⟩ old w hg hR' ht hf).mono fun ev w' ⟨q1, q2⟩ => ⟨q1, q2 ▸ as_keep4 w _ _ _ _ b _, _, q2 ▸ as_at4 w _ _ _ _ b _ old u hb, rfl⟩
end Go.Proofs.YtkkgimhjjhhkjaaGreatDoor
