/- Closed facts on what errors.As asks of the model's entries for internal/reflectlite, at this program's types. -/
import Derived.Test.YtkkgimhjjhhkjaaDoorA
import Derived.WalkKit
import Derived.LaidEql
import Derived.Stop.Asserts
import Derived.RowKitTokens
namespace Go.Proofs.YtkkgimhjjhhkjaaDoor
open Go Go.RowKit Go.Extern.Stop Go.Stop Go.Extern

theorem rlm (z : Sem Value) (f : TypeId → Addr → Nat → Nat → Sem Value) (v : Value) :
    ReflectliteValue.method z f #[v] = (do match ← ReflectliteValue.parts v with | none => z | some (t, a, fl) => f t a fl (fl % 32)) := rfl
abbrev desc (t : Nat) : Value := .agg #[.pointer (some ⟨7, t, none⟩)]
abbrev rval (t : Nat) (p : Addr) (fl : Int) : Value := .agg #[.pointer (some ⟨7, t, none⟩), .pointer (some p), .int .u64 fl]

theorem as_valueOf87 (t : Addr) (w : World) : (ReflectliteValue.unpack (.iface 35 (.pointer (some t)))).run Tryd.prog w = .ok (rval 35 ⟨w.heap.size, 0, none⟩ 150) (w.alloc (.cells #[.pointer (some t)] 35)) := by kernel_rfl
theorem as_valueOf90 (t : Addr) (w : World) : (ReflectliteValue.unpack (.iface 33 (.pointer (some t)))).run Tryd.prog w = .ok (rval 33 ⟨w.heap.size, 0, none⟩ 150) (w.alloc (.cells #[.pointer (some t)] 33)) := by kernel_rfl
theorem as_valueOf85 (e : Addr) (w : World) : (ReflectliteValue.unpack (.iface 31 (.pointer (some e)))).run Tryd.prog w = .ok (rval 31 ⟨w.heap.size, 0, none⟩ 150) (w.alloc (.cells #[.pointer (some e)] 31)) := by kernel_rfl
theorem as_valueOf38 (n : Int) (w : World) : (ReflectliteValue.unpack (.iface 26 (.int .i64 n))).run Tryd.prog w = .ok (rval 26 ⟨w.heap.size, 0, none⟩ 130) (w.alloc (.cells #[.int .i64 n] 26)) := by kernel_rfl
theorem as_type87 (a : Addr) (w : World) : (ReflectliteValue.methodAny (ReflectliteValue.valueError "reflectlite.Value.Type" 0) (fun t _ _ _ => ReflectliteType.toType t) #[rval 35 a 150]).run Tryd.prog w = .ok (.iface 81 (desc 35)) w := by kernel_rfl
theorem as_type90 (a : Addr) (w : World) : (ReflectliteValue.methodAny (ReflectliteValue.valueError "reflectlite.Value.Type" 0) (fun t _ _ _ => ReflectliteType.toType t) #[rval 33 a 150]).run Tryd.prog w = .ok (.iface 81 (desc 33)) w := by kernel_rfl
theorem as_mKind (h : Value) (w : World) : (Go.method (Tryd.prog.types.size + Made.depth) 81 (.agg #[h]) "Kind").run Tryd.prog w = .ok (88, h) w := by kernel_rfl
theorem as_mElem (h : Value) (w : World) : (Go.method (Tryd.prog.types.size + Made.depth) 81 (.agg #[h]) "Elem").run Tryd.prog w = .ok (100, .agg #[h]) w := by kernel_rfl
theorem as_mImplements (h : Value) (w : World) : (Go.method (Tryd.prog.types.size + Made.depth) 81 (.agg #[h]) "Implements").run Tryd.prog w = .ok (101, .agg #[h]) w := by kernel_rfl
theorem as_mAssignableTo (h : Value) (w : World) : (Go.method (Tryd.prog.types.size + Made.depth) 81 (.agg #[h]) "AssignableTo").run Tryd.prog w = .ok (98, .agg #[h]) w := by kernel_rfl
theorem as_mUnwrap (h : Value) (w : World) : (Go.method (Tryd.prog.types.size + Made.depth) 31 h "Unwrap").run Tryd.prog w = .ok (93, h) w := by kernel_rfl
theorem as_kind (t : Nat) (ht : t = 35 ∨ t = 33 ∨ t = 31) (w : World) : ((ReflectliteType.abiMethod fun t => (fun a : Nat => Value.int IntKind.u8 (a : Int)) <$> Rtype.kind t) #[.pointer (some ⟨7, t, none⟩)]).run Tryd.prog w = .ok (.int .u8 22) w := by
  rcases ht with rfl | rfl | rfl <;> kernel_rfl
theorem as_kind38 (w : World) : ((ReflectliteType.abiMethod fun t => (fun a : Nat => Value.int IntKind.u8 (a : Int)) <$> Rtype.kind t) #[.pointer (some ⟨7, 26, none⟩)]).run Tryd.prog w = .ok (.int .u8 2) w := by kernel_rfl
theorem as_elem87 (w : World) : (ReflectliteType.method ReflectliteType.elem #[desc 35]).run Tryd.prog w = .ok (.iface 81 (desc 31)) w := by kernel_rfl
theorem as_elem90 (w : World) : (ReflectliteType.method ReflectliteType.elem #[desc 33]).run Tryd.prog w = .ok (.iface 81 (desc 26)) w := by kernel_rfl
theorem as_impl (t : Nat) (ht : t = 31 ∨ t = 26) (w : World) : (ReflectliteType.relation "Implements" ReflectliteType.implements_ #[desc t, .iface 81 (desc 25)]).run Tryd.prog w = .ok (.bool true) w := by
  rcases ht with rfl | rfl <;> kernel_rfl
theorem as_typeOf85 (v : Value) (w : World) : (ReflectliteType.typeOf #[.iface 31 v]).run Tryd.prog w = .ok (.iface 81 (desc 31)) w := by kernel_rfl
theorem as_typeOf38 (v : Value) (w : World) : (ReflectliteType.typeOf #[.iface 26 v]).run Tryd.prog w = .ok (.iface 81 (desc 26)) w := by kernel_rfl
theorem as_to (s t : Nat) (hs : s = 31 ∨ s = 26) (ht : t = 31 ∨ t = 26) (w : World) : (ReflectliteType.relation "AssignableTo" ReflectliteType.assignableTo #[desc s, .iface 81 (desc t)]).run Tryd.prog w = .ok (.bool (decide (s = t))) w := by
  rcases hs with rfl | rfl <;> rcases ht with rfl | rfl <;> kernel_rfl
theorem as_parts87 (a : Addr) (w : World) : (ReflectliteValue.parts (rval 35 a 150)).run Tryd.prog w = .ok (some (35, a, 150)) w := by kernel_rfl
theorem as_parts90 (a : Addr) (w : World) : (ReflectliteValue.parts (rval 33 a 150)).run Tryd.prog w = .ok (some (33, a, 150)) w := by kernel_rfl
theorem as_parts85 (a : Addr) (w : World) : (ReflectliteValue.parts (rval 31 a 150)).run Tryd.prog w = .ok (some (31, a, 150)) w := by kernel_rfl
theorem as_parts85a (a : Addr) (w : World) : (ReflectliteValue.parts (rval 31 a 406)).run Tryd.prog w = .ok (some (31, a, 406)) w := by kernel_rfl
theorem as_parts38 (a : Addr) (w : World) : (ReflectliteValue.parts (rval 26 a 130)).run Tryd.prog w = .ok (some (26, a, 130)) w := by kernel_rfl
theorem as_parts38a (a : Addr) (w : World) : (ReflectliteValue.parts (rval 26 a 386)).run Tryd.prog w = .ok (some (26, a, 386)) w := by kernel_rfl
theorem as_elemOf87 (w : World) : (Rtype.elem? 35).run Tryd.prog w = .ok (some 31) w := by kernel_rfl
theorem as_elemOf90 (w : World) : (Rtype.elem? 33).run Tryd.prog w = .ok (some 26) w := by kernel_rfl
theorem as_mk85 (p : Addr) (w : World) : (ReflectliteValue.mk 31 p ReflectliteValue.flagAddr).run Tryd.prog w = .ok (rval 31 p 406) w := by kernel_rfl
theorem as_mk38 (p : Addr) (w : World) : (ReflectliteValue.mk 26 p ReflectliteValue.flagAddr).run Tryd.prog w = .ok (rval 26 p 386) w := by kernel_rfl
theorem as_direct (t : Nat) (ht : t = 31 ∨ t = 26) (w : World) : (Rtype.directlyAssignable t t).run Tryd.prog w = .ok true w := by
  rcases ht with rfl | rfl <;> kernel_rfl
theorem as_size (t : Nat) (ht : t = 31 ∨ t = 26) (w : World) : (sizeOf t).run Tryd.prog w = .ok 1 w := by
  rcases ht with rfl | rfl <;> kernel_rfl
theorem as_has (v : Value) (w : World) : (Instr.typeAssert (.iface 31 v) 25 88 true).run Tryd.prog w = .ok (.tuple #[.iface 31 v, .bool true]) w := by kernel_rfl
theorem as_no85 (v : Value) (w : World) : (Instr.typeAssert (.iface 31 v) 25 85 true).run Tryd.prog w = .ok (.tuple #[.nilIface, .bool false]) w := run_typeAssert_lacksB Tryd.underlying85 (by kernel_rfl) (by kernel_rfl) v 26 w
theorem as_no38 (v : Value) (w : World) : (Instr.typeAssert (.iface 26 v) 25 85 true).run Tryd.prog w = .ok (.tuple #[.nilIface, .bool false]) w := run_typeAssert_lacksB Tryd.underlying85 (by kernel_rfl) (by kernel_rfl) v 26 w
theorem as_no38b (v : Value) (w : World) : (Instr.typeAssert (.iface 26 v) 25 88 true).run Tryd.prog w = .ok (.tuple #[.nilIface, .bool false]) w := run_typeAssert_lacksB Tryd.underlying88 (by kernel_rfl) (by kernel_rfl) v 26 w
theorem as_no38c (v : Value) (w : World) : (Instr.typeAssert (.iface 26 v) 25 90 true).run Tryd.prog w = .ok (.tuple #[.nilIface, .bool false]) w := run_typeAssert_lacksB Tryd.underlying90 (by kernel_rfl) (by kernel_rfl) v 26 w
end Go.Proofs.YtkkgimhjjhhkjaaDoor
