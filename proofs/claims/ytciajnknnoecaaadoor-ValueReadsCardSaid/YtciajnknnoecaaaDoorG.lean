/- Closed facts on what errors.As asks of the model's entries for internal/reflectlite, at this program's types. -/
import Derived.Test.YtciajnknnoecaaaDoorA
import Derived.WalkKit
import Derived.LaidEql
import Derived.Stop.Asserts
import Derived.RowKitTokens
namespace Go.Proofs.YtciajnknnoecaaaDoor
open Go Go.RowKit Go.Extern.Stop Go.Stop Go.Extern

theorem rlm (z : Sem Value) (f : TypeId → Addr → Nat → Nat → Sem Value) (v : Value) :
    ReflectliteValue.method z f #[v] = (do match ← ReflectliteValue.parts v with | none => z | some (t, a, fl) => f t a fl (fl % 32)) := rfl
abbrev desc (t : Nat) : Value := .agg #[.pointer (some ⟨6, t, none⟩)]
abbrev rval (t : Nat) (p : Addr) (fl : Int) : Value := .agg #[.pointer (some ⟨6, t, none⟩), .pointer (some p), .int .u64 fl]

theorem as_valueOf87 (t : Addr) (w : World) : (ReflectliteValue.unpack (.iface 87 (.pointer (some t)))).run Tryd.prog w = .ok (rval 87 ⟨w.heap.size, 0, none⟩ 150) (w.alloc (.cells #[.pointer (some t)] 87)) := by kernel_rfl
theorem as_valueOf90 (t : Addr) (w : World) : (ReflectliteValue.unpack (.iface 90 (.pointer (some t)))).run Tryd.prog w = .ok (rval 90 ⟨w.heap.size, 0, none⟩ 150) (w.alloc (.cells #[.pointer (some t)] 90)) := by kernel_rfl
theorem as_valueOf85 (e : Addr) (w : World) : (ReflectliteValue.unpack (.iface 85 (.pointer (some e)))).run Tryd.prog w = .ok (rval 85 ⟨w.heap.size, 0, none⟩ 150) (w.alloc (.cells #[.pointer (some e)] 85)) := by kernel_rfl
theorem as_valueOf38 (n : Int) (w : World) : (ReflectliteValue.unpack (.iface 38 (.int .i64 n))).run Tryd.prog w = .ok (rval 38 ⟨w.heap.size, 0, none⟩ 130) (w.alloc (.cells #[.int .i64 n] 38)) := by kernel_rfl
theorem as_type87 (a : Addr) (w : World) : (ReflectliteValue.methodAny (ReflectliteValue.valueError "reflectlite.Value.Type" 0) (fun t _ _ _ => ReflectliteType.toType t) #[rval 87 a 150]).run Tryd.prog w = .ok (.iface 125 (desc 87)) w := by kernel_rfl
theorem as_type90 (a : Addr) (w : World) : (ReflectliteValue.methodAny (ReflectliteValue.valueError "reflectlite.Value.Type" 0) (fun t _ _ _ => ReflectliteType.toType t) #[rval 90 a 150]).run Tryd.prog w = .ok (.iface 125 (desc 90)) w := by kernel_rfl
theorem as_mKind (h : Value) (w : World) : (Go.method (Tryd.prog.types.size + Made.depth) 125 (.agg #[h]) "Kind").run Tryd.prog w = .ok (100, h) w := by kernel_rfl
theorem as_mElem (h : Value) (w : World) : (Go.method (Tryd.prog.types.size + Made.depth) 125 (.agg #[h]) "Elem").run Tryd.prog w = .ok (115, .agg #[h]) w := by kernel_rfl
theorem as_mImplements (h : Value) (w : World) : (Go.method (Tryd.prog.types.size + Made.depth) 125 (.agg #[h]) "Implements").run Tryd.prog w = .ok (116, .agg #[h]) w := by kernel_rfl
theorem as_mAssignableTo (h : Value) (w : World) : (Go.method (Tryd.prog.types.size + Made.depth) 125 (.agg #[h]) "AssignableTo").run Tryd.prog w = .ok (113, .agg #[h]) w := by kernel_rfl
theorem as_mUnwrap (h : Value) (w : World) : (Go.method (Tryd.prog.types.size + Made.depth) 85 h "Unwrap").run Tryd.prog w = .ok (105, h) w := by kernel_rfl
theorem as_kind (t : Nat) (ht : t = 87 ∨ t = 90 ∨ t = 85) (w : World) : ((ReflectliteType.abiMethod fun t => (fun a : Nat => Value.int IntKind.u8 (a : Int)) <$> Rtype.kind t) #[.pointer (some ⟨6, t, none⟩)]).run Tryd.prog w = .ok (.int .u8 22) w := by
  rcases ht with rfl | rfl | rfl <;> kernel_rfl
theorem as_kind38 (w : World) : ((ReflectliteType.abiMethod fun t => (fun a : Nat => Value.int IntKind.u8 (a : Int)) <$> Rtype.kind t) #[.pointer (some ⟨6, 38, none⟩)]).run Tryd.prog w = .ok (.int .u8 2) w := by kernel_rfl
theorem as_elem87 (w : World) : (ReflectliteType.method ReflectliteType.elem #[desc 87]).run Tryd.prog w = .ok (.iface 125 (desc 85)) w := by kernel_rfl
theorem as_elem90 (w : World) : (ReflectliteType.method ReflectliteType.elem #[desc 90]).run Tryd.prog w = .ok (.iface 125 (desc 38)) w := by kernel_rfl
theorem as_impl (t : Nat) (ht : t = 85 ∨ t = 38) (w : World) : (ReflectliteType.relation "Implements" ReflectliteType.implements_ #[desc t, .iface 125 (desc 26)]).run Tryd.prog w = .ok (.bool true) w := by
  rcases ht with rfl | rfl <;> kernel_rfl
theorem as_typeOf85 (v : Value) (w : World) : (ReflectliteType.typeOf #[.iface 85 v]).run Tryd.prog w = .ok (.iface 125 (desc 85)) w := by kernel_rfl
theorem as_typeOf38 (v : Value) (w : World) : (ReflectliteType.typeOf #[.iface 38 v]).run Tryd.prog w = .ok (.iface 125 (desc 38)) w := by kernel_rfl
theorem as_to (s t : Nat) (hs : s = 85 ∨ s = 38) (ht : t = 85 ∨ t = 38) (w : World) : (ReflectliteType.relation "AssignableTo" ReflectliteType.assignableTo #[desc s, .iface 125 (desc t)]).run Tryd.prog w = .ok (.bool (decide (s = t))) w := by
  rcases hs with rfl | rfl <;> rcases ht with rfl | rfl <;> kernel_rfl
theorem as_parts87 (a : Addr) (w : World) : (ReflectliteValue.parts (rval 87 a 150)).run Tryd.prog w = .ok (some (87, a, 150)) w := by kernel_rfl
theorem as_parts90 (a : Addr) (w : World) : (ReflectliteValue.parts (rval 90 a 150)).run Tryd.prog w = .ok (some (90, a, 150)) w := by kernel_rfl
theorem as_parts85 (a : Addr) (w : World) : (ReflectliteValue.parts (rval 85 a 150)).run Tryd.prog w = .ok (some (85, a, 150)) w := by kernel_rfl
theorem as_parts85a (a : Addr) (w : World) : (ReflectliteValue.parts (rval 85 a 406)).run Tryd.prog w = .ok (some (85, a, 406)) w := by kernel_rfl
theorem as_parts38 (a : Addr) (w : World) : (ReflectliteValue.parts (rval 38 a 130)).run Tryd.prog w = .ok (some (38, a, 130)) w := by kernel_rfl
theorem as_parts38a (a : Addr) (w : World) : (ReflectliteValue.parts (rval 38 a 386)).run Tryd.prog w = .ok (some (38, a, 386)) w := by kernel_rfl
theorem as_elemOf87 (w : World) : (Rtype.elem? 87).run Tryd.prog w = .ok (some 85) w := by kernel_rfl
theorem as_elemOf90 (w : World) : (Rtype.elem? 90).run Tryd.prog w = .ok (some 38) w := by kernel_rfl
theorem as_mk85 (p : Addr) (w : World) : (ReflectliteValue.mk 85 p ReflectliteValue.flagAddr).run Tryd.prog w = .ok (rval 85 p 406) w := by kernel_rfl
theorem as_mk38 (p : Addr) (w : World) : (ReflectliteValue.mk 38 p ReflectliteValue.flagAddr).run Tryd.prog w = .ok (rval 38 p 386) w := by kernel_rfl
theorem as_direct (t : Nat) (ht : t = 85 ∨ t = 38) (w : World) : (Rtype.directlyAssignable t t).run Tryd.prog w = .ok true w := by
  rcases ht with rfl | rfl <;> kernel_rfl
theorem as_size (t : Nat) (ht : t = 85 ∨ t = 38) (w : World) : (sizeOf t).run Tryd.prog w = .ok 1 w := by
  rcases ht with rfl | rfl <;> kernel_rfl
theorem as_has (v : Value) (w : World) : (Instr.typeAssert (.iface 85 v) 26 133 true).run Tryd.prog w = .ok (.tuple #[.iface 85 v, .bool true]) w := by kernel_rfl
theorem as_no85 (v : Value) (w : World) : (Instr.typeAssert (.iface 85 v) 26 130 true).run Tryd.prog w = .ok (.tuple #[.nilIface, .bool false]) w := run_typeAssert_lacksB Tryd.underlying130 (by kernel_rfl) (by kernel_rfl) v 26 w
theorem as_no38 (v : Value) (w : World) : (Instr.typeAssert (.iface 38 v) 26 130 true).run Tryd.prog w = .ok (.tuple #[.nilIface, .bool false]) w := run_typeAssert_lacksB Tryd.underlying130 (by kernel_rfl) (by kernel_rfl) v 26 w
theorem as_no38b (v : Value) (w : World) : (Instr.typeAssert (.iface 38 v) 26 133 true).run Tryd.prog w = .ok (.tuple #[.nilIface, .bool false]) w := run_typeAssert_lacksB Tryd.underlying133 (by kernel_rfl) (by kernel_rfl) v 26 w
theorem as_no38c (v : Value) (w : World) : (Instr.typeAssert (.iface 38 v) 26 135 true).run Tryd.prog w = .ok (.tuple #[.nilIface, .bool false]) w := run_typeAssert_lacksB Tryd.underlying135 (by kernel_rfl) (by kernel_rfl) v 26 w
end Go.Proofs.YtciajnknnoecaaaDoor
