import Derived.Test.YtkkgimhjjhhkjaaDoorI
import Derived.LoopN
namespace Go.Proofs.YtkkgimhjjhhkjaaDoor
open Go Go.RowKit Go.Extern.Stop Go.Stop Go.Extern
def firstLoop : Code → Code
  | .loop c => c
  | .block _ c => firstLoop c
  | .seq a b => match firstLoop a with | .skip => firstLoop b | c => c
  | _ => .skip
noncomputable def asBody : Code := match Tryd.f29.body with | some c => firstLoop c | none => .skip
set_option maxHeartbeats 4000000 in
set_option maxRecDepth 100000 in
theorem round_fault (Q : Exit → Act → World → Prop) (b : Nat) (u1 : TypeId) (u2 : Value) (t a : Addr) (g : Nat) (w : World) (x4 x5 x7 x9 x10 x11 x12 x13 x14 x15 x16 x17 x18 x19 x20 x21 x22 x23 x24 x25 x26 x27 x28 x29 x30 x31 x32 x33 x34 x35 x36 x37 x38 x39 x40 x41 x42 x43 x44 x45 x46 x47 x48 x49 x50 x51 x52 x53 x54 x55 x56 x57 x58 x59 x60 x61 : Value)
    (k a0 : Int) (hU : w.heap[b]? = some (.cells #[.int .i64 k, .int .i64 a0, .iface u1 u2] 39 (0, 0)))
    (hQ : ∀ x4 x5 x7 x9 x10 x11 x12 x13 x14 x15 x16 x17 x18 x19 x20 x21 x22 x23 x24 x25 x26 x27 x28 x29 x30 x31 x32 x33 x34 x35 x36 x37 x38 x39 x40 x41 x42 x43 x44 x45 x46 x47 x48 x49 x50 x51 x52 x53 x54 x55 x56 x57 x58 x59 x60 x61, Q .normal { tmps := #[.iface u1 u2, .iface 33 (.pointer (some t)), rval 33 a 150, .iface 81 (desc 26), x4, x5, .pointer (some ⟨g, 0, none⟩), x7, .bool false, x9, x10, x11, x12, x13, x14, x15, x16, x17, x18, x19, x20, x21, x22, x23, x24, x25, x26, x27, x28, x29, x30, x31, x32, x33, x34, x35, x36, x37, x38, x39, x40, x41, x42, x43, x44, x45, x46, x47, x48, x49, x50, x51, x52, x53, x54, x55, x56, x57, x58, x59, x60, x61], defers := [] } w) :
    asBody.wp Tryd.prog Q { tmps := #[.iface 31 (.pointer (some ⟨b, 0, none⟩)), .iface 33 (.pointer (some t)), rval 33 a 150, .iface 81 (desc 26), x4, x5, .pointer (some ⟨g, 0, none⟩), x7, .bool false, x9, x10, x11, x12, x13, x14, x15, x16, x17, x18, x19, x20, x21, x22, x23, x24, x25, x26, x27, x28, x29, x30, x31, x32, x33, x34, x35, x36, x37, x38, x39, x40, x41, x42, x43, x44, x45, x46, x47, x48, x49, x50, x51, x52, x53, x54, x55, x56, x57, x58, x59, x60, x61], defers := [] } w := by
  have h10 := @run_callFunc_extern Tryd.prog 30 _ ReflectliteType.typeOf Tryd.func30 (by kernel_rfl) (by kernel_rfl) (by kernel_rfl) (by kernel_rfl)
  have h35 := @run_callFunc_extern Tryd.prog 98 _ (ReflectliteType.relation "AssignableTo" ReflectliteType.assignableTo) Tryd.func98 (by kernel_rfl) (by kernel_rfl) (by kernel_rfl) (by kernel_rfl)
  have tO := as_typeOf85
  have mA : ∀ (h : Value) (w : World), (Go.method 260 81 (.agg #[h]) "AssignableTo").run Tryd.prog w = .ok (98, .agg #[h]) w := fun h w => by kernel_rfl
  have mU : ∀ (h : Value) (w : World), (Go.method 260 31 h "Unwrap").run Tryd.prog w = .ok (93, h) w := fun h w => by kernel_rfl
  have a25 : ∀ w : World, (ReflectliteType.relation "AssignableTo" ReflectliteType.assignableTo #[.agg #[.pointer (some ⟨7, 31, none⟩)], .iface 81 (.agg #[.pointer (some ⟨7, 26, none⟩)])]).run Tryd.prog w = .ok (.bool false) w := fun w => by kernel_rfl
  have e1 : ∀ W : World, (Instr.fieldAt 39 (.pointer (some ⟨b, 0, none⟩)) 1).run Tryd.prog W = .ok (.pointer (some ⟨b, 2, none⟩)) W := fun W => by kernel_rfl
  have hc : w.cell? ⟨b, 2, none⟩ = some (.iface u1 u2) := by simp [World.cell?, hU]
  have e2 : (Instr.loadAt 25 (.pointer (some ⟨b, 2, none⟩))).run Tryd.prog w = .ok (.iface u1 u2) w := by
    simp [Instr.loadAt, Instr.sureAddr, loadVar, isAgg, underlying, Tryd.underlying25, hc]
  have e3 : ∀ W : World, (Go.binOp .eql 31 (.pointer (some ⟨b, 0, none⟩)) (.pointer none)).run Tryd.prog W = .ok (.bool false) W := fun W => by kernel_rfl
  have n1 := as_no85
  have n2 := as_has
  unfold asBody Tryd.f29
  simp only [firstLoop]
  go_wp2
  exact hQ _ _ _ _ _ _ _ _ _ _ _ _ _ _ _ _ _ _ _ _ _ _ _ _ _ _ _ _ _ _ _ _ _ _ _ _ _ _ _ _ _ _ _ _ _ _ _ _ _ _ _ _ _ _ _ _

set_option maxHeartbeats 4000000 in
set_option maxRecDepth 100000 in
theorem round_hit (Q : Exit → Act → World → Prop) (n : Int) (t a : Addr) (g : Nat) (old : Value) (w : World) (x4 x5 x7 x9 x10 x11 x12 x13 x14 x15 x16 x17 x18 x19 x20 x21 x22 x23 x24 x25 x26 x27 x28 x29 x30 x31 x32 x33 x34 x35 x36 x37 x38 x39 x40 x41 x42 x43 x44 x45 x46 x47 x48 x49 x50 x51 x52 x53 x54 x55 x56 x57 x58 x59 x60 x61 : Value)
    (hg : w.heap[g]? = some (.cells #[.pointer (some ⟨7, 33, none⟩), .pointer (some a), .int .u64 150] 65 (0, 0)))
    (ha : w.cell? a = some (.pointer (some t))) (ht : w.cell? t = some old) (hf : w.frozen? t = false)
    (hQ : ∀ y0 y1 y2 y3 y4 y5 y6 y7 y9 y10 y11 y12 y13 y14 y15 y16 y17 y18 y19 y20 y21 y22 y23 y24 y25 y26 y27 y28 y29 y30 y31 y32 y33 y34 y35 y36 y37 y38 y39 y40 y41 y42 y43 y44 y45 y46 y47 y48 y49 y50 y51 y52 y53 y54 y55 y56 y57 y58 y59 y60 y61, Q .ret { tmps := #[y0, y1, y2, y3, y4, y5, y6, y7, .bool true, y9, y10, y11, y12, y13, y14, y15, y16, y17, y18, y19, y20, y21, y22, y23, y24, y25, y26, y27, y28, y29, y30, y31, y32, y33, y34, y35, y36, y37, y38, y39, y40, y41, y42, y43, y44, y45, y46, y47, y48, y49, y50, y51, y52, y53, y54, y55, y56, y57, y58, y59, y60, y61], defers := [] } ((w.alloc (.cells #[.int .i64 n] 26)).setCell t (.int .i64 n))) :
    asBody.wp Tryd.prog Q { tmps := #[.iface 26 (.int .i64 n), .iface 33 (.pointer (some t)), rval 33 a 150, .iface 81 (desc 26), x4, x5, .pointer (some ⟨g, 0, none⟩), x7, .bool false, x9, x10, x11, x12, x13, x14, x15, x16, x17, x18, x19, x20, x21, x22, x23, x24, x25, x26, x27, x28, x29, x30, x31, x32, x33, x34, x35, x36, x37, x38, x39, x40, x41, x42, x43, x44, x45, x46, x47, x48, x49, x50, x51, x52, x53, x54, x55, x56, x57, x58, x59, x60, x61], defers := [] } w := by
  have h10 := @run_callFunc_extern Tryd.prog 30 _ ReflectliteType.typeOf Tryd.func30 (by kernel_rfl) (by kernel_rfl) (by kernel_rfl) (by kernel_rfl)
  have h35 := @run_callFunc_extern Tryd.prog 98 _ (ReflectliteType.relation "AssignableTo" ReflectliteType.assignableTo) Tryd.func98 (by kernel_rfl) (by kernel_rfl) (by kernel_rfl) (by kernel_rfl)
  have h6 := @run_callFunc_extern Tryd.prog 26 _ (fun args => ReflectliteValue.unpack (args.getD 0 (.tuple #[]))) Tryd.func26 (by kernel_rfl) (by kernel_rfl) (by kernel_rfl) (by kernel_rfl)
  have h11 := @run_callFunc_extern Tryd.prog 40 _ (ReflectliteValue.method (ReflectliteValue.valueError "reflectlite.Value.Elem" 0) ReflectliteValue.elem) Tryd.func40 (by kernel_rfl) (by kernel_rfl) (by kernel_rfl) (by kernel_rfl)
  have h12 := @run_callFunc_extern Tryd.prog 41 _ ReflectliteValue.set Tryd.func41 (by kernel_rfl) (by kernel_rfl) (by kernel_rfl) (by kernel_rfl)
  have tO := as_typeOf38
  have mA : ∀ (h : Value) (w : World), (Go.method 260 81 (.agg #[h]) "AssignableTo").run Tryd.prog w = .ok (98, .agg #[h]) w := fun h w => by kernel_rfl
  have a25 : ∀ w : World, (ReflectliteType.relation "AssignableTo" ReflectliteType.assignableTo #[.agg #[.pointer (some ⟨7, 26, none⟩)], .iface 81 (.agg #[.pointer (some ⟨7, 26, none⟩)])]).run Tryd.prog w = .ok (.bool true) w := fun w => by kernel_rfl
  have v38 := as_valueOf38 n
  have htl : t.block < w.heap.size := World.block_lt_of_cell? w t ht
  have c0 : w.cell? ⟨g, 0, none⟩ = some (.pointer (some ⟨7, 33, none⟩)) := by simp [World.cell?, hg]
  have c1 : w.cell? ⟨g, 1, none⟩ = some (.pointer (some a)) := by simp [World.cell?, hg]
  have c2 : w.cell? ⟨g, 2, none⟩ = some (.int .u64 150) := by simp [World.cell?, hg]
  have el := as_elemV90 a t w ha
  have st := as_set38 t ⟨w.heap.size, 0, none⟩ n old (w.alloc (.cells #[.int .i64 n] 26))
    (by rw [World.cell?_alloc_at _ _ _ _ (by simp)]; rfl)
    (by rw [World.cell?_alloc_lt _ _ t htl]; exact ht)
    (by rw [World.frozen?_alloc_old _ _ t (Nat.ne_of_lt htl)]; exact hf)
  unfold asBody Tryd.f29
  simp only [firstLoop]
  go_wp2
  exact hQ _ _ _ _ _ _ _ _ _ _ _ _ _ _ _ _ _ _ _ _ _ _ _ _ _ _ _ _ _ _ _ _ _ _ _ _ _ _ _ _ _ _ _ _ _ _ _ _ _ _ _ _ _ _ _ _ _ _ _ _ _

theorem errAt_iface {C : Pev.Cfg} {w : World} : ∀ {ps : List (Int × Int)} {n : Int} {v : Value}, Pev.ErrAt C w ps n v → ∃ u x, v = .iface u x
  | [], _, _, h => ⟨_, _, h⟩
  | _ :: _, _, _, ⟨_, _, h, _, _⟩ => ⟨_, _, h⟩
set_option maxHeartbeats 4000000 in
set_option maxRecDepth 100000 in
theorem rounds_chain (Q : Exit → Act → World → Prop) (n : Int) (t a : Addr) (g : Nat) (old : Value) (w : World)
    (hg : w.heap[g]? = some (.cells #[.pointer (some ⟨7, 33, none⟩), .pointer (some a), .int .u64 150] 65 (0, 0)))
    (ha : w.cell? a = some (.pointer (some t))) (ht : w.cell? t = some old) (hf : w.frozen? t = false)
    (hQ : ∀ y0 y1 y2 y3 y4 y5 y6 y7 y9 y10 y11 y12 y13 y14 y15 y16 y17 y18 y19 y20 y21 y22 y23 y24 y25 y26 y27 y28 y29 y30 y31 y32 y33 y34 y35 y36 y37 y38 y39 y40 y41 y42 y43 y44 y45 y46 y47 y48 y49 y50 y51 y52 y53 y54 y55 y56 y57 y58 y59 y60 y61, Q .ret { tmps := #[y0, y1, y2, y3, y4, y5, y6, y7, .bool true, y9, y10, y11, y12, y13, y14, y15, y16, y17, y18, y19, y20, y21, y22, y23, y24, y25, y26, y27, y28, y29, y30, y31, y32, y33, y34, y35, y36, y37, y38, y39, y40, y41, y42, y43, y44, y45, y46, y47, y48, y49, y50, y51, y52, y53, y54, y55, y56, y57, y58, y59, y60, y61], defers := [] } ((w.alloc (.cells #[.int .i64 n] 26)).setCell t (.int .i64 n))) :
    ∀ (ps : List (Int × Int)) (v0 : Value) (x4 x5 x7 x9 x10 x11 x12 x13 x14 x15 x16 x17 x18 x19 x20 x21 x22 x23 x24 x25 x26 x27 x28 x29 x30 x31 x32 x33 x34 x35 x36 x37 x38 x39 x40 x41 x42 x43 x44 x45 x46 x47 x48 x49 x50 x51 x52 x53 x54 x55 x56 x57 x58 x59 x60 x61 : Value), Pev.ErrAt cfg w ps n v0 → Code.rounds Tryd.prog asBody Q (ps.length + 1) { tmps := #[v0, .iface 33 (.pointer (some t)), rval 33 a 150, .iface 81 (desc 26), x4, x5, .pointer (some ⟨g, 0, none⟩), x7, .bool false, x9, x10, x11, x12, x13, x14, x15, x16, x17, x18, x19, x20, x21, x22, x23, x24, x25, x26, x27, x28, x29, x30, x31, x32, x33, x34, x35, x36, x37, x38, x39, x40, x41, x42, x43, x44, x45, x46, x47, x48, x49, x50, x51, x52, x53, x54, x55, x56, x57, x58, x59, x60, x61], defers := [] } w
  | [], v0, x4, x5, x7, x9, x10, x11, x12, x13, x14, x15, x16, x17, x18, x19, x20, x21, x22, x23, x24, x25, x26, x27, x28, x29, x30, x31, x32, x33, x34, x35, x36, x37, x38, x39, x40, x41, x42, x43, x44, x45, x46, x47, x48, x49, x50, x51, x52, x53, x54, x55, x56, x57, x58, x59, x60, x61, h => by
    obtain rfl : v0 = .iface 26 (.int .i64 n) := h
    exact round_hit _ n t a g old w x4 x5 x7 x9 x10 x11 x12 x13 x14 x15 x16 x17 x18 x19 x20 x21 x22 x23 x24 x25 x26 x27 x28 x29 x30 x31 x32 x33 x34 x35 x36 x37 x38 x39 x40 x41 x42 x43 x44 x45 x46 x47 x48 x49 x50 x51 x52 x53 x54 x55 x56 x57 x58 x59 x60 x61 hg ha ht hf (fun y0 y1 y2 y3 y4 y5 y6 y7 y9 y10 y11 y12 y13 y14 y15 y16 y17 y18 y19 y20 y21 y22 y23 y24 y25 y26 y27 y28 y29 y30 y31 y32 y33 y34 y35 y36 y37 y38 y39 y40 y41 y42 y43 y44 y45 y46 y47 y48 y49 y50 y51 y52 y53 y54 y55 y56 y57 y58 y59 y60 y61 => hQ y0 y1 y2 y3 y4 y5 y6 y7 y9 y10 y11 y12 y13 y14 y15 y16 y17 y18 y19 y20 y21 y22 y23 y24 y25 y26 y27 y28 y29 y30 y31 y32 y33 y34 y35 y36 y37 y38 y39 y40 y41 y42 y43 y44 y45 y46 y47 y48 y49 y50 y51 y52 y53 y54 y55 y56 y57 y58 y59 y60 y61)
  | p :: ps, v0, x4, x5, x7, x9, x10, x11, x12, x13, x14, x15, x16, x17, x18, x19, x20, x21, x22, x23, x24, x25, x26, x27, x28, x29, x30, x31, x32, x33, x34, x35, x36, x37, x38, x39, x40, x41, x42, x43, x44, x45, x46, x47, x48, x49, x50, x51, x52, x53, x54, x55, x56, x57, x58, x59, x60, x61, h => by
    obtain ⟨b, u', rfl, hb, hr⟩ := h
    obtain ⟨u1, u2, rfl⟩ := errAt_iface hr
    exact round_fault _ b u1 u2 t a g w x4 x5 x7 x9 x10 x11 x12 x13 x14 x15 x16 x17 x18 x19 x20 x21 x22 x23 x24 x25 x26 x27 x28 x29 x30 x31 x32 x33 x34 x35 x36 x37 x38 x39 x40 x41 x42 x43 x44 x45 x46 x47 x48 x49 x50 x51 x52 x53 x54 x55 x56 x57 x58 x59 x60 x61 p.1 p.2 hb (fun x4 x5 x7 x9 x10 x11 x12 x13 x14 x15 x16 x17 x18 x19 x20 x21 x22 x23 x24 x25 x26 x27 x28 x29 x30 x31 x32 x33 x34 x35 x36 x37 x38 x39 x40 x41 x42 x43 x44 x45 x46 x47 x48 x49 x50 x51 x52 x53 x54 x55 x56 x57 x58 x59 x60 x61 => rounds_chain Q n t a g old w hg ha ht hf hQ ps (.iface u1 u2) x4 x5 x7 x9 x10 x11 x12 x13 x14 x15 x16 x17 x18 x19 x20 x21 x22 x23 x24 x25 x26 x27 x28 x29 x30 x31 x32 x33 x34 x35 x36 x37 x38 x39 x40 x41 x42 x43 x44 x45 x46 x47 x48 x49 x50 x51 x52 x53 x54 x55 x56 x57 x58 x59 x60 x61 hr)

end Go.Proofs.YtkkgimhjjhhkjaaDoor
