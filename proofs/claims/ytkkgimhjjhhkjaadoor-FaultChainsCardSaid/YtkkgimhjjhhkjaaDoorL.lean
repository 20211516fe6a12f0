import Derived.Test.YtkkgimhjjhhkjaaDoorK
import Derived.LoopN
namespace Go.Proofs.YtkkgimhjjhhkjaaDoor
open Go Go.RowKit Go.Extern.Stop Go.Stop Go.Extern
set_option maxRecDepth 100000 in
theorem as52_nil (x : Value) (w : World) : Calls Tryd.prog 10 #[.nilIface, x] w fun ev w' => ev = .returned (.bool false) ∧ w' = w := by
  go_enter Tryd.func10, Tryd.ntmps10
  go_wp2
  go_ret
  exact ⟨rfl, rfl⟩

set_option maxHeartbeats 4000000 in
set_option maxRecDepth 100000 in
theorem as52_errno (ps : List (Int × Int)) (n : Int) (v : Value) (t : Addr) (old : Value) (w : World) (hg : w.cell? ⟨0, 0, none⟩ = some (.iface 81 (desc 25))) (hv : Pev.Rob (fun _ => False) w (fun w => Pev.ErrAt cfg w ps n v)) (ht : w.cell? t = some old) (hf : w.frozen? t = false) :
    Calls Tryd.prog 10 #[v, .iface 33 (.pointer (some t))] w fun ev w' => ev = .returned (.bool true) ∧ w' = ((((w.alloc (.cells #[.pointer (some t)] 33)).alloc (.cells #[.pointer (some ⟨7, 33, none⟩), .pointer (some ⟨w.heap.size, 0, none⟩), .int .u64 150] 65)).alloc (.cells #[.pointer (some ⟨7, 33, none⟩), .pointer (some ⟨w.heap.size, 0, none⟩), .int .u64 150] 65)).alloc (.cells #[.int .i64 n] 26)).setCell t (.int .i64 n) := by
  have h61 := @run_callFunc_extern Tryd.prog 26 _ (fun args => ReflectliteValue.unpack (args.getD 0 (.tuple #[]))) Tryd.func26 (by kernel_rfl) (by kernel_rfl) (by kernel_rfl) (by kernel_rfl)
  have h62 := @run_callFunc_extern Tryd.prog 27 _ (ReflectliteValue.methodAny (ReflectliteValue.valueError "reflectlite.Value.Type" 0) (fun t _ _ _ => ReflectliteType.toType t)) Tryd.func27 (by kernel_rfl) (by kernel_rfl) (by kernel_rfl) (by kernel_rfl)
  have h63 := @run_callFunc_extern Tryd.prog 28 _ (ReflectliteValue.method (ReflectliteValue.valueError "reflectlite.Value.IsNil" 0) ReflectliteValue.isNil) Tryd.func28 (by kernel_rfl) (by kernel_rfl) (by kernel_rfl) (by kernel_rfl)
  have h100 := @run_callFunc_extern Tryd.prog 88 _ (ReflectliteType.abiMethod fun t => do pure (.int .u8 (← Rtype.kind t))) Tryd.func88 (by kernel_rfl) (by kernel_rfl) (by kernel_rfl) (by kernel_rfl)
  have h115 := @run_callFunc_extern Tryd.prog 100 _ (ReflectliteType.method ReflectliteType.elem) Tryd.func100 (by kernel_rfl) (by kernel_rfl) (by kernel_rfl) (by kernel_rfl)
  have h116 := @run_callFunc_extern Tryd.prog 101 _ (ReflectliteType.relation "Implements" ReflectliteType.implements_) Tryd.func101 (by kernel_rfl) (by kernel_rfl) (by kernel_rfl) (by kernel_rfl)
  have mK : ∀ (h : Value) (w : World), (Go.method 260 81 (.agg #[h]) "Kind").run Tryd.prog w = .ok (88, h) w := fun h w => by kernel_rfl
  have mE : ∀ (h : Value) (w : World), (Go.method 260 81 (.agg #[h]) "Elem").run Tryd.prog w = .ok (100, .agg #[h]) w := fun h w => by kernel_rfl
  have mI : ∀ (h : Value) (w : World), (Go.method 260 81 (.agg #[h]) "Implements").run Tryd.prog w = .ok (101, .agg #[h]) w := fun h w => by kernel_rfl
  have f6 := as_valueOf90
  have f7 := as_type90
  have k1 := as_kind 33 (by decide)
  have k2 := as_kind38
  have e27 := as_elem90
  have i25 := as_impl 26 (by decide)
  have n8 := as_isNil90 ⟨w.heap.size, 0, none⟩ t ((w.alloc (.cells #[.pointer (some t)] 33)).alloc (.cells #[.pointer (some ⟨7, 33, none⟩), .pointer (some ⟨w.heap.size, 0, none⟩), .int .u64 150] 65)) (by simp)
  have hlt : 0 < w.heap.size := World.block_lt_of_cell? w ⟨0, 0, none⟩ hg
  have hg2 : ((w.alloc (.cells #[.pointer (some t)] 33)).alloc (.cells #[.pointer (some ⟨7, 33, none⟩), .pointer (some ⟨w.heap.size, 0, none⟩), .int .u64 150] 65)).cell? ⟨0, 0, none⟩ = some (.iface 81 (desc 25)) := by
    rw [World.cell?_alloc_lt _ _ ⟨0, 0, none⟩ (by simp), World.cell?_alloc_lt _ _ ⟨0, 0, none⟩ hlt]; exact hg
  have htl : t.block < w.heap.size := World.block_lt_of_cell? w t ht
  have hv' := hv (((w.alloc (.cells #[.pointer (some t)] 33)).alloc (.cells #[.pointer (some ⟨7, 33, none⟩), .pointer (some ⟨w.heap.size, 0, none⟩), .int .u64 150] 65)).alloc (.cells #[.pointer (some ⟨7, 33, none⟩), .pointer (some ⟨w.heap.size, 0, none⟩), .int .u64 150] 65)) (((Pev.KeepS.alloc _ _).trans2 (Pev.KeepS.alloc _ _) (fun _ _ h => h)).trans2 (Pev.KeepS.alloc _ _) (fun _ _ h => h))
  have ca : (((w.alloc (.cells #[.pointer (some t)] 33)).alloc (.cells #[.pointer (some ⟨7, 33, none⟩), .pointer (some ⟨w.heap.size, 0, none⟩), .int .u64 150] 65)).alloc (.cells #[.pointer (some ⟨7, 33, none⟩), .pointer (some ⟨w.heap.size, 0, none⟩), .int .u64 150] 65)).cell? ⟨w.heap.size, 0, none⟩ = some (.pointer (some t)) := by rw [World.cell?_alloc_lt _ _ ⟨w.heap.size, 0, none⟩ (by simp; omega)]; simp
  obtain ⟨u1, u2, rfl⟩ := errAt_iface (hv w (Pev.KeepS.refl _ _))
  go_enter Tryd.func10, Tryd.ntmps10
  go_wp2
  refine wp_loop_rounds (ps.length + 1) ?_
  refine rounds_chain _ n t ⟨w.heap.size, 0, none⟩ (w.heap.size + 1 + 1) old _ ?_ ?_ ?_ ?_ ?_ ps (.iface u1 u2) _ _ _ _ _ _ _ _ _ _ _ _ _ _ _ _ _ _ _ _ _ _ _ _ _ _ _ _ _ _ _ _ _ _ _ _ _ _ _ _ _ _ _ _ _ _ _ _ _ _ _ _ _ _ _ _ hv'
  · have h := heap_alloc_new ((w.alloc (.cells #[.pointer (some t)] 33)).alloc (.cells #[.pointer (some ⟨7, 33, none⟩), .pointer (some ⟨w.heap.size, 0, none⟩), .int .u64 150] 65)) (.cells #[.pointer (some ⟨7, 33, none⟩), .pointer (some ⟨w.heap.size, 0, none⟩), .int .u64 150] 65)
    simpa only [World.size_alloc] using h
  · exact ca
  · rw [World.cell?_alloc_lt _ _ t (by simp; omega), World.cell?_alloc_lt _ _ t (by simp; omega), World.cell?_alloc_lt _ _ t htl]; exact ht
  · rw [World.frozen?_alloc_old _ _ t (by simp; omega), World.frozen?_alloc_old _ _ t (by simp; omega), World.frozen?_alloc_old _ _ t (Nat.ne_of_lt htl)]; exact hf
  · intros
    go_wp2
    go_ret
    exact ⟨rfl, rfl⟩

set_option maxHeartbeats 4000000 in
set_option maxRecDepth 100000 in
theorem as52_miss (n : Int) (t : Addr) (w : World) (hg : w.cell? ⟨0, 0, none⟩ = some (.iface 81 (desc 25))) :
    Calls Tryd.prog 10 #[.iface 26 (.int .i64 n), .iface 35 (.pointer (some t))] w fun ev w' => ev = .returned (.bool false) ∧ w' = (((w.alloc (.cells #[.pointer (some t)] 35)).alloc (.cells #[.pointer (some ⟨7, 35, none⟩), .pointer (some ⟨w.heap.size, 0, none⟩), .int .u64 150] 65)).alloc (.cells #[.pointer (some ⟨7, 35, none⟩), .pointer (some ⟨w.heap.size, 0, none⟩), .int .u64 150] 65)) := by
  have h61 := @run_callFunc_extern Tryd.prog 26 _ (fun args => ReflectliteValue.unpack (args.getD 0 (.tuple #[]))) Tryd.func26 (by kernel_rfl) (by kernel_rfl) (by kernel_rfl) (by kernel_rfl)
  have h62 := @run_callFunc_extern Tryd.prog 27 _ (ReflectliteValue.methodAny (ReflectliteValue.valueError "reflectlite.Value.Type" 0) (fun t _ _ _ => ReflectliteType.toType t)) Tryd.func27 (by kernel_rfl) (by kernel_rfl) (by kernel_rfl) (by kernel_rfl)
  have h63 := @run_callFunc_extern Tryd.prog 28 _ (ReflectliteValue.method (ReflectliteValue.valueError "reflectlite.Value.IsNil" 0) ReflectliteValue.isNil) Tryd.func28 (by kernel_rfl) (by kernel_rfl) (by kernel_rfl) (by kernel_rfl)
  have h100 := @run_callFunc_extern Tryd.prog 88 _ (ReflectliteType.abiMethod fun t => do pure (.int .u8 (← Rtype.kind t))) Tryd.func88 (by kernel_rfl) (by kernel_rfl) (by kernel_rfl) (by kernel_rfl)
  have h115 := @run_callFunc_extern Tryd.prog 100 _ (ReflectliteType.method ReflectliteType.elem) Tryd.func100 (by kernel_rfl) (by kernel_rfl) (by kernel_rfl) (by kernel_rfl)
  have h116 := @run_callFunc_extern Tryd.prog 101 _ (ReflectliteType.relation "Implements" ReflectliteType.implements_) Tryd.func101 (by kernel_rfl) (by kernel_rfl) (by kernel_rfl) (by kernel_rfl)
  have h10 := @run_callFunc_extern Tryd.prog 30 _ ReflectliteType.typeOf Tryd.func30 (by kernel_rfl) (by kernel_rfl) (by kernel_rfl) (by kernel_rfl)
  have h35 := @run_callFunc_extern Tryd.prog 98 _ (ReflectliteType.relation "AssignableTo" ReflectliteType.assignableTo) Tryd.func98 (by kernel_rfl) (by kernel_rfl) (by kernel_rfl) (by kernel_rfl)
  have mK : ∀ (h : Value) (w : World), (Go.method 260 81 (.agg #[h]) "Kind").run Tryd.prog w = .ok (88, h) w := fun h w => by kernel_rfl
  have mE : ∀ (h : Value) (w : World), (Go.method 260 81 (.agg #[h]) "Elem").run Tryd.prog w = .ok (100, .agg #[h]) w := fun h w => by kernel_rfl
  have mI : ∀ (h : Value) (w : World), (Go.method 260 81 (.agg #[h]) "Implements").run Tryd.prog w = .ok (101, .agg #[h]) w := fun h w => by kernel_rfl
  have f6 := as_valueOf87
  have f7 := as_type87
  have k1 := as_kind 35 (by decide)
  have k2 := as_kind 31 (by decide)
  have e27 := as_elem87
  have i25 := as_impl 31 (by decide)
  have n8 := as_isNil87 ⟨w.heap.size, 0, none⟩ t ((w.alloc (.cells #[.pointer (some t)] 35)).alloc (.cells #[.pointer (some ⟨7, 35, none⟩), .pointer (some ⟨w.heap.size, 0, none⟩), .int .u64 150] 65)) (by simp)
  have hlt : 0 < w.heap.size := World.block_lt_of_cell? w ⟨0, 0, none⟩ hg
  have hg2 : ((w.alloc (.cells #[.pointer (some t)] 35)).alloc (.cells #[.pointer (some ⟨7, 35, none⟩), .pointer (some ⟨w.heap.size, 0, none⟩), .int .u64 150] 65)).cell? ⟨0, 0, none⟩ = some (.iface 81 (desc 25)) := by
    rw [World.cell?_alloc_lt _ _ ⟨0, 0, none⟩ (by simp), World.cell?_alloc_lt _ _ ⟨0, 0, none⟩ hlt]; exact hg
  have tO := as_typeOf38
  have mA : ∀ (h : Value) (w : World), (Go.method 260 81 (.agg #[h]) "AssignableTo").run Tryd.prog w = .ok (98, .agg #[h]) w := fun h w => by kernel_rfl
  have a25 : ∀ w : World, (ReflectliteType.relation "AssignableTo" ReflectliteType.assignableTo #[.agg #[.pointer (some ⟨7, 26, none⟩)], .iface 81 (.agg #[.pointer (some ⟨7, 31, none⟩)])]).run Tryd.prog w = .ok (.bool false) w := fun w => by kernel_rfl
  have n1 := as_no38
  have n2 := as_no38b
  have n3 := as_no38c
  go_enter Tryd.func10, Tryd.ntmps10
  go_wp2
  refine wp_loop_rounds 1 ?_
  rw [rounds_succ]
  go_wp2
  go_ret
  exact ⟨rfl, rfl⟩

set_option maxHeartbeats 4000000 in
set_option maxRecDepth 100000 in
theorem as52_hit (e t : Addr) (old : Value) (w : World) (hg : w.cell? ⟨0, 0, none⟩ = some (.iface 81 (desc 25))) (ht : w.cell? t = some old) (hf : w.frozen? t = false) :
    Calls Tryd.prog 10 #[.iface 31 (.pointer (some e)), .iface 35 (.pointer (some t))] w fun ev w' => ev = .returned (.bool true) ∧ w' = ((((w.alloc (.cells #[.pointer (some t)] 35)).alloc (.cells #[.pointer (some ⟨7, 35, none⟩), .pointer (some ⟨w.heap.size, 0, none⟩), .int .u64 150] 65)).alloc (.cells #[.pointer (some ⟨7, 35, none⟩), .pointer (some ⟨w.heap.size, 0, none⟩), .int .u64 150] 65)).alloc (.cells #[.pointer (some e)] 31)).setCell t (.pointer (some e)) := by
  have h61 := @run_callFunc_extern Tryd.prog 26 _ (fun args => ReflectliteValue.unpack (args.getD 0 (.tuple #[]))) Tryd.func26 (by kernel_rfl) (by kernel_rfl) (by kernel_rfl) (by kernel_rfl)
  have h62 := @run_callFunc_extern Tryd.prog 27 _ (ReflectliteValue.methodAny (ReflectliteValue.valueError "reflectlite.Value.Type" 0) (fun t _ _ _ => ReflectliteType.toType t)) Tryd.func27 (by kernel_rfl) (by kernel_rfl) (by kernel_rfl) (by kernel_rfl)
  have h63 := @run_callFunc_extern Tryd.prog 28 _ (ReflectliteValue.method (ReflectliteValue.valueError "reflectlite.Value.IsNil" 0) ReflectliteValue.isNil) Tryd.func28 (by kernel_rfl) (by kernel_rfl) (by kernel_rfl) (by kernel_rfl)
  have h100 := @run_callFunc_extern Tryd.prog 88 _ (ReflectliteType.abiMethod fun t => do pure (.int .u8 (← Rtype.kind t))) Tryd.func88 (by kernel_rfl) (by kernel_rfl) (by kernel_rfl) (by kernel_rfl)
  have h115 := @run_callFunc_extern Tryd.prog 100 _ (ReflectliteType.method ReflectliteType.elem) Tryd.func100 (by kernel_rfl) (by kernel_rfl) (by kernel_rfl) (by kernel_rfl)
  have h116 := @run_callFunc_extern Tryd.prog 101 _ (ReflectliteType.relation "Implements" ReflectliteType.implements_) Tryd.func101 (by kernel_rfl) (by kernel_rfl) (by kernel_rfl) (by kernel_rfl)
  have h10 := @run_callFunc_extern Tryd.prog 30 _ ReflectliteType.typeOf Tryd.func30 (by kernel_rfl) (by kernel_rfl) (by kernel_rfl) (by kernel_rfl)
  have h35 := @run_callFunc_extern Tryd.prog 98 _ (ReflectliteType.relation "AssignableTo" ReflectliteType.assignableTo) Tryd.func98 (by kernel_rfl) (by kernel_rfl) (by kernel_rfl) (by kernel_rfl)
  have h11 := @run_callFunc_extern Tryd.prog 40 _ (ReflectliteValue.method (ReflectliteValue.valueError "reflectlite.Value.Elem" 0) ReflectliteValue.elem) Tryd.func40 (by kernel_rfl) (by kernel_rfl) (by kernel_rfl) (by kernel_rfl)
  have h12 := @run_callFunc_extern Tryd.prog 41 _ ReflectliteValue.set Tryd.func41 (by kernel_rfl) (by kernel_rfl) (by kernel_rfl) (by kernel_rfl)
  have mK : ∀ (h : Value) (w : World), (Go.method 260 81 (.agg #[h]) "Kind").run Tryd.prog w = .ok (88, h) w := fun h w => by kernel_rfl
  have mE : ∀ (h : Value) (w : World), (Go.method 260 81 (.agg #[h]) "Elem").run Tryd.prog w = .ok (100, .agg #[h]) w := fun h w => by kernel_rfl
  have mI : ∀ (h : Value) (w : World), (Go.method 260 81 (.agg #[h]) "Implements").run Tryd.prog w = .ok (101, .agg #[h]) w := fun h w => by kernel_rfl
  have f6 := as_valueOf87
  have f7 := as_type87
  have k1 := as_kind 35 (by decide)
  have k2 := as_kind 31 (by decide)
  have e27 := as_elem87
  have i25 := as_impl 31 (by decide)
  have n8 := as_isNil87 ⟨w.heap.size, 0, none⟩ t ((w.alloc (.cells #[.pointer (some t)] 35)).alloc (.cells #[.pointer (some ⟨7, 35, none⟩), .pointer (some ⟨w.heap.size, 0, none⟩), .int .u64 150] 65)) (by simp)
  have hlt : 0 < w.heap.size := World.block_lt_of_cell? w ⟨0, 0, none⟩ hg
  have hg2 : ((w.alloc (.cells #[.pointer (some t)] 35)).alloc (.cells #[.pointer (some ⟨7, 35, none⟩), .pointer (some ⟨w.heap.size, 0, none⟩), .int .u64 150] 65)).cell? ⟨0, 0, none⟩ = some (.iface 81 (desc 25)) := by
    rw [World.cell?_alloc_lt _ _ ⟨0, 0, none⟩ (by simp), World.cell?_alloc_lt _ _ ⟨0, 0, none⟩ hlt]; exact hg
  have tO := as_typeOf85
  have mA : ∀ (h : Value) (w : World), (Go.method 260 81 (.agg #[h]) "AssignableTo").run Tryd.prog w = .ok (98, .agg #[h]) w := fun h w => by kernel_rfl
  have a25 : ∀ w : World, (ReflectliteType.relation "AssignableTo" ReflectliteType.assignableTo #[.agg #[.pointer (some ⟨7, 31, none⟩)], .iface 81 (.agg #[.pointer (some ⟨7, 31, none⟩)])]).run Tryd.prog w = .ok (.bool true) w := fun w => by kernel_rfl
  have v38 := as_valueOf85 e
  have htl : t.block < w.heap.size := World.block_lt_of_cell? w t ht
  have el := as_elemV87 ⟨w.heap.size, 0, none⟩ t (((w.alloc (.cells #[.pointer (some t)] 35)).alloc (.cells #[.pointer (some ⟨7, 35, none⟩), .pointer (some ⟨w.heap.size, 0, none⟩), .int .u64 150] 65)).alloc (.cells #[.pointer (some ⟨7, 35, none⟩), .pointer (some ⟨w.heap.size, 0, none⟩), .int .u64 150] 65)) (by rw [World.cell?_alloc_lt _ _ ⟨w.heap.size, 0, none⟩ (by simp; omega)]; simp)
  have st := as_set85 t ⟨w.heap.size + 1 + 1 + 1, 0, none⟩ e old ((((w.alloc (.cells #[.pointer (some t)] 35)).alloc (.cells #[.pointer (some ⟨7, 35, none⟩), .pointer (some ⟨w.heap.size, 0, none⟩), .int .u64 150] 65)).alloc (.cells #[.pointer (some ⟨7, 35, none⟩), .pointer (some ⟨w.heap.size, 0, none⟩), .int .u64 150] 65)).alloc (.cells #[.pointer (some e)] 31))
    (by rw [World.cell?_alloc_at _ _ _ _ (by simp)]; rfl)
    (by rw [World.cell?_alloc_lt _ _ t (by simp; omega), World.cell?_alloc_lt _ _ t (by simp; omega), World.cell?_alloc_lt _ _ t (by simp; omega), World.cell?_alloc_lt _ _ t htl]; exact ht)
    (by rw [World.frozen?_alloc_old _ _ t (by simp; omega), World.frozen?_alloc_old _ _ t (by simp; omega), World.frozen?_alloc_old _ _ t (by simp; omega), World.frozen?_alloc_old _ _ t (Nat.ne_of_lt htl)]; exact hf)
  go_enter Tryd.func10, Tryd.ntmps10
  go_wp2
  refine wp_loop_rounds 1 ?_
  rw [rounds_succ]
  go_wp2
  go_ret
  exact ⟨rfl, rfl⟩

end Go.Proofs.YtkkgimhjjhhkjaaDoor
