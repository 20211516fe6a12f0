import Derived.Test.YtkkgimhjjhhkjaaDoorJ
import Derived.LoopN
namespace Go.Proofs.YtkkgimhjjhhkjaaDoor
open Go Go.RowKit Go.Extern.Stop Go.Stop Go.Extern
set_option maxHeartbeats 4000000 in
set_option maxRecDepth 100000 in
theorem as64_errno (ps : List (Int × Int)) (n : Int) (v : Value) (t a : Addr) (old : Value) (w : World) (hv : Pev.Rob (fun _ => False) w (fun w => Pev.ErrAt cfg w ps n v)) (ha : w.cell? a = some (.pointer (some t))) (ht : w.cell? t = some old) (hf : w.frozen? t = false) :
    Calls Tryd.prog 29 #[v, .iface 33 (.pointer (some t)), rval 33 a 150, .iface 81 (desc 26)] w fun ev w' => ev = .returned (.bool true) ∧
      w' = ((w.alloc (.cells #[.pointer (some ⟨7, 33, none⟩), .pointer (some a), .int .u64 150] 65)).alloc (.cells #[.int .i64 n] 26)).setCell t (.int .i64 n) := by
  have hal : a.block < w.heap.size := World.block_lt_of_cell? w a ha
  have htl : t.block < w.heap.size := World.block_lt_of_cell? w t ht
  have hv' := hv _ (Pev.KeepS.alloc w (.cells #[.pointer (some ⟨7, 33, none⟩), .pointer (some a), .int .u64 150] 65))
  go_enter Tryd.func29, Tryd.ntmps29
  go_wp2
  refine wp_loop_rounds (ps.length + 1) ?_
  refine rounds_chain _ n t a w.heap.size old _ ?_ ?_ ?_ ?_ ?_ ps v _ _ _ _ _ _ _ _ _ _ _ _ _ _ _ _ _ _ _ _ _ _ _ _ _ _ _ _ _ _ _ _ _ _ _ _ _ _ _ _ _ _ _ _ _ _ _ _ _ _ _ _ _ _ _ _ hv'
  · exact heap_alloc_new w _
  · rw [World.cell?_alloc_lt _ _ a hal]; exact ha
  · rw [World.cell?_alloc_lt _ _ t htl]; exact ht
  · rw [World.frozen?_alloc_old _ _ t (Nat.ne_of_lt htl)]; exact hf
  · intros
    go_wp2
    go_ret
    exact ⟨rfl, rfl⟩
end Go.Proofs.YtkkgimhjjhhkjaaDoor
