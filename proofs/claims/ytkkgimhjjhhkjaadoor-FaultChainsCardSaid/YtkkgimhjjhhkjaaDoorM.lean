/- errors.As, at the two kinds of targets: what the pure evaluator asks of it. -/
import Derived.Test.YtkkgimhjjhhkjaaDoorL
namespace Go.Proofs.YtkkgimhjjhhkjaaDoor
open Go Go.Pev
theorem as_keep3 (w : World) (o1 o2 o3 : Obj) : KeepS (fun _ => False) w (((w.alloc o1).alloc o2).alloc o3) :=
  ((KeepS.alloc _ _).trans2 (KeepS.alloc _ _) (fun _ _ h => h)).trans2 (KeepS.alloc _ _) (fun _ _ h => h)
theorem as_keep4 (w : World) (o1 o2 o3 o4 : Obj) (b : Nat) (v : Value) : KeepS (fun k => k = b) w (((((w.alloc o1).alloc o2).alloc o3).alloc o4).setCell ⟨b, 0, none⟩ v) :=
  (((as_keep3 w o1 o2 o3).trans2 (KeepS.alloc _ o4) (fun _ _ h => h)).mono fun _ _ h => h.elim).trans2 (KeepS.setCell _ ⟨b, 0, none⟩ v) (fun _ _ h => h)
theorem as_at4 (w : World) (o1 o2 o3 o4 : Obj) (b : Nat) (v old : Value) (u : TypeId) (h : w.heap[b]? = some (.cells #[old] u (0, 0))) : (((((w.alloc o1).alloc o2).alloc o3).alloc o4).setCell ⟨b, 0, none⟩ v).heap[b]? = some (.cells #[v] u (0, 0)) := by
  have hlt : b < w.heap.size := by
    rcases Nat.lt_or_ge b w.heap.size with h' | h'
    · exact h'
    · rw [Array.getElem?_eq_none h'] at h; cases h
  refine one_setCell (v := old) ?_
  rw [((as_keep3 w o1 o2 o3).trans2 (KeepS.alloc _ o4) (fun _ _ h => h)).block b hlt (fun h => h)]
  exact h

theorem asOk (specs : List (Nat × Pev.CSpec)) : AsOk Tryd.prog (tabsG specs) where
  enter := enter Tryd.func10 (by kernel_rfl) (by kernel_rfl)
  calls := by
    intro M w e v t b u old r hglob hM hb hR hs
    have hg : w.cell? ⟨0, 0, none⟩ = some (.iface 81 (desc 25)) := GV.cell (hglob _ (List.mem_cons_self ..)).1 0
    have ht : w.cell? ⟨b, 0, none⟩ = some old := by simp [World.cell?, hb]
    have hf : w.frozen? ⟨b, 0, none⟩ = false := by simp [World.frozen?, hb]
    have hR : Rob M w (fun w => ErrV cfg w e v) := hR.imp fun w' h => by
      have e1 := ErrV_glob (C := cfg) (g := globG) (w := w') e v
      exact e1 ▸ h
    unfold asSem at hs
    cases h87 : Nat.beq t (tabsG specs).asPtr with
    | true =>
      obtain rfl : t = 35 := Nat.eq_of_beq_eq_true h87
      rw [h87] at hs
      dsimp only at hs
      match e, hs with
      | none, hs =>
        obtain rfl := Option.some.inj hs
        obtain rfl : v = .nilIface := hR.now
        exact (as52_nil _ w).mono fun ev w' ⟨h1, h2⟩ => ⟨h1, h2 ▸ KeepS.refl _ _⟩
      | some ([], n), hs =>
        obtain rfl := Option.some.inj hs
        obtain rfl : v = .iface 26 (.int .i64 n) := hR.now
        exact (as52_miss n ⟨b, 0, none⟩ w hg).mono fun ev w' ⟨h1, h2⟩ => ⟨h1, h2 ▸ as_keep3 w _ _ _⟩
      | some (p :: ps, n), hs =>
        obtain rfl := Option.some.inj hs
        obtain ⟨b', u', hv, h1, h2, h3, h4⟩ := Rob.fault hR
        obtain rfl : v = .iface 31 (.pointer (some ⟨b', 0, none⟩)) := hv
        refine (as52_hit ⟨b', 0, none⟩ ⟨b, 0, none⟩ old w hg ht hf).mono fun ev w' ⟨q1, q2⟩ => ⟨q1, q2 ▸ as_keep4 w _ _ _ _ b _, _, q2 ▸ as_at4 w _ _ _ _ b _ old u hb, ?_⟩
        have hk : KeepS M w w' := (q2 ▸ as_keep4 w _ _ _ _ b _ : KeepS (fun k => k = b) w w').mono fun k _ e => e ▸ hM
        refine (LR_glob (C := cfg) (g := globG) (AV.elt FSh (p, some (ps, n)) 0) _).mpr ?_
        exact Rob.elt (C := cfg) ((hk.block b' h3 h2).trans h1) h2 (Nat.lt_of_lt_of_le h3 hk.size) (h4.step hk fun _ h _ => h)
    | false =>
      rw [h87] at hs
      dsimp only at hs
      cases h90 : Nat.beq t (tabsG specs).asNum with
      | false => rw [h90] at hs; cases hs
      | true =>
        obtain rfl : t = 33 := Nat.eq_of_beq_eq_true h90
        rw [h90] at hs
        dsimp only at hs
        match e, hs with
        | none, hs =>
          obtain rfl := Option.some.inj hs
          obtain rfl : v = .nilIface := hR.now
          exact (as52_nil _ w).mono fun ev w' ⟨h1, h2⟩ => ⟨h1, h2 ▸ KeepS.refl _ _⟩
        | some (ps, n), hs =>
          obtain rfl := Option.some.inj hs
          have hR' : Rob (fun _ => False) w (fun w => ErrAt cfg w ps n v) := hR.step (KeepS.refl M w) fun _ h _ => h.elim
          exact (as52_errno ps n v ⟨b, 0, none⟩ old w hg hR' ht hf).mono fun ev w' ⟨q1, q2⟩ => ⟨q1, q2 ▸ as_keep4 w _ _ _ _ b _, _, q2 ▸ as_at4 w _ _ _ _ b _ old u hb, rfl⟩
end Go.Proofs.YtkkgimhjjhhkjaaDoor
