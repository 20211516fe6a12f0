/- Chapter 3, plain: EventKeeps. -/
import Derived.Test.YtkkgimhjjhhkjaaGreatDoorMf
import Derived.Test.YtkkgimhjjhhkjaaGreatDoorGd
set_option maxRecDepth 100000
namespace Go.Proofs.YtkkgimhjjhhkjaaGreatDoor
open Go Go.Pev
theorem setN_is (l : Ev) (n : ByteArray) (v : V) (hl : l.length ≤ 1000) (H : List Pev.Node) : setN l n v [] H = some ((setR l n v).1, (setR l n v).2, H) := event_Set_is l n v hl H
theorem dropN_is (l : Ev) (n : ByteArray) (hl : l.length ≤ 1000) (H : List Pev.Node) : dropN l n [] H = some ((dropR l n).1, (dropR l n).2, H) := event_Drop_is l n hl H
theorem twinN_is (l : Ev) (hl : l.length ≤ 1000) (H : List Pev.Node) : twinN l [] H = some (l, H) := by
  unfold twinN twinN_t
  exact (fn_t (appLim_ok (by omega))).trans rfl
abbrev dfl : ByteArray × V := (ByteArray.mk #[], 0, 0, ByteArray.mk #[], false)
def spoil (s : Nat × Ev) : Nat × Ev := (s.1 + 1, s.2.set s.1 (ByteArray.mk #[115, 112, 111, 105, 108, 116], (getI s.2 (s.1 : Int) dfl).2))
theorem keeps_l0 (l W full A B D : Ev) (k : Nat) (H : List Pev.Node) (hA : A.length ≤ 1000) : ∃ A', A'.length = A.length ∧ law03_EventKeeps_l0 (l, k, W, Int.ofNat A.length, 0, full, A, B, D, [], H, ()) = some (l, k, W, full, A', B, D, [], H, ()) := by
  have := foldE_runI (bd := law03_EventKeeps_b0) A (by omega) (fun i (s : Nat × Ev) => (l, k, W, Int.ofNat A.length, (i : Int), full, s.2, B, D, [], H, ())) (fun s _ => .inl (spoil s)) (fun s => (l, k, W, full, s.2, B, D, [], H, ())) (fun i s => s.1 = i ∧ s.2.length = A.length)
    (fun i hi s g hs => by
      obtain ⟨j, s⟩ := s
      obtain ⟨h1, h2⟩ := hs
      have h1 : j = i := h1
      have h2 : s.length = A.length := h2
      subst h1
      have hj : j < s.length := by omega
      refine (rn_t (dlt hi)).trans ((rn_t dge0).trans ((rn_t (dlt hj)).trans ((rn_t dge0).trans ((rn_t (dlt hj)).trans ?_))))
      rw [wsucc (by omega), Int.toNat_natCast]
      rfl)
    (fun i hi s t hs h => by
      obtain rfl := Sum.inl.inj h
      obtain ⟨h1, h2⟩ := hs
      exact ⟨by show s.1 + 1 = i + 1; omega, by show (s.2.set _ _).length = _; rw [List.length_set, h2]⟩)
    (fun s g hs => rn_out.trans rfl) (0, A) ⟨rfl, rfl⟩
  rw [foldE_inl] at this
  refine ⟨_, ?_, this⟩
  have key : ∀ (m : Ev) (s : Nat × Ev), (m.foldl (fun s _ => spoil s) s).2.length = s.2.length := by
    intro m
    induction m with
    | nil => intro s; rfl
    | cons a m ih => intro s; rw [List.foldl_cons, ih]; exact List.length_set
  exact key A (0, A)
theorem keeps_l1 (l W full A B D : Ev) (k : Nat) (H : List Pev.Node) (hD : D.length ≤ 1000) : ∃ D', D'.length = D.length ∧ law03_EventKeeps_l1 (l, k, W, Int.ofNat D.length, 0, full, A, B, D, [], H, ()) = some (l, k, W, full, A, B, D', [], H, ()) := by
  have := foldE_runI (bd := law03_EventKeeps_b1) D (by omega) (fun i (s : Nat × Ev) => (l, k, W, Int.ofNat D.length, (i : Int), full, A, B, s.2, [], H, ())) (fun s _ => .inl (spoil s)) (fun s => (l, k, W, full, A, B, s.2, [], H, ())) (fun i s => s.1 = i ∧ s.2.length = D.length)
    (fun i hi s g hs => by
      obtain ⟨j, s⟩ := s
      obtain ⟨h1, h2⟩ := hs
      have h1 : j = i := h1
      have h2 : s.length = D.length := h2
      subst h1
      have hj : j < s.length := by omega
      refine (rn_t (dlt hi)).trans ((rn_t dge0).trans ((rn_t (dlt hj)).trans ((rn_t dge0).trans ((rn_t (dlt hj)).trans ?_))))
      rw [wsucc (by omega), Int.toNat_natCast]
      rfl)
    (fun i hi s t hs h => by
      obtain rfl := Sum.inl.inj h
      obtain ⟨h1, h2⟩ := hs
      exact ⟨by show s.1 + 1 = i + 1; omega, by show (s.2.set _ _).length = _; rw [List.length_set, h2]⟩)
    (fun s g hs => rn_out.trans rfl) (0, D) ⟨rfl, rfl⟩
  rw [foldE_inl] at this
  refine ⟨_, ?_, this⟩
  have key : ∀ (m : Ev) (s : Nat × Ev), (m.foldl (fun s _ => spoil s) s).2.length = s.2.length := by
    intro m
    induction m with
    | nil => intro s; rfl
    | cons a m ih => intro s; rw [List.foldl_cons, ih]; exact List.length_set
  exact key D (0, D)
theorem eventKeeps_true (l : Ev) (n : ByteArray) (v : V) (H : List Pev.Node) : law03_EventKeeps l n v [] H = some (true, H) := by
  unfold law03_EventKeeps law03_EventKeeps_t
  by_cases hl : l.length ≤ 100
  · refine (fn_f (decide_eq_false (by simp only [Int.ofNat_eq_natCast]; omega))).trans ((fn_o (twinN_is l (by omega) H)).trans ?_)
    have hk : (Int.ofNat l.length).toNat = l.length := Int.toNat_natCast _
    rw [hk]
    obtain ⟨full, hfull⟩ : ∃ full : Ev, full = l ++ [(ByteArray.mk #[109, 97, 114, 107], 0, 0, ByteArray.mk #[], false)] := ⟨_, rfl⟩
    have hfl : full.length = l.length + 1 := by rw [hfull]; simp
    have hft : full.take l.length = l := by rw [hfull]; exact List.take_left' rfl
    have hfg : getI full (l.length : Int) dfl = (ByteArray.mk #[109, 97, 114, 107], 0, 0, ByteArray.mk #[], false) := by
      rw [getI_lt (by omega)]
      simp [hfull]
    have hset := setN_is l n v (by omega) H
    have hsl := set_len (l := l) (n := n) (v := v)
    have hdl := drop_len (l := l) (n := n)
    simp only [← hfull]
    refine (fn_t (appLim_ok (by omega))).trans ((fn_t (decide_eq_true (by simp only [Int.ofNat_eq_natCast]; omega))).trans ((fn_t (decide_eq_true (by omega))).trans ?_))
    rw [hft]
    refine (fn_o hset).trans ((fn_t (decide_eq_true (by omega))).trans ((fn_o hset).trans ((fn_t (decide_eq_true (by omega))).trans ((fn_o (dropN_is l n (by omega) H)).trans ((fn_o (DocSet_is l n v (by omega))).trans ?_)))))
    obtain ⟨A', a1, a2⟩ := keeps_l0 l (setR l n v).1 full (setR l n v).1 (setR l n v).1 (dropR l n).1 l.length H (by omega)
    refine (fn_o a2).trans ?_
    obtain ⟨D', d1, d2⟩ := keeps_l1 l (setR l n v).1 full A' (setR l n v).1 (dropR l n).1 l.length H (by omega)
    refine (fn_o d2).trans ?_
    refine (fn_t (appLim_ok (by show (A'.length + 1) * 56 ≤ _; omega))).trans ((fn_t (appLim_ok (by show (D'.length + 1) * 56 ≤ _; omega))).trans ((fn_t (decide_eq_true (by show l.length ≤ full.length; omega))).trans ?_))
    refine (fn_o (a := true) (by show ref03_Same (full.take l.length) l = some true; rw [hft]; exact ref03_Same_self l (by omega))).trans ((fn_t rfl).trans ((fn_t (decide_eq_true (by show Int.ofNat l.length < Int.ofNat full.length; simp only [Int.ofNat_eq_natCast]; omega))).trans ?_))
    refine (fn_t (by show (ByteArray.toList (getI full (l.length : Int) dfl).fst == _) = true; rw [hfg]; exact beq_self_l _)).trans ?_
    refine (fn_o (ref03_Same_self (setR l n v).1 (by omega))).trans ((fn_t rfl).trans ?_)
    have hend : decide (IntKind.i64.wrap (Int.ofNat (A' ++ [dfl]).length + Int.ofNat (D' ++ [dfl]).length) > 1) = true := by
      refine decide_eq_true ?_
      simp only [Int.ofNat_eq_natCast, List.length_append, List.length_cons, List.length_nil]
      rw [i64_wrap _ (by omega) (by omega)]
      omega
    show some (decide (IntKind.i64.wrap (Int.ofNat (A' ++ [dfl]).length + Int.ofNat (D' ++ [dfl]).length) > 1), H) = _
    rw [hend]
  · exact (fn_t (decide_eq_true (by simp only [Int.ofNat_eq_natCast]; omega))).trans rfl
theorem eventKeeps_law (l : Ev) (n : ByteArray) (v : V) : ∃ H, law03_EventKeeps l n v [] [] = some (true, H) := ⟨[], eventKeeps_true l n v []⟩
end Go.Proofs.YtkkgimhjjhhkjaaGreatDoor
