/- Chapter 21, plain: LedgerRuns answers true. -/
import Derived.Test.YtldkdhfcbopbhaaGreatDoorNe
set_option maxRecDepth 100000
namespace Go.Proofs.YtldkdhfcbopbhaaGreatDoor
open Go Go.Pev
theorem fails_is {e : Err} {n : Nat} (h : few2 n e) (hn : n ≤ 100) : law21_fails e (toE e) = some true := by
  have h1 : (tellE e).2.1.length ≤ n := h
  unfold law21_fails law21_fails_t
  refine (fn_o (of_is e (by omega))).trans ((fn_o (same_is _ _ (by omega))).trans ?_)
  rw [tell_is, decide_eq_true rfl]; rfl
theorem few_mono {e : Err} {n k : Nat} (h : few2 n e) (hk : n ≤ k) : few2 k e := Nat.le_trans h hk
theorem evck_is (x : Ev) (hx : x.length ≤ 1000000) : few2 1 (ckEv x) ∧ (ckEv x = none → x.length ≤ 16 ∧ Rise (nms x)) := by
  obtain ⟨c, h1, h2, h3⟩ := check_ok x
  rw [event_Check_is x hx] at h1
  cases h1
  exact ⟨h2, h3⟩
theorem fcheck_is (f : Fil) : few2 0 (ckF f) ∧ (ckF f = none → f.2.length ≤ 16) := by
  unfold ckF
  by_cases h : f.2.length > 16
  · rw [if_pos h]; exact ⟨Nat.le_refl _, fun c => by cases c⟩
  · rw [if_neg h]
    split
    · exact ⟨Nat.le_refl _, fun _ => by omega⟩
    · exact ⟨Nat.le_refl _, fun c => by cases c⟩
theorem few_acc {A : PL} {a b : Int} {x : Ev} {c : Err} (h : few2 1 c) : few2 1 (acceptP A a b x c).2.2 := by
  unfold acceptP
  split
  · cases c with
    | some v => exact h
    | none => dsimp only; split <;> exact Nat.zero_le _
  · exact Nat.zero_le _
theorem few_opn {A : PL} {id : Int} {f : Fil} {c : Err} (h : few2 0 c) : few2 0 (openP A id f c).2 := by
  unfold openP
  split
  · exact Nat.le_refl _
  · cases c with
    | some v => exact h
    | none =>
      dsimp only
      cases A.sub id with
      | some p => exact Nat.le_refl _
      | none => dsimp only; split <;> exact Nat.le_refl _
theorem few_cls {A : PL} {id : Int} : few2 0 (closeP A id).2 := by
  unfold closeP
  cases liveP A id <;> exact Nat.le_refl _
theorem few_giv {A : PL} {id a b x : Int} : few2 0 (giveP A id a b x).2 := by
  unfold giveP
  cases liveP A id with
  | none => exact Nat.le_refl _
  | some p =>
    dsimp only
    split
    · split
      · split <;> exact Nat.le_refl _
      · exact Nat.le_refl _
    · exact Nat.le_refl _
theorem few_due {A : PL} {id a b : Int} : few2 0 (dueP A id a b).2 := by
  unfold dueP
  cases liveP A id with
  | none => exact Nat.le_refl _
  | some p => dsimp only; split <;> exact Nat.le_refl _
theorem due_len {A : PL} {id a b : Int} : (dueP A id a b).1.length ≤ (A.ev (a, b)).length := by
  unfold dueP
  cases liveP A id with
  | none => exact Nat.zero_le _
  | some p =>
    dsimp only
    split
    · exact mtP_len _ _ _ _
    · exact Nat.zero_le _
theorem ints_self (l : List Int) (hl : l.length ≤ 1000000) : ref01_Ints l l = some true := by
  unfold ref01_Ints ref01_Ints_t
  refine (fn_f (by simp)).trans ?_
  have := foldE_run (bd := ref01_Ints_b0) l (by omega) (fun i (_ : Unit) => (l, l, Int.ofNat l.length, (i : Int), ())) (fun _ _ => .inl ()) (fun _ => .inr ())
    (fun i hi p g => by
      refine (rn_in hi).trans ((rn_t dge0).trans ((rn_t (dlt hi)).trans ((rn_f (by simp)).trans ?_)))
      rw [wsucc (by omega)]; rfl)
    (fun s g => rn_out.trans rfl) ()
  rw [foldE_fold (fun _ _ => ()) (fun _ _ => rfl)] at this
  exact (fn_o this).trans rfl
/-- Both stand alike behind so many calls. -/
structure Both (n : Nat) (i : Nat) (m : RLed) (H : List Pev.Node) : Prop where
  ex : ∃ A own, Led H n A own ∧ Rel A m ∧ Good A i
  gl : m.2.2.length ≤ i
theorem step_is {n i : Nat} {m : RLed} {H : List Pev.Node} (h : Both n i m H) (hi : i ≤ 500) (o : Op21) (ho : smallO o) : ∃ m' H', law21_step (some n) m o [] H = some (m', true, H') ∧ Both n (i + 1) m' H' := by
  obtain ⟨⟨A, own, hl, hr, hg⟩, hgl⟩ := h
  have g1 := hg.cnt
  have g2 := hg.ns
  obtain ⟨k, sb, nd, pb, ix, x, f⟩ := o
  have hx : x.length ≤ 50 := ho.1
  have hf : f.2.length ≤ 50 := ho.2
  unfold law21_step law21_step_t
  by_cases k0 : k = 0
  · have hc := evck_is x (by omega)
    obtain ⟨K, own', w1, w2, _⟩ := accept_all hl hg.small nd pb x (ckEv x) (event_Check_is x (by omega)) (fun c => (hc.2 c).1) (by omega)
    obtain ⟨m', w3, w4, w5⟩ := hr.accept nd pb x (by omega) (by omega)
    refine ⟨m', K, ?_, ⟨_, own', w2, w4, hg.accept nd pb x _ hc.2⟩, by rw [w5]; omega⟩
    refine (fn_t (by simp [k0])).trans ((fn_o (twin_is x (by omega))).trans ((fn_o w1).trans ((fn_o w3).trans ((fn_t (by simp)).trans ((fn_o (fails_is (few_acc hc.1) (by omega))).trans rfl)))))
  · refine Exists.imp (fun m' => Exists.imp fun H' => And.imp_left fun h => (fn_f (by simpa using k0)).trans h) ?_
    by_cases k1 : k = 1
    · have hc := fcheck_is f
      obtain ⟨K, own', w1, w2, _⟩ := open_all hl sb f (ckF f) (filter_Check_is f) hc.2 (by omega) (by omega)
      obtain ⟨m', w3, w4, w5⟩ := hr.open_ sb f (by omega) (by omega) (by omega)
      refine ⟨m', K, ?_, ⟨_, own', w2, w4, hg.open_ sb f _ hc.2⟩, by rw [w5]; omega⟩
      exact (fn_t (by simp [k1])).trans ((fn_o (ftwin_is f (by omega))).trans ((fn_o w1).trans ((fn_o w3).trans ((fn_o (fails_is (few_opn hc.1) (by omega))).trans rfl))))
    · refine Exists.imp (fun m' => Exists.imp fun H' => And.imp_left fun h => (fn_f (by simpa using k1)).trans h) ?_
      by_cases k2 : k = 2
      · obtain ⟨e, s, E, S, hx'⟩ := hl
        obtain ⟨K, w1, w2, _⟩ := close_is hx' sb
        obtain ⟨m', w3, w4, w5⟩ := hr.close sb (by omega)
        refine ⟨m', K, ?_, ⟨_, own, w2, w4, hg.close sb⟩, by rw [w5]; omega⟩
        exact (fn_t (by simp [k2])).trans ((fn_o w1).trans ((fn_o w3).trans ((fn_o (fails_is few_cls (by omega))).trans rfl)))
      · refine Exists.imp (fun m' => Exists.imp fun H' => And.imp_left fun h => (fn_f (by simpa using k2)).trans h) ?_
        by_cases k3 : k = 3
        · obtain ⟨e, s, E, S, hx'⟩ := hl
          have := hg.small.ev (nd, pb)
          obtain ⟨K, w1, w2, _⟩ := give_is hx' hg.means sb nd pb ix (by omega)
          obtain ⟨m', w3, w4, w5⟩ := hr.give hg (by omega) (by omega) sb nd pb ix
          refine ⟨m', K, ?_, ⟨_, own, w2, w4, hg.give sb nd pb ix⟩, by omega⟩
          exact (fn_t (by simp [k3])).trans ((fn_o w1).trans ((fn_o w3).trans ((fn_o (fails_is few_giv (by omega))).trans rfl)))
        · refine Exists.imp (fun m' => Exists.imp fun H' => And.imp_left fun h => (fn_f (by simpa using k3)).trans h) ?_
          have hl0 := hl
          obtain ⟨e, s, E, S, hx'⟩ := hl
          have := hg.small.ev (nd, pb)
          have hc := hr.cnt
          have w1 := due_is hx' hg.means sb nd pb (by omega)
          have w3 := hr.due hg (by omega) (by omega) sb nd pb
          refine ⟨m, H, ?_, ⟨A, own, hl0, hr, hg.next⟩, by omega⟩
          have hd := due_len (A := A) (id := sb) (a := nd) (b := pb)
          refine (fn_o w1).trans ((fn_o w3).trans ((fn_o (ints_self (dueP A sb nd pb).1 (by omega))).trans ((fn_t rfl).trans ((fn_o (fails_is few_due (by omega))).trans ((fn_t rfl).trans ((fn_o (count_is hx' nd pb)).trans ((fn_o (Count_is m.1 nd pb (by omega))).trans ?_)))))))
          rw [LT.fin_ret, hr.len]; simp
theorem runs_loop {n : Nat} (ops : List Op21) (hl : ops.length ≤ 100) (ho : ∀ o ∈ ops, smallO o) : ∀ (f i : Nat) (m : RLed) (H : List Pev.Node), i ≤ ops.length → ops.length - i < f → Both n i m H →
    ∃ H', LT.loop law21_LedgerRuns_b0 f (some n, ops, Int.ofNat ops.length, (i : Int), m.1, m.2.1, m.2.2, [], H, ()) = some (.inr ([], H', ()))
  | 0, _, _, _, _, h, _ => by omega
  | f + 1, i, m, H, h1, h2, h3 => by
    rw [LT.loop_succ]
    by_cases hi : i < ops.length
    · obtain ⟨m', H', w1, w2⟩ := step_is h3 (by omega) ops[i] (ho _ (List.getElem_mem hi))
      obtain ⟨H2, w3⟩ := runs_loop ops hl ho f (i + 1) m' H' (by omega) (by omega) w2
      refine ⟨H2, (rn_in hi).trans ?_⟩
      rw [getI_lt hi, wsucc (by omega)]
      exact (rn_o w1).trans ((rn_f rfl).trans w3)
    · have : i = ops.length := by omega
      subst this
      exact ⟨H, rn_out.trans rfl⟩
theorem new_at (H : List Pev.Node) : ∃ own, Led (H ++ [ndEv []] ++ [ndSub []] ++ [ndL H.length 0 (H ++ [ndEv []]).length]) (H ++ [ndEv []] ++ [ndSub []]).length noP own := by
  obtain ⟨K, n, own, h1, h2, _, _, h5⟩ := new_is H
  have e : ledger_New [] H = some (some (H ++ [ndEv []] ++ [ndSub []]).length, H ++ [ndEv []] ++ [ndSub []] ++ [ndL H.length 0 (H ++ [ndEv []]).length]) := rfl
  rw [e] at h1
  obtain ⟨rfl, rfl⟩ : (H ++ [ndEv []] ++ [ndSub []]).length = n ∧ H ++ [ndEv []] ++ [ndSub []] ++ [ndL H.length 0 (H ++ [ndEv []]).length] = K := by
    have := Option.some.inj h1
    exact ⟨Option.some.inj (congrArg (·.1) this), congrArg (·.2) this⟩
  exact ⟨own, h2⟩
theorem runs_true (ops : List Op21) (hl : ops.length ≤ 9223372036854775807) : ∃ H, law21_LedgerRuns ops [] [] = some (true, H) := by
  obtain ⟨fb, hf1, hf2⟩ := few_ok ops hl
  unfold law21_LedgerRuns law21_LedgerRuns_t
  cases fb with
  | false =>
    exact ⟨exH5, (fn_o awake_is).trans ((fn_f rfl).trans ((fn_o hf1).trans ((fn_t rfl).trans rfl)))⟩
  | true =>
    obtain ⟨hlen, hsm⟩ := hf2 rfl
    obtain ⟨own, hl⟩ := new_at exH5
    obtain ⟨H', w⟩ := runs_loop ops hlen hsm FUEL 0 ([], [], []) _ (Nat.zero_le _) (by rw [fuel_is]; omega) ⟨⟨noP, own, hl, Rel.no, Good.no⟩, Nat.zero_le _⟩
    exact ⟨H', (fn_o awake_is).trans ((fn_f rfl).trans ((fn_o hf1).trans ((fn_f rfl).trans ((fn_o w).trans rfl))))⟩
theorem runs_law (ops : List Op21) (w0 : wfS (.sl shOp) ops) : ∃ H, law21_LedgerRuns ops [] [] = some (true, H) := runs_true ops w0.1
end Go.Proofs.YtldkdhfcbopbhaaGreatDoor
