/- Chapter 21, plain: LedgerApart answers true. -/
import Derived.Test.YtldkdhfcbopbhaaDoorMp
set_option maxRecDepth 100000
namespace Go.Proofs.YtldkdhfcbopbhaaDoor
open Go Go.Pev
theorem ints_loop (l : List Int) (hl : l.length ≤ 1000000) : ∀ (m i : Nat), i ≤ l.length → l.length - i < m → LT.loop ref01_Ints_b0 m (l, l, (l.length : Int), (i : Int), ()) = some (.inr ())
  | 0, _, _, h => by omega
  | m + 1, i, h1, h2 => by
    rw [LT.loop_succ]
    by_cases hi : i < l.length
    · have d0 : decide ((0 : Int) ≤ (i : Int)) = true := decide_eq_true (by omega)
      have d1 : decide ((i : Int) < Int.ofNat l.length) = true := decide_eq_true (by simp only [Int.ofNat_eq_natCast]; omega)
      refine (run_br_t (decide_eq_true (by omega))).trans ((run_br_t d0).trans ((run_br_t d1).trans ((run_br_t d0).trans ((run_br_t d1).trans ((run_br_f (by simp)).trans ?_)))))
      have hw : IntKind.i64.wrap ((i : Int) + 1) = ((i + 1 : Nat) : Int) := by rw [i64_wrap _ (by omega) (by omega)]; omega
      rw [hw]
      exact ints_loop l hl m (i + 1) (by omega) (by omega)
    · exact (run_br_f (decide_eq_false (by omega))).trans rfl
theorem ints_self (l : List Int) (hl : l.length ≤ 1000000) : ref01_Ints l l = some true := by
  unfold ref01_Ints ref01_Ints_t
  refine (fin_br_f (by simp)).trans ?_
  exact (fin_eq (ints_loop l hl FUEL 0 (Nat.zero_le _) (by rw [fuel_is]; omega))).trans rfl
theorem new_at (H : List Pev.Node) : ∃ own, Led (H ++ [ndEv []] ++ [ndSub []] ++ [ndL H.length 0 (H ++ [ndEv []]).length]) (H ++ [ndEv []] ++ [ndSub []]).length noP own ∧ (∀ i, own i ≠ none → H.length ≤ i) := by
  obtain ⟨K, n, own, h1, h2, _, _, h5⟩ := new_is H
  have e : ledger_New [] H = some (some (H ++ [ndEv []] ++ [ndSub []]).length, H ++ [ndEv []] ++ [ndSub []] ++ [ndL H.length 0 (H ++ [ndEv []]).length]) := rfl
  rw [e] at h1
  obtain ⟨rfl, rfl⟩ : (H ++ [ndEv []] ++ [ndSub []]).length = n ∧ H ++ [ndEv []] ++ [ndSub []] ++ [ndL H.length 0 (H ++ [ndEv []]).length] = K := by
    have := Option.some.inj h1
    exact ⟨Option.some.inj (congrArg (·.1) this), congrArg (·.2) this⟩
  exact ⟨own, h2, h5⟩
theorem start_is (H : List Pev.Node) (nd pb sb : Int) : ∃ n n' K, some n = some (H ++ [ndEv []] ++ [ndSub []]).length ∧ K = (H ++ [ndEv []] ++ [ndSub []] ++ [ndL H.length 0 (H ++ [ndEv []]).length]) ∧ n' = (K ++ [ndEv []] ++ [ndSub []]).length ∧ Stand nd pb sb n n' 0 (K ++ [ndEv []] ++ [ndSub []] ++ [ndL K.length 0 (K ++ [ndEv []]).length]) := by
  obtain ⟨o, h1, h2⟩ := new_at H
  obtain ⟨o', h3, h4⟩ := new_at (H ++ [ndEv []] ++ [ndSub []] ++ [ndL H.length 0 (H ++ [ndEv []]).length])
  refine ⟨_, _, _, rfl, rfl, rfl, noP, noP, o, o', ⟨?_, h3, fun z hz => ?_, Good.no, Good.no⟩, Twin.no _ _⟩
  · obtain ⟨e, s, E, S, hr⟩ := h1
    refine ⟨e, s, E, S, hr.frame (fun i hi => ?_) (by simp)⟩
    have hlt := hr.lt i hi
    obtain ⟨x, hx⟩ : ∃ x, (H ++ [ndEv []] ++ [ndSub []] ++ [ndL H.length 0 (H ++ [ndEv []]).length])[i]? = some x := ⟨_, List.getElem?_eq_getElem hlt⟩
    rw [hx]; exact app_lt (app_lt (app_lt hx))
  · cases ho : o z with
    | none => rfl
    | some r =>
      have a1 := h4 z hz
      have a2 := h1.lt z (by rw [ho]; simp)
      omega
theorem few_dueP {A : PL} {id a b : Int} : few2 1 (dueP A id a b).2 := by
  unfold dueP
  cases liveP A id with
  | none => exact Nat.zero_le _
  | some p =>
    dsimp only
    split
    · exact Nat.zero_le _
    · exact Nat.zero_le _
theorem due_len {A : PL} {id a b : Int} : (dueP A id a b).1.length ≤ (A.ev (a, b)).length := by
  unfold dueP
  cases liveP A id with
  | none => exact Nat.zero_le _
  | some p =>
    dsimp only
    split
    · exact mtP_len _ _ _ _
    · exact Nat.zero_le _
theorem apart_true (ops : List Op21) (nd pb sb : Int) (hl : ops.length ≤ 9223372036854775807) : ∃ H, law21_LedgerApart ops nd pb sb [] [] = some (true, H) := by
  have main : Ok (fun r : Bool × List Pev.Node => r.1 = true) (law21_LedgerApart ops nd pb sb [] []) := by
    unfold law21_LedgerApart law21_LedgerApart_t LT.fin
    refine ok_opt (R := fun r => r = (true, exH5)) ⟨_, awake_is, rfl⟩ fun r hr => ?_
    subst hr
    refine ok_f rfl ?_
    refine ok_opt (few_ok ops hl) fun fb hfb => ok_br (fun _ => ok_ret (ok_some rfl)) (fun hb => ?_)
    have hfew := hfb (by simpa using hb)
    obtain ⟨n, n', K, e1, e2, e3, hst⟩ := start_is exH5 nd pb sb
    obtain rfl := Option.some.inj e1
    subst e3 e2
    refine ok_opt (apart_loop ops hfew.1 nd pb sb _ _ FUEL 0 _ (Nat.zero_le _) (by rw [fuel_is]; have := hfew.1; omega) hst) fun q hq => ?_
    cases q with
    | inl e => exact hq.elim
    | inr u =>
      obtain ⟨b1, b2, b3, b9, b10, lk, K, ⟨⟩⟩ := u
      obtain ⟨rfl, rfl, rfl, rfl, rfl, rfl, A, B, w, w', t1, t2⟩ := hq
      obtain ⟨_, _, _, _, hA⟩ := t1.l
      obtain ⟨_, _, _, _, hB⟩ := t1.one
      have c1 := t1.gA.small.ev (b1, b2)
      have c2 := t1.gA.cnt
      have c3 := t1.gB.small.ev (b1, b2)
      have c4 := t1.gB.cnt
      have c5 := hfew.1
      refine ok_opt (R := fun r => r = _) ⟨_, due_is hA t1.gA.means b3 b1 b2 (by omega), rfl⟩ fun r hr => ?_
      subst hr
      refine ok_opt (R := fun r => r = _) ⟨_, due_is hB t1.gB.means b3 b1 b2 (by omega), rfl⟩ fun r hr => ?_
      subst hr
      rw [← t2.due]
      have dl := due_len (A := A) (id := b3) (a := b1) (b := b2)
      refine ok_opt (R := fun r => r = true) ⟨_, ints_self (dueP A b3 b1 b2).1 (by omega), rfl⟩ fun r hr => ?_
      subst hr
      refine ok_t rfl ?_
      refine ok_same rfl few_dueP ?_
      refine ok_t rfl ?_
      refine ok_opt (R := fun r => r = _) ⟨_, count_is hA b1 b2, rfl⟩ fun r hr => ?_
      subst hr
      refine ok_opt (R := fun r => r = _) ⟨_, count_is hB b1 b2, rfl⟩ fun r hr => ?_
      subst hr
      refine ok_ret (ok_some ?_)
      show (((A.ev (b1, b2)).length : Int) == ((B.ev (b1, b2)).length : Int)) = true
      rw [t2.ev]; simp
  obtain ⟨⟨b, H⟩, h1, h2⟩ := main
  have h2 : b = true := h2
  subst h2
  exact ⟨H, h1⟩
theorem apart_law (x0 : List Op21) (w0 : wfS (.sl shOp) x0) (x1 x2 x3 : Int) : ∃ H, law21_LedgerApart x0 x1 x2 x3 [] [] = some (true, H) :=
  apart_true x0 x1 x2 x3 (Nat.le_trans w0.1 (of_decide_eq_true rfl))
end Go.Proofs.YtldkdhfcbopbhaaDoor
