/- Chapter 21, plain: Give. -/
import Derived.Test.YtldkdhfcbopbhaaGreatDoorMf
set_option maxRecDepth 100000
namespace Go.Proofs.YtldkdhfcbopbhaaGreatDoor
open Go Go.Pev
noncomputable def earlyP (p : PSub) (k : K21) (l : List Ev) (i : Int) : Bool := (p.nx k).isNone && decide (i < p.bg k) && mB p.f (getI l i [])
def firstP (due : List Int) (i : Int) : Bool := match due with
  | [] => false
  | d :: _ => d == i
def nxP (p : PSub) (k : K21) (i : Int) : PSub := { p with nx := fun z => if z = k then some i else p.nx z }
noncomputable def giveP (A : PL) (id a b i : Int) : PL × Err := match liveP A id with
  | none => (A, eN 10)
  | some p => if rightB a b = true then (if 0 ≤ i ∧ i < ((A.ev (a, b)).length : Int) then
      (if (earlyP p (a, b) (A.ev (a, b)) i || firstP (mtP p.f (atP p (a, b)) 0 (A.ev (a, b))) i) = true then (upS A id (nxP p (a, b) (IntKind.i64.wrap (i + 1))), none) else (A, eN 20)) else (A, eN 10)) else (A, eN 1)
section
variable {H : List Pev.Node} {n e s : Nat} {E : List (K21 × Option Nat)} {S : List (Int × Option Nat)} {own : Nat → Option Rl} {A : PL}
theorem store_is {id : Int} {q : Nat} {p : PSub} {b x : Nat} {B X : List (K21 × Int)} (h : SubX H own id q p b x B X) (k : K21) (v : Int) :
    (LT.fin (.br (Option.isSome (some q)) (.br (Option.isSome (some q)) (.opt (getBox 90 shSub H (Option.getD (some q) 0)) fun _ => (.opt (getBox 90 shSub H (Option.getD (some q) 0)) fun (z : shSub.T) => (.br (Option.isSome z.snd.snd.fst) (.br (wrOk [] [] (Option.getD z.snd.snd.fst 0)) (.opt (getMap true false shFrom (.int .i64) H (Option.getD z.snd.snd.fst 0)) fun (m : List (K21 × Int)) => (.ret (none, List.set H (Option.getD z.snd.snd.fst 0) (.map true false shFrom (.int .i64) (putL shFrom (.int .i64) k v m))))) .fail) .fail))) .fail) .fail) : Option (Err × List Pev.Node)) =
      some (none, H.set x (ndNum (putL shFrom (.int .i64) k v X))) :=
  (fin_br_t rfl).trans ((fin_br_t rfl).trans ((fin_eq (getBox_at h.hq)).trans ((fin_eq (getBox_at h.hq)).trans ((fin_br_t rfl).trans ((fin_br_t wrOk_nil).trans ((fin_eq (getMap_at h.hx)).trans rfl))))))
theorem check_is {Q : Type} (due : List Int) (i : Int) (r : Q) (Y : FT Q) (y : Q) (hy : Y.fin = some y) :
    (LT.fin (.br (Int.ofNat due.length == 0) (.ret r) (.br (decide (0 < Int.ofNat due.length)) (.br (getI due 0 0 != i) (.ret r) Y) .fail)) : Option Q) = some (if firstP due i = true then y else r) := by
  cases due with
  | nil => exact (fin_br_t rfl).trans rfl
  | cons d due =>
    refine (fin_br_f (by simp only [List.length_cons, Int.ofNat_eq_natCast, beq_eq_false_iff_ne]; omega)).trans ((fin_br_t (decide_eq_true (by simp only [List.length_cons, Int.ofNat_eq_natCast]; omega))).trans ?_)
    have hg : getI (d :: due) 0 0 = d := rfl
    rw [hg]
    unfold firstP
    by_cases h : d = i
    · subst h
      refine (fin_br_f (by simp)).trans ?_
      rw [hy]; simp
    · refine (fin_br_t (by simpa using h)).trans ?_
      rw [LT.fin_ret]; simp [h]
theorem give_is (h : RepX H n e s E S own A) (hM : MeansOk A) (id a b i : Int) (hl : (A.ev (a, b)).length ≤ 1000000) : ∃ K, ledger_Ledger_Give (some n) id a b i [] H = some ((giveP A id a b i).2, K) ∧ Led K n (giveP A id a b i).1 own ∧ Ext H own K own := by
  have stay : Led H n A own ∧ Ext H own H own := ⟨⟨e, s, E, S, h⟩, Ext.refl _ _⟩
  have hd := due_is h hM id a b hl
  unfold ledger_Ledger_Give giveP
  rcases open_live h id with ⟨p, q, b', x, B, X, h0, h1, h2, h3, h4, h5⟩ | ⟨h0, h5⟩
  · rw [h0]
    simp only []
    have hdue : dueP A id a b = if rightB a b = true then (mtP p.f (atP p (a, b)) 0 (A.ev (a, b)), none) else ([], eN 1) := by unfold dueP; rw [h0]
    cases hr : rightB a b with
    | false => 
      refine ⟨H, ?_, stay⟩
      unfold ledger_Ledger_Give_t
      exact (fin_eq h5).trans ((fin_br_f rfl).trans ((fin_eq (right_is a b)).trans ((fin_br_t (by rw [hr]; rfl)).trans rfl)))
    | true =>
      rw [hr, if_pos rfl] at hdue
      rw [hdue] at hd
      rw [if_pos rfl]
      by_cases hi : 0 ≤ i ∧ i < ((A.ev (a, b)).length : Int)
      · rw [if_pos hi]
        have hev : (A.ev (a, b)) ≠ [] := fun c => by rw [c] at hi; simp at hi; omega
        obtain ⟨m, r1, r2⟩ : ∃ m, lkE (a, b) E = some (some m) ∧ H[m]? = some (ndRow (A.ev (a, b))) := by
          rcases row_of h (a, b) with ⟨_, c⟩ | ⟨m, r1, _, r2⟩
          · exact absurd c hev
          · exact ⟨m, r1, r2⟩
        have d0 : decide (i < 0) = false := decide_eq_false (by omega)
        have d1 : decide (0 ≤ i) = true := decide_eq_true hi.1
        have d2 : decide (i < Int.ofNat (A.ev (a, b)).length) = true := decide_eq_true hi.2
        have d3 : decide (i ≥ Int.ofNat (A.ev (a, b)).length) = false := decide_eq_false (by simp only [Int.ofNat_eq_natCast]; omega)
        have hm : filter_Means p.f (getI (A.ev (a, b)) i []) = some (mB p.f (getI (A.ev (a, b)) i [])) := by
          refine hM id p (a, b) h1 _ ?_
          obtain ⟨j, rfl⟩ := Int.eq_ofNat_of_zero_le hi.1
          rw [getI_lt (by omega)]
          exact List.getElem_mem _
        have hst := store_is h4 (a, b) (IntKind.i64.wrap (i + 1))
        have hck := fun Y hy => check_is (Q := Err × List Pev.Node) (mtP p.f (atP p (a, b)) 0 (A.ev (a, b))) i (eN 20, H) Y (none, H.set x (ndNum (putL shFrom (.int .i64) (a, b) (IntKind.i64.wrap (i + 1)) X))) hy
        have all : (ledger_Ledger_Give_t (some n) id a b i [] H).fin = some (if (earlyP p (a, b) (A.ev (a, b)) i || firstP (mtP p.f (atP p (a, b)) 0 (A.ev (a, b))) i) = true then (none, H.set x (ndNum (putL shFrom (.int .i64) (a, b) (IntKind.i64.wrap (i + 1)) X))) else (eN 20, H)) := by
          unfold ledger_Ledger_Give_t
          refine (fin_eq h5).trans ((fin_br_f rfl).trans ((fin_eq (right_is a b)).trans ((fin_br_f (by rw [hr]; rfl)).trans ((fin_br_f d0).trans ?_))))
          refine (fin_br_t rfl).trans ((fin_br_t rfl).trans ((fin_eq (getBox_at h.hl)).trans ((fin_eq (getBox_at h.hl)).trans ((fin_br_t rfl).trans ((fin_eq (getMap_at h.he)).trans ?_)))))
          rw [show lookL shFrom (Sh.rf RK.sli) (a, b) E = some (some m) from r1]
          refine (fin_br_t rfl).trans ((fin_eq (getRow_at r2)).trans ((fin_br_f d3).trans ((fin_eq hd).trans ?_)))
          refine (fin_br_t rfl).trans ((fin_br_t rfl).trans ((fin_eq (getBox_at h4.hq)).trans ((fin_eq (getBox_at h4.hq)).trans ((fin_br_t rfl).trans ((fin_eq (getMap_at h4.hx)).trans ?_)))))
          unfold earlyP
          cases hx : p.nx (a, b) with
          | none =>
            rw [show lookL shFrom (.int .i64) (a, b) X = none from (h4.nx _).trans hx]
            refine (fin_br_t rfl).trans ((fin_br_t rfl).trans ((fin_br_t rfl).trans ((fin_eq (getBox_at h4.hq)).trans ((fin_eq (getBox_at h4.hq)).trans ((fin_br_t rfl).trans ((fin_eq (getMap_at h4.hb)).trans ?_))))))
            rw [show (lookL shFrom (.int .i64) (a, b) B).getD 0 = p.bg (a, b) from h4.bg _]
            by_cases hlt : i < p.bg (a, b)
            · refine (fin_br_t (decide_eq_true hlt)).trans ((fin_br_t rfl).trans ((fin_br_t rfl).trans ((fin_eq (getBox_at h4.hq)).trans ((fin_eq (getBox_at h4.hq)).trans ?_))))
              refine (fin_br_t rfl).trans ((fin_br_t rfl).trans ((fin_eq (getBox_at h.hl)).trans ((fin_eq (getBox_at h.hl)).trans ((fin_br_t rfl).trans ((fin_eq (getMap_at h.he)).trans ?_)))))
              rw [show lookL shFrom (Sh.rf RK.sli) (a, b) E = some (some m) from r1]
              refine (fin_br_t rfl).trans ((fin_eq (getRow_at r2)).trans ((fin_br_t d1).trans ((fin_br_t d2).trans ((fin_eq (getRow_at r2)).trans ((fin_br_t d1).trans ((fin_br_t d2).trans ((fin_eq hm).trans ?_)))))))
              rw [decide_eq_true hlt]
              cases hb : mB p.f (getI (A.ev (a, b)) i []) with
              | true => exact (fin_br_f rfl).trans hst
              | false => exact (fin_br_t rfl).trans (hck _ hst)
            · rw [decide_eq_false hlt]
              exact (fin_br_f rfl).trans (hck _ hst)
          | some t =>
            rw [show lookL shFrom (.int .i64) (a, b) X = some t from (h4.nx _).trans hx]
            exact (fin_br_f rfl).trans (hck _ hst)
        rw [show (ledger_Ledger_Give_t (some n) id a b i [] H).fin = _ from all]
        cases hbb : (earlyP p (a, b) (A.ev (a, b)) i || firstP (mtP p.f (atP p (a, b)) 0 (A.ev (a, b))) i) with
        | false => exact ⟨H, rfl, stay⟩
        | true =>
          refine ⟨_, rfl, ?_⟩
          have hqx : q ≠ x := fun c => by have := h4.oq; rw [c, h4.ox] at this; cases this
          exact h.setSub (p' := nxP p (a, b) (IntKind.i64.wrap (i + 1))) h1 h3 h4 ((set_ne (Ne.symm hqx)).trans h4.hq) (set_at h4.hx) (keys_put (k := shFrom) (v := .int .i64) rfl h4.kx) (fun _ => rfl)
            (fun k => by
              show lookL _ _ _ _ = if k = (a, b) then _ else _
              rw [look_put (k := shFrom) (v := .int .i64) rfl h4.kx, key_is]
              by_cases hk : k = (a, b)
              · rw [if_pos hk, if_pos hk]
              · rw [if_neg hk, if_neg hk]; exact h4.nx k) (by simp) (fun j _ a2 => set_ne (Ne.symm a2))
      · rw [if_neg hi]
        refine ⟨H, ?_, stay⟩
        unfold ledger_Ledger_Give_t
        refine (fin_eq h5).trans ((fin_br_f rfl).trans ((fin_eq (right_is a b)).trans ((fin_br_f (by rw [hr]; rfl)).trans ?_)))
        by_cases h6 : i < 0
        · exact (fin_br_t (decide_eq_true h6)).trans rfl
        · refine (fin_br_f (decide_eq_false h6)).trans ?_
          refine (fin_br_t rfl).trans ((fin_br_t rfl).trans ((fin_eq (getBox_at h.hl)).trans ((fin_eq (getBox_at h.hl)).trans ((fin_br_t rfl).trans ((fin_eq (getMap_at h.he)).trans ?_)))))
          rcases row_of h (a, b) with ⟨r1, _⟩ | ⟨m, r1, _, r2⟩
          · rw [show lookL shFrom (Sh.rf RK.sli) (a, b) E = none from r1]
            exact (fin_br_f rfl).trans ((fin_br_t (decide_eq_true (by omega))).trans rfl)
          · rw [show lookL shFrom (Sh.rf RK.sli) (a, b) E = some (some m) from r1]
            exact (fin_br_t rfl).trans ((fin_eq (getRow_at r2)).trans ((fin_br_t (decide_eq_true (by simp only [Int.ofNat_eq_natCast]; omega))).trans rfl))
  · rw [h0]
    refine ⟨H, ?_, stay⟩
    unfold ledger_Ledger_Give_t
    exact (fin_eq h5).trans ((fin_br_t rfl).trans rfl)
end
end Go.Proofs.YtldkdhfcbopbhaaGreatDoor
