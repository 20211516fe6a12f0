/- Chapter 21, plain: meant, Due, Close, Give. -/
import Derived.Test.YtldkdhfcbopbhaaGreatDoorMd
set_option maxRecDepth 100000
namespace Go.Proofs.YtldkdhfcbopbhaaGreatDoor
open Go Go.Pev
section
variable {S Q ρ : Type} {f : Q → Option ρ} {g : S → Option ρ}
theorem run_br_t {b : Bool} {x y : LT S Q} (h : b = true) : (LT.br b x y).run f g = x.run f g := by subst h; rfl
theorem run_br_f {b : Bool} {x y : LT S Q} (h : b = false) : (LT.br b x y).run f g = y.run f g := by subst h; rfl
theorem run_eq {α : Type} {o : Option α} {a : α} {k : α → LT S Q} (h : o = some a) : (LT.opt o k).run f g = (k a).run f g := by subst h; rfl
end
def rightB (a b : Int) : Bool := decide (a ≥ 0) && decide (a < 8) && decide (b ≥ 0) && decide (b < 16)
theorem right_is (a b : Int) : ledger_right a b = some (rightB a b) := by
  unfold ledger_right ledger_right_t rightB
  cases decide (a ≥ 0) with
  | false => rfl
  | true =>
    cases decide (a < 8) with
    | false => rfl
    | true =>
      cases decide (b ≥ 0) with
      | false => rfl
      | true => rfl
/-- Does a filter mean an event? -/
noncomputable def mB (f : Fil) (x : Ev) : Bool := (filter_Means f x).getD false
/-- The places, from one on, of what is meant. -/
noncomputable def mtP (f : Fil) (t : Int) : Nat → List Ev → List Int
  | _, [] => []
  | i, x :: l => if t ≤ (i : Int) ∧ mB f x = true then (i : Int) :: mtP f t (i + 1) l else mtP f t (i + 1) l
theorem mtP_len (f : Fil) (t : Int) : ∀ (l : List Ev) (i : Nat), (mtP f t i l).length ≤ l.length
  | [], _ => Nat.le_refl _
  | x :: l, i => by
    have := mtP_len f t l (i + 1)
    unfold mtP
    split
    · simp only [List.length_cons]; omega
    · simp only [List.length_cons]; omega
section
variable {H : List Pev.Node}
theorem meant_loop {q r b y : Nat} {f : Fil} {c : Bool} {l : List Ev} (hq : H[q]? = some (ndS f b y c)) (hr : H[r]? = some (ndRow l)) (hM : ∀ x ∈ l, filter_Means f x = some (mB f x)) (hl : l.length ≤ 1000000) (t : Int) :
    ∀ (rest : List Ev) (m i : Nat) (acc : List Int), l.drop i = rest → i ≤ l.length → rest.length < m → acc.length ≤ i → LT.loop ledger_Ledger_meant_b0 m (some q, t, some r, (l.length : Int), (i : Int), acc, [], H, ()) = some (acc ++ mtP f t i rest, [], H, ())
  | _, 0, _, _, _, _, h, _ => by omega
  | [], m + 1, i, acc, h1, h2, h3, h4 => by
    have : l.length ≤ i := by simpa using h1
    rw [LT.loop_succ]
    refine (run_br_f (decide_eq_false (by omega))).trans ?_
    show some _ = some _
    simp [mtP]
  | x :: rest, m + 1, i, acc, h1, h2, h3, h4 => by
    have hlen : l.length - i = rest.length + 1 := by rw [← List.length_drop, h1]; rfl
    have hi : i < l.length := by omega
    have hx : l[i] = x := by
      have := List.getElem_drop (xs := l) (i := i) (j := 0) (h := by rw [h1]; simp)
      simp only [h1, List.getElem_cons_zero, Nat.add_zero] at this
      exact this.symm
    have hd : l.drop (i + 1) = rest := by rw [← List.drop_drop, h1]; rfl
    have hm : filter_Means f (getI l (i : Int) []) = some (mB f x) := by rw [getI_lt hi, hx]; exact hM x (hx ▸ List.getElem_mem hi)
    have hw : IntKind.i64.wrap ((i : Int) + 1) = ((i + 1 : Nat) : Int) := by rw [i64_wrap _ (by omega) (by omega)]; omega
    have d0 : decide ((0 : Int) ≤ (i : Int)) = true := decide_eq_true (by omega)
    have d1 : decide ((i : Int) < Int.ofNat l.length) = true := decide_eq_true (by simp only [Int.ofNat_eq_natCast]; omega)
    have step : ∀ acc', acc'.length ≤ i + 1 → (LT.next (Q := ledger_Ledger_meant_Q0) (some q, t, some r, (l.length : Int), (IntKind.i64.wrap ((i : Int) + 1)), acc', [], H, ()) : LT ledger_Ledger_meant_S0 _).run some (LT.loop ledger_Ledger_meant_b0 m) = some (acc' ++ mtP f t (i + 1) rest, [], H, ()) := fun acc' ha => by
      rw [hw]
      exact meant_loop hq hr hM hl t rest m (i + 1) acc' hd (by omega) (by simp only [List.length_cons] at h3; omega) ha
    rw [LT.loop_succ]
    refine (run_br_t (decide_eq_true (by omega))).trans ((run_br_t rfl).trans ((run_eq (getRow_at hr)).trans ((run_br_t d0).trans ((run_br_t d1).trans ((run_eq (getRow_at hr)).trans ((run_br_t d0).trans ((run_br_t d1).trans ?_)))))))
    unfold mtP
    by_cases ht : t ≤ (i : Int)
    · refine (run_br_t (decide_eq_true ht)).trans ((run_br_t rfl).trans ((run_br_t rfl).trans ((run_eq (getBox_at hq)).trans ((run_eq (getBox_at hq)).trans ((run_eq hm).trans ?_)))))
      cases hb : mB f x with
      | true =>
        rw [if_pos ⟨ht, rfl⟩]
        refine (run_br_t rfl).trans ((run_br_t (appLim_ok (by omega))).trans ?_)
        refine (step _ (by simp; omega)).trans ?_
        simp
      | false =>
        rw [if_neg (by simp)]
        exact (run_br_f rfl).trans (step _ (by omega))
    · rw [if_neg (fun h => ht h.1)]
      exact (run_br_f (decide_eq_false ht)).trans (step _ (by omega))
theorem meant_is {n e s q b y : Nat} {E : List (K21 × Option Nat)} {S : List (Int × Option Nat)} {own : Nat → Option Rl} {A : PL} (h : RepX H n e s E S own A) {f : Fil} {c : Bool} (k : K21) (hq : H[q]? = some (ndS f b y c)) (hM : ∀ x ∈ A.ev k, filter_Means f x = some (mB f x)) (hl : (A.ev k).length ≤ 1000000) (t : Int) :
    ledger_Ledger_meant (some n) (some q) k t [] H = some (mtP f t 0 (A.ev k), H) := by
  unfold ledger_Ledger_meant ledger_Ledger_meant_t
  refine (fin_br_t rfl).trans ((fin_br_t rfl).trans ((fin_eq (getBox_at h.hl)).trans ((fin_eq (getBox_at h.hl)).trans ((fin_br_t rfl).trans ((fin_eq (getMap_at h.he)).trans ?_)))))
  rcases row_of h k with ⟨h1, h2⟩ | ⟨m, h1, _, h3⟩
  · rw [show lookL shFrom (Sh.rf RK.sli) k E = none from h1, h2]; rfl
  · rw [show lookL shFrom (Sh.rf RK.sli) k E = some (some m) from h1]
    refine (fin_br_t rfl).trans ((fin_eq (getRow_at h3)).trans ?_)
    exact (fin_eq (meant_loop hq h3 hM hl t (A.ev k) FUEL 0 [] rfl (Nat.zero_le _) (by rw [fuel_is]; omega) (Nat.le_refl _))).trans rfl
end
end Go.Proofs.YtldkdhfcbopbhaaGreatDoor
