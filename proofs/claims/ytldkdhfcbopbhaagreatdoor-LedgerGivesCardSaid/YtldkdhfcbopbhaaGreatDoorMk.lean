/- What an error tells (Of); are two alike (Same); plain. -/
import Derived.Test.YtldkdhfcbopbhaaGreatDoorMj
set_option maxRecDepth 100000
namespace Go.Proofs.YtldkdhfcbopbhaaGreatDoor
open Go Go.Pev
abbrev TE := Bool × List (Int × Int) × Int
/-- What an error tells. -/
def tellE : Err → TE
  | none => (false, [], 0)
  | some (ps, n) => (true, ps, n)
theorem of_loop (n : Int) : ∀ (ps l : List (Int × Int)) (m : Nat), ps.length + l.length < 200 → ps.length < m →
    LT.loop law01_Of_b0 m (some (ps, n), (l.length : Int), false, 0, true, 0, l, ()) = some (some ([], n), false, 0, true, 0, l ++ ps, ())
  | _, _, 0, _, h => by omega
  | [], l, m + 1, h, _ => by
    rw [LT.loop_succ]
    simp only [List.length_nil] at h
    refine (run_br_t (decide_eq_true (by omega))).trans ((run_br_f rfl).trans ?_)
    show some _ = some _
    rw [List.append_nil]
  | p :: ps, l, m + 1, h, hm => by
    simp only [List.length_cons] at h hm
    rw [LT.loop_succ]
    refine (run_br_t (decide_eq_true (by omega))).trans ((run_br_t rfl).trans ((run_eq (a := (p, some (ps, n))) rfl).trans ((run_br_t (appLim_ok (by omega))).trans ?_)))
    have hw : IntKind.i64.wrap ((l.length : Int) + 1) = ((l ++ [p]).length : Int) := by rw [i64_wrap _ (by omega) (by omega)]; simp
    have ih := of_loop n ps (l ++ [p]) m (by simp; omega) (by omega)
    rw [List.append_assoc] at ih
    rw [hw]
    exact ih
theorem of_is (e : Err) (h : (tellE e).2.1.length < 200) : law01_Of e = some (tellE e) := by
  cases e with
  | none => rfl
  | some v =>
    obtain ⟨ps, n⟩ := v
    have hl := of_loop n ps [] FUEL (by have h2 : ps.length < 200 := h; simpa using h2) (by rw [fuel_is]; have : ps.length < 200 := h; omega)
    unfold law01_Of law01_Of_t
    refine (fin_br_f rfl).trans ((fin_eq hl).trans ((fin_br_t rfl).trans ((fin_eq rfl).trans ?_)))
    rfl
theorem same_loop (a : Bool) (n : Int) (l : List (Int × Int)) (b : Bool) (n' : Int) (l' : List (Int × Int)) (hl : l.length = l'.length) (hn : l.length < 1000) : ∀ (m i : Nat), i ≤ l.length → l.length - i < m → (∀ j, j < i → l[j]? = l'[j]?) →
    LT.loop ref01_Same_b0 m ((l.length : Int), (i : Int), a, l, n, b, l', n', ()) = some (if l = l' then .inr () else .inl (false, ()))
  | 0, _, _, h, _ => by omega
  | m + 1, i, h1, h2, h3 => by
    rw [LT.loop_succ]
    by_cases hi : i < l.length
    · have d0 : decide ((0 : Int) ≤ (i : Int)) = true := decide_eq_true (by omega)
      refine (run_br_t (decide_eq_true (by omega))).trans ((run_br_t d0).trans ((run_br_t (decide_eq_true (by simp only [Int.ofNat_eq_natCast]; omega))).trans ((run_br_t d0).trans ((run_br_t (decide_eq_true (by simp only [Int.ofNat_eq_natCast]; omega))).trans ?_))))
      rw [getI_lt hi, getI_lt (by omega)]
      by_cases he : l[i] = l'[i]'(by omega)
      · rw [he, eqB_self shPlace _ rfl]
        refine (run_br_f rfl).trans ?_
        have hw : IntKind.i64.wrap ((i : Int) + 1) = ((i + 1 : Nat) : Int) := by rw [i64_wrap _ (by omega) (by omega)]; omega
        rw [hw]
        refine same_loop a n l b n' l' hl hn m (i + 1) (by omega) (by omega) fun j hj => ?_
        by_cases hji : j = i
        · subst hji
          rw [List.getElem?_eq_getElem hi, List.getElem?_eq_getElem (by omega), he]
        · exact h3 j (by omega)
      · have hb : eqB shPlace l[i] (l'[i]'(by omega)) = false := by
          cases hc : eqB shPlace l[i] (l'[i]'(by omega)) with
          | false => rfl
          | true => exact absurd (eqB_eq shPlace _ _ rfl hc) he
        rw [hb, if_neg fun c => he (by subst c; rfl)]
        exact (run_br_t rfl).trans rfl
    · have : l = l' := List.ext_getElem? fun j => by
        by_cases hj : j < i
        · exact h3 j hj
        · rw [List.getElem?_eq_none (by omega), List.getElem?_eq_none (by omega)]
      rw [if_pos this]
      exact (run_br_f (decide_eq_false (by omega))).trans rfl
theorem same_is (x y : TE) (h : x.2.1.length < 1000) : ref01_Same x y = some (decide (x = y)) := by
  obtain ⟨a, l, n⟩ := x
  obtain ⟨b, l', n'⟩ := y
  have h : l.length < 1000 := h
  unfold ref01_Same ref01_Same_t
  by_cases hab : a = b
  · subst hab
    refine (fin_br_f (by cases a <;> rfl)).trans ?_
    by_cases hn : n = n'
    · subst hn
      refine (fin_br_f (by simp)).trans ?_
      by_cases hl : l.length = l'.length
      · refine (fin_br_f (by simp [hl])).trans ?_
        have := same_loop a n l a n l' hl h FUEL 0 (by omega) (by rw [fuel_is]; omega) (fun j hj => by omega)
        refine (fin_eq this).trans ?_
        by_cases he : l = l'
        · rw [if_pos he]; subst he; simp; rfl
        · rw [if_neg he]; simp [he]; rfl
      · refine (fin_br_t (by simp; omega)).trans ?_
        have : l ≠ l' := fun c => hl (by rw [c])
        simp [this]; rfl
    · refine (fin_br_t (by simpa using hn)).trans ?_
      simp [hn]; rfl
  · refine (fin_br_t (by cases a <;> cases b <;> simp_all)).trans ?_
    simp [hab]; rfl
end Go.Proofs.YtldkdhfcbopbhaaGreatDoor
