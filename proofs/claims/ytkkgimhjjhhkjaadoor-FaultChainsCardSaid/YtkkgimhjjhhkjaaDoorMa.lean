/- Chapter 1, plain: what the functions of faults answer. -/
import Derived.Test.YtkkgimhjjhhkjaaDoorGa
import Derived.Test.YtkkgimhjjhhkjaaDoorPevX
namespace Go.Proofs.YtkkgimhjjhhkjaaDoor
open Go Go.Pev

theorem fault_At_is (k a : Int) (e : Err) : fault_At k a e = some (e.map fun x => ((k, a) :: x.1, x.2)) := by
  unfold fault_At fault_At_t
  cases e <;> rfl
theorem fault_Code_is (e : Err) : fault_Code e = some (match e with | none => 0 | some x => x.2) := by
  unfold fault_Code fault_Code_t
  cases e <;> rfl
theorem fault_first_is (e : Err) : fault_first e = some (errHead e) := by
  unfold fault_first fault_first_t
  rw [LT.fin_br]
  cases h : errHead e with
  | none => rfl
  | some x => rfl

theorem places_loop (n : Int) : ∀ (ps : List (Int × Int)) (m : Nat) (acc : List (Int × Int)), ps.length < m → acc.length + ps.length ≤ 1000000 →
    LT.loop fault_Places_b0 m (errHead (some (ps, n)), acc, ()) = some (acc ++ ps, ())
  | [], m, acc, hm, _ => by
    rw [LT.loop_pos _ (by omega)]
    simp [fault_Places_b0, errHead, LT.run_br, LT.run_ret]
  | p :: ps, m, acc, hm, ha => by
    simp only [List.length_cons] at hm ha
    rw [LT.loop_pos _ (by omega)]
    have ih := places_loop n ps (m - 1) (acc ++ [p]) (by omega) (by simp; omega)
    simp only [fault_Places_b0, errHead, LT.run_br, LT.run_some, LT.run_next, fault_first_is, Option.isNone, Bool.not_false, if_true]
    rw [appLim_ok (by omega), if_pos rfl]
    rw [show errHead (some (ps, n)) = _ from rfl] at ih
    simpa [errHead] using ih
theorem fault_Places_is (ps : List (Int × Int)) (n : Int) (h : ps.length ≤ 1000) : fault_Places (some (ps, n)) = some ps := by
  unfold fault_Places fault_Places_t
  rw [fault_first_is, LT.fin_some, LT.fin_opt]
  unfold fault_Places_l0
  rw [places_loop n ps FUEL [] (by rw [fuel_is]; omega) (by simp; omega)]
  rfl
theorem fault_Places_nil : fault_Places none = some [] := by
  unfold fault_Places fault_Places_t
  rw [fault_first_is, LT.fin_some, LT.fin_opt]
  unfold fault_Places_l0
  rw [LT.loop_pos _ (by rw [fuel_is]; omega)]
  rfl

/-- An error, told plainly. -/
def toE (e : Err) : Bool × List (Int × Int) × Int := match e with
  | none => (false, [], 0)
  | some (ps, n) => (true, ps, n)
theorem of_loop (n : Int) (b : Bool) (c c' : Int) : ∀ (ps : List (Int × Int)) (m i : Nat) (acc : List (Int × Int)), ps.length < m → i + ps.length < 200 → acc.length + ps.length ≤ 1000000 →
    LT.loop law01_Of_b0 m (some (ps, n), (i : Int), false, c, b, c', acc, ()) = some (some ([], n), false, c, b, c', acc ++ ps, ())
  | [], m, i, acc, hm, hi, _ => by
    rw [LT.loop_pos _ (by omega)]
    simp only [law01_Of_b0, errHead, LT.run_br, LT.run_ret]
    simp
  | p :: ps, m, i, acc, hm, hi, ha => by
    simp only [List.length_cons] at hm ha hi
    rw [LT.loop_pos _ (by omega)]
    have ih := of_loop n b c c' ps (m - 1) (i + 1) (acc ++ [p]) (by omega) (by omega) (by simp; omega)
    simp only [law01_Of_b0, errHead, LT.run_br, LT.run_some, LT.run_next, Option.isSome, if_true]
    rw [if_pos (decide_eq_true (by omega)), appLim_ok (by omega), if_pos rfl, i64_wrap _ (by omega) (by omega)]
    simpa using ih
theorem law01_Of_is (e : Err) (h : ∀ x, e = some x → x.1.length < 200) : law01_Of e = some (toE e) := by
  unfold law01_Of law01_Of_t
  match e, h with
  | none, _ => rfl
  | some (ps, n), h =>
    have hl : ps.length < 200 := h _ rfl
    rw [LT.fin_br, if_neg (by simp), LT.fin_opt]
    unfold law01_Of_l0
    have := of_loop n true 0 0 ps FUEL 0 [] (by rw [fuel_is]; omega) (by omega) (by simp; omega)
    rw [show ((0 : Nat) : Int) = 0 from rfl] at this
    rw [this]
    rfl

theorem eqB_place (x y : Int × Int) : eqB shPlace x y = decide (x = y) := by
  obtain ⟨a, b⟩ := x
  obtain ⟨c, d⟩ := y
  show ((a == c) && (b == d)) = _
  by_cases h1 : a = c <;> by_cases h2 : b = d <;> simp [h1, h2]
theorem same_loop (b1 : Bool) (c1 : Int) (b2 : Bool) (c2 : Int) (l1 l2 : List (Int × Int)) (hl : l1.length = l2.length) (hb : l1.length ≤ 1000000) : ∀ (k m i : Nat), l1.length - i ≤ k → i ≤ l1.length → k < m →
    LT.loop ref01_Same_b0 m ((l1.length : Int), (i : Int), b1, l1, c1, b2, l2, c2, ()) = some (if l1.drop i = l2.drop i then .inr () else .inl (false, ()))
  | 0, m, i, hk, hi, hm => by
    rw [LT.loop_pos _ (by omega)]
    obtain rfl : i = l1.length := by omega
    simp [ref01_Same_b0, LT.run_br, LT.run_ret, hl]
  | k + 1, m, i, hk, hi, hm => by
    rw [LT.loop_pos _ (by omega)]
    by_cases he : i = l1.length
    · subst he
      simp [ref01_Same_b0, LT.run_br, LT.run_ret, hl]
    · have h1 : i < l1.length := by omega
      have h2 : i < l2.length := by omega
      have ih := same_loop b1 c1 b2 c2 l1 l2 hl hb k (m - 1) (i + 1) (by omega) (by omega) (by omega)
      simp only [ref01_Same_b0, LT.run_br, LT.run_ret, LT.run_next]
      rw [if_pos (decide_eq_true (by omega)), if_pos (decide_eq_true (by omega)), if_pos (decide_eq_true (by simpa using h1)), if_pos (decide_eq_true (by omega)), if_pos (decide_eq_true (by simpa using h2)), i64_wrap _ (by omega) (by omega)]
      rw [getI_lt h1, getI_lt h2, eqB_place, List.drop_eq_getElem_cons h1, List.drop_eq_getElem_cons h2]
      by_cases hx : l1[i] = l2[i]
      · simp only [hx, decide_true, Bool.not_true, Bool.false_eq_true, if_false, List.cons.injEq, true_and]
        simpa using ih
      · rw [decide_eq_false hx, Bool.not_false, if_pos rfl, if_neg (fun e => hx (List.cons.inj e).1)]
theorem ref01_Same_is (a b : Bool × List (Int × Int) × Int) (h : a.2.1.length ≤ 1000000) : ref01_Same a b = some (decide (a = b)) := by
  obtain ⟨b1, l1, c1⟩ := a
  obtain ⟨b2, l2, c2⟩ := b
  unfold ref01_Same ref01_Same_t
  simp only [LT.fin_br, LT.fin_ret, LT.fin_opt]
  simp only at h
  by_cases hb : b1 = b2
  · subst hb
    by_cases hc : c1 = c2
    · subst hc
      by_cases hl : l1.length = l2.length
      · have := same_loop b1 c1 b1 c1 l1 l2 hl h l1.length FUEL 0 (by omega) (by omega) (by rw [fuel_is]; omega)
        unfold ref01_Same_l0
        simp only [beq_self_eq_true, Bool.not_true, Bool.false_eq_true, if_false, bne_self_eq_false, Int.ofNat_eq_natCast, hl] at this ⊢
        rw [show ((0 : Nat) : Int) = 0 from rfl] at this
        rw [this]
        simp only [List.drop_zero, Option.bind_some]
        by_cases hx : l1 = l2
        · simp [hx, LT.fin_inr, LT.fin_ret]
        · simp [hx, LT.fin_inl, LT.fin_ret]
      · have : l1 ≠ l2 := fun e => hl (by rw [e])
        have h3 : ¬ (l1.length : Int) = (l2.length : Int) := by omega
        simp [this, h3]
    · simp [hc]
  · simp [hb]
theorem law01_fails_is (e : Err) (x : Bool × List (Int × Int) × Int) (h : ∀ y, e = some y → y.1.length < 200) : law01_fails e x = some (decide (toE e = x)) := by
  unfold law01_fails law01_fails_t
  rw [law01_Of_is e h, LT.fin_some, ref01_Same_is]
  · rfl
  · match e, h with
    | none, _ => simp [toE]
    | some (ps, n), h => have := h _ rfl; simp [toE]; simp at this; omega
end Go.Proofs.YtkkgimhjjhhkjaaDoor
