/- Chapter 1: FaultLeast is true of plain data. -/
import Derived.Test.YtkkgimhjjhhkjaaDoorMd
namespace Go.Proofs.YtkkgimhjjhhkjaaDoor
open Go Go.Pev

/-- What the program keeps as the best; the document's. -/
def bestP (a b : Err) : Err := match b with
  | none => a
  | some y => match a with
    | none => some y
    | some x => if y.2 < x.2 then some y else some x
theorem isF_num (a b : List (Int × Int) × Int) : isF (some a) (some ([], b.2)) = some (a.2 == b.2) := by
  obtain ⟨ps, n⟩ := a
  rfl
theorem least_loop (l : List Err) (hl : l.length ≤ 1000000) : ∀ (k m i : Nat) (a : Err), l.length - i ≤ k → i ≤ l.length → k < m →
    LT.loop fault_Least_b0 m (a, l, (l.length : Int), (i : Int), ()) = some ((l.drop i).foldl bestP a, ())
  | 0, m, i, a, hk, hi, hm => by
    rw [LT.loop_pos _ (by omega)]
    obtain rfl : i = l.length := by omega
    simp [fault_Least_b0, LT.run_br, LT.run_ret]
  | k + 1, m, i, a, hk, hi, hm => by
    rw [LT.loop_pos _ (by omega)]
    by_cases he : i = l.length
    · subst he
      simp [fault_Least_b0, LT.run_br, LT.run_ret]
    · have h1 : i < l.length := by omega
      have ih := fun a => least_loop l hl k (m - 1) (i + 1) a (by omega) (by omega) (by omega)
      rw [List.drop_eq_getElem_cons h1, List.foldl_cons, ← ih]
      simp only [fault_Least_b0, LT.run_br, LT.run_next, LT.run_opt]
      rw [if_pos (decide_eq_true (by omega)), if_pos (decide_eq_true (by omega)), if_pos (decide_eq_true (by simpa using h1)), i64_wrap _ (by omega) (by omega), getI_lt h1]
      cases hb : l[i] with
      | none => simp [bestP]
      | some y =>
        cases a with
        | none => simp [bestP]
        | some x =>
          simp only [fault_Code_is, Option.isNone, Bool.not_false, if_true, Option.bind_some, bestP]
          have e := isF_num y x
          simp only [Bool.false_eq_true, if_false]
          rw [e, Option.bind_some]
          by_cases h1 : y.2 = x.2
          · rw [if_neg (by simp [h1]), if_neg (by omega)]; rfl
          · rw [if_pos (by simp [h1])]
            by_cases h2 : y.2 < x.2
            · rw [if_pos (decide_eq_true h2), if_pos h2]; rfl
            · rw [if_neg (by simpa using h2), if_neg h2]; rfl
theorem fault_Least_is (l : List Err) (hl : l.length ≤ 1000000) : fault_Least l = some (l.foldl bestP none) := by
  have := least_loop l hl l.length FUEL 0 none (by omega) (by omega) (by rw [fuel_is]; omega)
  rw [show ((0 : Nat) : Int) = 0 from rfl, List.drop_zero] at this
  unfold fault_Least fault_Least_t fault_Least_l0
  rw [Int.ofNat_eq_natCast, this]; rfl

def bestR (a b : Bool × List (Int × Int) × Int) : Bool × List (Int × Int) × Int := if b.1 = true then (if a.1 = true then (if b.2.2 < a.2.2 then b else a) else b) else a
theorem rleast_loop (l : List (Bool × List (Int × Int) × Int)) (b2 : Bool) (c2 : Int) (hl : l.length ≤ 1000000) : ∀ (k m i : Nat) (a : Bool × List (Int × Int) × Int), l.length - i ≤ k → i ≤ l.length → k < m →
    LT.loop ref01_Least_b0 m (l, (l.length : Int), (i : Int), b2, c2, a.1, a.2.1, a.2.2, ()) = some (b2, c2, ((l.drop i).foldl bestR a).1, ((l.drop i).foldl bestR a).2.1, ((l.drop i).foldl bestR a).2.2, ())
  | 0, m, i, a, hk, hi, hm => by
    rw [LT.loop_pos _ (by omega)]
    obtain rfl : i = l.length := by omega
    simp [ref01_Least_b0, LT.run_br, LT.run_ret]
  | k + 1, m, i, a, hk, hi, hm => by
    rw [LT.loop_pos _ (by omega)]
    by_cases he : i = l.length
    · subst he
      simp [ref01_Least_b0, LT.run_br, LT.run_ret]
    · have h1 : i < l.length := by omega
      have ih := fun a => rleast_loop l b2 c2 hl k (m - 1) (i + 1) a (by omega) (by omega) (by omega)
      rw [List.drop_eq_getElem_cons h1, List.foldl_cons, ← ih]
      simp only [ref01_Least_b0, LT.run_br, LT.run_next]
      rw [if_pos (decide_eq_true (by omega)), if_pos (decide_eq_true (by omega)), if_pos (decide_eq_true (by simpa using h1)), i64_wrap _ (by omega) (by omega), getI_lt h1]
      obtain ⟨b, ps, n⟩ := l[i]
      obtain ⟨b', ps', n'⟩ := a
      cases b with
      | false => simp [bestR]
      | true =>
        cases b' with
        | false => simp [bestR]
        | true =>
          by_cases h2 : n < n'
          · simp [bestR, h2]
          · simp [bestR, h2]
theorem ref01_Least_is (l : List (Bool × List (Int × Int) × Int)) (hl : l.length ≤ 1000000) : ref01_Least l = some (l.foldl bestR (false, [], 0)) := by
  have := rleast_loop l false 0 hl l.length FUEL 0 (false, [], 0) (by omega) (by omega) (by rw [fuel_is]; omega)
  rw [show ((0 : Nat) : Int) = 0 from rfl, List.drop_zero] at this
  unfold ref01_Least ref01_Least_t ref01_Least_l0
  rw [Int.ofNat_eq_natCast, this]; rfl
theorem best_toE (a b : Err) : toE (bestP a b) = bestR (toE a) (toE b) := by
  match a, b with
  | none, none => rfl
  | some x, none => rfl
  | none, some y => rfl
  | some (ps, n), some (qs, m) =>
    by_cases h : m < n
    · simp [bestP, bestR, toE, h]
    · simp [bestP, bestR, toE, h]
theorem foldl_toE : ∀ (l : List Err) (a : Err), toE (l.foldl bestP a) = (l.map toE).foldl bestR (toE a)
  | [], _ => rfl
  | b :: l, a => by
    rw [List.foldl_cons, List.map_cons, List.foldl_cons, ← best_toE]
    exact foldl_toE l _
theorem best_small {a b : Err} (ha : ∀ x, a = some x → x.1.length < 200) (hb : ∀ x, b = some x → x.1.length < 200) : ∀ x, bestP a b = some x → x.1.length < 200 := by
  intro x h
  unfold bestP at h
  split at h
  · exact ha x h
  · split at h
    · exact hb x h
    · split at h
      · exact hb x h
      · exact ha x h
theorem foldl_small : ∀ (l : List Err) (a : Err), (∀ x, a = some x → x.1.length < 200) → (∀ b ∈ l, ∀ x, b = some x → x.1.length < 200) → ∀ x, l.foldl bestP a = some x → x.1.length < 200
  | [], _, ha, _ => ha
  | b :: l, a, ha, hl => foldl_small l _ (best_small ha (hl b List.mem_cons_self)) fun c hc => hl c (List.mem_cons_of_mem _ hc)
/-- One error of the list. -/
def leastE (cs : List Int) (gs : List Bool) (i : Nat) : Err := if gs.getD i false = true then none else some ([(2, (i : Int))], cs.getD i 0)
theorem list_loop (cs : List Int) (gs : List Bool) (hc : cs.length ≤ 100) : ∀ (k m i : Nat) (l : List Err), cs.length - i ≤ k → i ≤ cs.length → k < m → l.length ≤ i →
    LT.loop law01_FaultLeast_b0 m (gs, cs, (cs.length : Int), (i : Int), l, l.map toE, ()) = some (l ++ (List.range' i (cs.length - i)).map (leastE cs gs), (l ++ (List.range' i (cs.length - i)).map (leastE cs gs)).map toE, ())
  | 0, m, i, l, hk, hi, hm, hl => by
    rw [LT.loop_pos _ (by omega)]
    obtain rfl : i = cs.length := by omega
    simp [law01_FaultLeast_b0, LT.run_br, LT.run_ret]
  | k + 1, m, i, l, hk, hi, hm, hl => by
    rw [LT.loop_pos _ (by omega)]
    by_cases he : i = cs.length
    · subst he
      simp [law01_FaultLeast_b0, LT.run_br, LT.run_ret]
    · have h1 : i < cs.length := by omega
      have ih := list_loop cs gs hc k (m - 1) (i + 1) (l ++ [leastE cs gs i]) (by omega) (by omega) (by omega) (by simp; omega)
      rw [show cs.length - i = (cs.length - (i + 1)) + 1 by omega, List.range'_succ, List.map_cons]
      rw [List.append_assoc, List.singleton_append] at ih
      rw [← ih]
      simp only [law01_FaultLeast_b0, LT.run_br, LT.run_next]
      rw [if_pos (decide_eq_true (by omega)), if_pos (decide_eq_true (by omega)), if_pos (decide_eq_true (by simpa using h1)), i64_wrap _ (by omega) (by omega), appLim_ok (by omega), appLim_ok (by rw [List.length_map]; omega)]
      have e1 : getI cs (i : Int) 0 = cs.getD i 0 := rfl
      rw [e1]
      by_cases hg : i < gs.length
      · rw [if_pos (decide_eq_true (by simpa using hg)), if_pos (decide_eq_true (by omega)), if_pos (decide_eq_true (by simpa using hg))]
        have e2 : getI gs (i : Int) false = gs.getD i false := rfl
        rw [e2]
        unfold leastE
        cases hgi : gs.getD i false with
        | true => simp [toE]
        | false => simp [toE]
      · rw [if_neg (by simpa using hg)]
        unfold leastE
        rw [show gs.getD i false = false by rw [List.getD_eq_getElem?_getD, List.getElem?_eq_none (by omega)]; rfl]
        simp [toE]
theorem faultLeast_true (cs : List Int) (gs : List Bool) : law01_FaultLeast cs gs = some true := by
  unfold law01_FaultLeast law01_FaultLeast_t
  rw [awake_is, LT.fin_some, LT.fin_br, if_neg (by simp), LT.fin_br]
  by_cases hl : Int.ofNat cs.length > 100
  · rw [if_pos (decide_eq_true hl)]; rfl
  · have h100 : cs.length ≤ 100 := by simp only [Int.ofNat_eq_natCast] at hl; omega
    have := list_loop cs gs h100 cs.length FUEL 0 [] (by omega) (by omega) (by rw [fuel_is]; omega) (by simp)
    rw [show ((0 : Nat) : Int) = 0 from rfl, List.nil_append, List.map_nil] at this
    unfold law01_FaultLeast_l0
    rw [if_neg (by simpa using hl), Int.ofNat_eq_natCast, this, LT.fin_some]
    generalize hL : (List.range' 0 (cs.length - 0)).map (leastE cs gs) = L
    have hlen : L.length = cs.length := by rw [← hL]; simp
    have hsm : ∀ b ∈ L, ∀ x, b = some x → x.1.length < 200 := by
      intro b hb x hx
      rw [← hL] at hb
      obtain ⟨i, _, rfl⟩ := List.mem_map.1 hb
      unfold leastE at hx
      split at hx
      · cases hx
      · obtain rfl := Option.some.inj hx; simp
    rw [fault_Least_is L (by omega), LT.fin_some, ref01_Least_is _ (by rw [List.length_map]; omega), LT.fin_some]
    rw [law01_fails_is _ _ (foldl_small L none (by intro x h; cases h) hsm), LT.fin_some, foldl_toE]
    simp [toE, LT.fin_ret]
end Go.Proofs.YtkkgimhjjhhkjaaDoor
