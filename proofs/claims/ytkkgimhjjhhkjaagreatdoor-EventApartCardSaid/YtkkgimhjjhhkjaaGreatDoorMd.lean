/- Plain: turned from an elder seat's text. -/
import Derived.Test.YtkkgimhjjhhkjaaGreatDoorMc
set_option maxRecDepth 100000
namespace Go.Proofs.YtkkgimhjjhhkjaaGreatDoor
open Go Go.Pev
theorem of_loop (n : Int) (b : Bool) (c c' : Int) : ∀ (ps : List (Int × Int)) (m i : Nat) (acc : List (Int × Int)), ps.length < m → i + ps.length < 200 → acc.length + ps.length ≤ 1000000 →
    LT.loop law01_Of_b0 m (some (ps, n), (i : Int), false, c, b, c', acc, ()) = some (some ([], n), false, c, b, c', acc ++ ps, ())
  | [], m, i, acc, hm, hi, _ => by
    rw [LT.loop_pos _ (by omega)]
    simp only [law01_Of_b0, errHead, LT.run_br, LT.run_ret]
    simp
  | p :: ps, m, i, acc, hm, hi, ha => by
    simp only [List.length_cons] at hm ha hi
    rw [LT.loop_pos _ (by omega)]
    have ih := of_loop n b c c' ps (m - 1) (i + 1) (acc ++ [p]) (by omega) (by omega) (by simp; omega)
    simp only [law01_Of_b0, errHead, LT.run_br, LT.run_some, LT.run_next, Option.isSome, if_true]
    rw [if_pos (decide_eq_true (by omega)), appLim_ok (by omega), if_pos rfl, i64_wrap _ (by omega) (by omega)]
    simpa using ih
theorem law01_Of_is (e : Err) (h : ∀ x, e = some x → x.1.length < 200) : law01_Of e = some (toE e) := by
  unfold law01_Of law01_Of_t
  match e, h with
  | none, _ => rfl
  | some (ps, n), h =>
    have hl : ps.length < 200 := h _ rfl
    rw [LT.fin_br, if_neg (by simp), LT.fin_opt]
    unfold law01_Of_l0
    have := of_loop n true 0 0 ps FUEL 0 [] (by rw [fuel_is]; omega) (by omega) (by simp; omega)
    rw [show ((0 : Nat) : Int) = 0 from rfl] at this
    rw [this]
    rfl
theorem eqB_place (x y : Int × Int) : eqB shPlace x y = decide (x = y) := by
  obtain ⟨a, b⟩ := x
  obtain ⟨c, d⟩ := y
  show ((a == c) && (b == d)) = _
  by_cases h1 : a = c <;> by_cases h2 : b = d <;> simp [h1, h2]
theorem same_loop (b1 : Bool) (c1 : Int) (b2 : Bool) (c2 : Int) (l1 l2 : List (Int × Int)) (hl : l1.length = l2.length) (hb : l1.length ≤ 1000000) : ∀ (k m i : Nat), l1.length - i ≤ k → i ≤ l1.length → k < m →
    LT.loop ref01_Same_b0 m ((l1.length : Int), (i : Int), b1, l1, c1, b2, l2, c2, ()) = some (if l1.drop i = l2.drop i then .inr () else .inl (false, ()))
  | 0, m, i, hk, hi, hm => by
    rw [LT.loop_pos _ (by omega)]
    obtain rfl : i = l1.length := by omega
    simp [ref01_Same_b0, LT.run_br, LT.run_ret, hl]
  | k + 1, m, i, hk, hi, hm => by
    rw [LT.loop_pos _ (by omega)]
    by_cases he : i = l1.length
    · subst he
      simp [ref01_Same_b0, LT.run_br, LT.run_ret, hl]
    · have h1 : i < l1.length := by omega
      have h2 : i < l2.length := by omega
      have ih := same_loop b1 c1 b2 c2 l1 l2 hl hb k (m - 1) (i + 1) (by omega) (by omega) (by omega)
      simp only [ref01_Same_b0, LT.run_br, LT.run_ret, LT.run_next]
      rw [if_pos (decide_eq_true (by omega)), if_pos (decide_eq_true (by omega)), if_pos (decide_eq_true (by simpa using h1)), if_pos (decide_eq_true (by omega)), if_pos (decide_eq_true (by simpa using h2)), i64_wrap _ (by omega) (by omega)]
      rw [getI_lt h1, getI_lt h2, eqB_place, List.drop_eq_getElem_cons h1, List.drop_eq_getElem_cons h2]
      by_cases hx : l1[i] = l2[i]
      · simp only [hx, decide_true, Bool.not_true, Bool.false_eq_true, if_false, List.cons.injEq, true_and]
        simpa using ih
      · rw [decide_eq_false hx, Bool.not_false, if_pos rfl, if_neg (fun e => hx (List.cons.inj e).1)]
theorem ref01_Same_is (a b : Bool × List (Int × Int) × Int) (h : a.2.1.length ≤ 1000000) : ref01_Same a b = some (decide (a = b)) := by
  obtain ⟨b1, l1, c1⟩ := a
  obtain ⟨b2, l2, c2⟩ := b
  unfold ref01_Same ref01_Same_t
  simp only [LT.fin_br, LT.fin_ret, LT.fin_opt]
  simp only at h
  by_cases hb : b1 = b2
  · subst hb
    by_cases hc : c1 = c2
    · subst hc
      by_cases hl : l1.length = l2.length
      · have := same_loop b1 c1 b1 c1 l1 l2 hl h l1.length FUEL 0 (by omega) (by omega) (by rw [fuel_is]; omega)
        unfold ref01_Same_l0
        simp only [beq_self_eq_true, Bool.not_true, Bool.false_eq_true, if_false, bne_self_eq_false, Int.ofNat_eq_natCast, hl] at this ⊢
        rw [show ((0 : Nat) : Int) = 0 from rfl] at this
        rw [this]
        simp only [List.drop_zero, Option.bind_some]
        by_cases hx : l1 = l2
        · simp [hx, LT.fin_inr, LT.fin_ret]
        · simp [hx, LT.fin_inl, LT.fin_ret]
      · have : l1 ≠ l2 := fun e => hl (by rw [e])
        have h3 : ¬ (l1.length : Int) = (l2.length : Int) := by omega
        simp [this, h3]
    · simp [hc]
  · simp [hb]
theorem law03_fails_is (e : Err) (x : Bool × List (Int × Int) × Int) (h : ∀ y, e = some y → y.1.length < 200) : law03_fails e x = some (decide (toE e = x)) := by
  unfold law03_fails law03_fails_t
  rw [law01_Of_is e h, LT.fin_some, ref01_Same_is]
  · rfl
  · match e, h with
    | none, _ => simp [toE]
    | some (ps, n), h => have := h _ rfl; simp [toE]; simp at this; omega
theorem list_eq {s t : ByteArray} (h : (s.toList == t.toList) = true) : s = t := toList_inj (eq_of_beq h)
theorem eqB_iff (k i : Int) (s : ByteArray) (b : Bool) (k' i' : Int) (s' : ByteArray) (b' : Bool) : eqB shVal (k, i, s, b) (k', i', s', b') = true ↔ k = k' ∧ i = i' ∧ s = s' ∧ b = b' := by
  rw [show eqB shVal (k, i, s, b) (k', i', s', b') = ((k == k') && ((i == i') && ((s.toList == s'.toList) && (b == b')))) from rfl]
  constructor
  · intro h
    simp only [Bool.and_eq_true] at h
    exact ⟨eq_of_beq h.1, eq_of_beq h.2.1, list_eq h.2.2.1, eq_of_beq h.2.2.2⟩
  · rintro ⟨rfl, rfl, rfl, rfl⟩
    simp
theorem eqB_attr (x y : ByteArray × V) : eqB shAttr x y = true ↔ x = y := by
  obtain ⟨n, k, i, s, b⟩ := x
  obtain ⟨n', k', i', s', b'⟩ := y
  have e : eqB shAttr (n, k, i, s, b) (n', k', i', s', b') = ((n.toList == n'.toList) && eqB shVal (k, i, s, b) (k', i', s', b')) := rfl
  rw [e, Bool.and_eq_true, eqB_iff]
  constructor
  · rintro ⟨h, rfl, rfl, rfl, rfl⟩
    rw [list_eq h]
  · intro h
    cases h
    simp
theorem esame_loop (l1 l2 : Ev) (hl : l1.length = l2.length) (hb : l1.length ≤ 1000000) : ∀ (k m i : Nat), l1.length - i ≤ k → i ≤ l1.length → k < m →
    LT.loop ref03_Same_b0 m (l1, l2, (l1.length : Int), (i : Int), ()) = some (if l1.drop i = l2.drop i then .inr () else .inl (false, ()))
  | 0, m, i, hk, hi, hm => by
    rw [LT.loop_pos _ (by omega)]
    obtain rfl : i = l1.length := by omega
    simp [ref03_Same_b0, LT.run_br, LT.run_ret, hl]
  | k + 1, m, i, hk, hi, hm => by
    rw [LT.loop_pos _ (by omega)]
    by_cases he : i = l1.length
    · subst he
      simp [ref03_Same_b0, LT.run_br, LT.run_ret, hl]
    · have h1 : i < l1.length := by omega
      have h2 : i < l2.length := by omega
      have ih := esame_loop l1 l2 hl hb k (m - 1) (i + 1) (by omega) (by omega) (by omega)
      simp only [ref03_Same_b0, LT.run_br, LT.run_ret, LT.run_next]
      rw [if_pos (decide_eq_true (by omega)), if_pos (decide_eq_true (by omega)), if_pos (decide_eq_true (by simpa using h1)), if_pos (decide_eq_true (by omega)), if_pos (decide_eq_true (by simpa using h2)), i64_wrap _ (by omega) (by omega)]
      rw [getI_lt h1, getI_lt h2, List.drop_eq_getElem_cons h1, List.drop_eq_getElem_cons h2]
      by_cases hx : l1[i] = l2[i]
      · rw [(eqB_attr _ _).2 hx, if_neg (by simp)]
        simp only [hx, List.cons.injEq, true_and]
        exact ih
      · have : eqB shAttr l1[i] l2[i] = false := by
          cases h : eqB shAttr l1[i] l2[i] with
          | false => rfl
          | true => exact absurd ((eqB_attr _ _).1 h) hx
        rw [this, Bool.not_false, if_pos rfl, if_neg (fun e => hx (List.cons.inj e).1)]
theorem ref03_Same_is (a b : Ev) (h : a.length ≤ 1000000) : ref03_Same a b = some true ↔ a = b := by
  unfold ref03_Same ref03_Same_t
  rw [LT.fin_br, LT.fin_ret]
  by_cases hl : a.length = b.length
  · rw [if_neg (by simp [hl])]
    have := esame_loop a b hl h a.length FUEL 0 (by omega) (by omega) (by rw [fuel_is]; omega)
    rw [show ((0 : Nat) : Int) = 0 from rfl, List.drop_zero, List.drop_zero] at this
    unfold ref03_Same_l0
    rw [Int.ofNat_eq_natCast, this, LT.fin_some]
    by_cases hx : a = b
    · rw [if_pos hx]; exact ⟨fun _ => hx, fun _ => rfl⟩
    · rw [if_neg hx]
      constructor
      · intro h; exact absurd (Option.some.inj h) (by simp)
      · intro h; exact absurd h hx
  · rw [if_pos (by simp; omega)]
    constructor
    · intro h; exact absurd (Option.some.inj h) (by simp)
    · intro h; exact absurd (by rw [h]) hl
theorem ref03_Same_self (a : Ev) (h : a.length ≤ 1000000) : ref03_Same a a = some true := (ref03_Same_is a a h).2 rfl
theorem notUp_lt (n p : ByteArray) : notUp n p = false ↔ ltN p n = true := by
  unfold ltN
  rw [← up_is]
  cases Op.bytesLess p.toList n.toList <;> simp
theorem chk_rise : ∀ (p : ByteArray) (l : Ev) (i : Nat), chk p l i = none → (∀ a ∈ nms l, ltN p a = true) ∧ Rise (nms l)
  | p, [], i, _ => ⟨fun a h => (by cases h), List.Pairwise.nil⟩
  | p, (n, v) :: l, i, h => by
    unfold chk at h
    cases hn : nameB n with
    | false => rw [hn] at h; cases h
    | true =>
      rw [hn] at h
      cases hu : notUp n p with
      | true => rw [hu] at h; cases h
      | false =>
        rw [hu] at h
        have hlt := (notUp_lt n p).1 hu
        cases hv : ckE v with
        | some x => rw [hv] at h; cases h
        | none =>
          rw [hv] at h
          obtain ⟨h1, h2⟩ := chk_rise n l (i + 1) h
          refine ⟨fun a ha => ?_, List.pairwise_cons.2 ⟨h1, h2⟩⟩
          rcases List.mem_cons.1 ha with rfl | ha
          · exact hlt
          · exact ltN_trans hlt (h1 a ha)
theorem ck_rise {l : Ev} (h : ckEv l = none) : Rise (nms l) ∧ l.length ≤ 16 := by
  unfold ckEv at h
  by_cases hl : l.length > 16
  · rw [if_pos hl] at h; cases h
  · rw [if_neg hl] at h; exact ⟨(chk_rise _ _ _ h).2, by omega⟩
/-- The errors of an event and a name. -/
def askE (l : Ev) (s : ByteArray) : Err := match ckEv l with
  | some e => some e
  | none => cond (nameB s) none (some ([], 3))
theorem event_asked_is (l : Ev) (s : ByteArray) (hl : l.length ≤ 1000000) : event_asked l s = some (askE l s) := by
  unfold event_asked event_asked_t
  rw [event_Check_is l hl, LT.fin_some]
  unfold askE
  cases ckEv l with
  | some e => rfl
  | none =>
    simp only [LT.fin_br, Option.isNone, Bool.not_true, Bool.false_eq_true, if_false, event_Name_is, LT.fin_some]
    cases nameB s <;> rfl
def getE (l : Ev) (s : ByteArray) : V × Err := match askE l s with
  | some e => ((0, 0, ByteArray.mk #[], false), some e)
  | none => match l[posN (nms l) s]? with
    | some a => if a.1 = s then (a.2, none) else ((0, 0, ByteArray.mk #[], false), some ([], 10))
    | none => ((0, 0, ByteArray.mk #[], false), some ([], 10))
theorem askE_none {l : Ev} {s : ByteArray} (h : askE l s = none) : ckEv l = none ∧ nameB s = true := by
  unfold askE at h
  cases hc : ckEv l with
  | some e => rw [hc] at h; cases h
  | none => rw [hc] at h; cases hn : nameB s with
    | true => exact ⟨rfl, rfl⟩
    | false => rw [hn] at h; cases h
theorem event_Get_is (l : Ev) (s : ByteArray) (hl : l.length ≤ 1000000) : event_Get l s = some (getE l s) := by
  unfold event_Get event_Get_t
  rw [event_asked_is l s hl, LT.fin_some]
  unfold getE
  cases ha : askE l s with
  | some e => rfl
  | none =>
    obtain ⟨hc, _⟩ := askE_none ha
    obtain ⟨hr, _⟩ := ck_rise hc
    simp only [LT.fin_br, Option.isNone, Bool.not_true, Bool.false_eq_true, if_false, event_Find_is l s hr hl, LT.fin_some]
    unfold inN
    by_cases hp : posN (nms l) s < l.length
    · have h1 : (nms l)[posN (nms l) s]? = some l[posN (nms l) s].1 := by rw [List.getElem?_eq_getElem (by simpa using hp)]; simp
      rw [h1, List.getElem?_eq_getElem hp]
      simp only [Option.some.injEq, decide_eq_true_eq]
      by_cases he : l[posN (nms l) s].1 = s
      · rw [if_pos he, if_pos he, if_pos (by omega), if_pos (by simp only [Int.ofNat_eq_natCast]; omega), getI_lt hp]
        rfl
      · rw [if_neg he, if_neg he]; rfl
    · rw [List.getElem?_eq_none (by simp; omega), List.getElem?_eq_none (by omega)]
      simp [LT.fin_ret]
theorem chk_short : ∀ (p : ByteArray) (l : Ev) (i : Nat) (e : List (Int × Int) × Int), chk p l i = some e → e.1.length ≤ 1
  | p, [], i, e, h => by cases h
  | p, (n, v) :: l, i, e, h => by
    unfold chk at h
    cases hn : nameB n with
    | false => rw [hn] at h; obtain rfl := Option.some.inj h; simp
    | true =>
      rw [hn] at h
      cases hu : notUp n p with
      | true => rw [hu] at h; obtain rfl := Option.some.inj h; simp
      | false =>
        rw [hu] at h
        cases hv : ckE v with
        | some x =>
          rw [hv] at h
          obtain rfl := Option.some.inj h
          simp [ckE_few v x hv]
        | none => rw [hv] at h; exact chk_short n l (i + 1) e h
theorem ck_short {l : Ev} {e : List (Int × Int) × Int} (h : ckEv l = some e) : e.1.length ≤ 1 := by
  unfold ckEv at h
  split at h
  · obtain rfl := Option.some.inj h; simp
  · exact chk_short _ _ _ _ h
theorem fails_self (e : Err) (h : ∀ y, e = some y → y.1.length ≤ 1) : law03_fails e (toE e) = some true := by
  rw [law03_fails_is e _ (fun y hy => by have := h y hy; omega)]
  simp
theorem twin_is (l : Ev) (hl : l.length ≤ 1000000) : ref03_Twin l = some l := by
  unfold ref03_Twin ref03_Twin_t
  rw [LT.fin_br, appLim_ok (by omega)]; rfl
end Go.Proofs.YtkkgimhjjhhkjaaGreatDoor
