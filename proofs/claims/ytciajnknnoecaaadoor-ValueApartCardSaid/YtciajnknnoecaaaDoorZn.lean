/- The statements ValueBack and ValueApart, by evaluation: true. -/
import Derived.Test.YtciajnknnoecaaaDoorZm
namespace Go.Proofs.YtciajnknnoecaaaDoor
open Go Go.Pev

theorem list_eq {s t : ByteArray} (h : (s.toList == t.toList) = true) : s = t := by
  rw [ByteArray.toList_eq, ByteArray.toList_eq] at h
  exact ba_ext (eq_of_beq h)
theorem eqB_V (k i : Int) (s : ByteArray) (b : Bool) (k' i' : Int) (s' : ByteArray) (b' : Bool) : eqB shVal (k, i, s, b) (k', i', s', b') = ((k == k') && ((i == i') && ((s.toList == s'.toList) && (b == b')))) := by kernel_rfl
theorem eqB_iff (k i : Int) (s : ByteArray) (b : Bool) (k' i' : Int) (s' : ByteArray) (b' : Bool) : eqB shVal (k, i, s, b) (k', i', s', b') = true ↔ k = k' ∧ i = i' ∧ s = s' ∧ b = b' := by
  rw [eqB_V]
  constructor
  · intro h
    simp only [Bool.and_eq_true] at h
    exact ⟨eq_of_beq h.1, eq_of_beq h.2.1, list_eq h.2.2.1, eq_of_beq h.2.2.2⟩
  · rintro ⟨rfl, rfl, rfl, rfl⟩
    simp
def L3 : List (Nat × Pev.CSpec) := [(10, sp10), (11, sp11), (12, sp12), (13, sp13)]
theorem s3 : SpecsOk Tryd.prog (tabsT L3) := oneSpecTT (oneSpecTT (oneSpecTT (oneSpecTT noSpecsT (liftT ok13)) ok12) ok11) (liftT (tree ok10))
/-- A text that is read is written again. -/
def again3 (m : ByteArray) (r : RRd) : Option AV := cond r.isVal (cond (inI r.v.2.1) (cond (ckB r.v.1 r.v.2.1 r.v.2.2.1 r.v.2.2.2) (some (.bool false)) (some (.bool ((textS r.v.1 r.v.2.1 r.v.2.2.1 r.v.2.2.2).toList == m.toList)))) none) (cond r.isBad (some (.bool true)) (some (.bool true)))
theorem again3_true (m : ByteArray) : again3 m (readR m) = some (.bool true) := by
  cases h : readR m with
  | bad p => rfl
  | long => rfl
  | val v =>
    obtain ⟨h1, h2, h3⟩ := text_read h
    show cond (inI v.2.1) (cond (ckB v.1 v.2.1 v.2.2.1 v.2.2.2) (some (AV.bool false)) (some (AV.bool ((textS v.1 v.2.1 v.2.2.1 v.2.2.2).toList == m.toList)))) none = _
    rw [h1, h2, h3]
    simp
theorem t3 (k i : Int) (s : ByteArray) (b : Bool) (m : ByteArray) (hi : inI i = true) : evalF Tryd.prog (tabsT L3) A0 3 [.ag [.int .i64 k, .int .i64 i, .str s, .bool b], .str m] = some (.bool true) := by
  let tail : Option AV := cond (decide (m.size > 3000)) (cond (decide (m.size ≤ 8000)) (some (.bool true)) (again3 m (readR m))) (again3 m (readR m))
  let r := readR (textS k i s b)
  rw [show evalF Tryd.prog (tabsT L3) A0 3 [.ag [.int .i64 k, .int .i64 i, .str s, .bool b], .str m] = cond (inI i) (cond (ckB k i s b) tail (cond r.isVal (cond (!eqB shVal (r.v.1, r.v.2.1, r.v.2.2.1, r.v.2.2.2) (k, i, s, b)) (some (.bool false)) tail) (cond r.isBad (some (.bool false)) (some (.bool false))))) none by kernel_rfl]
  have ht : tail = some (.bool true) := by
    show cond (decide (m.size > 3000)) _ _ = _
    rw [again3_true]
    cases decide (m.size > 3000) <;> cases decide (m.size ≤ 8000) <;> rfl
  rw [ht, hi]
  cases hc : ckB k i s b with
  | true => rfl
  | false =>
    have hr : r = .val (k, i, s, b) := (read_text k i s b hi hc).1
    rw [hr]
    show cond (!eqB shVal (k, i, s, b) (k, i, s, b)) _ _ = _
    rw [(eqB_iff k i s b k i s b).2 ⟨rfl, rfl, rfl, rfl⟩]
    rfl
theorem law3 (x : V) (w : wfS shVal x) (m : ByteArray) (_ : m.size ≤ reachBytes) : Contract Tryd.prog cfgT 3 [av x, .str m] (.bool true) := by
  obtain ⟨k, i, s, b⟩ := x
  exact doneT s3 (A := A0) rfl (by kernel_rfl) (t3 k i s b m (inI_wf w.2.1))

/-! ### a text cut short -/
theorem cut_list (t : ByteArray) (c : Nat) : (t.extract 0 c).data.toList = t.data.toList.take c := by simp [ByteArray.data_extract]
theorem cut_by0 {t : ByteArray} {c : Nat} (h : 0 < c) (hc : c ≤ t.size) : by' (t.extract 0 c) 0 = by' t 0 := by
  show (((t.extract 0 c).data.toList.getD 0 0).toNat : Int) = ((t.data.toList.getD 0 0).toNat : Int)
  rw [cut_list]
  cases hl : t.data.toList with
  | nil => simp
  | cons x l =>
    match c, h with
    | c + 1, _ => simp
theorem cut_words : ((List.range 4).all fun c => !(readR (trueS.extract 0 c)).isVal) = true ∧ ((List.range 5).all fun c => !(readR (falseS.extract 0 c)).isVal) = true := ⟨by kernel_rfl, by kernel_rfl⟩
theorem val_is {r : RRd} (h : r.isVal = true) : ∃ v, r = .val v := by cases r with | val v => exact ⟨v, rfl⟩ | bad p => cases h | long => cases h
/-- A text cut short is a number's beginning, or none's. -/
theorem cut_text (k i : Int) (s : ByteArray) (b : Bool) (hi : inI i = true) (hc : ckB k i s b = false) (c : Nat) (hlt : c < (textS k i s b).size) (hv : (readR ((textS k i s b).extract 0 c)).isVal = true) : (readR ((textS k i s b).extract 0 c)).v.1 = 1 ∧ k = 1 := by
  obtain ⟨hrd, h8⟩ := read_text k i s b hi hc
  obtain ⟨v, hval⟩ := val_is hv
  have hsz : ((textS k i s b).extract 0 c).size = c := by rw [ByteArray.size_extract]; omega
  have hc0 : c ≠ 0 := by
    intro e
    subst e
    unfold readR at hval
    rw [hsz] at hval
    cases hval
  have hby := cut_by0 (t := textS k i s b) (Nat.pos_of_ne_zero hc0) (by omega)
  rw [hval]
  show v.1 = 1 ∧ k = 1
  have hkinds : k = 1 ∨ k = 2 ∨ k = 3 := by
    have hc' := hc
    unfold ckB at hc'
    cases h1 : (k == 1) with
    | true => exact .inl (eq_of_beq h1)
    | false =>
      cases h2 : (k == 2) with
      | true => exact .inr (.inl (eq_of_beq h2))
      | false =>
        cases h3 : (k == 3) with
        | true => exact .inr (.inr (eq_of_beq h3))
        | false => rw [h1, h2, h3] at hc'; cases hc'
  rcases hkinds with rfl | rfl | rfl
  · refine ⟨?_, rfl⟩
    obtain ⟨neg, n, rfl, ht, hn, hl⟩ := itoa_parts hi
    obtain ⟨x, l, hxl, hxx⟩ := first_num (neg := neg) (n := n)
    have hb0 : by' (textS 1 (sgn neg n) s b) 0 = (x.toNat : Int) := by0 (u := textS 1 (sgn neg n) s b) (l := l) (by show (Lib.itoa (sgn neg n)).toArray.toList = _; rw [ht, hxl])
    rw [hb0] at hby
    rw [read_num (by omega) (by omega) (by rw [hby]; omega)] at hval
    obtain ⟨neg', n', rfl, _⟩ := num_back (by omega) hval
    rfl
  · exfalso
    change (readR ((quoteB s).extract 0 c)).isVal = true at hv
    change readR (quoteB s) = _ at hrd
    change (quoteB s).size ≤ 8000 at h8
    change c < (quoteB s).size at hlt
    change readR ((quoteB s).extract 0 c) = _ at hval
    change ((quoteB s).extract 0 c).size = c at hsz
    change by' ((quoteB s).extract 0 c) 0 = by' (quoteB s) 0 at hby
    rw [quote_first] at hby
    have hh := hval
    rw [read_other (by omega) (by omega) (by rw [hby]; omega)] at hh
    unfold otherRes at hh
    rw [hby] at hh
    simp only [show ((34 : Int) == 34) = true from rfl, cond_true] at hh
    have hv2 : v.1 = 2 := by
      unfold strRes at hh
      cases hr : strR ((quoteB s).extract 0 c) (((quoteB s).extract 0 c).size + 1) 1 [] with
      | fin => rw [hr] at hh; cases hh
      | bad p => rw [hr] at hh; cases hh
      | long => rw [hr] at hh; cases hh
      | ok q => rw [hr] at hh; injection hh with hh; rw [← hh]
    have hq := (text_read hval).1
    rw [hv2] at hq
    change quoteB v.2.2.1 = (quoteB s).extract 0 c at hq
    have hsp : quoteB s = quoteB v.2.2.1 ++ (quoteB s).extract c (quoteB s).size := by
      rw [hq]
      apply ba_ext
      simp
    have hbad := read_quote v.2.2.1 ((quoteB s).extract c (quoteB s).size) (quoteB s) hsp (by rw [ByteArray.size_extract]; omega) h8
    rw [hrd] at hbad
    cases hbad
  · exfalso
    cases b with
    | true =>
      have h1 := List.all_eq_true.1 cut_words.1 c (List.mem_range.2 (show c < 4 from hlt))
      rw [show (readR (trueS.extract 0 c)).isVal = true from hv] at h1
      cases h1
    | false =>
      have h1 := List.all_eq_true.1 cut_words.2 c (List.mem_range.2 (show c < 5 from hlt))
      rw [show (readR (falseS.extract 0 c)).isVal = true from hv] at h1
      cases h1
theorem text_inj (k i : Int) (s : ByteArray) (b : Bool) (k' i' : Int) (s' : ByteArray) (b' : Bool) (hi : inI i = true) (hc : ckB k i s b = false) (hi' : inI i' = true) (hc' : ckB k' i' s' b' = false) :
    ((textS k i s b).toList == (textS k' i' s' b').toList) = eqB shVal (k, i, s, b) (k', i', s', b') := by
  cases h : eqB shVal (k, i, s, b) (k', i', s', b') with
  | true =>
    obtain ⟨rfl, rfl, rfl, rfl⟩ := (eqB_iff _ _ _ _ _ _ _ _).1 h
    simp
  | false =>
    cases ht : ((textS k i s b).toList == (textS k' i' s' b').toList) with
    | false => rfl
    | true =>
      have e := list_eq ht
      have r1 := (read_text k i s b hi hc).1
      have r2 := (read_text k' i' s' b' hi' hc').1
      rw [e, r2] at r1
      injection r1 with r1
      have := (eqB_iff k i s b k' i' s' b').2 (by injection r1 with a1 a2; injection a2 with a2 a3; injection a3 with a3 a4; exact ⟨a1.symm, a2.symm, a3.symm, a4.symm⟩)
      rw [this] at h
      cases h
theorem t5 (k i : Int) (s : ByteArray) (b : Bool) (k' i' : Int) (s' : ByteArray) (b' : Bool) (c : Int) (hi : inI i = true) (hi' : inI i' = true) : evalF Tryd.prog (tabsT L3) A0 5 [.ag [.int .i64 k, .int .i64 i, .str s, .bool b], .ag [.int .i64 k', .int .i64 i', .str s', .bool b'], .int .i64 c] = some (.bool true) := by
  let yes : Option AV := some (.bool true)
  let no : Option AV := some (.bool false)
  let t := textS k i s b
  let r := readR (t.extract 0 c.toNat)
  rw [show evalF Tryd.prog (tabsT L3) A0 5 [.ag [.int .i64 k, .int .i64 i, .str s, .bool b], .ag [.int .i64 k', .int .i64 i', .str s', .bool b'], .int .i64 c] = cond (inI i) (cond (ckB k i s b) (cond (inI i') (cond (ckB k' i' s' b') yes yes) none) (cond (inI i') (cond (ckB k' i' s' b') yes
    (cond (!(((textS k i s b).toList == (textS k' i' s' b').toList) == eqB shVal (k, i, s, b) (k', i', s', b'))) no (cond (decide (c < 0)) yes (cond (decide (c ≥ (t.size : Int))) yes (cond (decide ((t.size : Int) > 3000)) yes
      (cond (decide (0 ≤ c)) (cond (decide (c ≤ (t.size : Int))) (cond r.isVal (cond (r.v.1 == 1) (some (.bool (k == 1))) no) (cond r.isBad yes yes)) none) none)))))) none)) none by kernel_rfl]
  rw [hi, hi']
  cases hc : ckB k i s b with
  | true => cases ckB k' i' s' b' <;> rfl
  | false =>
    cases hc' : ckB k' i' s' b' with
    | true => rfl
    | false =>
      rw [text_inj k i s b k' i' s' b' hi hc hi' hc']
      simp only [beq_self_eq_true, Bool.not_true, cond_true, cond_false]
      by_cases h1 : c < 0
      · rw [decide_eq_true h1]; rfl
      · rw [decide_eq_false h1]
        by_cases h2 : c ≥ (t.size : Int)
        · rw [decide_eq_true h2]; rfl
        · rw [decide_eq_false h2]
          by_cases h3 : (t.size : Int) > 3000
          · rw [decide_eq_true h3]; rfl
          · rw [decide_eq_false h3, decide_eq_true (by omega : 0 ≤ c), decide_eq_true (by omega : c ≤ (t.size : Int))]
            simp only [cond_true, cond_false]
            cases hv : r.isVal with
            | false => simp only [cond_false]; cases r.isBad <;> rfl
            | true =>
              obtain ⟨e1, e2⟩ := cut_text k i s b hi hc c.toNat (by show c.toNat < t.size; omega) hv
              rw [show (r.v.1 == 1) = true by rw [show r.v.1 = 1 from e1]; rfl, e2]
              rfl
theorem law5 (x : V) (w : wfS shVal x) (y : V) (w' : wfS shVal y) (c : Int) (_ : (Lit.int .i64 c).wf = true) : Contract Tryd.prog cfgT 5 [av x, av y, .int .i64 c] (.bool true) := by
  obtain ⟨k, i, s, b⟩ := x
  obtain ⟨k', i', s', b'⟩ := y
  exact doneT s3 (A := A0) rfl (by kernel_rfl) (t5 k i s b k' i' s' b' c (inI_wf w.2.1) (inI_wf w'.2.1))
end Go.Proofs.YtciajnknnoecaaaDoor
