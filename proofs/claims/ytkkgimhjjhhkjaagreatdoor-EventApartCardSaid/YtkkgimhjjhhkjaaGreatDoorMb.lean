/- Plain: turned from an elder seat's text. -/
import Derived.Test.YtkkgimhjjhhkjaaGreatDoorMa
import Derived.Test.YtkkgimhjjhhkjaaGreatDoorPewZa
set_option maxRecDepth 100000
namespace Go.Proofs.YtkkgimhjjhhkjaaGreatDoor
open Go Go.Pev
theorem size_list (s : ByteArray) : s.data.toList.length = s.size := rfl
def b0 (s : ByteArray) : Int := ((s.data.toList.getD (Int.toNat 0) 0).toNat : Int)
theorem fault_At_is (k a : Int) (e : Err) : fault_At k a e = some (e.map fun x => ((k, a) :: x.1, x.2)) := by
  unfold fault_At fault_At_t
  cases e <;> rfl
theorem ref01_At_is (k a : Int) (b : Bool) (l : List (Int × Int)) (c : Int) (h : l.length ≤ 1000000) : ref01_At k a (b, l, c) = some (if b = true then (true, (k, a) :: l, c) else (b, l, c)) := by
  unfold ref01_At ref01_At_t
  simp only [LT.fin_br, LT.fin_ret]
  cases b with
  | false => rfl
  | true => rw [if_neg (by simp), appLim_ok (by omega), if_pos rfl, if_pos rfl]
def toE (e : Err) : Bool × List (Int × Int) × Int := match e with
  | none => (false, [], 0)
  | some (ps, n) => (true, ps, n)
/-! ### values -/
/-- What is wrong with a value; its number. -/
def vN (v : V) : Int := if v.1 = 1 then (if v.2.2.1.size = 0 ∧ v.2.2.2 = false then 0 else 3) else if v.1 = 2 then (if v.2.1 = 0 ∧ v.2.2.2 = false then (if v.2.2.1.size > 1000 then 2 else 0) else 3) else if v.1 = 3 then (if v.2.1 = 0 ∧ v.2.2.1.size = 0 then 0 else 3) else 3
def ckE (v : V) : Err := if vN v = 0 then none else some ([], vN v)
theorem empty_iff (s : ByteArray) : (s.toList == (ByteArray.mk #[]).toList) = decide (s.size = 0) := by
  rw [bytes_beq]
  have : s = ByteArray.mk #[] ↔ s.size = 0 := ⟨fun h => by rw [h]; rfl, fun h => bytes_ext (List.eq_nil_of_length_eq_zero (by rw [size_list]; exact h))⟩
  by_cases h : s.size = 0
  · rw [decide_eq_true h, decide_eq_true (this.2 h)]
  · rw [decide_eq_false h, decide_eq_false (fun c => h (this.1 c))]
theorem beq_self_l (s : ByteArray) : (s.toList == s.toList) = true := by simp
theorem value_Check_is (v : V) : value_Check v = some (ckE v) := by
  obtain ⟨k, i, s, b⟩ := v
  unfold value_Check value_Check_t ckE vN
  simp only [LT.fin_br, LT.fin_ret, eqB, empty_iff, beq_self_l, Int.ofNat_eq_natCast]
  by_cases h1 : k = 1
  · subst h1
    by_cases hs : s.size = 0 <;> cases b <;> simp [hs]
  · by_cases h2 : k = 2
    · subst h2
      by_cases hi : i = 0 <;> cases b <;> simp [hi]
      by_cases hs : 1000 < s.size
      · have q1 : ¬ s.size ≤ 1000 := by omega
        have q2 : (1000 : Int) < (s.size : Int) := by omega
        simp [q1, q2]
      · have q1 : s.size ≤ 1000 := by omega
        have q2 : ¬ (1000 : Int) < (s.size : Int) := by omega
        simp [q1, q2]
    · by_cases h3 : k = 3
      · subst h3
        by_cases hi : i = 0 <;> by_cases hs : s.size = 0 <;> simp [hs, hi]
      · simp [h1, h2, h3]
theorem ref02_Check_is (v : V) : ref02_Check v = some (toE (ckE v)) := by
  obtain ⟨k, i, s, b⟩ := v
  unfold ref02_Check ref02_Check_t ckE vN toE
  simp only [LT.fin_br, LT.fin_ret, empty_iff, Int.ofNat_eq_natCast]
  by_cases h1 : k = 1
  · subst h1
    by_cases hs : s.size = 0 <;> cases b <;> simp [hs]
  · by_cases h2 : k = 2
    · subst h2
      by_cases hi : i = 0 <;> cases b <;> simp [hi]
      by_cases hs : 1000 < s.size
      · have q1 : ¬ s.size ≤ 1000 := by omega
        have q2 : (1000 : Int) < (s.size : Int) := by omega
        simp [q1, q2]
      · have q1 : s.size ≤ 1000 := by omega
        have q2 : ¬ (1000 : Int) < (s.size : Int) := by omega
        simp [q1, q2]
    · by_cases h3 : k = 3
      · subst h3
        by_cases hi : i = 0 <;> by_cases hs : s.size = 0 <;> simp [hs, hi]
      · simp [h1, h2, h3]
theorem ckE_few (v : V) : ∀ x, ckE v = some x → x.1 = [] := by
  intro x h
  unfold ckE at h
  split at h
  · cases h
  · cases h; rfl
/-! ### names -/
def letB (c : Int) : Bool := c == 95 || (decide (c ≥ 97) && decide (c ≤ 122)) || (decide (c ≥ 48) && decide (c ≤ 57))
theorem event_letter_is (c : Int) : event_letter c = some (letB c) := by
  unfold event_letter event_letter_t letB
  simp only [LT.fin_br, LT.fin_ret]
  cases (c == 95) <;> cases decide (c ≥ 97) <;> cases decide (c ≤ 122) <;> cases decide (c ≥ 48) <;> cases decide (c ≤ 57) <;> rfl
theorem ref03_letter_is (c : Int) : ref03_letter c = some (letB c) := by
  unfold ref03_letter ref03_letter_t letB
  simp only [LT.fin_br, LT.fin_ret]
  cases (c == 95) <;> cases decide (c ≥ 97) <;> cases decide (c ≤ 122) <;> cases decide (c ≥ 48) <;> cases decide (c ≤ 57) <;> rfl
def lets (l : List UInt8) : Bool := l.all fun b => letB (b.toNat : Int)
def runL (l : List UInt8) : Nat := (l.takeWhile fun b => letB (b.toNat : Int)).length
/-- Where the letters from a place on end. -/
def runN (s : ByteArray) (i : Nat) : Nat := i + runL (s.data.toList.drop i)
theorem runL_le (l : List UInt8) : runL l ≤ l.length := by unfold runL; exact (List.takeWhile_sublist _).length_le
theorem run_le (s : ByteArray) (i : Nat) (hi : i ≤ s.size) : i ≤ runN s i ∧ runN s i ≤ s.size := by
  have := runL_le (s.data.toList.drop i)
  rw [List.length_drop, size_list] at this
  unfold runN; omega
theorem drop_at (s : ByteArray) (i : Nat) (h : i < s.size) : s.data.toList.drop i = (s.data.toList.getD i 0) :: s.data.toList.drop (i + 1) := by
  have h' : i < s.data.toList.length := by rw [size_list]; exact h
  rw [List.drop_eq_getElem_cons h', List.getD_eq_getElem?_getD, List.getElem?_eq_getElem h']; rfl
theorem run_loop (s : ByteArray) (hs : s.size ≤ 4611686018427387904) : ∀ (k m i : Nat), s.size - i ≤ k → i ≤ s.size → k < m →
    LT.loop event_run_b0 m (s, (i : Int), ()) = some ((runN s i : Int), ())
  | 0, m, i, hk, hi, hm => by
    rw [LT.loop_pos _ (by omega)]
    obtain rfl : i = s.size := by omega
    have : runN s s.size = s.size := by have := run_le s s.size (Nat.le_refl _); omega
    simp [event_run_b0, LT.run_br, LT.run_ret, this]
  | k + 1, m, i, hk, hi, hm => by
    rw [LT.loop_pos _ (by omega)]
    by_cases he : i = s.size
    · subst he
      have : runN s s.size = s.size := by have := run_le s s.size (Nat.le_refl _); omega
      simp [event_run_b0, LT.run_br, LT.run_ret, this]
    · have h1 : i < s.size := by omega
      have ih := run_loop s hs k (m - 1) (i + 1) (by omega) (by omega) (by omega)
      simp only [event_run_b0, LT.run_br, LT.run_ret, Int.ofNat_eq_natCast, Int.toNat_natCast]
      rw [if_pos (decide_eq_true (by omega)), if_pos (decide_eq_true (by omega)), if_pos (decide_eq_true (by omega)), event_letter_is, LT.run_some, i64_wrap _ (by omega) (by omega)]
      simp only [LT.run_br, LT.run_ret, LT.run_next]
      unfold runN runL at ih ⊢
      rw [drop_at s i h1, List.takeWhile_cons]
      cases hl : letB ((s.data.toList.getD i 0).toNat : Int) with
      | true =>
        simp only [if_true, List.length_cons]
        rw [show i + ((List.takeWhile (fun b => letB (b.toNat : Int)) (List.drop (i + 1) s.data.toList)).length + 1) = i + 1 + (List.takeWhile (fun b => letB (b.toNat : Int)) (List.drop (i + 1) s.data.toList)).length by omega]
        exact ih
      | false => simp
theorem event_run_is (s : ByteArray) (i : Nat) (hi : i ≤ s.size) (hs : s.size ≤ 100000000000) : event_run s (i : Int) = some (runN s i : Int) := by
  unfold event_run event_run_t event_run_l0
  rw [run_loop s (by omega) s.size FUEL i (by omega) hi (by rw [fuel_is]; omega)]; rfl
theorem run_all : ∀ l : List UInt8, (runL l = l.length) ↔ lets l = true
  | [] => by simp [runL, lets]
  | b :: l => by
    have ih := run_all l
    unfold runL lets at ih ⊢
    rw [List.takeWhile_cons, List.all_cons]
    cases h : letB (b.toNat : Int) with
    | true => simpa using ih
    | false => simp
def nameB (s : ByteArray) : Bool := decide (1 ≤ s.size) && decide (s.size ≤ 16) && decide (b0 s ≥ 97) && decide (b0 s ≤ 122) && lets s.data.toList
theorem event_Name_is (s : ByteArray) : event_Name s = some (nameB s) := by
  unfold event_Name event_Name_t nameB
  simp only [LT.fin_br, LT.fin_ret, LT.fin_fail, Int.ofNat_eq_natCast]
  have hb : b0 s = ((s.data.toList.getD (Int.toNat 0) 0).toNat : Int) := rfl
  rw [hb]
  generalize s.data.toList.getD (Int.toNat 0) 0 = c
  have e : event_run s 0 = some (runN s 0 : Int) ∨ ¬ s.size ≤ 16 := by
    by_cases h : s.size ≤ 16
    · exact .inl (event_run_is s 0 (by omega) (by omega))
    · exact .inr h
  by_cases h1 : 1 ≤ s.size
  · by_cases h2 : s.size ≤ 16
    · replace e := e.resolve_right (fun h => h h2)
      rw [if_pos (decide_eq_true (by omega)), if_pos (decide_eq_true (by omega)), if_pos (decide_eq_true (by omega)), decide_eq_true h1, decide_eq_true h2]
      by_cases h3 : (c.toNat : Int) ≥ 97
      · rw [if_pos (decide_eq_true h3), if_pos (decide_eq_true (by omega)), decide_eq_true h3]
        by_cases h4 : (c.toNat : Int) ≤ 122
        · rw [if_pos (decide_eq_true h4), decide_eq_true h4, e, LT.fin_some, LT.fin_ret]
          unfold runN
          rw [List.drop_zero, Nat.zero_add]
          have hr := run_all s.data.toList
          rw [size_list] at hr
          congr 1
          cases hl : lets s.data.toList with
          | true => rw [hr.2 hl]; simp
          | false =>
            have : runL s.data.toList ≠ s.size := fun e => by rw [hr.1 e] at hl; cases hl
            simp; omega
        · rw [if_neg (by simpa using h4), decide_eq_false h4]; simp
      · rw [if_neg (by simpa using h3), decide_eq_false h3]; simp
    · rw [if_pos (decide_eq_true (by omega)), if_neg (by simp; omega), decide_eq_false h2]; simp
  · rw [if_neg (by simp; omega), decide_eq_false h1]; simp
theorem rname_loop (s : ByteArray) (hs : s.size ≤ 4611686018427387904) : ∀ (k m i : Nat), s.size - i ≤ k → i ≤ s.size → k < m →
    LT.loop ref03_Name_b0 m (s, (i : Int), ()) = some (if lets (s.data.toList.drop i) = true then .inr () else .inl (false, ()))
  | 0, m, i, hk, hi, hm => by
    rw [LT.loop_pos _ (by omega)]
    obtain rfl : i = s.size := by omega
    have : s.data.toList.drop s.size = [] := List.drop_of_length_le (by rw [size_list]; omega)
    rw [this]
    simp [ref03_Name_b0, LT.run_br, LT.run_ret, lets]
  | k + 1, m, i, hk, hi, hm => by
    rw [LT.loop_pos _ (by omega)]
    by_cases he : i = s.size
    · subst he
      have : s.data.toList.drop s.size = [] := List.drop_of_length_le (by rw [size_list]; omega)
      rw [this]
      simp [ref03_Name_b0, LT.run_br, LT.run_ret, lets]
    · have h1 : i < s.size := by omega
      have ih := rname_loop s hs k (m - 1) (i + 1) (by omega) (by omega) (by omega)
      simp only [ref03_Name_b0, LT.run_br, LT.run_ret, Int.ofNat_eq_natCast, Int.toNat_natCast]
      rw [if_pos (decide_eq_true (by omega)), if_pos (decide_eq_true (by omega)), if_pos (decide_eq_true (by omega)), ref03_letter_is, LT.run_some, i64_wrap _ (by omega) (by omega)]
      simp only [LT.run_br, LT.run_ret, LT.run_next]
      rw [drop_at s i h1]
      unfold lets at ih ⊢
      rw [List.all_cons]
      cases hl : letB ((s.data.toList.getD i 0).toNat : Int) with
      | true => simpa using ih
      | false => simp
theorem ref03_Name_is (s : ByteArray) : ref03_Name s = some (nameB s) := by
  unfold ref03_Name ref03_Name_t nameB
  simp only [LT.fin_br, LT.fin_ret, LT.fin_fail, Int.ofNat_eq_natCast]
  have hb : b0 s = ((s.data.toList.getD (Int.toNat 0) 0).toNat : Int) := rfl
  rw [hb]
  generalize s.data.toList.getD (Int.toNat 0) 0 = c
  by_cases h1 : 1 ≤ s.size
  · by_cases h2 : s.size ≤ 16
    · rw [if_neg (by simp; omega), if_neg (by simp; omega), if_pos (decide_eq_true (by omega)), decide_eq_true h1, decide_eq_true h2]
      by_cases h3 : (c.toNat : Int) ≥ 97
      · by_cases h4 : (c.toNat : Int) ≤ 122
        · rw [if_neg (by simp; omega), if_pos (decide_eq_true (by omega)), if_neg (by simp; omega), decide_eq_true h3, decide_eq_true h4]
          have := rname_loop s (by omega) s.size FUEL 0 (by omega) (by omega) (by rw [fuel_is]; omega)
          rw [show ((0 : Nat) : Int) = 0 from rfl, List.drop_zero] at this
          unfold ref03_Name_l0
          rw [this]
          cases hl : lets s.data.toList <;> rfl
        · rw [if_neg (by simp; omega), if_pos (decide_eq_true (by omega)), if_pos (by simp; omega), decide_eq_false h4]; simp
      · rw [if_pos (by simp; omega), decide_eq_false h3]; simp
    · rw [if_neg (by simp; omega), if_pos (by simp; omega), decide_eq_false h2]; simp
  · rw [if_pos (by simp; omega), decide_eq_false h1]; simp
theorem getI_dflt (l : Ev) (i : Nat) (h : i < l.length) (d : ByteArray × V) : getI l (i : Int) d = l[i] := getI_lt h
theorem dropC {α : Type} (l : List α) (i : Nat) (h : i < l.length) : l.drop i = l[i] :: l.drop (i + 1) := List.drop_eq_getElem_cons h
/-- a name that does not come after the one ahead -/
def notUp (n p : ByteArray) : Bool := Op.bytesLess n.toList p.toList || n.toList == p.toList
theorem up_is (n p : ByteArray) : (!Op.bytesLess p.toList n.toList) = notUp n p := by
  unfold notUp
  have h := bl_tri n.toList p.toList
  rcases h with ⟨a, b, _⟩ | ⟨a, b, c⟩ | ⟨a, b, c⟩
  · rw [a, b]; rfl
  · rw [a, b]; simp [c]
  · rw [a, b]; simp [c]
theorem up_none (n : ByteArray) (h : nameB n = true) : notUp n (ByteArray.mk #[]) = false := by
  unfold nameB at h
  simp only [Bool.and_eq_true, decide_eq_true_eq] at h
  have h1 := h.1.1.1.1
  unfold notUp
  rw [ByteArray.toList_eq, ByteArray.toList_eq]
  have : n.data.toList ≠ [] := fun e => by
    rw [← size_list, e] at h1
    simp at h1
  cases hl : n.data.toList with
  | nil => exact absurd hl this
  | cons a t => simp [Op.bytesLess]
/-- What is at fault in attributes from a place on. -/
def chk : ByteArray → Ev → Nat → Err
  | _, [], _ => none
  | p, (n, v) :: l, i => cond (!nameB n) (some ([(2, i)], 3)) (cond (notUp n p) (some ([(2, i)], 3)) (match ckE v with
    | some x => some ((2, (i : Int)) :: x.1, x.2)
    | none => chk n l (i + 1)))
def ckEv (l : Ev) : Err := if l.length > 16 then some ([], 2) else chk (ByteArray.mk #[]) l 0
theorem chk_loop (l : Ev) (hs : l.length ≤ 1000000) : ∀ (k m i : Nat) (p : ByteArray), l.length - i ≤ k → i ≤ l.length → k < m →
    LT.loop event_Check_b0 m (p, l, Int.ofNat l.length, (i : Int), ()) = some (match chk p (l.drop i) i with | some e => .inl (some e, ()) | none => .inr ())
  | 0, m, i, p, hk, hi, hm => by
    rw [LT.loop_pos _ (by omega)]
    obtain rfl : i = l.length := by omega
    simp [event_Check_b0, LT.run_br, LT.run_ret, chk]
  | k + 1, m, i, p, hk, hi, hm => by
    rw [LT.loop_pos _ (by omega)]
    by_cases he : i = l.length
    · subst he
      simp [event_Check_b0, LT.run_br, LT.run_ret, chk]
    · have h1 : i < l.length := by omega
      have ih := fun p => chk_loop l hs k (m - 1) (i + 1) p (by omega) (by omega) (by omega)
      rw [dropC l i h1]
      simp only [event_Check_b0, LT.run_br, LT.run_ret, LT.run_next, Int.ofNat_eq_natCast, getI_dflt l i h1, event_Name_is, value_Check_is, fault_At_is, LT.run_some]
      rw [if_pos (decide_eq_true (by omega)), if_pos (decide_eq_true (by omega)), if_pos (decide_eq_true (by omega)), i64_wrap _ (by omega) (by omega)]
      generalize l[i] = a
      obtain ⟨n, v⟩ := a
      unfold chk
      simp only
      cases hn : nameB n with
      | false => rfl
      | true =>
        have hu : (Op.bytesLess n.toList p.toList || n.toList == p.toList) = notUp n p := rfl
        rw [hu]
        cases hp : notUp n p with
        | true => rfl
        | false =>
          cases hc : ckE v with
          | some x => rfl
          | none => exact ih n
theorem event_Check_is (l : Ev) (hs : l.length ≤ 1000000) : event_Check l = some (ckEv l) := by
  unfold event_Check event_Check_t event_Check_l0 ckEv
  simp only [LT.fin_br, LT.fin_ret]
  by_cases h : l.length > 16
  · rw [if_pos (decide_eq_true (by simp only [Int.ofNat_eq_natCast]; omega)), if_pos h]
  · rw [if_neg (by simp; omega), if_neg h]
    have := chk_loop l hs l.length FUEL 0 (ByteArray.mk #[]) (by omega) (by omega) (by rw [fuel_is]; omega)
    rw [show ((0 : Nat) : Int) = 0 from rfl, List.drop_zero] at this
    rw [this]
    cases chk (ByteArray.mk #[]) l 0 <;> rfl
/-! ### the document's side -/
theorem ref_at (k a : Int) (e : Bool × List (Int × Int) × Int) (h : e.2.1.length ≤ 1000000) : ref01_At k a e = some (if e.1 = true then (true, (k, a) :: e.2.1, e.2.2) else e) := by
  obtain ⟨b, l, c⟩ := e
  rw [ref01_At_is k a b l c h]
def prevOf (l : Ev) (i : Nat) : ByteArray := if i = 0 then ByteArray.mk #[] else (l.getD (i - 1) (ByteArray.mk #[], 0, 0, ByteArray.mk #[], false)).1
theorem rchk_loop (l : Ev) (hs : l.length ≤ 1000000) : ∀ (k m i : Nat), l.length - i ≤ k → i ≤ l.length → k < m →
    LT.loop ref03_Check_b0 m (l, l, Int.ofNat l.length, (i : Int), false, 0, ()) = some (match chk (prevOf l i) (l.drop i) i with | some e => .inl (true, e.1, e.2, ()) | none => .inr (false, 0, ()))
  | 0, m, i, hk, hi, hm => by
    rw [LT.loop_pos _ (by omega)]
    obtain rfl : i = l.length := by omega
    simp [ref03_Check_b0, LT.run_br, LT.run_ret, chk]
  | k + 1, m, i, hk, hi, hm => by
    rw [LT.loop_pos _ (by omega)]
    by_cases he : i = l.length
    · subst he
      simp [ref03_Check_b0, LT.run_br, LT.run_ret, chk]
    · have h1 : i < l.length := by omega
      have ih := rchk_loop l hs k (m - 1) (i + 1) (by omega) (by omega) (by omega)
      have hpn : prevOf l (i + 1) = l[i].1 := by
        unfold prevOf
        rw [if_neg (by omega), Nat.add_sub_cancel, List.getD_eq_getElem?_getD, List.getElem?_eq_getElem h1]; rfl
      rw [dropC l i h1]
      rw [hpn] at ih
      simp only [ref03_Check_b0, LT.run_br, LT.run_ret, LT.run_next, Int.ofNat_eq_natCast, getI_dflt l i h1, ref03_Name_is, ref02_Check_is, LT.run_some]
      rw [if_pos (decide_eq_true (by omega)), if_pos (decide_eq_true (by omega)), if_pos (decide_eq_true (by omega)), i64_wrap ((i : Int) + 1) (by omega) (by omega)]
      have hcut : ∀ x : ByteArray × V, (if (toE (ckE x.2)).1 = true then (LT.opt (ref01_At 2 (i : Int) (toE (ckE x.2))) fun x20 => (LT.ret (.inl (x20.fst, x20.snd.fst, x20.snd.snd, ())) : LT ref03_Check_S0 ref03_Check_Q0)).run some (LT.loop ref03_Check_b0 (m - 1)) else LT.loop ref03_Check_b0 (m - 1) (l, l, ((l.length : Nat) : Int), (i : Int) + 1, false, 0, ())) = (match ckE x.2 with | some y => some (.inl (true, (2, (i : Int)) :: y.1, y.2, ())) | none => LT.loop ref03_Check_b0 (m - 1) (l, l, ((l.length : Nat) : Int), (i : Int) + 1, false, 0, ())) := fun x => by
        cases hb : ckE x.2 with
        | none => rfl
        | some y =>
          rw [if_pos (show (toE (some y)).1 = true from rfl), ref_at _ _ _ (by rw [show (toE (some y)).2.1 = y.1 from rfl, ckE_few _ _ hb]; simp), LT.run_some]
          rfl
      by_cases h0 : i = 0
      · subst h0
        have hp0 : prevOf l 0 = ByteArray.mk #[] := rfl
        rw [hp0]
        rw [hcut l[0]]
        generalize l[0] = a at ih ⊢
        obtain ⟨n, v⟩ := a
        unfold chk
        simp only at ih ⊢
        cases hn : nameB n with
        | false => rfl
        | true =>
          rw [up_none n hn, if_neg (by simp), if_neg (by simp)]
          cases hc : ckE v with
          | some x => rfl
          | none => exact ih
      · rw [if_pos (decide_eq_true (by omega)), i64_wrap ((i : Int) - 1) (by omega) (by omega), if_pos (decide_eq_true (by omega)), if_pos (decide_eq_true (by omega))]
        have hpp : (getI l ((i : Int) - 1) (ByteArray.mk #[], 0, 0, ByteArray.mk #[], false)).1 = prevOf l i := by
          unfold prevOf
          rw [if_neg h0, show (i : Int) - 1 = ((i - 1 : Nat) : Int) by omega]; rfl
        rw [hpp, up_is, hcut l[i]]
        generalize prevOf l i = p
        generalize l[i] = a at ih ⊢
        obtain ⟨n, v⟩ := a
        unfold chk
        simp only at ih ⊢
        cases hn : nameB n with
        | false => rfl
        | true =>
          cases hp : notUp n p with
          | true => rfl
          | false =>
            cases hc : ckE v with
            | some x => rfl
            | none => exact ih
theorem ref03_Check_is (l : Ev) (hs : l.length ≤ 1000000) : ref03_Check l = some (toE (ckEv l)) := by
  unfold ref03_Check ref03_Check_t ref03_Check_l0 ckEv
  simp only [LT.fin_br, LT.fin_ret]
  by_cases h : l.length > 16
  · rw [if_pos (decide_eq_true (by simp only [Int.ofNat_eq_natCast]; omega)), if_pos h]; rfl
  · rw [if_neg (by simp; omega), if_neg h]
    have := rchk_loop l hs l.length FUEL 0 (by omega) (by omega) (by rw [fuel_is]; omega)
    rw [show ((0 : Nat) : Int) = 0 from rfl, List.drop_zero] at this
    rw [this, LT.fin_some]
    have hp0 : prevOf l 0 = ByteArray.mk #[] := rfl
    rw [hp0]
    cases chk (ByteArray.mk #[]) l 0 <;> rfl
end Go.Proofs.YtkkgimhjjhhkjaaGreatDoor
