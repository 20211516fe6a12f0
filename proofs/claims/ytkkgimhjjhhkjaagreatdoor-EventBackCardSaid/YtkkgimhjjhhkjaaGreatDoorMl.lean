/- Chapter 3, plain: letters, names, checks and texts of events. -/
import Derived.Test.YtkkgimhjjhhkjaaGreatDoorGa
import Derived.Test.YtkkgimhjjhhkjaaGreatDoorZn
import Derived.Test.YtkkgimhjjhhkjaaGreatDoorPevX
namespace Go.Proofs.YtkkgimhjjhhkjaaGreatDoor
open Go Go.Pev
abbrev Ev := List (ByteArray × V)

theorem fault_At_is (k a : Int) (e : Err) : fault_At k a e = some (e.map fun x => ((k, a) :: x.1, x.2)) := by
  unfold fault_At fault_At_t
  cases e <;> rfl
theorem ref01_At_is (k a : Int) (b : Bool) (l : List (Int × Int)) (c : Int) (h : l.length ≤ 1000000) : ref01_At k a (b, l, c) = some (if b = true then (true, (k, a) :: l, c) else (b, l, c)) := by
  unfold ref01_At ref01_At_t
  simp only [LT.fin_br, LT.fin_ret]
  cases b with
  | false => rfl
  | true => rw [if_neg (by simp), appLim_ok (by omega), if_pos rfl, if_pos rfl]
/-! ### values -/
theorem unsl {sa sr : List Sh} {sp : Pev.CSpec} {x : ArgT sa} {y : Option (resSh sr).T} (h : ofSpec sa sr sp x = y) : sealSpec sa sr sp x = y := sealSpec_eq.trans h
def ckE (v : V) : Err := checkV v.1 v.2.1 v.2.2.1 v.2.2.2
def toE (e : Err) : Bool × List (Int × Int) × Int := match e with
  | none => (false, [], 0)
  | some (ps, n) => (true, ps, n)
theorem value_Check_is (v : V) : value_Check v = some (ckE v) := by
  obtain ⟨k, i, s, b⟩ := v
  exact unsl rfl
theorem ckE_is (v : V) : ckE v = cond (ckB v.1 v.2.1 v.2.2.1 v.2.2.2) (some ([], ckN v.1 v.2.1 v.2.2.1 v.2.2.2)) none := ck _ _ _ _
theorem ref02_Check_is (v : V) : ref02_Check v = some (ckB v.1 v.2.1 v.2.2.1 v.2.2.2, [], ckN v.1 v.2.1 v.2.2.1 v.2.2.2) := by
  obtain ⟨k, i, s, b⟩ := v
  exact unsl rfl
def txV (v : V) : ByteArray := textS v.1 v.2.1 v.2.2.1 v.2.2.2
theorem value_Text_is (v : V) (hi : inI v.2.1 = true) (hc : ckE v = none) : value_Text v = some (txV v, none) := by
  obtain ⟨k, i, s, b⟩ := v
  refine unsl ?_
  unfold ofSpec
  have hb : ckB k i s b = false := by
    rw [ckE_is] at hc
    simp only at hc
    cases h : ckB k i s b with
    | false => rfl
    | true => rw [h] at hc; cases hc
  have e : (sp11.f (encArgs [shVal] ((k, i, s, b) : V))).get = some (.tup [.str (txV (k, i, s, b)), .err none]) := by
    show cond (inI i) (cond (ckB k i s b) _ _) _ = _
    rw [hi, hb]; rfl
  rw [e]; rfl
theorem ref02_Text_is (v : V) (hi : inI v.2.1 = true) (hc : ckE v = none) : ref02_Text v = some (txV v) := by
  obtain ⟨k, i, s, b⟩ := v
  refine unsl ?_
  unfold ofSpec
  have hb : ckB k i s b = false := by
    rw [ckE_is] at hc
    simp only at hc
    cases h : ckB k i s b with
    | false => rfl
    | true => rw [h] at hc; cases hc
  have h2 : (!(k == 2) || decide (s.size ≤ 1000000)) = true := by
    cases hk : (k == 2) with
    | false => rfl
    | true => simp [ck_size hb hk]
  have e : (sp35.f (encArgs [shVal] ((k, i, s, b) : V))).get = some (.str (txV (k, i, s, b))) := by
    show cond (inI i) (cond (!(k == 2) || decide (s.size ≤ 1000000)) _ _) _ = _
    rw [hi, h2]; rfl
  rw [e]; rfl
theorem tx_size (v : V) (hi : inI v.2.1 = true) (hc : ckE v = none) : (txV v).size ≤ 8000 := by
  obtain ⟨k, i, s, b⟩ := v
  refine (read_text k i s b hi ?_).2
  rw [ckE_is] at hc
  simp only at hc
  cases h : ckB k i s b with
  | false => rfl
  | true => rw [h] at hc; cases hc

/-! ### names -/
def letB (c : Int) : Bool := c == 95 || (decide (c ≥ 97) && decide (c ≤ 122)) || (decide (c ≥ 48) && decide (c ≤ 57))
theorem event_letter_is (c : Int) : event_letter c = some (letB c) := by
  unfold event_letter event_letter_t letB
  simp only [LT.fin_br, LT.fin_ret]
  cases (c == 95) <;> cases decide (c ≥ 97) <;> cases decide (c ≤ 122) <;> cases decide (c ≥ 48) <;> cases decide (c ≤ 57) <;> rfl
theorem ref03_letter_is (c : Int) : ref03_letter c = some (letB c) := by
  unfold ref03_letter ref03_letter_t letB
  simp only [LT.fin_br, LT.fin_ret]
  cases (c == 95) <;> cases decide (c ≥ 97) <;> cases decide (c ≤ 122) <;> cases decide (c ≥ 48) <;> cases decide (c ≤ 57) <;> rfl
def lets (l : List UInt8) : Bool := l.all fun b => letB (b.toNat : Int)
def runL (l : List UInt8) : Nat := (l.takeWhile fun b => letB (b.toNat : Int)).length
/-- Where the letters from a place on end. -/
def runN (s : ByteArray) (i : Nat) : Nat := i + runL (s.data.toList.drop i)
theorem runL_le (l : List UInt8) : runL l ≤ l.length := by unfold runL; exact (List.takeWhile_sublist _).length_le
theorem run_le (s : ByteArray) (i : Nat) (hi : i ≤ s.size) : i ≤ runN s i ∧ runN s i ≤ s.size := by
  have := runL_le (s.data.toList.drop i)
  rw [List.length_drop, size_list] at this
  unfold runN; omega
theorem drop_at (s : ByteArray) (i : Nat) (h : i < s.size) : s.data.toList.drop i = (s.data.toList.getD i 0) :: s.data.toList.drop (i + 1) := by
  have h' : i < s.data.toList.length := by rw [size_list]; exact h
  rw [List.drop_eq_getElem_cons h', List.getD_eq_getElem?_getD, List.getElem?_eq_getElem h']; rfl
theorem run_loop (s : ByteArray) (hs : s.size ≤ 4611686018427387904) : ∀ (k m i : Nat), s.size - i ≤ k → i ≤ s.size → k < m →
    LT.loop event_run_b0 m (s, (i : Int), ()) = some ((runN s i : Int), ())
  | 0, m, i, hk, hi, hm => by
    rw [LT.loop_pos _ (by omega)]
    obtain rfl : i = s.size := by omega
    have : runN s s.size = s.size := by have := run_le s s.size (Nat.le_refl _); omega
    simp [event_run_b0, LT.run_br, LT.run_ret, this]
  | k + 1, m, i, hk, hi, hm => by
    rw [LT.loop_pos _ (by omega)]
    by_cases he : i = s.size
    · subst he
      have : runN s s.size = s.size := by have := run_le s s.size (Nat.le_refl _); omega
      simp [event_run_b0, LT.run_br, LT.run_ret, this]
    · have h1 : i < s.size := by omega
      have ih := run_loop s hs k (m - 1) (i + 1) (by omega) (by omega) (by omega)
      simp only [event_run_b0, LT.run_br, LT.run_ret, Int.ofNat_eq_natCast, Int.toNat_natCast]
      rw [if_pos (decide_eq_true (by omega)), if_pos (decide_eq_true (by omega)), if_pos (decide_eq_true (by omega)), event_letter_is, LT.run_some, i64_wrap _ (by omega) (by omega)]
      simp only [LT.run_br, LT.run_ret, LT.run_next]
      unfold runN runL at ih ⊢
      rw [drop_at s i h1, List.takeWhile_cons]
      cases hl : letB ((s.data.toList.getD i 0).toNat : Int) with
      | true =>
        simp only [if_true, List.length_cons]
        rw [show i + ((List.takeWhile (fun b => letB (b.toNat : Int)) (List.drop (i + 1) s.data.toList)).length + 1) = i + 1 + (List.takeWhile (fun b => letB (b.toNat : Int)) (List.drop (i + 1) s.data.toList)).length by omega]
        exact ih
      | false => simp
theorem event_run_is (s : ByteArray) (i : Nat) (hi : i ≤ s.size) (hs : s.size ≤ 100000000000) : event_run s (i : Int) = some (runN s i : Int) := by
  unfold event_run event_run_t event_run_l0
  rw [run_loop s (by omega) s.size FUEL i (by omega) hi (by rw [fuel_is]; omega)]; rfl
theorem run_all : ∀ l : List UInt8, (runL l = l.length) ↔ lets l = true
  | [] => by simp [runL, lets]
  | b :: l => by
    have ih := run_all l
    unfold runL lets at ih ⊢
    rw [List.takeWhile_cons, List.all_cons]
    cases h : letB (b.toNat : Int) with
    | true => simpa using ih
    | false => simp
def nameB (s : ByteArray) : Bool := decide (1 ≤ s.size) && decide (s.size ≤ 16) && decide (by' s 0 ≥ 97) && decide (by' s 0 ≤ 122) && lets s.data.toList
theorem event_Name_is (s : ByteArray) : event_Name s = some (nameB s) := by
  unfold event_Name event_Name_t nameB
  simp only [LT.fin_br, LT.fin_ret, LT.fin_fail, Int.ofNat_eq_natCast]
  have hb : by' s 0 = ((s.data.toList.getD (Int.toNat 0) 0).toNat : Int) := rfl
  rw [hb]
  generalize s.data.toList.getD (Int.toNat 0) 0 = c
  have e : event_run s 0 = some (runN s 0 : Int) ∨ ¬ s.size ≤ 16 := by
    by_cases h : s.size ≤ 16
    · exact .inl (event_run_is s 0 (by omega) (by omega))
    · exact .inr h
  by_cases h1 : 1 ≤ s.size
  · by_cases h2 : s.size ≤ 16
    · replace e := e.resolve_right (fun h => h h2)
      rw [if_pos (decide_eq_true (by omega)), if_pos (decide_eq_true (by omega)), if_pos (decide_eq_true (by omega)), decide_eq_true h1, decide_eq_true h2]
      by_cases h3 : (c.toNat : Int) ≥ 97
      · rw [if_pos (decide_eq_true h3), if_pos (decide_eq_true (by omega)), decide_eq_true h3]
        by_cases h4 : (c.toNat : Int) ≤ 122
        · rw [if_pos (decide_eq_true h4), decide_eq_true h4, e, LT.fin_some, LT.fin_ret]
          unfold runN
          rw [List.drop_zero, Nat.zero_add]
          have hr := run_all s.data.toList
          rw [size_list] at hr
          congr 1
          cases hl : lets s.data.toList with
          | true => rw [hr.2 hl]; simp
          | false =>
            have : runL s.data.toList ≠ s.size := fun e => by rw [hr.1 e] at hl; cases hl
            simp; omega
        · rw [if_neg (by simpa using h4), decide_eq_false h4]; simp
      · rw [if_neg (by simpa using h3), decide_eq_false h3]; simp
    · rw [if_pos (decide_eq_true (by omega)), if_neg (by simp; omega), decide_eq_false h2]; simp
  · rw [if_neg (by simp; omega), decide_eq_false h1]; simp
theorem rname_loop (s : ByteArray) (hs : s.size ≤ 4611686018427387904) : ∀ (k m i : Nat), s.size - i ≤ k → i ≤ s.size → k < m →
    LT.loop ref03_Name_b0 m (s, (i : Int), ()) = some (if lets (s.data.toList.drop i) = true then .inr () else .inl (false, ()))
  | 0, m, i, hk, hi, hm => by
    rw [LT.loop_pos _ (by omega)]
    obtain rfl : i = s.size := by omega
    have : s.data.toList.drop s.size = [] := List.drop_of_length_le (by rw [size_list]; omega)
    rw [this]
    simp [ref03_Name_b0, LT.run_br, LT.run_ret, lets]
  | k + 1, m, i, hk, hi, hm => by
    rw [LT.loop_pos _ (by omega)]
    by_cases he : i = s.size
    · subst he
      have : s.data.toList.drop s.size = [] := List.drop_of_length_le (by rw [size_list]; omega)
      rw [this]
      simp [ref03_Name_b0, LT.run_br, LT.run_ret, lets]
    · have h1 : i < s.size := by omega
      have ih := rname_loop s hs k (m - 1) (i + 1) (by omega) (by omega) (by omega)
      simp only [ref03_Name_b0, LT.run_br, LT.run_ret, Int.ofNat_eq_natCast, Int.toNat_natCast]
      rw [if_pos (decide_eq_true (by omega)), if_pos (decide_eq_true (by omega)), if_pos (decide_eq_true (by omega)), ref03_letter_is, LT.run_some, i64_wrap _ (by omega) (by omega)]
      simp only [LT.run_br, LT.run_ret, LT.run_next]
      rw [drop_at s i h1]
      unfold lets at ih ⊢
      rw [List.all_cons]
      cases hl : letB ((s.data.toList.getD i 0).toNat : Int) with
      | true => simpa using ih
      | false => simp
theorem ref03_Name_is (s : ByteArray) : ref03_Name s = some (nameB s) := by
  unfold ref03_Name ref03_Name_t nameB
  simp only [LT.fin_br, LT.fin_ret, LT.fin_fail, Int.ofNat_eq_natCast]
  have hb : by' s 0 = ((s.data.toList.getD (Int.toNat 0) 0).toNat : Int) := rfl
  rw [hb]
  generalize s.data.toList.getD (Int.toNat 0) 0 = c
  by_cases h1 : 1 ≤ s.size
  · by_cases h2 : s.size ≤ 16
    · rw [if_neg (by simp; omega), if_neg (by simp; omega), if_pos (decide_eq_true (by omega)), decide_eq_true h1, decide_eq_true h2]
      by_cases h3 : (c.toNat : Int) ≥ 97
      · by_cases h4 : (c.toNat : Int) ≤ 122
        · rw [if_neg (by simp; omega), if_pos (decide_eq_true (by omega)), if_neg (by simp; omega), decide_eq_true h3, decide_eq_true h4]
          have := rname_loop s (by omega) s.size FUEL 0 (by omega) (by omega) (by rw [fuel_is]; omega)
          rw [show ((0 : Nat) : Int) = 0 from rfl, List.drop_zero] at this
          unfold ref03_Name_l0
          rw [this]
          cases hl : lets s.data.toList <;> rfl
        · rw [if_neg (by simp; omega), if_pos (decide_eq_true (by omega)), if_pos (by simp; omega), decide_eq_false h4]; simp
      · rw [if_pos (by simp; omega), decide_eq_false h3]; simp
    · rw [if_neg (by simp; omega), if_pos (by simp; omega), decide_eq_false h2]; simp
  · rw [if_pos (by simp; omega), decide_eq_false h1]; simp
end Go.Proofs.YtkkgimhjjhhkjaaGreatDoor
/- Chapter 3, plain: Check of events, both sides. -/
namespace Go.Proofs.YtkkgimhjjhhkjaaGreatDoor
open Go Go.Pev

theorem getI_dflt (l : Ev) (i : Nat) (h : i < l.length) (d : ByteArray × V) : getI l (i : Int) d = l[i] := getI_lt h
theorem dropC {α : Type} (l : List α) (i : Nat) (h : i < l.length) : l.drop i = l[i] :: l.drop (i + 1) := List.drop_eq_getElem_cons h
/-- a name that does not come after the one ahead -/
def notUp (n p : ByteArray) : Bool := Op.bytesLess n.toList p.toList || n.toList == p.toList
theorem up_is (n p : ByteArray) : (!Op.bytesLess p.toList n.toList) = notUp n p := by
  unfold notUp
  have h := bl_tri n.toList p.toList
  rcases h with ⟨a, b, _⟩ | ⟨a, b, c⟩ | ⟨a, b, c⟩
  · rw [a, b]; rfl
  · rw [a, b]; simp [c]
  · rw [a, b]; simp [c]
theorem up_none (n : ByteArray) (h : nameB n = true) : notUp n (ByteArray.mk #[]) = false := by
  unfold nameB at h
  simp only [Bool.and_eq_true, decide_eq_true_eq] at h
  have h1 := h.1.1.1.1
  unfold notUp
  rw [ByteArray.toList_eq, ByteArray.toList_eq]
  have : n.data.toList ≠ [] := fun e => by
    rw [← size_list, e] at h1
    simp at h1
  cases hl : n.data.toList with
  | nil => exact absurd hl this
  | cons a t => simp [Op.bytesLess]
/-- What is at fault in attributes from a place on. -/
def chk : ByteArray → Ev → Nat → Err
  | _, [], _ => none
  | p, (n, v) :: l, i => cond (!nameB n) (some ([(2, i)], 3)) (cond (notUp n p) (some ([(2, i)], 3)) (match ckE v with
    | some x => some ((2, (i : Int)) :: x.1, x.2)
    | none => chk n l (i + 1)))
def ckEv (l : Ev) : Err := if l.length > 16 then some ([], 2) else chk (ByteArray.mk #[]) l 0
theorem chk_loop (l : Ev) (hs : l.length ≤ 1000000) : ∀ (k m i : Nat) (p : ByteArray), l.length - i ≤ k → i ≤ l.length → k < m →
    LT.loop event_Check_b0 m (p, l, Int.ofNat l.length, (i : Int), ()) = some (match chk p (l.drop i) i with | some e => .inl (some e, ()) | none => .inr ())
  | 0, m, i, p, hk, hi, hm => by
    rw [LT.loop_pos _ (by omega)]
    obtain rfl : i = l.length := by omega
    simp [event_Check_b0, LT.run_br, LT.run_ret, chk]
  | k + 1, m, i, p, hk, hi, hm => by
    rw [LT.loop_pos _ (by omega)]
    by_cases he : i = l.length
    · subst he
      simp [event_Check_b0, LT.run_br, LT.run_ret, chk]
    · have h1 : i < l.length := by omega
      have ih := fun p => chk_loop l hs k (m - 1) (i + 1) p (by omega) (by omega) (by omega)
      rw [dropC l i h1]
      simp only [event_Check_b0, LT.run_br, LT.run_ret, LT.run_next, Int.ofNat_eq_natCast, getI_dflt l i h1, event_Name_is, value_Check_is, fault_At_is, LT.run_some]
      rw [if_pos (decide_eq_true (by omega)), if_pos (decide_eq_true (by omega)), if_pos (decide_eq_true (by omega)), i64_wrap _ (by omega) (by omega)]
      generalize l[i] = a
      obtain ⟨n, v⟩ := a
      unfold chk
      simp only
      cases hn : nameB n with
      | false => rfl
      | true =>
        have hu : (Op.bytesLess n.toList p.toList || n.toList == p.toList) = notUp n p := rfl
        rw [hu]
        cases hp : notUp n p with
        | true => rfl
        | false =>
          cases hc : ckE v with
          | some x => rfl
          | none => exact ih n
theorem event_Check_is (l : Ev) (hs : l.length ≤ 1000000) : event_Check l = some (ckEv l) := by
  unfold event_Check event_Check_t event_Check_l0 ckEv
  simp only [LT.fin_br, LT.fin_ret]
  by_cases h : l.length > 16
  · rw [if_pos (decide_eq_true (by simp only [Int.ofNat_eq_natCast]; omega)), if_pos h]
  · rw [if_neg (by simp; omega), if_neg h]
    have := chk_loop l hs l.length FUEL 0 (ByteArray.mk #[]) (by omega) (by omega) (by rw [fuel_is]; omega)
    rw [show ((0 : Nat) : Int) = 0 from rfl, List.drop_zero] at this
    rw [this]
    cases chk (ByteArray.mk #[]) l 0 <;> rfl
/-! ### the document's side -/
theorem ref_at (k a : Int) (e : Bool × List (Int × Int) × Int) (h : e.2.1.length ≤ 1000000) : ref01_At k a e = some (if e.1 = true then (true, (k, a) :: e.2.1, e.2.2) else e) := by
  obtain ⟨b, l, c⟩ := e
  rw [ref01_At_is k a b l c h]

def prevOf (l : Ev) (i : Nat) : ByteArray := if i = 0 then ByteArray.mk #[] else (l.getD (i - 1) (ByteArray.mk #[], 0, 0, ByteArray.mk #[], false)).1
theorem rchk_loop (l : Ev) (hs : l.length ≤ 1000000) : ∀ (k m i : Nat), l.length - i ≤ k → i ≤ l.length → k < m →
    LT.loop ref03_Check_b0 m (l, l, Int.ofNat l.length, (i : Int), false, 0, ()) = some (match chk (prevOf l i) (l.drop i) i with | some e => .inl (true, e.1, e.2, ()) | none => .inr (false, 0, ()))
  | 0, m, i, hk, hi, hm => by
    rw [LT.loop_pos _ (by omega)]
    obtain rfl : i = l.length := by omega
    simp [ref03_Check_b0, LT.run_br, LT.run_ret, chk]
  | k + 1, m, i, hk, hi, hm => by
    rw [LT.loop_pos _ (by omega)]
    by_cases he : i = l.length
    · subst he
      simp [ref03_Check_b0, LT.run_br, LT.run_ret, chk]
    · have h1 : i < l.length := by omega
      have ih := rchk_loop l hs k (m - 1) (i + 1) (by omega) (by omega) (by omega)
      have hpn : prevOf l (i + 1) = l[i].1 := by
        unfold prevOf
        rw [if_neg (by omega), Nat.add_sub_cancel, List.getD_eq_getElem?_getD, List.getElem?_eq_getElem h1]; rfl
      rw [dropC l i h1]
      rw [hpn] at ih
      simp only [ref03_Check_b0, LT.run_br, LT.run_ret, LT.run_next, Int.ofNat_eq_natCast, getI_dflt l i h1, ref03_Name_is, ref02_Check_is, LT.run_some]
      rw [if_pos (decide_eq_true (by omega)), if_pos (decide_eq_true (by omega)), if_pos (decide_eq_true (by omega)), i64_wrap ((i : Int) + 1) (by omega) (by omega)]
      have hcut : ∀ x : ByteArray × V, (if (ckB x.2.1 x.2.2.1 x.2.2.2.1 x.2.2.2.2) = true then (LT.opt (ref01_At 2 (i : Int) (ckB x.2.1 x.2.2.1 x.2.2.2.1 x.2.2.2.2, [], ckN x.2.1 x.2.2.1 x.2.2.2.1 x.2.2.2.2)) fun x20 => (LT.ret (.inl (x20.fst, x20.snd.fst, x20.snd.snd, ())) : LT ref03_Check_S0 ref03_Check_Q0)).run some (LT.loop ref03_Check_b0 (m - 1)) else LT.loop ref03_Check_b0 (m - 1) (l, l, ((l.length : Nat) : Int), (i : Int) + 1, false, 0, ())) = (match ckE x.2 with | some y => some (.inl (true, (2, (i : Int)) :: y.1, y.2, ())) | none => LT.loop ref03_Check_b0 (m - 1) (l, l, ((l.length : Nat) : Int), (i : Int) + 1, false, 0, ())) := fun x => by
        rw [ckE_is]
        cases hb : ckB x.2.1 x.2.2.1 x.2.2.2.1 x.2.2.2.2 with
        | false => rfl
        | true =>
          rw [if_pos rfl, ref_at _ _ _ (by simp), LT.run_some]
          rfl
      by_cases h0 : i = 0
      · subst h0
        have hp0 : prevOf l 0 = ByteArray.mk #[] := rfl
        rw [hp0]
        rw [hcut l[0]]
        generalize l[0] = a at ih ⊢
        obtain ⟨n, v⟩ := a
        unfold chk
        simp only at ih ⊢
        cases hn : nameB n with
        | false => rfl
        | true =>
          rw [up_none n hn, if_neg (by simp), if_neg (by simp)]
          cases hc : ckE v with
          | some x => rfl
          | none => exact ih
      · rw [if_pos (decide_eq_true (by omega)), i64_wrap ((i : Int) - 1) (by omega) (by omega), if_pos (decide_eq_true (by omega)), if_pos (decide_eq_true (by omega))]
        have hpp : (getI l ((i : Int) - 1) (ByteArray.mk #[], 0, 0, ByteArray.mk #[], false)).1 = prevOf l i := by
          unfold prevOf
          rw [if_neg h0, show (i : Int) - 1 = ((i - 1 : Nat) : Int) by omega]; rfl
        rw [hpp, up_is, hcut l[i]]
        generalize prevOf l i = p
        generalize l[i] = a at ih ⊢
        obtain ⟨n, v⟩ := a
        unfold chk
        simp only at ih ⊢
        cases hn : nameB n with
        | false => rfl
        | true =>
          cases hp : notUp n p with
          | true => rfl
          | false =>
            cases hc : ckE v with
            | some x => rfl
            | none => exact ih
theorem ref03_Check_is (l : Ev) (hs : l.length ≤ 1000000) : ref03_Check l = some (toE (ckEv l)) := by
  unfold ref03_Check ref03_Check_t ref03_Check_l0 ckEv
  simp only [LT.fin_br, LT.fin_ret]
  by_cases h : l.length > 16
  · rw [if_pos (decide_eq_true (by simp only [Int.ofNat_eq_natCast]; omega)), if_pos h]; rfl
  · rw [if_neg (by simp; omega), if_neg h]
    have := rchk_loop l hs l.length FUEL 0 (by omega) (by omega) (by rw [fuel_is]; omega)
    rw [show ((0 : Nat) : Int) = 0 from rfl, List.drop_zero] at this
    rw [this, LT.fin_some]
    have hp0 : prevOf l 0 = ByteArray.mk #[] := rfl
    rw [hp0]
    cases chk (ByteArray.mk #[]) l 0 <;> rfl
end Go.Proofs.YtkkgimhjjhhkjaaGreatDoor
/- Chapter 3, plain: Text of events, both sides. -/
namespace Go.Proofs.YtkkgimhjjhhkjaaGreatDoor
open Go Go.Pev

theorem chk_none : ∀ (p : ByteArray) (l : Ev) (i : Nat), chk p l i = none → ∀ a ∈ l, nameB a.1 = true ∧ ckE a.2 = none
  | _, [], _, _, a, h => by cases h
  | p, (n, v) :: l, i, h, a, ha => by
    unfold chk at h
    cases hn : nameB n with
    | false => rw [hn] at h; cases h
    | true =>
      rw [hn] at h
      cases hp : notUp n p with
      | true => rw [hp] at h; cases h
      | false =>
        rw [hp] at h
        cases hc : ckE v with
        | some x => rw [hc] at h; cases h
        | none =>
          rw [hc] at h
          rcases List.mem_cons.1 ha with rfl | ha
          · exact ⟨hn, hc⟩
          · exact chk_none n l (i + 1) h a ha
theorem name_size {n : ByteArray} (h : nameB n = true) : 1 ≤ n.size ∧ n.size ≤ 16 := by
  unfold nameB at h
  simp only [Bool.and_eq_true, decide_eq_true_eq] at h
  exact ⟨h.1.1.1.1, h.1.1.1.2⟩
def wfE (l : Ev) : Prop := ∀ a ∈ l, inI a.2.2.1 = true
structure Good (l : Ev) : Prop where
  len : l.length ≤ 16
  names : ∀ a ∈ l, nameB a.1 = true
  vals : ∀ a ∈ l, inI a.2.2.1 = true ∧ ckE a.2 = none
theorem good_of {l : Ev} (hw : wfE l) (h : ckEv l = none) : Good l := by
  unfold ckEv at h
  by_cases hl : l.length > 16
  · rw [if_pos hl] at h; cases h
  · rw [if_neg hl] at h
    have := chk_none _ _ _ h
    exact ⟨by omega, fun a ha => (this a ha).1, fun a ha => ⟨hw a ha, (this a ha).2⟩⟩
def piece (a : ByteArray × V) : ByteArray := a.1 ++ ByteArray.mk #[61] ++ txV a.2
theorem piece_size {l : Ev} (g : Good l) {a : ByteArray × V} (ha : a ∈ l) : (piece a).size ≤ 8017 := by
  have h1 := name_size (g.names a ha)
  have h2 := tx_size a.2 (g.vals a ha).1 (g.vals a ha).2
  unfold piece
  rw [ByteArray.size_append, ByteArray.size_append]
  have : (ByteArray.mk #[61]).size = 1 := rfl
  omega
def rst : Ev → ByteArray → ByteArray
  | [], acc => acc
  | a :: l, acc => rst l (acc ++ ByteArray.mk #[44, 32] ++ piece a)
def tx : Ev → ByteArray
  | [] => ByteArray.mk #[]
  | a :: l => rst l (piece a)
theorem rst_list : ∀ (l : Ev) (acc : ByteArray), (rst l acc).data.toList = acc.data.toList ++ l.flatMap fun a => [44, 32] ++ (piece a).data.toList
  | [], acc => by simp [rst]
  | a :: l, acc => by
    unfold rst
    rw [rst_list l]
    simp
theorem join_is (l : Ev) (h : l.length ≤ 16) (hp : ∀ a ∈ l, (piece a).size ≤ 8017) : joinF (l.map piece) (ByteArray.mk #[44, 32]) = some (tx l) := by
  have e : Lib.join ((l.map piece).map (·.data.toList)) (ByteArray.mk #[44, 32]).data.toList = (tx l).data.toList := by
    cases l with
    | nil => rfl
    | cons a l =>
      rw [List.map_cons, List.map_cons, Lib.join_cons]
      unfold tx Lib.joinTail
      rw [rst_list, List.map_map, List.map_map, List.flatMap_def]
      rfl
  have hsz : ∀ (l : Ev) (acc : ByteArray), (∀ a ∈ l, (piece a).size ≤ 8017) → (rst l acc).size ≤ acc.size + l.length * 8019 := by
    intro l
    induction l with
    | nil => intro acc _; simp [rst]
    | cons a l ih =>
      intro acc hp
      have := ih (acc ++ ByteArray.mk #[44, 32] ++ piece a) fun b hb => hp b (List.mem_cons_of_mem _ hb)
      have h1 := hp a (List.mem_cons_self ..)
      unfold rst
      rw [ByteArray.size_append, ByteArray.size_append] at this
      have : (ByteArray.mk #[44, 32]).size = 2 := rfl
      simp only [List.length_cons]
      omega
  have hb : (tx l).size ≤ 200000 := by
    cases l with
    | nil => exact Nat.zero_le _
    | cons a l =>
      have := hsz l (piece a) fun b hb => hp b (List.mem_cons_of_mem _ hb)
      have h1 := hp a (List.mem_cons_self ..)
      simp only [List.length_cons] at h
      show (rst l (piece a)).size ≤ 200000
      omega
  rw [joinF_eq, e, size_list, decide_eq_true ⟨by rw [List.length_map]; omega, by omega⟩]
  rfl
theorem text_loop (l : Ev) (g : Good l) : ∀ (k m i : Nat) (acc : List ByteArray), l.length - i ≤ k → i ≤ l.length → k < m → acc.length ≤ i →
    LT.loop event_Text_b0 m (l, Int.ofNat l.length, (i : Int), acc, ()) = some (acc ++ (l.drop i).map piece, ())
  | 0, m, i, acc, hk, hi, hm, ha => by
    rw [LT.loop_pos _ (by omega)]
    obtain rfl : i = l.length := by omega
    simp [event_Text_b0, LT.run_br, LT.run_ret]
  | k + 1, m, i, acc, hk, hi, hm, ha => by
    rw [LT.loop_pos _ (by omega)]
    by_cases he : i = l.length
    · subst he
      simp [event_Text_b0, LT.run_br, LT.run_ret]
    · have h1 : i < l.length := by omega
      have ih := text_loop l g k (m - 1) (i + 1) (acc ++ [piece l[i]]) (by omega) (by omega) (by omega) (by simp; omega)
      have hl := g.len
      have hmem : l[i] ∈ l := List.getElem_mem h1
      have hv := g.vals _ hmem
      have hn := name_size (g.names _ hmem)
      have ht := tx_size l[i].2 hv.1 hv.2
      have h61 : (ByteArray.mk #[61]).size = 1 := rfl
      rw [dropC l i h1]
      simp only [event_Text_b0, LT.run_br, LT.run_ret, LT.run_next, Int.ofNat_eq_natCast, getI_dflt l i h1, value_Text_is _ hv.1 hv.2, LT.run_some]
      rw [if_pos (decide_eq_true (by omega)), if_pos (decide_eq_true (by omega)), if_pos (decide_eq_true (by omega)), i64_wrap _ (by omega) (by omega), if_pos (decide_eq_true (by omega)), if_pos (decide_eq_true (by rw [ByteArray.size_append]; omega)), appLim_ok (by omega), if_pos rfl]
      rw [List.map_cons]
      have := ih
      rw [List.append_assoc] at this
      exact this
theorem event_Text_is (l : Ev) (hw : wfE l) (hs : l.length ≤ 1000000) : event_Text l = some (match ckEv l with | some e => (ByteArray.mk #[], some e) | none => (tx l, none)) := by
  unfold event_Text event_Text_t event_Text_l0
  rw [event_Check_is l hs, LT.fin_some]
  cases h : ckEv l with
  | some e => rfl
  | none =>
    have g := good_of hw h
    have hl := g.len
    have := text_loop l g l.length FUEL 0 [] (by omega) (by omega) (by rw [fuel_is]; omega) (by simp)
    rw [show ((0 : Nat) : Int) = 0 from rfl, List.drop_zero, List.nil_append] at this
    simp only [Option.isNone, LT.fin_br, Bool.not_true]
    rw [if_neg (by simp), this, LT.fin_some, join_is l g.len fun a ha => piece_size g ha]
    rfl
/-! ### the document's side -/
theorem nil_app (s : ByteArray) : ByteArray.mk #[] ++ s = s := bytes_ext (by simp)
theorem rtext_loop (l : Ev) (g : Good l) : ∀ (k m i : Nat) (acc : ByteArray), l.length - i ≤ k → i ≤ l.length → k < m → acc.size ≤ i * 8019 → (i = 0 → acc = ByteArray.mk #[]) →
    LT.loop ref03_Text_b0 m (acc, l, Int.ofNat l.length, (i : Int), ()) = some (if i = 0 then tx l else rst (l.drop i) acc, ())
  | 0, m, i, acc, hk, hi, hm, ha, h0 => by
    rw [LT.loop_pos _ (by omega)]
    obtain rfl : i = l.length := by omega
    simp only [ref03_Text_b0, LT.run_br, LT.run_ret, Int.ofNat_eq_natCast]
    rw [if_neg (by simp), List.drop_length]
    by_cases he : l.length = 0
    · rw [if_pos he, h0 he, List.eq_nil_of_length_eq_zero he]; rfl
    · rw [if_neg he]; rfl
  | k + 1, m, i, acc, hk, hi, hm, ha, h0 => by
    rw [LT.loop_pos _ (by omega)]
    by_cases he : i = l.length
    · subst he
      simp only [ref03_Text_b0, LT.run_br, LT.run_ret, Int.ofNat_eq_natCast]
      rw [if_neg (by simp), List.drop_length]
      by_cases he : l.length = 0
      · rw [if_pos he, h0 he, List.eq_nil_of_length_eq_zero he]; rfl
      · rw [if_neg he]; rfl
    · have h1 : i < l.length := by omega
      have hl := g.len
      have hmem : l[i] ∈ l := List.getElem_mem h1
      have hv := g.vals _ hmem
      have hn := name_size (g.names _ hmem)
      have ht := tx_size l[i].2 hv.1 hv.2
      have hp := piece_size g hmem
      have h61 : (ByteArray.mk #[61]).size = 1 := rfl
      have h44 : (ByteArray.mk #[44, 32]).size = 2 := rfl
      have hpc : l[i].1 ++ ByteArray.mk #[61] ++ txV l[i].2 = piece l[i] := rfl
      simp only [ref03_Text_b0, LT.run_br, LT.run_ret, LT.run_next, Int.ofNat_eq_natCast, getI_dflt l i h1, ref02_Text_is _ hv.1 hv.2, LT.run_some, hpc]
      rw [if_pos (decide_eq_true (by omega)), if_pos (decide_eq_true (by omega)), if_pos (decide_eq_true (by omega)), i64_wrap _ (by omega) (by omega)]
      by_cases hi0 : i = 0
      · subst hi0
        have ih := rtext_loop l g k (m - 1) 1 (piece l[0]) (by omega) (by omega) (by omega) (by omega) (by omega)
        rw [if_neg (by simp), if_pos (decide_eq_true (by omega)), if_pos (decide_eq_true (by rw [ByteArray.size_append]; omega)), if_pos (decide_eq_true (by omega)), if_pos rfl, h0 rfl, nil_app]
        rw [if_neg (by omega)] at ih
        rw [show ((0 : Nat) : Int) + 1 = ((1 : Nat) : Int) from rfl]
        refine ih.trans ?_
        have := dropC l 0 h1
        rw [List.drop_zero] at this
        conv => rhs; rw [this]
        rfl
      · have hsz : (acc ++ ByteArray.mk #[44, 32] ++ piece l[i]).size ≤ (i + 1) * 8019 := by
          rw [ByteArray.size_append, ByteArray.size_append]; omega
        have ih := rtext_loop l g k (m - 1) (i + 1) (acc ++ ByteArray.mk #[44, 32] ++ piece l[i]) (by omega) (by omega) (by omega) hsz (by omega)
        rw [if_pos (decide_eq_true (by omega)), if_pos (decide_eq_true (by omega)), if_pos (decide_eq_true (by omega)), if_pos (decide_eq_true (by rw [ByteArray.size_append]; omega)), if_pos (decide_eq_true (by rw [ByteArray.size_append]; omega)), if_neg hi0]
        rw [if_neg (by omega)] at ih
        rw [dropC l i h1]
        exact ih
theorem ref03_Text_is (l : Ev) (g : Good l) : ref03_Text l = some (tx l) := by
  unfold ref03_Text ref03_Text_t ref03_Text_l0
  have hl := g.len
  have := rtext_loop l g l.length FUEL 0 (ByteArray.mk #[]) (by omega) (by omega) (by rw [fuel_is]; omega) (Nat.le_refl _) (fun _ => rfl)
  rw [show ((0 : Nat) : Int) = 0 from rfl, if_pos rfl] at this
  rw [this]; rfl
theorem ref03_DocText_is (l : Ev) (hw : wfE l) (hs : l.length ≤ 1000000) : ref03_DocText l = some (match ckEv l with | some e => (ByteArray.mk #[], true, e.1, e.2) | none => (tx l, false, [], 0)) := by
  unfold ref03_DocText ref03_DocText_t
  rw [ref03_Check_is l hs, LT.fin_some]
  cases h : ckEv l with
  | some e => rfl
  | none =>
    have g := good_of hw h
    show (LT.br false _ _ : FT _).fin = _
    rw [LT.fin_br, if_neg (by simp), ref03_Text_is l g]
    rfl
end Go.Proofs.YtkkgimhjjhhkjaaGreatDoor
/- Chapter 3, plain: the parts of reading: commas, values, shifts. -/
namespace Go.Proofs.YtkkgimhjjhhkjaaGreatDoor
open Go Go.Pev

/-! ### values -/
def rdV (s : ByteArray) : V × Err := match readR s with
  | .val v => (v, none)
  | .bad p => ((0, 0, ⟨#[]⟩, false), some ([(1, (p : Int))], 4))
  | .long => ((0, 0, ⟨#[]⟩, false), some ([], 2))
theorem value_Read_is (s : ByteArray) : value_Read s = some (rdV s) := by
  refine unsl ?_
  unfold ofSpec
  have e : (sp12.f (encArgs [.str] s)).get = (readT (readR s)).get := rfl
  rw [e]
  unfold rdV
  cases readR s with
  | val v => obtain ⟨k, i, s, b⟩ := v; rfl
  | bad p => rfl
  | long => rfl
theorem ref02_Read_is (s : ByteArray) : ref02_Read s = some ((rdV s).1, toE (rdV s).2) := by
  refine unsl ?_
  unfold ofSpec
  have e : (sp19.f (encArgs [.str] s)).get = (readT' (readR s)).get := rfl
  rw [e]
  unfold rdV
  cases readR s with
  | val v => obtain ⟨k, i, s, b⟩ := v; rfl
  | bad p => rfl
  | long => rfl
/-! ### shifts -/
theorem fault_first_is (e : Err) : fault_first e = some (errHead e) := by
  unfold fault_first fault_first_t
  rw [LT.fin_br]
  cases h : errHead e with
  | none => rfl
  | some x => rfl
theorem shift_one (p d : Int) : fault_Shift (some ([(1, p)], 4)) 1 d = some (some ([(1, IntKind.i64.wrap (p + d))], 4)) := by
  unfold fault_Shift fault_Shift_t
  rw [fault_first_is]
  rfl
theorem rshift_one (p d : Int) : ref01_Shift (true, [(1, p)], 4) 1 d = some (true, [(1, IntKind.i64.wrap (p + d))], 4) := by
  unfold ref01_Shift ref01_Shift_t
  rfl
/-! ### commas -/
/-- The place of the comma, over what is left, or of the end: out of quotes (0), in them (1), behind a stroke in them (2). -/
def com : Nat → List UInt8 → Nat → Nat
  | _, [], i => i
  | 0, c :: l, i => if c.toNat = 34 then com 1 l (i + 1) else if c.toNat = 44 then i else com 0 l (i + 1)
  | 1, c :: l, i => if c.toNat = 92 then com 2 l (i + 1) else if c.toNat = 34 then com 0 l (i + 1) else com 1 l (i + 1)
  | _ + 2, _ :: l, i => com 1 l (i + 1)
theorem com0 (c : UInt8) (l : List UInt8) (i : Nat) : com 0 (c :: l) i = if c.toNat = 34 then com 1 l (i + 1) else if c.toNat = 44 then i else com 0 l (i + 1) := rfl
theorem com1 (c : UInt8) (l : List UInt8) (i : Nat) : com 1 (c :: l) i = if c.toNat = 92 then com 2 l (i + 1) else if c.toNat = 34 then com 0 l (i + 1) else com 1 l (i + 1) := rfl
def qn (q : Bool) : Nat := if q = true then 1 else 0
def comQ : event_comma_Q0 → Int
  | .inl (_, p, ()) => p
  | .inr (s, ()) => (s.size : Int)
def rcomQ : ref03_Comma_Q0 → Int
  | .inl (_, p, ()) => p
  | .inr (s, ()) => (s.size : Int)
theorem com_le : ∀ (l : List UInt8) (t i : Nat), i ≤ com t l i ∧ com t l i ≤ i + l.length
  | [], t, i => by cases t <;> simp [com]
  | c :: l, t, i => by
    have h := fun t => com_le l t (i + 1)
    simp only [List.length_cons]
    match t with
    | 0 => unfold com; split; (have := h 1; omega); split; omega; (have := h 0; omega)
    | 1 => unfold com; split; (have := h 2; omega); split; (have := h 0; omega); (have := h 1; omega)
    | t + 2 => unfold com; have := h 1; omega
theorem comma_loop (s : ByteArray) (hs : s.size ≤ 4611686018427387904) : ∀ (k m i : Nat) (q : Bool), s.size - i ≤ k → i ≤ s.size → k + 1 < m →
    (LT.loop event_comma_b0 m (s, (i : Int), q, ())).map comQ = some ((com (qn q) (s.data.toList.drop i) i : Nat) : Int)
  | 0, m, i, q, hk, hi, hm => by
    rw [LT.loop_pos _ (by omega)]
    obtain rfl : i = s.size := by omega
    have : s.data.toList.drop s.size = [] := List.drop_of_length_le (by rw [size_list]; omega)
    rw [this]
    cases q <;> simp [event_comma_b0, LT.run_br, LT.run_ret, com, comQ]
  | k + 1, m, i, q, hk, hi, hm => by
    rw [LT.loop_pos _ (by omega)]
    by_cases he : i = s.size
    · subst he
      have : s.data.toList.drop s.size = [] := List.drop_of_length_le (by rw [size_list]; omega)
      rw [this]
      cases q <;> simp [event_comma_b0, LT.run_br, LT.run_ret, com, comQ]
    · have h1 : i < s.size := by omega
      have ih := fun q => comma_loop s hs k (m - 1) (i + 1) q (by omega) (by omega) (by omega)
      simp only [event_comma_b0, LT.run_br, LT.run_ret, LT.run_next, Int.ofNat_eq_natCast, Int.toNat_natCast]
      rw [if_pos (decide_eq_true (by omega)), if_pos (decide_eq_true (by omega)), if_pos (decide_eq_true (by omega)), i64_wrap ((i : Int) + 1) (by omega) (by omega), i64_wrap ((i : Int) + 1 + 1) (by omega) (by omega)]
      have hsk : (LT.loop event_comma_b0 (m - 1) (s, (i : Int) + 1 + 1, true, ())).map comQ = some ((com 2 (s.data.toList.drop (i + 1)) (i + 1) : Nat) : Int) := by
        by_cases h2 : i + 1 = s.size
        · rw [LT.loop_pos _ (by omega)]
          have : s.data.toList.drop (i + 1) = [] := List.drop_of_length_le (by rw [size_list]; omega)
          rw [this]
          simp only [event_comma_b0, LT.run_br, LT.run_ret, Int.ofNat_eq_natCast]
          rw [if_neg (by simp; omega)]
          simp [comQ, com, h2]
        · have := comma_loop s hs k (m - 1) (i + 2) true (by omega) (by omega) (by omega)
          rw [drop_at s (i + 1) (by omega)]
          exact this
      rw [drop_at s i h1]
      generalize s.data.toList.getD i 0 = c
      rw [show (i : Int) + 1 = ((i + 1 : Nat) : Int) from rfl] at hsk ⊢
      cases q with
      | true =>
        rw [if_pos rfl, show qn true = 1 from rfl, com1]
        by_cases c1 : c.toNat = 92
        · rw [if_pos (by simp [c1]), if_pos c1]; exact hsk
        · rw [if_neg (by simp; omega), if_neg c1]
          by_cases c2 : c.toNat = 34
          · rw [if_pos (by simp [c2]), if_pos c2]; exact ih false
          · rw [if_neg (by simp; omega), if_neg c2]
            have e := ih true
            unfold qn at e
            split <;> exact e
      | false =>
        rw [if_neg (by simp), show qn false = 0 from rfl, com0]
        by_cases c2 : c.toNat = 34
        · rw [if_pos (by simp [c2]), if_pos c2]; exact ih true
        · rw [if_neg (by simp; omega), if_neg c2]
          by_cases c3 : c.toNat = 44
          · rw [if_pos (by simp [c3]), if_pos c3]; rfl
          · rw [if_neg (by simp; omega), if_neg c3]; exact ih false
theorem rcomma_loop (s : ByteArray) (hs : s.size ≤ 4611686018427387904) : ∀ (k m i : Nat) (q : Bool), s.size - i ≤ k → i ≤ s.size → k + 1 < m →
    (LT.loop ref03_Comma_b0 m (s, (i : Int), q, ())).map rcomQ = some ((com (qn q) (s.data.toList.drop i) i : Nat) : Int)
  | 0, m, i, q, hk, hi, hm => by
    rw [LT.loop_pos _ (by omega)]
    obtain rfl : i = s.size := by omega
    have : s.data.toList.drop s.size = [] := List.drop_of_length_le (by rw [size_list]; omega)
    rw [this]
    cases q <;> simp [ref03_Comma_b0, LT.run_br, LT.run_ret, com, rcomQ]
  | k + 1, m, i, q, hk, hi, hm => by
    rw [LT.loop_pos _ (by omega)]
    by_cases he : i = s.size
    · subst he
      have : s.data.toList.drop s.size = [] := List.drop_of_length_le (by rw [size_list]; omega)
      rw [this]
      cases q <;> simp [ref03_Comma_b0, LT.run_br, LT.run_ret, com, rcomQ]
    · have h1 : i < s.size := by omega
      have ih := fun q => rcomma_loop s hs k (m - 1) (i + 1) q (by omega) (by omega) (by omega)
      simp only [ref03_Comma_b0, LT.run_br, LT.run_ret, LT.run_next, Int.ofNat_eq_natCast, Int.toNat_natCast]
      rw [if_pos (decide_eq_true (by omega)), if_pos (decide_eq_true (by omega)), if_pos (decide_eq_true (by omega)), i64_wrap ((i : Int) + 1) (by omega) (by omega), i64_wrap ((i : Int) + 1 + 1) (by omega) (by omega)]
      have hsk : (LT.loop ref03_Comma_b0 (m - 1) (s, (i : Int) + 1 + 1, true, ())).map rcomQ = some ((com 2 (s.data.toList.drop (i + 1)) (i + 1) : Nat) : Int) := by
        by_cases h2 : i + 1 = s.size
        · rw [LT.loop_pos _ (by omega)]
          have : s.data.toList.drop (i + 1) = [] := List.drop_of_length_le (by rw [size_list]; omega)
          rw [this]
          simp only [ref03_Comma_b0, LT.run_br, LT.run_ret, Int.ofNat_eq_natCast]
          rw [if_neg (by simp; omega)]
          simp [rcomQ, com, h2]
        · have := rcomma_loop s hs k (m - 1) (i + 2) true (by omega) (by omega) (by omega)
          rw [drop_at s (i + 1) (by omega)]
          exact this
      rw [drop_at s i h1]
      generalize s.data.toList.getD i 0 = c
      rw [show (i : Int) + 1 = ((i + 1 : Nat) : Int) from rfl] at hsk ⊢
      by_cases c1 : c.toNat = 92
      · rw [if_pos (by simp [c1])]
        cases q with
        | true => rw [if_pos rfl, show qn true = 1 from rfl, com1, if_pos c1]; exact hsk
        | false =>
          rw [if_neg (by simp), if_pos (decide_eq_true (by omega)), if_pos (decide_eq_true (by omega)), if_neg (by simp; omega), if_pos (decide_eq_true (by omega)), if_pos (decide_eq_true (by omega)), if_neg (by simp; omega), show qn false = 0 from rfl, com0, if_neg (by omega), if_neg (by omega)]
          exact ih false
      · rw [if_neg (by simp; omega), if_pos (decide_eq_true (by omega)), if_pos (decide_eq_true (by omega))]
        by_cases c2 : c.toNat = 34
        · rw [if_pos (by simp [c2])]
          cases q with
          | true => rw [show qn true = 1 from rfl, com1, if_neg c1, if_pos c2]; exact ih false
          | false => rw [show qn false = 0 from rfl, com0, if_pos c2]; exact ih true
        · rw [if_neg (by simp; omega), if_pos (decide_eq_true (by omega)), if_pos (decide_eq_true (by omega))]
          by_cases c3 : c.toNat = 44
          · rw [if_pos (by simp [c3])]
            cases q with
            | true => rw [if_neg (by simp), show qn true = 1 from rfl, com1, if_neg c1, if_neg c2]; exact ih true
            | false => rw [if_pos (by simp), show qn false = 0 from rfl, com0, if_neg c2, if_pos c3]; rfl
          · rw [if_neg (by simp; omega)]
            cases q with
            | true => rw [show qn true = 1 from rfl, com1, if_neg c1, if_neg c2]; exact ih true
            | false => rw [show qn false = 0 from rfl, com0, if_neg c2, if_neg c3]; exact ih false
def comN (s : ByteArray) (i : Nat) : Nat := com 0 (s.data.toList.drop i) i
theorem event_comma_is (s : ByteArray) (i : Nat) (hi : i ≤ s.size) (hs : s.size ≤ 100000000000) : event_comma s (i : Int) = some (comN s i : Int) := by
  unfold event_comma event_comma_t event_comma_l0
  have h := comma_loop s (by omega) s.size FUEL i false (by omega) hi (by rw [fuel_is]; omega)
  cases hl : LT.loop event_comma_b0 FUEL (s, (i : Int), false, ()) with
  | none => rw [hl] at h; cases h
  | some x =>
    rw [hl] at h
    rw [LT.fin_some]
    rcases x with ⟨_, p, ⟨⟩⟩ | ⟨s', ⟨⟩⟩
    · exact h
    · exact h
theorem ref03_Comma_is (s : ByteArray) (i : Nat) (hi : i ≤ s.size) (hs : s.size ≤ 100000000000) : ref03_Comma s (i : Int) = some (comN s i : Int) := by
  unfold ref03_Comma ref03_Comma_t ref03_Comma_l0
  have h := rcomma_loop s (by omega) s.size FUEL i false (by omega) hi (by rw [fuel_is]; omega)
  cases hl : LT.loop ref03_Comma_b0 FUEL (s, (i : Int), false, ()) with
  | none => rw [hl] at h; cases h
  | some x =>
    rw [hl] at h
    rw [LT.fin_some]
    rcases x with ⟨_, p, ⟨⟩⟩ | ⟨s', ⟨⟩⟩
    · exact h
    · exact h
theorem comN_le (s : ByteArray) (i : Nat) (hi : i ≤ s.size) : i ≤ comN s i ∧ comN s i ≤ s.size := by
  have := com_le (s.data.toList.drop i) 0 i
  rw [List.length_drop, size_list] at this
  unfold comN; omega
end Go.Proofs.YtkkgimhjjhhkjaaGreatDoor
/- Chapter 3, plain: Read of events, both sides. -/
namespace Go.Proofs.YtkkgimhjjhhkjaaGreatDoor
open Go Go.Pev

def byN (s : ByteArray) (i : Nat) : Nat := (s.data.toList.getD i 0).toNat
abbrev RS : Type := (Ev × Err) ⊕ (ByteArray × Nat × Ev)
def bad4 (i : Int) : RS := .inl ([], some ([(1, i)], 4))
/-- behind a value: the end, or a space -/
def rdTail (s n : ByteArray) (c : Nat) (acc : Ev) : RS :=
  if c = s.size then .inl (acc, none) else if c + 1 = s.size then bad4 ((c + 1 : Nat) : Int) else if byN s (c + 1) = 32 then .inr (n, c + 2, acc) else bad4 ((c + 1 : Nat) : Int)
/-- behind a name's mark: the value -/
def rdVal (s n : ByteArray) (b c : Nat) (acc : Ev) : RS := match readR (s.extract b c) with
  | .long => bad4 (b : Int)
  | .bad p => bad4 (IntKind.i64.wrap ((p : Int) + (b : Int)))
  | .val v => rdTail s n c (acc ++ [(n, v)])
def rdStep (s last : ByteArray) (a r : Nat) (acc : Ev) : RS :=
  if nameB (s.extract a r) = true ∧ notUp (s.extract a r) last = false ∧ acc.length ≠ 16 then
    if r = s.size then bad4 (r : Int) else if byN s r = 61 then rdVal s (s.extract a r) (r + 1) (comN s (r + 1)) acc else bad4 (r : Int)
  else bad4 (a : Int)
def rd (s : ByteArray) : Nat → ByteArray → Nat → Ev → Option (Ev × Err)
  | 0, _, _, _ => none
  | n + 1, last, a, acc => match rdStep s last a (runN s a) acc with
    | .inl x => some x
    | .inr (l, b, acc') => rd s n l b acc'
def rdQ : event_Read_Q0 → Ev × Err
  | .inl (e, _, ()) => ([], e)
  | .inr (.inl (r, ())) => (r, none)
  | .inr (.inr (.inl (e, _, ()))) => ([], e)
  | .inr (.inr (.inr (r, ()))) => (r, none)
theorem read_loop (s : ByteArray) (h0 : 0 < s.size) (hs : s.size ≤ 8000) : ∀ (m : Nat) (last : ByteArray) (a : Nat) (acc : Ev), a ≤ s.size → acc.length ≤ 16 →
    (LT.loop event_Read_b0 m (s, last, (a : Int), acc, ())).map rdQ = rd s m last a acc
  | 0, last, a, acc, _, _ => rfl
  | m + 1, last, a, acc, ha, hl => by
    rw [LT.loop_pos _ (by omega), Nat.add_sub_cancel]
    have hr := run_le s a ha
    unfold rd
    simp only [event_Read_b0, LT.run_br, LT.run_ret, Int.ofNat_eq_natCast, Int.toNat_natCast]
    rw [if_pos (decide_eq_true (by omega)), event_run_is s a ha (by omega), LT.run_some]
    generalize runN s a = r at hr ⊢
    simp only [LT.run_br, Int.toNat_natCast]
    rw [if_pos (decide_eq_true (by omega)), if_pos (decide_eq_true (by omega)), if_pos (decide_eq_true (by omega)), event_Name_is, LT.run_some]
    simp only [LT.run_br, LT.run_ret]
    unfold rdStep
    generalize hn : s.extract a r = n
    have hu : (Op.bytesLess n.toList last.toList || n.toList == last.toList) = notUp n last := rfl
    rw [hu]
    cases h1 : nameB n with
    | false => rw [if_pos (by simp), if_neg (by simp)]; rfl
    | true =>
      rw [if_neg (by simp)]
      cases h2 : notUp n last with
      | true => rw [if_pos rfl, if_neg (by simp)]; rfl
      | false =>
        rw [if_neg (by simp)]
        by_cases h3 : acc.length = 16
        · rw [if_pos (by simp [h3]), if_neg (by simp [h3])]; rfl
        · rw [if_neg (by simp; omega), if_pos (show true = true ∧ false = false ∧ acc.length ≠ 16 from ⟨rfl, rfl, h3⟩)]
          by_cases h4 : r = s.size
          · rw [if_pos (by simp [h4]), if_pos h4]; rfl
          · rw [if_neg (by simp; omega), if_neg h4, if_pos (decide_eq_true (by omega)), if_pos (decide_eq_true (by omega)), show ((s.data.toList.getD r 0).toNat : Int) = (byN s r : Int) from rfl]
            by_cases h5 : byN s r = 61
            · rw [if_neg (by simp [h5]), if_pos h5, i64_wrap _ (by omega) (by omega), show (r : Int) + 1 = ((r + 1 : Nat) : Int) from rfl, event_comma_is s (r + 1) (by omega) (by omega), LT.run_some]
              have hc := comN_le s (r + 1) (by omega)
              generalize comN s (r + 1) = c at hc ⊢
              simp only [LT.run_br, Int.toNat_natCast]
              rw [if_pos (decide_eq_true (by omega)), if_pos (decide_eq_true (by omega)), if_pos (decide_eq_true (by omega)), value_Read_is, LT.run_some]
              unfold rdV rdVal
              cases readR (s.extract (r + 1) c) with
              | long => rfl
              | bad p =>
                show Option.map rdQ (LT.run (LT.opt (isF (some ([(1, (p : Int))], 4)) (some ([], 2))) _) _ _) = _
                rw [show isF (some ([(1, (p : Int))], 4)) (some ([], 2)) = some false from rfl, LT.run_some]
                simp only [LT.run_br, LT.run_ret, Option.isNone]
                rw [if_neg (by simp), if_pos (by simp), shift_one, LT.run_some]
                rfl
              | val v =>
                show Option.map rdQ (LT.run (LT.opt (isF none (some ([], 2))) _) _ _) = _
                rw [show isF none (some ([], 2)) = some false from rfl, LT.run_some]
                simp only [LT.run_br, LT.run_ret, LT.run_next, Option.isNone]
                rw [if_neg (by simp), if_neg (by simp), appLim_ok (by omega), if_pos rfl, i64_wrap ((c : Int) + 1) (by omega) (by omega), i64_wrap ((c : Int) + 2) (by omega) (by omega)]
                unfold rdTail
                by_cases h6 : c = s.size
                · rw [if_pos (by simp [h6]), if_pos h6]; rfl
                · rw [if_neg (by simp; omega), if_neg h6]
                  by_cases h7 : c + 1 = s.size
                  · rw [if_pos (by simp; omega), if_pos h7]; rfl
                  · rw [if_neg (by simp; omega), if_neg h7, if_pos (decide_eq_true (by omega)), if_pos (decide_eq_true (by omega)), show (c : Int) + 1 = ((c + 1 : Nat) : Int) from rfl, Int.toNat_natCast, show ((s.data.toList.getD (c + 1) 0).toNat : Int) = (byN s (c + 1) : Int) from rfl]
                    by_cases h8 : byN s (c + 1) = 32
                    · rw [if_neg (by simp [h8]), if_pos h8]
                      exact read_loop s h0 hs m n (c + 2) (acc ++ [(n, v)]) (by omega) (by simp; omega)
                    · rw [if_pos (by simp; omega), if_neg h8]
                      rfl
            · rw [if_pos (by simp; omega), if_neg h5]
              rfl
end Go.Proofs.YtkkgimhjjhhkjaaGreatDoor
/- Chapter 3, plain: Read of the document's side. -/
namespace Go.Proofs.YtkkgimhjjhhkjaaGreatDoor
open Go Go.Pev

def lastName (acc : Ev) : ByteArray := if acc.length = 0 then ByteArray.mk #[] else (acc.getD (acc.length - 1) (ByteArray.mk #[], 0, 0, ByteArray.mk #[], false)).1
theorem last_snoc (acc : Ev) (n : ByteArray) (v : V) : lastName (acc ++ [(n, v)]) = n := by
  unfold lastName
  rw [if_neg (by simp)]
  simp
theorem prev_if {ρ : Type} (acc : Ev) (n : ByteArray) (hn : nameB n = true) (hl : acc.length ≤ 1000000) (F X N : ρ) :
    (if decide ((acc.length : Int) > 0) = true then if decide (0 ≤ IntKind.i64.wrap ((acc.length : Int) - 1)) = true then if decide (IntKind.i64.wrap ((acc.length : Int) - 1) < (acc.length : Int)) = true then if decide (0 ≤ IntKind.i64.wrap ((acc.length : Int) - 1)) = true then if decide (IntKind.i64.wrap ((acc.length : Int) - 1) < (acc.length : Int)) = true then if (!Op.bytesLess (ByteArray.toList (getI acc (IntKind.i64.wrap ((acc.length : Int) - 1)) (ByteArray.mk #[], 0, 0, ByteArray.mk #[], false)).fst) n.toList) = true then F else X else N else N else N else N else X) = if notUp n (lastName acc) = true then F else X := by
  unfold lastName
  by_cases h : acc.length = 0
  · rw [if_neg (by rw [decide_eq_true_eq]; omega), if_pos h, up_none n hn, if_neg (by simp)]
  · rw [if_pos (decide_eq_true (by omega)), i64_wrap _ (by omega) (by omega), if_pos (decide_eq_true (by omega)), if_pos (decide_eq_true (by omega)), if_pos (decide_eq_true (by omega)), if_pos (decide_eq_true (by omega)), if_neg h, up_is, show (acc.length : Int) - 1 = ((acc.length - 1 : Nat) : Int) by omega, getI_cast]
theorem let_loop (s : ByteArray) (hs : s.size ≤ 4611686018427387904) (a : Int) (b : Bool) (c : Int) (acc : Ev) : ∀ (k m i : Nat), s.size - i ≤ k → i ≤ s.size → k < m →
    LT.loop ref03_Read_b1 m (s, a, (i : Int), b, c, acc, ()) = some (s, a, (runN s i : Int), b, c, acc, ())
  | 0, m, i, hk, hi, hm => by
    rw [LT.loop_pos _ (by omega)]
    obtain rfl : i = s.size := by omega
    have : runN s s.size = s.size := by have := run_le s s.size (Nat.le_refl _); omega
    simp [ref03_Read_b1, LT.run_br, LT.run_ret, this]
  | k + 1, m, i, hk, hi, hm => by
    rw [LT.loop_pos _ (by omega)]
    by_cases he : i = s.size
    · subst he
      have : runN s s.size = s.size := by have := run_le s s.size (Nat.le_refl _); omega
      simp [ref03_Read_b1, LT.run_br, LT.run_ret, this]
    · have h1 : i < s.size := by omega
      have ih := let_loop s hs a b c acc k (m - 1) (i + 1) (by omega) (by omega) (by omega)
      simp only [ref03_Read_b1, LT.run_br, LT.run_ret, Int.ofNat_eq_natCast, Int.toNat_natCast]
      rw [if_pos (decide_eq_true (by omega)), if_pos (decide_eq_true (by omega)), if_pos (decide_eq_true (by omega)), ref03_letter_is, LT.run_some, i64_wrap _ (by omega) (by omega)]
      simp only [LT.run_br, LT.run_ret, LT.run_next]
      unfold runN runL at ih ⊢
      rw [drop_at s i h1, List.takeWhile_cons]
      cases hl : letB ((s.data.toList.getD i 0).toNat : Int) with
      | true =>
        simp only [if_true, List.length_cons]
        rw [show i + ((List.takeWhile (fun b => letB (b.toNat : Int)) (List.drop (i + 1) s.data.toList)).length + 1) = i + 1 + (List.takeWhile (fun b => letB (b.toNat : Int)) (List.drop (i + 1) s.data.toList)).length by omega]
        exact ih
      | false => simp
def rrdQ : ref03_Read_Q0 → Ev × (Bool × List (Int × Int) × Int)
  | .inl (r, b, l, c, ()) => (r, b, l, c)
  | .inr (.inl (b, l, c, ())) => ([], b, l, c)
  | .inr (.inr (.inl (b, c, r, ()))) => (r, b, [], c)
  | .inr (.inr (.inr (r, b, l, c, _, ()))) => (r, b, l, c)
def asR (x : Ev × Err) : Ev × (Bool × List (Int × Int) × Int) := (x.1, toE x.2)
theorem rread_loop (s : ByteArray) (hs : s.size ≤ 8000) : ∀ (m : Nat) (a : Nat) (acc : Ev), a ≤ s.size → acc.length ≤ 16 →
    (LT.loop ref03_Read_b0 m (s, (a : Int), false, 0, acc, ())).map rrdQ = (rd s m (lastName acc) a acc).map asR
  | 0, a, acc, _, _ => rfl
  | m + 1, a, acc, ha, hl => by
    rw [LT.loop_pos _ (by omega), Nat.add_sub_cancel]
    have hr := run_le s a ha
    have ih := rread_loop s hs m
    generalize LT.loop ref03_Read_b0 m = K at ih ⊢
    unfold rd
    unfold ref03_Read_b0 ref03_Read_l1
    simp only
    rw [let_loop s (by omega) (a : Int) false 0 acc s.size FUEL a (by omega) ha (by rw [fuel_is]; omega), LT.run_some]
    generalize runN s a = r at hr ⊢
    simp only [LT.run_br, LT.run_ret, Int.ofNat_eq_natCast, Int.toNat_natCast]
    rw [if_pos (decide_eq_true (by omega)), if_pos (decide_eq_true (by omega)), if_pos (decide_eq_true (by omega)), ref03_Name_is, LT.run_some]
    simp only [LT.run_br, LT.run_ret]
    unfold rdStep
    generalize hn : s.extract a r = n
    cases h1 : nameB n with
    | false => rw [if_pos (by simp), if_neg (by simp)]; rfl
    | true =>
      rw [if_neg (by simp)]
      by_cases h3 : acc.length = 16
      · rw [if_pos (by simp [h3]), if_neg (by simp [h3])]; rfl
      · rw [if_neg (by simp; omega), prev_if acc n h1 (by omega)]
        cases h2 : notUp n (lastName acc) with
        | true => rw [if_pos rfl, if_neg (by simp)]; rfl
        | false =>
          rw [if_neg (by simp), if_pos (show true = true ∧ false = false ∧ acc.length ≠ 16 from ⟨rfl, rfl, h3⟩)]
          by_cases h4 : r = s.size
          · rw [if_pos (by simp [h4]), if_pos h4]; rfl
          · rw [if_neg (by simp; omega), if_neg h4, if_pos (decide_eq_true (by omega)), if_pos (decide_eq_true (by omega)), show ((s.data.toList.getD r 0).toNat : Int) = (byN s r : Int) from rfl]
            by_cases h5 : byN s r = 61
            · rw [if_neg (by simp [h5]), if_pos h5, i64_wrap _ (by omega) (by omega), show (r : Int) + 1 = ((r + 1 : Nat) : Int) from rfl, ref03_Comma_is s (r + 1) (by omega) (by omega), LT.run_some]
              have hc := comN_le s (r + 1) (by omega)
              generalize comN s (r + 1) = c at hc ⊢
              simp only [LT.run_br, LT.run_ret, LT.run_next, Int.toNat_natCast]
              rw [if_pos (decide_eq_true (by omega)), if_pos (decide_eq_true (by omega)), if_pos (decide_eq_true (by omega)), ref02_Read_is, LT.run_some]
              unfold rdV rdVal
              cases readR (s.extract (r + 1) c) with
              | long => rfl
              | bad p =>
                simp only [LT.run_br, LT.run_ret, LT.run_next, toE]
                rw [if_pos trivial, if_neg (by simp), rshift_one, LT.run_some]
                rfl
              | val v =>
                simp only [LT.run_br, LT.run_ret, LT.run_next, toE]
                rw [if_neg (by simp), appLim_ok (by omega), if_pos rfl, i64_wrap ((c : Int) + 1) (by omega) (by omega), i64_wrap ((c : Int) + 2) (by omega) (by omega)]
                unfold rdTail
                by_cases h6 : c = s.size
                · rw [if_pos (by simp [h6]), if_pos h6]; rfl
                · rw [if_neg (by simp; omega), if_neg h6]
                  by_cases h7 : c + 1 = s.size
                  · rw [if_pos (by simp; omega), if_pos h7]; rfl
                  · rw [if_neg (by simp; omega), if_neg h7, if_pos (decide_eq_true (by omega)), if_pos (decide_eq_true (by omega)), show (c : Int) + 1 = ((c + 1 : Nat) : Int) from rfl, Int.toNat_natCast, show ((s.data.toList.getD (c + 1) 0).toNat : Int) = (byN s (c + 1) : Int) from rfl]
                    by_cases h8 : byN s (c + 1) = 32
                    · rw [if_neg (by simp [h8]), if_pos h8]
                      have ih := ih (c + 2) (acc ++ [(n, v)]) (by omega) (by simp; omega)
                      rw [last_snoc] at ih
                      exact ih
                    · rw [if_pos (by simp; omega), if_neg h8]
                      rfl
            · rw [if_pos (by simp; omega), if_neg h5]
              rfl
end Go.Proofs.YtkkgimhjjhhkjaaGreatDoor
/- Chapter 3, plain: what the law's 'fails' answers (as in chapter 1). -/
namespace Go.Proofs.YtkkgimhjjhhkjaaGreatDoor
open Go Go.Pev
theorem of_loop (n : Int) (b : Bool) (c c' : Int) : ∀ (ps : List (Int × Int)) (m i : Nat) (acc : List (Int × Int)), ps.length < m → i + ps.length < 200 → acc.length + ps.length ≤ 1000000 →
    LT.loop law01_Of_b0 m (some (ps, n), (i : Int), false, c, b, c', acc, ()) = some (some ([], n), false, c, b, c', acc ++ ps, ())
  | [], m, i, acc, hm, hi, _ => by
    rw [LT.loop_pos _ (by omega)]
    simp only [law01_Of_b0, errHead, LT.run_br, LT.run_ret]
    simp
  | p :: ps, m, i, acc, hm, hi, ha => by
    simp only [List.length_cons] at hm ha hi
    rw [LT.loop_pos _ (by omega)]
    have ih := of_loop n b c c' ps (m - 1) (i + 1) (acc ++ [p]) (by omega) (by omega) (by simp; omega)
    simp only [law01_Of_b0, errHead, LT.run_br, LT.run_some, LT.run_next, Option.isSome, if_true]
    rw [if_pos (decide_eq_true (by omega)), appLim_ok (by omega), if_pos rfl, i64_wrap _ (by omega) (by omega)]
    simpa using ih
theorem law01_Of_is (e : Err) (h : ∀ x, e = some x → x.1.length < 200) : law01_Of e = some (toE e) := by
  unfold law01_Of law01_Of_t
  match e, h with
  | none, _ => rfl
  | some (ps, n), h =>
    have hl : ps.length < 200 := h _ rfl
    rw [LT.fin_br, if_neg (by simp), LT.fin_opt]
    unfold law01_Of_l0
    have := of_loop n true 0 0 ps FUEL 0 [] (by rw [fuel_is]; omega) (by omega) (by simp; omega)
    rw [show ((0 : Nat) : Int) = 0 from rfl] at this
    rw [this]
    rfl

theorem eqB_place (x y : Int × Int) : eqB shPlace x y = decide (x = y) := by
  obtain ⟨a, b⟩ := x
  obtain ⟨c, d⟩ := y
  show ((a == c) && (b == d)) = _
  by_cases h1 : a = c <;> by_cases h2 : b = d <;> simp [h1, h2]
theorem same_loop (b1 : Bool) (c1 : Int) (b2 : Bool) (c2 : Int) (l1 l2 : List (Int × Int)) (hl : l1.length = l2.length) (hb : l1.length ≤ 1000000) : ∀ (k m i : Nat), l1.length - i ≤ k → i ≤ l1.length → k < m →
    LT.loop ref01_Same_b0 m ((l1.length : Int), (i : Int), b1, l1, c1, b2, l2, c2, ()) = some (if l1.drop i = l2.drop i then .inr () else .inl (false, ()))
  | 0, m, i, hk, hi, hm => by
    rw [LT.loop_pos _ (by omega)]
    obtain rfl : i = l1.length := by omega
    simp [ref01_Same_b0, LT.run_br, LT.run_ret, hl]
  | k + 1, m, i, hk, hi, hm => by
    rw [LT.loop_pos _ (by omega)]
    by_cases he : i = l1.length
    · subst he
      simp [ref01_Same_b0, LT.run_br, LT.run_ret, hl]
    · have h1 : i < l1.length := by omega
      have h2 : i < l2.length := by omega
      have ih := same_loop b1 c1 b2 c2 l1 l2 hl hb k (m - 1) (i + 1) (by omega) (by omega) (by omega)
      simp only [ref01_Same_b0, LT.run_br, LT.run_ret, LT.run_next]
      rw [if_pos (decide_eq_true (by omega)), if_pos (decide_eq_true (by omega)), if_pos (decide_eq_true (by simpa using h1)), if_pos (decide_eq_true (by omega)), if_pos (decide_eq_true (by simpa using h2)), i64_wrap _ (by omega) (by omega)]
      rw [getI_lt h1, getI_lt h2, eqB_place, List.drop_eq_getElem_cons h1, List.drop_eq_getElem_cons h2]
      by_cases hx : l1[i] = l2[i]
      · simp only [hx, decide_true, Bool.not_true, Bool.false_eq_true, if_false, List.cons.injEq, true_and]
        simpa using ih
      · rw [decide_eq_false hx, Bool.not_false, if_pos rfl, if_neg (fun e => hx (List.cons.inj e).1)]
theorem ref01_Same_is (a b : Bool × List (Int × Int) × Int) (h : a.2.1.length ≤ 1000000) : ref01_Same a b = some (decide (a = b)) := by
  obtain ⟨b1, l1, c1⟩ := a
  obtain ⟨b2, l2, c2⟩ := b
  unfold ref01_Same ref01_Same_t
  simp only [LT.fin_br, LT.fin_ret, LT.fin_opt]
  simp only at h
  by_cases hb : b1 = b2
  · subst hb
    by_cases hc : c1 = c2
    · subst hc
      by_cases hl : l1.length = l2.length
      · have := same_loop b1 c1 b1 c1 l1 l2 hl h l1.length FUEL 0 (by omega) (by omega) (by rw [fuel_is]; omega)
        unfold ref01_Same_l0
        simp only [beq_self_eq_true, Bool.not_true, Bool.false_eq_true, if_false, bne_self_eq_false, Int.ofNat_eq_natCast, hl] at this ⊢
        rw [show ((0 : Nat) : Int) = 0 from rfl] at this
        rw [this]
        simp only [List.drop_zero, Option.bind_some]
        by_cases hx : l1 = l2
        · simp [hx, LT.fin_inr, LT.fin_ret]
        · simp [hx, LT.fin_inl, LT.fin_ret]
      · have : l1 ≠ l2 := fun e => hl (by rw [e])
        have h3 : ¬ (l1.length : Int) = (l2.length : Int) := by omega
        simp [this, h3]
    · simp [hc]
  · simp [hb]
theorem law03_fails_is (e : Err) (x : Bool × List (Int × Int) × Int) (h : ∀ y, e = some y → y.1.length < 200) : law03_fails e x = some (decide (toE e = x)) := by
  unfold law03_fails law03_fails_t
  rw [law01_Of_is e h, LT.fin_some, ref01_Same_is]
  · rfl
  · match e, h with
    | none, _ => simp [toE]
    | some (ps, n), h => have := h _ rfl; simp [toE]; simp at this; omega
end Go.Proofs.YtkkgimhjjhhkjaaGreatDoor
/- Chapter 3, plain: what both sides read. -/
namespace Go.Proofs.YtkkgimhjjhhkjaaGreatDoor
open Go Go.Pev

/-- A turn of reading that goes on. -/
structure Turn (s last : ByteArray) (a r : Nat) (acc : Ev) (n : ByteArray) (b : Nat) (acc' : Ev) where
  v : V
  name : nameB (s.extract a r) = true
  up : notUp (s.extract a r) last = false
  len : acc.length ≠ 16
  inn : r < s.size
  mark : byN s r = 61
  val : readR (s.extract (r + 1) (comN s (r + 1))) = .val v
  comma : comN s (r + 1) + 1 < s.size
  space : byN s (comN s (r + 1) + 1) = 32
  e1 : n = s.extract a r
  e2 : b = comN s (r + 1) + 2
  e3 : acc' = acc ++ [(s.extract a r, v)]
theorem turn_of {s last : ByteArray} {a r : Nat} {acc : Ev} {n : ByteArray} {b : Nat} {acc' : Ev} (hr : r ≤ s.size) (h : rdStep s last a r acc = .inr (n, b, acc')) : Nonempty (Turn s last a r acc n b acc') := by
  unfold rdStep at h
  split at h
  · rename_i h1
    split at h
    · cases h
    · rename_i h2
      split at h
      · rename_i h3
        unfold rdVal at h
        have hc := comN_le s (r + 1) (by omega)
        split at h
        · cases h
        · cases h
        · rename_i v hv
          unfold rdTail at h
          split at h
          · cases h
          · split at h
            · cases h
            · split at h
              · rename_i h4 h5 h6
                injection h with h
                injection h with e1 h
                injection h with e2 e3
                exact ⟨⟨v, h1.1, h1.2.1, h1.2.2, by omega, h3, hv, by omega, h6, e1.symm, e2.symm, e3.symm⟩⟩
              · cases h
      · cases h
  · cases h
theorem rd_some (s : ByteArray) : ∀ (n : Nat) (last : ByteArray) (a : Nat) (acc : Ev), s.size - a < n → a ≤ s.size → ∃ x, rd s n last a acc = some x
  | 0, _, _, _, h, _ => by omega
  | n + 1, last, a, acc, h, ha => by
    unfold rd
    have hr := run_le s a ha
    cases hs : rdStep s last a (runN s a) acc with
    | inl x => exact ⟨x, rfl⟩
    | inr y =>
      obtain ⟨l, b, acc'⟩ := y
      obtain ⟨t⟩ := turn_of hr.2 hs
      have ht := t.inn
      have hc := comN_le s (runN s a + 1) (by omega)
      have h2 := t.e2
      have h3 := t.comma
      exact rd_some s n l b acc' (by omega) (by omega)
def readE (s : ByteArray) : Ev × Err := if s.size > 8000 then ([], some ([], 2)) else if s.size = 0 then ([], none) else (rd s FUEL (ByteArray.mk #[]) 0 []).getD ([], none)
theorem event_Read_is (s : ByteArray) : event_Read s = some (readE s) := by
  unfold event_Read event_Read_t readE
  rw [LT.fin_br, LT.fin_ret]
  by_cases h8 : s.size > 8000
  · rw [if_pos (decide_eq_true (by simp only [Int.ofNat_eq_natCast]; omega)), if_pos h8]
  · rw [if_neg (by simp; omega), if_neg h8]
    unfold event_Read_l0
    by_cases h0 : s.size = 0
    · rw [if_pos h0, LT.loop_pos _ (by rw [fuel_is]; omega)]
      simp only [event_Read_b0, LT.run_br, LT.run_ret]
      rw [if_neg (by rw [decide_eq_true_eq, Int.ofNat_eq_natCast]; omega)]
      rfl
    · rw [if_neg h0]
      obtain ⟨x, hx⟩ := rd_some s FUEL (ByteArray.mk #[]) 0 [] (by rw [fuel_is]; omega) (by omega)
      have := read_loop s (by omega) (by omega) FUEL (ByteArray.mk #[]) 0 [] (by omega) (by simp)
      rw [show ((0 : Nat) : Int) = 0 from rfl, hx] at this
      rw [hx]
      cases hl : LT.loop event_Read_b0 FUEL (s, ByteArray.mk #[], 0, [], ()) with
      | none => rw [hl] at this; cases this
      | some q =>
        rw [hl] at this
        rw [LT.fin_some]
        have e : rdQ q = x := Option.some.inj this
        subst e
        rcases q with ⟨_, _, ⟨⟩⟩ | ⟨_, ⟨⟩⟩ | ⟨_, _, ⟨⟩⟩ | ⟨_, ⟨⟩⟩ <;> rfl
theorem ref03_Read_is (s : ByteArray) : ref03_Read s = some ((readE s).1, toE (readE s).2) := by
  unfold ref03_Read ref03_Read_t readE
  rw [LT.fin_br, LT.fin_ret, LT.fin_br, LT.fin_ret]
  by_cases h8 : s.size > 8000
  · rw [if_pos (decide_eq_true (by simp only [Int.ofNat_eq_natCast]; omega)), if_pos h8]; rfl
  · rw [if_neg (by simp; omega), if_neg h8]
    unfold ref03_Read_l0
    by_cases h0 : s.size = 0
    · rw [if_pos h0, if_pos (by simp [h0])]; rfl
    · rw [if_neg h0, if_neg (by rw [beq_iff_eq, Int.ofNat_eq_natCast]; omega)]
      obtain ⟨x, hx⟩ := rd_some s FUEL (ByteArray.mk #[]) 0 [] (by rw [fuel_is]; omega) (by omega)
      have := rread_loop s (by omega) FUEL 0 [] (by omega) (by simp)
      rw [show ((0 : Nat) : Int) = 0 from rfl, show lastName [] = ByteArray.mk #[] from rfl, hx] at this
      rw [hx]
      cases hl : LT.loop ref03_Read_b0 FUEL (s, 0, false, 0, [], ()) with
      | none => rw [hl] at this; cases this
      | some q =>
        rw [hl] at this
        rw [LT.fin_some]
        have e : rrdQ q = asR x := Option.some.inj this
        show _ = some (asR x)
        rw [← e]
        rcases q with ⟨_, _, _, _, ⟨⟩⟩ | ⟨_, _, _, ⟨⟩⟩ | ⟨_, _, _, ⟨⟩⟩ | ⟨_, _, _, _, _, ⟨⟩⟩ <;> rfl
end Go.Proofs.YtkkgimhjjhhkjaaGreatDoor
/- Chapter 3, plain: when two events are the same; a text is read again. -/
namespace Go.Proofs.YtkkgimhjjhhkjaaGreatDoor
open Go Go.Pev

theorem eqB_attr (x y : ByteArray × V) : eqB shAttr x y = true ↔ x = y := by
  obtain ⟨n, k, i, s, b⟩ := x
  obtain ⟨n', k', i', s', b'⟩ := y
  have e : eqB shAttr (n, k, i, s, b) (n', k', i', s', b') = ((n.toList == n'.toList) && eqB shVal (k, i, s, b) (k', i', s', b')) := rfl
  rw [e, Bool.and_eq_true, eqB_iff]
  constructor
  · rintro ⟨h, rfl, rfl, rfl, rfl⟩
    rw [list_eq h]
  · intro h
    cases h
    simp
theorem esame_loop (l1 l2 : Ev) (hl : l1.length = l2.length) (hb : l1.length ≤ 1000000) : ∀ (k m i : Nat), l1.length - i ≤ k → i ≤ l1.length → k < m →
    LT.loop ref03_Same_b0 m (l1, l2, (l1.length : Int), (i : Int), ()) = some (if l1.drop i = l2.drop i then .inr () else .inl (false, ()))
  | 0, m, i, hk, hi, hm => by
    rw [LT.loop_pos _ (by omega)]
    obtain rfl : i = l1.length := by omega
    simp [ref03_Same_b0, LT.run_br, LT.run_ret, hl]
  | k + 1, m, i, hk, hi, hm => by
    rw [LT.loop_pos _ (by omega)]
    by_cases he : i = l1.length
    · subst he
      simp [ref03_Same_b0, LT.run_br, LT.run_ret, hl]
    · have h1 : i < l1.length := by omega
      have h2 : i < l2.length := by omega
      have ih := esame_loop l1 l2 hl hb k (m - 1) (i + 1) (by omega) (by omega) (by omega)
      simp only [ref03_Same_b0, LT.run_br, LT.run_ret, LT.run_next]
      rw [if_pos (decide_eq_true (by omega)), if_pos (decide_eq_true (by omega)), if_pos (decide_eq_true (by simpa using h1)), if_pos (decide_eq_true (by omega)), if_pos (decide_eq_true (by simpa using h2)), i64_wrap _ (by omega) (by omega)]
      rw [getI_lt h1, getI_lt h2, List.drop_eq_getElem_cons h1, List.drop_eq_getElem_cons h2]
      by_cases hx : l1[i] = l2[i]
      · rw [(eqB_attr _ _).2 hx, if_neg (by simp)]
        simp only [hx, List.cons.injEq, true_and]
        exact ih
      · have : eqB shAttr l1[i] l2[i] = false := by
          cases h : eqB shAttr l1[i] l2[i] with
          | false => rfl
          | true => exact absurd ((eqB_attr _ _).1 h) hx
        rw [this, Bool.not_false, if_pos rfl, if_neg (fun e => hx (List.cons.inj e).1)]
theorem ref03_Same_is (a b : Ev) (h : a.length ≤ 1000000) : ref03_Same a b = some true ↔ a = b := by
  unfold ref03_Same ref03_Same_t
  rw [LT.fin_br, LT.fin_ret]
  by_cases hl : a.length = b.length
  · rw [if_neg (by simp [hl])]
    have := esame_loop a b hl h a.length FUEL 0 (by omega) (by omega) (by rw [fuel_is]; omega)
    rw [show ((0 : Nat) : Int) = 0 from rfl, List.drop_zero, List.drop_zero] at this
    unfold ref03_Same_l0
    rw [Int.ofNat_eq_natCast, this, LT.fin_some]
    by_cases hx : a = b
    · rw [if_pos hx]; exact ⟨fun _ => hx, fun _ => rfl⟩
    · rw [if_neg hx]
      constructor
      · intro h; exact absurd (Option.some.inj h) (by simp)
      · intro h; exact absurd h hx
  · rw [if_pos (by simp; omega)]
    constructor
    · intro h; exact absurd (Option.some.inj h) (by simp)
    · intro h; exact absurd (by rw [h]) hl
theorem ref03_Same_self (a : Ev) (h : a.length ≤ 1000000) : ref03_Same a a = some true := (ref03_Same_is a a h).2 rfl
/-! ### what is read is short and is written again -/
theorem rd_back (s : ByteArray) (h8 : s.size ≤ 8000) : ∀ (n : Nat) (last : ByteArray) (a : Nat) (acc : Ev) (x : Ev × Err), a ≤ s.size → acc.length ≤ 16 → rd s n last a acc = some x → x.1.length ≤ 16 ∧ (∀ e, x.2 = some e → e.1.length ≤ 1)
  | 0, _, _, _, x, _, _, h => by cases h
  | n + 1, last, a, acc, x, ha, hl, h => by
    unfold rd at h
    have hr := run_le s a ha
    cases hs : rdStep s last a (runN s a) acc with
    | inr y =>
      obtain ⟨l, b, acc'⟩ := y
      rw [hs] at h
      obtain ⟨t⟩ := turn_of hr.2 hs
      have ht := t.inn
      have hc := comN_le s (runN s a + 1) (by omega)
      have h2 := t.e2
      have h3 := t.comma
      have h4 := t.len
      exact rd_back s h8 n l b acc' x (by omega) (by rw [t.e3]; simp; omega) h
    | inl y =>
      rw [hs] at h
      obtain rfl := Option.some.inj h
      clear h
      unfold rdStep bad4 at hs
      split at hs
      · rename_i h1
        split at hs
        · obtain rfl := Sum.inl.inj hs; exact ⟨Nat.zero_le _, fun e he => by cases he; simp⟩
        · split at hs
          · unfold rdVal bad4 at hs
            split at hs
            · obtain rfl := Sum.inl.inj hs; exact ⟨Nat.zero_le _, fun e he => by cases he; simp⟩
            · obtain rfl := Sum.inl.inj hs; exact ⟨Nat.zero_le _, fun e he => by cases he; simp⟩
            · unfold rdTail bad4 at hs
              split at hs
              · obtain rfl := Sum.inl.inj hs
                exact ⟨by have := h1.2.2; simp; omega, fun e he => by cases he⟩
              · split at hs
                · obtain rfl := Sum.inl.inj hs; exact ⟨Nat.zero_le _, fun e he => by cases he; simp⟩
                · split at hs
                  · cases hs
                  · obtain rfl := Sum.inl.inj hs; exact ⟨Nat.zero_le _, fun e he => by cases he; simp⟩
          · obtain rfl := Sum.inl.inj hs; exact ⟨Nat.zero_le _, fun e he => by cases he; simp⟩
      · obtain rfl := Sum.inl.inj hs; exact ⟨Nat.zero_le _, fun e he => by cases he; simp⟩
theorem readE_short (s : ByteArray) : (readE s).1.length ≤ 16 ∧ (∀ e, (readE s).2 = some e → e.1.length ≤ 1) := by
  unfold readE
  split
  · exact ⟨Nat.zero_le _, fun e he => by cases he; simp⟩
  · split
    · exact ⟨Nat.zero_le _, fun e he => by cases he⟩
    · rename_i h8 h0
      obtain ⟨x, hx⟩ := rd_some s FUEL (ByteArray.mk #[]) 0 [] (by rw [fuel_is]; omega) (by omega)
      rw [hx]
      exact rd_back s (by omega) FUEL _ 0 [] x (by omega) (by simp) hx
end Go.Proofs.YtkkgimhjjhhkjaaGreatDoor
/- Chapter 3, plain: what is read is written again. -/
namespace Go.Proofs.YtkkgimhjjhhkjaaGreatDoor
open Go Go.Pev

def pcs (acc : Ev) : List UInt8 := acc.flatMap fun p => (piece p).data.toList ++ [44, 32]
theorem seps (l : Ev) : (l.flatMap fun a => [44, 32] ++ (piece a).data.toList) ++ [44, 32] = [44, 32] ++ pcs l := by
  unfold pcs
  induction l with
  | nil => rfl
  | cons a l ih =>
    rw [List.flatMap_cons, List.flatMap_cons, List.append_assoc, ih]
    simp
theorem tx_snoc (acc : Ev) (p : ByteArray × V) : (tx (acc ++ [p])).data.toList = pcs acc ++ (piece p).data.toList := by
  cases acc with
  | nil => rfl
  | cons a l =>
    show (rst (l ++ [p]) (piece a)).data.toList = _
    rw [rst_list, List.flatMap_append]
    have := seps l
    rw [show pcs (a :: l) = (piece a).data.toList ++ [44, 32] ++ pcs l from rfl]
    rw [List.append_assoc (piece a).data.toList, ← this]
    simp
theorem pcs_snoc (acc : Ev) (p : ByteArray × V) : pcs (acc ++ [p]) = pcs acc ++ (piece p).data.toList ++ [44, 32] := by
  unfold pcs
  simp
theorem ext_list (s : ByteArray) (a b : Nat) : (s.extract a b).data.toList = (s.data.toList.take b).drop a := by
  rw [ByteArray.data_extract]
  simp [List.extract, List.drop_take]
theorem take_split (s : ByteArray) (a r c : Nat) (h1 : a ≤ r) (h2 : r < s.size) (h3 : r + 1 ≤ c) (hm : byN s r = 61) :
    s.data.toList.take c = s.data.toList.take a ++ ((s.extract a r).data.toList ++ [61] ++ (s.extract (r + 1) c).data.toList) := by
  have hr : r < s.data.toList.length := by rw [size_list]; exact h2
  have e61 : s.data.toList[r] = 61 := by
    unfold byN at hm
    rw [List.getD_eq_getElem?_getD, List.getElem?_eq_getElem hr] at hm
    exact UInt8.toNat_inj.1 hm
  rw [ext_list, ext_list]
  conv => lhs; rw [← List.take_append_drop (r + 1) (s.data.toList.take c)]
  rw [List.take_take, Nat.min_eq_left h3, List.take_succ_eq_append_getElem hr, e61]
  conv => lhs; rw [← List.take_append_drop a (s.data.toList.take r)]
  rw [List.take_take, Nat.min_eq_left h1]
  simp
def endN : ByteArray → Ev → ByteArray
  | p, [] => p
  | _, (n, _) :: l => endN n l
theorem endN_snoc : ∀ (p : ByteArray) (l : Ev) (n : ByteArray) (v : V), endN p (l ++ [(n, v)]) = n
  | _, [], _, _ => rfl
  | _, (m, _) :: l, n, v => endN_snoc m l n v
theorem chk_snoc : ∀ (p : ByteArray) (l : Ev) (i : Nat) (n : ByteArray) (v : V), chk p l i = none → nameB n = true → notUp n (endN p l) = false → ckE v = none → chk p (l ++ [(n, v)]) i = none
  | p, [], i, n, v, _, h1, h2, h3 => by
    have h2' : notUp n p = false := h2
    show chk p [(n, v)] i = none
    unfold chk
    rw [h1, h2', h3]
    rfl
  | p, (m, w) :: l, i, n, v, h, h1, h2, h3 => by
    show chk p ((m, w) :: (l ++ [(n, v)])) i = none
    unfold chk at h ⊢
    cases hn : nameB m with
    | false => rw [hn] at h; cases h
    | true =>
      rw [hn] at h
      cases hp : notUp m p with
      | true => rw [hp] at h; cases h
      | false =>
        rw [hp] at h
        cases hc : ckE w with
        | some x => rw [hc] at h; cases h
        | none =>
          rw [hc] at h
          exact chk_snoc m l (i + 1) n v h h1 h2 h3
theorem com_at : ∀ (l : List UInt8) (t i : Nat), ∃ j, com t l i = i + j ∧ (j < l.length → l.getD j 0 = 44)
  | [], t, i => ⟨0, by cases t <;> simp [com], by simp⟩
  | c :: l, t, i => by
    have step : ∀ t', com t (c :: l) i = com t' l (i + 1) → ∃ j, com t (c :: l) i = i + j ∧ (j < (c :: l).length → (c :: l).getD j 0 = 44) := fun t' e => by
      obtain ⟨j, h1, h2⟩ := com_at l t' (i + 1)
      exact ⟨j + 1, by rw [e, h1]; omega, fun h => by
        rw [List.getD_cons_succ]
        exact h2 (by simp at h; omega)⟩
    match t with
    | 0 =>
      rw [com0] at step ⊢
      by_cases h1 : c.toNat = 34
      · rw [if_pos h1] at step ⊢; exact step 1 rfl
      · rw [if_neg h1] at step ⊢
        by_cases h2 : c.toNat = 44
        · rw [if_pos h2]
          exact ⟨0, rfl, fun _ => by rw [List.getD_cons_zero]; exact UInt8.toNat_inj.1 h2⟩
        · rw [if_neg h2] at step ⊢; exact step 0 rfl
    | 1 =>
      rw [com1] at step ⊢
      by_cases h1 : c.toNat = 92
      · rw [if_pos h1] at step ⊢; exact step 2 rfl
      · rw [if_neg h1] at step ⊢
        by_cases h2 : c.toNat = 34
        · rw [if_pos h2] at step ⊢; exact step 0 rfl
        · rw [if_neg h2] at step ⊢; exact step 1 rfl
    | t + 2 => exact step 1 rfl
theorem comma_at (s : ByteArray) (i : Nat) (h : comN s i < s.size) : s.data.toList.getD (comN s i) 0 = 44 := by
  obtain ⟨j, h1, h2⟩ := com_at (s.data.toList.drop i) 0 i
  have e : comN s i = i + j := h1
  rw [e] at h ⊢
  have := h2 (by rw [List.length_drop, size_list]; omega)
  rw [List.getD_eq_getElem?_getD, List.getElem?_drop] at this
  rw [List.getD_eq_getElem?_getD]
  exact this
theorem take_next (l : List UInt8) (c : Nat) (b : UInt8) (h : c < l.length) (e : l.getD c 0 = b) : l.take (c + 1) = l.take c ++ [b] := by
  rw [List.getD_eq_getElem?_getD, List.getElem?_eq_getElem h] at e
  have e : l[c] = b := e
  rw [List.take_succ_eq_append_getElem h, e]
/-- What is so of an event that is being read. -/
structure Inv (s last : ByteArray) (a : Nat) (acc : Ev) : Prop where
  at_ : s.data.toList.take a = pcs acc
  ok : chk (ByteArray.mk #[]) acc 0 = none
  end_ : endN (ByteArray.mk #[]) acc = last
  wf : wfE acc
  len : acc.length ≤ 16
structure Done (s : ByteArray) (x : Ev) : Prop where
  txt : tx x = s
  ok : ckEv x = none
  wf : wfE x
theorem val_ok {u : ByteArray} {v : V} (h : readR u = .val v) : txV v = u ∧ ckE v = none ∧ inI v.2.1 = true := by
  obtain ⟨h1, h2, h3⟩ := text_read h
  refine ⟨h1, ?_, h3⟩
  rw [ckE_is, h2]; rfl
theorem rd_done (s : ByteArray) : ∀ (n : Nat) (last : ByteArray) (a : Nat) (acc : Ev) (x : Ev × Err), a ≤ s.size → Inv s last a acc → rd s n last a acc = some x → (x.2 = none → Done s x.1) ∧ (x.2 ≠ none → x.1 = [])
  | 0, _, _, _, x, _, _, h => by cases h
  | n + 1, last, a, acc, x, ha, iv, h => by
    unfold rd at h
    have hr := run_le s a ha
    cases hs : rdStep s last a (runN s a) acc with
    | inr y =>
      obtain ⟨l, b, acc'⟩ := y
      rw [hs] at h
      obtain ⟨t⟩ := turn_of hr.2 hs
      have ht := t.inn
      have hc := comN_le s (runN s a + 1) (by omega)
      have h2 := t.e2
      have h3 := t.comma
      have h4 := t.len
      have hi := iv.len
      have hv := val_ok t.val
      refine rd_done s n l b acc' x (by omega) ?_ h
      rw [t.e1, t.e2, t.e3]
      constructor
      · have hb := take_split s a (runN s a) (comN s (runN s a + 1)) hr.1 ht hc.1 t.mark
        have hk := comma_at s (runN s a + 1) (by omega)
        have hsp : s.data.toList.getD (comN s (runN s a + 1) + 1) 0 = 32 := UInt8.toNat_inj.1 t.space
        rw [take_next _ _ 32 (by rw [size_list]; omega) hsp, take_next _ _ 44 (by rw [size_list]; omega) hk, hb, iv.at_, pcs_snoc]
        unfold piece
        rw [hv.1]
        simp
      · exact chk_snoc _ _ _ _ _ iv.ok t.name (by rw [iv.end_]; exact t.up) hv.2.1
      · exact endN_snoc _ _ _ _
      · intro p hp
        rcases List.mem_append.1 hp with hp | hp
        · exact iv.wf p hp
        · rw [List.mem_singleton.1 hp]; exact hv.2.2
      · simp; omega
    | inl y =>
      rw [hs] at h
      obtain rfl := Option.some.inj h
      clear h
      have bad : ∀ i : Int, bad4 i = .inl y → (y.2 = none → Done s y.1) ∧ (y.2 ≠ none → y.1 = []) := fun i hi => by
        obtain rfl := Sum.inl.inj hi
        exact ⟨fun h => (by cases h), fun _ => rfl⟩
      unfold rdStep at hs
      split at hs
      · rename_i h1
        split at hs
        · exact bad _ hs
        · rename_i hsz
          split at hs
          · rename_i hm
            unfold rdVal at hs
            have hc := comN_le s (runN s a + 1) (by omega)
            split at hs
            · exact bad _ hs
            · exact bad _ hs
            · rename_i v hv
              unfold rdTail at hs
              split at hs
              · rename_i hend
                obtain rfl := Sum.inl.inj hs
                refine ⟨fun _ => ?_, fun h => absurd rfl h⟩
                have hb := take_split s a (runN s a) (comN s (runN s a + 1)) hr.1 (by omega) hc.1 hm
                have hv' := val_ok hv
                have hl := iv.len
                constructor
                · apply ba_ext
                  rw [tx_snoc, ← iv.at_]
                  unfold piece
                  rw [hv'.1]
                  have e : s.data.toList.take (comN s (runN s a + 1)) = s.data.toList := by rw [hend]; exact List.take_of_length_le (by rw [size_list]; omega)
                  refine Eq.trans ?_ (e.symm.trans hb).symm
                  simp
                · unfold ckEv
                  rw [if_neg (by have := h1.2.2; simp; omega)]
                  exact chk_snoc _ _ _ _ _ iv.ok h1.1 (by rw [iv.end_]; exact h1.2.1) hv'.2.1
                · intro p hp
                  rcases List.mem_append.1 hp with hp | hp
                  · exact iv.wf p hp
                  · rw [List.mem_singleton.1 hp]; exact hv'.2.2
              · split at hs
                · exact bad _ hs
                · split at hs
                  · cases hs
                  · exact bad _ hs
          · exact bad _ hs
      · exact bad _ hs
theorem readE_done (s : ByteArray) : ((readE s).2 = none → Done s (readE s).1) ∧ ((readE s).2 ≠ none → (readE s).1 = []) := by
  unfold readE
  split
  · exact ⟨fun h => (by cases h), fun _ => rfl⟩
  · split
    · rename_i h0
      refine ⟨fun _ => ⟨?_, rfl, fun _ h => by cases h⟩, fun h => absurd rfl h⟩
      apply ba_ext
      rw [← size_list] at h0
      rw [List.eq_nil_of_length_eq_zero h0]
      rfl
    · rename_i h8 h0
      obtain ⟨x, hx⟩ := rd_some s FUEL (ByteArray.mk #[]) 0 [] (by rw [fuel_is]; omega) (by omega)
      rw [hx]
      exact rd_done s FUEL _ 0 [] x (by omega) ⟨rfl, rfl, rfl, fun _ h => (by cases h), Nat.zero_le _⟩ hx
end Go.Proofs.YtkkgimhjjhhkjaaGreatDoor
/- Chapter 3, plain: an event's text is read again. -/
namespace Go.Proofs.YtkkgimhjjhhkjaaGreatDoor
open Go Go.Pev

theorem com_plain : ∀ (l : List UInt8), (∀ c ∈ l, c.toNat ≠ 34 ∧ c.toNat ≠ 44) → ∀ (rest : List UInt8) (i : Nat), com 0 (l ++ rest) i = com 0 rest (i + l.length)
  | [], _, rest, i => rfl
  | c :: l, h, rest, i => by
    have hc := h c (List.mem_cons_self ..)
    rw [List.cons_append, com0, if_neg hc.1, if_neg hc.2, com_plain l (fun x hx => h x (List.mem_cons_of_mem _ hx)), List.length_cons]
    congr 1; omega
theorem hex_plain : ∀ k : Fin 16, (hexS.data.toList.getD k.val 0).toNat ≠ 92 ∧ (hexS.data.toList.getD k.val 0).toNat ≠ 34 := by decide +kernel
theorem com_q (c : UInt8) (rest : List UInt8) (i : Nat) : com 1 (q c ++ rest) i = com 1 rest (i + (q c).length) := by
  unfold q
  cases h1 : (c == 34 || c == 92) with
  | true => rfl
  | false =>
    have hc : c.toNat ≠ 92 ∧ c.toNat ≠ 34 := by
      rw [Bool.or_eq_false_iff] at h1
      have a := beq_eq_false_iff_ne.1 h1.1
      have b := beq_eq_false_iff_ne.1 h1.2
      exact ⟨fun e => b (UInt8.toNat_inj.1 e), fun e => a (UInt8.toNat_inj.1 e)⟩
    cases (decide (c < 32) || decide (126 < c)) with
    | true =>
      have hb := c.toNat_lt
      have h3 : (hexS.data.toList.getD (c.toNat / 16) 0).toNat ≠ 92 ∧ (hexS.data.toList.getD (c.toNat / 16) 0).toNat ≠ 34 := hex_plain ⟨c.toNat / 16, by omega⟩
      have h4 : (hexS.data.toList.getD (c.toNat % 16) 0).toNat ≠ 92 ∧ (hexS.data.toList.getD (c.toNat % 16) 0).toNat ≠ 34 := hex_plain ⟨c.toNat % 16, by omega⟩
      show com 1 (92 :: 120 :: hexS.data.toList.getD (c.toNat / 16) 0 :: hexS.data.toList.getD (c.toNat % 16) 0 :: rest) i = _
      rw [com1, if_pos (by decide : UInt8.toNat 92 = 92)]
      show com 1 (hexS.data.toList.getD (c.toNat / 16) 0 :: hexS.data.toList.getD (c.toNat % 16) 0 :: rest) (i + 1 + 1) = _
      rw [com1, if_neg h3.1, if_neg h3.2, com1, if_neg h4.1, if_neg h4.2]
      rfl
    | false =>
      show com 1 (c :: rest) i = _
      rw [com1, if_neg hc.1, if_neg hc.2]
      rfl
theorem com_qs : ∀ (l rest : List UInt8) (i : Nat), com 1 (l.flatMap q ++ rest) i = com 1 rest (i + (l.flatMap q).length)
  | [], _, _ => rfl
  | c :: l, rest, i => by
    rw [List.flatMap_cons, List.append_assoc, com_q, com_qs l, List.length_append]
    congr 1; omega
theorem com_quote (s : ByteArray) (rest : List UInt8) (i : Nat) : com 0 (quoteL s ++ rest) i = com 0 rest (i + (quoteL s).length) := by
  unfold quoteL
  rw [List.cons_append, com0, if_pos (by decide : UInt8.toNat 34 = 34), List.append_assoc, com_qs]
  show com 1 (34 :: rest) _ = _
  rw [com1, if_neg (by decide : ¬ UInt8.toNat 34 = 92), if_pos (by decide : UInt8.toNat 34 = 34)]
  simp only [List.length_cons, List.length_append, List.length_nil]
  congr 1; omega
theorem com_text (v : V) (rest : List UInt8) (i : Nat) : com 0 ((txV v).data.toList ++ rest) i = com 0 rest (i + (txV v).size) := by
  rw [← size_list]
  obtain ⟨k, n, s, b⟩ := v
  show com 0 ((textS k n s b).data.toList ++ rest) i = com 0 rest (i + (textS k n s b).data.toList.length)
  unfold textS
  cases (k == 1) with
  | true =>
    show com 0 (Lib.itoa n ++ rest) i = com 0 rest (i + (Lib.itoa n).length)
    have hd : ∀ m : Nat, ∀ c ∈ Lib.decDigits m, c.toNat ≠ 34 ∧ c.toNat ≠ 44 := fun m c hc => by
      have := isDig_of (List.all_eq_true.1 (dec_canon m).1.2.1 c hc)
      omega
    refine com_plain _ (fun c hc => ?_) rest i
    unfold Lib.itoa at hc
    split at hc
    · rcases List.mem_cons.1 hc with rfl | hc
      · decide
      · exact hd _ c hc
    · exact hd _ c hc
  | false =>
    cases (k == 2) with
    | true => exact com_quote s rest i
    | false =>
      show com 0 (Lib.formatBool b ++ rest) i = com 0 rest (i + (Lib.formatBool b).length)
      refine com_plain _ ?_ rest i
      cases b <;> decide +kernel
/-- The letters of a name end at the mark. -/
theorem runL_name : ∀ (n rest : List UInt8), lets n = true → runL (n ++ 61 :: rest) = n.length
  | [], rest, _ => by
    unfold runL
    rw [List.nil_append, List.takeWhile_cons, show letB ((61 : UInt8).toNat : Int) = false by decide]
    rfl
  | c :: n, rest, h => by
    unfold lets at h
    rw [List.all_cons, Bool.and_eq_true] at h
    have ih := runL_name n rest h.2
    unfold runL at ih ⊢
    rw [List.cons_append, List.takeWhile_cons, h.1, if_pos rfl, List.length_cons, ih, List.length_cons]
end Go.Proofs.YtkkgimhjjhhkjaaGreatDoor
/- Chapter 3, plain: an event's text is read again: one turn. -/
namespace Go.Proofs.YtkkgimhjjhhkjaaGreatDoor
open Go Go.Pev

theorem drop_on {l x y : List UInt8} {a : Nat} (h : l.drop a = x ++ y) : l.drop (a + x.length) = y := by
  rw [← List.drop_drop, h, List.drop_left]
theorem drop_getD {l : List UInt8} {a : Nat} {c : UInt8} {y : List UInt8} (h : l.drop a = c :: y) : l.getD a 0 = c := by
  have : (l.drop a)[0]? = some c := by rw [h]; rfl
  rw [List.getElem?_drop, Nat.add_zero] at this
  rw [List.getD_eq_getElem?_getD, this]; rfl
theorem drop_len {l y : List UInt8} {a : Nat} (h : l.drop a = y) (ha : a ≤ l.length) : l.length = a + y.length := by
  rw [← h, List.length_drop]; omega
theorem ext_at (s x : ByteArray) (y : List UInt8) (a b : Nat) (h : s.data.toList.drop a = x.data.toList ++ y) (hb : b = a + x.size) : s.extract a b = x := by
  apply ba_ext
  rw [ext_list, List.drop_take, h, hb, Nat.add_sub_cancel_left, ← size_list, List.take_left]
/-- One attribute's text, ahead of the rest. -/
theorem step_text (s : ByteArray) (n : ByteArray) (v : V) (hn : nameB n = true) (hi : inI v.2.1 = true) (hc : ckE v = none) (last : ByteArray) (hu : notUp n last = false) (acc : Ev) (hl : acc.length ≠ 16) (a : Nat) (ha : a ≤ s.size) (rest : List UInt8)
    (h : s.data.toList.drop a = (piece (n, v)).data.toList ++ rest) (hr : rest = [] ∨ ∃ t, t ≠ [] ∧ rest = [44, 32] ++ t) :
    rdStep s last a (runN s a) acc = if rest = [] then .inl (acc ++ [(n, v)], none) else .inr (n, a + (piece (n, v)).size + 2, acc ++ [(n, v)]) := by
  have hp : (piece (n, v)).data.toList = n.data.toList ++ (61 :: (txV v).data.toList) := by
    unfold piece; simp
  have hps : (piece (n, v)).size = n.size + 1 + (txV v).size := by
    rw [← size_list, hp, List.length_append, List.length_cons, size_list, size_list]; omega
  rw [hp, List.append_assoc, List.cons_append] at h
  have hlets : lets n.data.toList = true := by
    unfold nameB at hn
    simp only [Bool.and_eq_true] at hn
    exact hn.2
  have e1 : runN s a = a + n.size := by
    unfold runN
    rw [h, runL_name _ _ hlets, size_list]
  have e2 : s.extract a (a + n.size) = n := ext_at s n _ a _ h rfl
  have h2 := drop_on h
  rw [size_list] at h2
  have e3 : byN s (a + n.size) = 61 := by unfold byN; rw [drop_getD h2]; rfl
  have hlen := drop_len h (by rw [size_list]; exact ha)
  rw [size_list] at hlen
  simp only [List.length_append, List.length_cons, size_list] at hlen
  have h3 : s.data.toList.drop (a + n.size + 1) = (txV v).data.toList ++ rest := by
    rw [← List.drop_drop, h2]; rfl
  have e4 : comN s (a + n.size + 1) = a + n.size + 1 + (txV v).size := by
    unfold comN
    rw [h3, com_text]
    rcases hr with rfl | ⟨t, _, rfl⟩
    · rfl
    · rfl
  have e5 : s.extract (a + n.size + 1) (a + n.size + 1 + (txV v).size) = txV v := ext_at s _ _ _ _ h3 rfl
  have e6 : readR (txV v) = .val v := by
    obtain ⟨k, i, t, b⟩ := v
    refine (read_text k i t b hi ?_).1
    rw [ckE_is] at hc
    simp only at hc
    cases h : ckB k i t b with
    | false => rfl
    | true => rw [h] at hc; cases hc
  have h4 := drop_on h3
  rw [size_list] at h4
  unfold rdStep
  rw [e1, e2, hn, hu, if_pos ⟨rfl, rfl, hl⟩, if_neg (by omega), if_pos e3, e4]
  unfold rdVal
  rw [e5, e6]
  show rdTail s n _ _ = _
  unfold rdTail
  rcases hr with rfl | ⟨t, ht, rfl⟩
  · rw [if_pos rfl, if_pos (by simp at hlen; omega)]
  · have htl : 0 < t.length := List.length_pos_iff.2 ht
    simp only [List.length_append, List.length_cons, List.length_nil] at hlen
    have h5 : s.data.toList.drop (a + n.size + 1 + (txV v).size + 1) = 32 :: t := by
      rw [← List.drop_drop, h4]; rfl
    have e7 : byN s (a + n.size + 1 + (txV v).size + 1) = 32 := by unfold byN; rw [drop_getD h5]; rfl
    rw [if_neg (by omega), if_neg (by omega), if_pos e7, if_neg (by simp), hps]
    rw [show a + n.size + 1 + (txV v).size + 2 = a + (n.size + 1 + (txV v).size) + 2 by omega]
theorem tx_cons (p : ByteArray × V) (l : Ev) : (tx (p :: l)).data.toList = (piece p).data.toList ++ (if l = [] then [] else [44, 32] ++ (tx l).data.toList) := by
  unfold tx
  rw [rst_list]
  cases l with
  | nil => rfl
  | cons b l => rw [if_neg (by simp), rst_list]; simp
theorem tx_ne (p : ByteArray × V) (l : Ev) : (tx (p :: l)).data.toList ≠ [] := by
  rw [tx_cons]
  unfold piece
  simp
theorem rd_text (s : ByteArray) : ∀ (l acc : Ev) (last : ByteArray) (i a m : Nat), l ≠ [] → chk last l i = none → wfE l → acc.length + l.length ≤ 16 → a ≤ s.size → s.data.toList.drop a = (tx l).data.toList → l.length < m → rd s m last a acc = some (acc ++ l, none)
  | [], _, _, _, _, _, h, _, _, _, _, _, _ => absurd rfl h
  | (n, v) :: l, acc, last, i, a, m, _, hk, hw, hl, ha, hd, hm => by
    obtain ⟨m, rfl⟩ : ∃ k, m = k + 1 := ⟨m - 1, by omega⟩
    simp only [List.length_cons] at hl hm
    have hgood := chk_none _ _ _ hk (n, v) (List.mem_cons_self ..)
    have hi : inI v.2.1 = true := hw (n, v) (List.mem_cons_self ..)
    unfold chk at hk
    rw [hgood.1] at hk
    cases hp : notUp n last with
    | true => rw [hp] at hk; cases hk
    | false =>
      rw [hp] at hk
      have hc : ckE v = none := hgood.2
      rw [hc] at hk
      have hk' : chk n l (i + 1) = none := hk
      rw [tx_cons] at hd
      unfold rd
      rw [step_text s n v hgood.1 hi hc last hp acc (by omega) a ha _ hd (by
        cases l with
        | nil => exact .inl rfl
        | cons b l => exact .inr ⟨_, tx_ne b l, by rw [if_neg (by simp)]⟩)]
      cases l with
      | nil => rfl
      | cons b l =>
        have hne : (if b :: l = [] then [] else [44, 32] ++ (tx (b :: l)).data.toList) ≠ [] := by rw [if_neg (by simp)]; simp
        rw [if_neg hne]
        rw [if_neg (by simp : ¬ b :: l = [])] at hd
        have h2 := drop_on hd
        rw [size_list] at h2
        have h3 : s.data.toList.drop (a + (piece (n, v)).size + 2) = (tx (b :: l)).data.toList := by
          rw [← List.drop_drop, h2]; rfl
        have hlen := drop_len h2 (by
          have := drop_len hd (by rw [size_list]; exact ha)
          have e := size_list (piece (n, v))
          rw [List.length_append] at this
          omega)
        rw [size_list] at hlen
        simp only [List.length_append, List.length_cons, List.length_nil] at hlen
        have := rd_text s (b :: l) (acc ++ [(n, v)]) n (i + 1) (a + (piece (n, v)).size + 2) m (by simp) hk' (fun p hp => hw p (List.mem_cons_of_mem _ hp)) (by simp at hl ⊢; omega) (by omega) h3 (by simp at hm ⊢; omega)
        show rd s m n _ _ = _
        rw [this]
        simp
/-- THE TEXT OF AN EVENT IS READ AGAIN. -/
theorem readE_text (l : Ev) (hw : wfE l) (hk : ckEv l = none) (h8 : (tx l).size ≤ 8000) : readE (tx l) = (l, none) := by
  have g := good_of hw hk
  unfold readE
  rw [if_neg (by omega)]
  cases l with
  | nil => rfl
  | cons p l =>
    have hne := tx_ne p l
    rw [if_neg (fun h => hne (List.eq_nil_of_length_eq_zero (by rw [size_list]; exact h)))]
    unfold ckEv at hk
    have hl := g.len
    rw [if_neg (by omega)] at hk
    rw [rd_text (tx (p :: l)) (p :: l) [] (ByteArray.mk #[]) 0 0 FUEL (by simp) hk hw (by simpa using hl) (by omega) rfl (by rw [fuel_is]; omega)]
    rfl
end Go.Proofs.YtkkgimhjjhhkjaaGreatDoor
