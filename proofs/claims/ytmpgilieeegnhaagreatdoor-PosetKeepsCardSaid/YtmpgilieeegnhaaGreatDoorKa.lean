/- Plain: turned from an elder seat's text. -/
import Derived.Test.YtmpgilieeegnhaaGreatDoorGe
import Derived.Test.YtmpgilieeegnhaaGreatDoorPewZa
set_option maxRecDepth 100000
namespace Go.Proofs.YtmpgilieeegnhaaGreatDoor
open Go Go.Pev
abbrev Ev := List (ByteArray × V)
theorem bl_cons (a : UInt8) (x : List UInt8) (b : UInt8) (y : List UInt8) : Op.bytesLess (a :: x) (b :: y) = (decide (a < b) || (a == b && Op.bytesLess x y)) := rfl
theorem bl_tri : ∀ l m : List UInt8, (Op.bytesLess l m = true ∧ Op.bytesLess m l = false ∧ l ≠ m) ∨ (Op.bytesLess l m = false ∧ Op.bytesLess m l = false ∧ l = m) ∨ (Op.bytesLess l m = false ∧ Op.bytesLess m l = true ∧ l ≠ m)
  | [], [] => .inr (.inl ⟨rfl, rfl, rfl⟩)
  | [], _ :: _ => .inl ⟨rfl, rfl, by simp⟩
  | _ :: _, [] => .inr (.inr ⟨rfl, rfl, by simp⟩)
  | a :: x, b :: y => by
    simp only [bl_cons]
    rcases Nat.lt_trichotomy a.toNat b.toNat with h | h | h
    · have h1 : a < b := h
      have h2 : ¬ b < a := fun h' => by have : b.toNat < a.toNat := h'; omega
      have h3 : a ≠ b := fun e => by subst e; omega
      refine .inl ⟨by simp [h1], by simp [h2, Ne.symm h3], by simp [h3]⟩
    · have h3 : a = b := UInt8.toNat_inj.1 h
      subst h3
      have h1 : ¬ a < a := fun h' => by have : a.toNat < a.toNat := h'; omega
      rcases bl_tri x y with ⟨q1, q2, q3⟩ | ⟨q1, q2, q3⟩ | ⟨q1, q2, q3⟩
      · exact .inl ⟨by simp [q1], by simp [h1, q2], by simpa using q3⟩
      · exact .inr (.inl ⟨by simp [h1, q1], by simp [h1, q2], by simpa using q3⟩)
      · exact .inr (.inr ⟨by simp [h1, q1], by simp [q2], by simpa using q3⟩)
    · have h1 : b < a := h
      have h2 : ¬ a < b := fun h' => by have : a.toNat < b.toNat := h'; omega
      have h3 : a ≠ b := fun e => by subst e; omega
      refine .inr (.inr ⟨by simp [h2, h3], by simp [h1], by simp [h3]⟩)
theorem bl_trans : ∀ l m n : List UInt8, Op.bytesLess l m = true → Op.bytesLess m n = true → Op.bytesLess l n = true
  | _, _, [], _, h => by simp [Op.bytesLess] at h
  | [], _, _ :: _, _, _ => rfl
  | _ :: _, [], _, h, _ => by simp [Op.bytesLess] at h
  | a :: x, b :: y, c :: z, h1, h2 => by
    simp only [bl_cons, Bool.or_eq_true, decide_eq_true_eq, Bool.and_eq_true, beq_iff_eq] at h1 h2 ⊢
    rcases h1 with h1 | ⟨rfl, h1⟩ <;> rcases h2 with h2 | ⟨rfl, h2⟩
    · exact .inl (by have e1 : a.toNat < b.toNat := h1; have e2 : b.toNat < c.toNat := h2; show a.toNat < c.toNat; omega)
    · exact .inl h1
    · exact .inl h2
    · exact .inr ⟨rfl, bl_trans x y z h1 h2⟩
def ltN (a b : ByteArray) : Bool := Op.bytesLess a.toList b.toList
theorem ltN_trans {a b c : ByteArray} (h : ltN a b = true) (k : ltN b c = true) : ltN a c = true := bl_trans _ _ _ h k
theorem ltN_irrefl (a : ByteArray) : ltN a a = false := by
  rcases bl_tri a.toList a.toList with ⟨_, _, h⟩ | ⟨h, _, _⟩ | ⟨_, _, h⟩
  · exact absurd rfl h
  · exact h
  · exact absurd rfl h
theorem toList_inj {a b : ByteArray} (h : a.toList = b.toList) : a = b := by
  rw [ByteArray.toList_eq, ByteArray.toList_eq] at h; exact bytes_ext h
theorem ltN_of {a b : ByteArray} (h : ltN a b = false) (hne : a ≠ b) : ltN b a = true := by
  rcases bl_tri a.toList b.toList with ⟨h1, _, _⟩ | ⟨_, _, h1⟩ | ⟨_, h1, _⟩
  · exact absurd (h1.symm.trans h) (by simp)
  · exact absurd (toList_inj h1) hne
  · exact h1
theorem ltN_asymm {a b : ByteArray} (h : ltN a b = true) : ltN b a = false := by
  cases hb : ltN b a with
  | false => rfl
  | true => have := ltN_trans h hb; rw [ltN_irrefl] at this; cases this
/-! ### a place in a rising list of names -/
def Rise (l : List ByteArray) : Prop := l.Pairwise fun a b => ltN a b = true
abbrev nms (l : Ev) : List ByteArray := l.map (·.1)
theorem size_list (s : ByteArray) : s.data.toList.length = s.size := rfl
def b0 (s : ByteArray) : Int := ((s.data.toList.getD (Int.toNat 0) 0).toNat : Int)
theorem ref01_At_is (k a : Int) (b : Bool) (l : List (Int × Int)) (c : Int) (h : l.length ≤ 1000000) : ref01_At k a (b, l, c) = some (if b = true then (true, (k, a) :: l, c) else (b, l, c)) := by
  unfold ref01_At ref01_At_t
  simp only [LT.fin_br, LT.fin_ret]
  cases b with
  | false => rfl
  | true => rw [if_neg (by simp), appLim_ok (by omega), if_pos rfl, if_pos rfl]
def toE (e : Err) : Bool × List (Int × Int) × Int := match e with
  | none => (false, [], 0)
  | some (ps, n) => (true, ps, n)
/-! ### values -/
theorem empty_iff (s : ByteArray) : (s.toList == (ByteArray.mk #[]).toList) = decide (s.size = 0) := by
  rw [bytes_beq]
  have : s = ByteArray.mk #[] ↔ s.size = 0 := ⟨fun h => by rw [h]; rfl, fun h => bytes_ext (List.eq_nil_of_length_eq_zero (by rw [size_list]; exact h))⟩
  by_cases h : s.size = 0
  · rw [decide_eq_true h, decide_eq_true (this.2 h)]
  · rw [decide_eq_false h, decide_eq_false (fun c => h (this.1 c))]
theorem beq_self_l (s : ByteArray) : (s.toList == s.toList) = true := by simp
/-! ### names -/
def letB (c : Int) : Bool := c == 95 || (decide (c ≥ 97) && decide (c ≤ 122)) || (decide (c ≥ 48) && decide (c ≤ 57))
theorem event_letter_is (c : Int) : event_letter c = some (letB c) := by
  unfold event_letter event_letter_t letB
  simp only [LT.fin_br, LT.fin_ret]
  cases (c == 95) <;> cases decide (c ≥ 97) <;> cases decide (c ≤ 122) <;> cases decide (c ≥ 48) <;> cases decide (c ≤ 57) <;> rfl
theorem ref03_letter_is (c : Int) : ref03_letter c = some (letB c) := by
  unfold ref03_letter ref03_letter_t letB
  simp only [LT.fin_br, LT.fin_ret]
  cases (c == 95) <;> cases decide (c ≥ 97) <;> cases decide (c ≤ 122) <;> cases decide (c ≥ 48) <;> cases decide (c ≤ 57) <;> rfl
def lets (l : List UInt8) : Bool := l.all fun b => letB (b.toNat : Int)
def runL (l : List UInt8) : Nat := (l.takeWhile fun b => letB (b.toNat : Int)).length
/-- Where the letters from a place on end. -/
def runN (s : ByteArray) (i : Nat) : Nat := i + runL (s.data.toList.drop i)
theorem runL_le (l : List UInt8) : runL l ≤ l.length := by unfold runL; exact (List.takeWhile_sublist _).length_le
theorem run_le (s : ByteArray) (i : Nat) (hi : i ≤ s.size) : i ≤ runN s i ∧ runN s i ≤ s.size := by
  have := runL_le (s.data.toList.drop i)
  rw [List.length_drop, size_list] at this
  unfold runN; omega
theorem drop_at (s : ByteArray) (i : Nat) (h : i < s.size) : s.data.toList.drop i = (s.data.toList.getD i 0) :: s.data.toList.drop (i + 1) := by
  have h' : i < s.data.toList.length := by rw [size_list]; exact h
  rw [List.drop_eq_getElem_cons h', List.getD_eq_getElem?_getD, List.getElem?_eq_getElem h']; rfl
theorem run_loop (s : ByteArray) (hs : s.size ≤ 4611686018427387904) : ∀ (k m i : Nat), s.size - i ≤ k → i ≤ s.size → k < m →
    LT.loop event_run_b0 m (s, (i : Int), ()) = some ((runN s i : Int), ())
  | 0, m, i, hk, hi, hm => by
    rw [LT.loop_pos _ (by omega)]
    obtain rfl : i = s.size := by omega
    have : runN s s.size = s.size := by have := run_le s s.size (Nat.le_refl _); omega
    simp [event_run_b0, LT.run_br, LT.run_ret, this]
  | k + 1, m, i, hk, hi, hm => by
    rw [LT.loop_pos _ (by omega)]
    by_cases he : i = s.size
    · subst he
      have : runN s s.size = s.size := by have := run_le s s.size (Nat.le_refl _); omega
      simp [event_run_b0, LT.run_br, LT.run_ret, this]
    · have h1 : i < s.size := by omega
      have ih := run_loop s hs k (m - 1) (i + 1) (by omega) (by omega) (by omega)
      simp only [event_run_b0, LT.run_br, LT.run_ret, Int.ofNat_eq_natCast, Int.toNat_natCast]
      rw [if_pos (decide_eq_true (by omega)), if_pos (decide_eq_true (by omega)), if_pos (decide_eq_true (by omega)), event_letter_is, LT.run_some, i64_wrap _ (by omega) (by omega)]
      simp only [LT.run_br, LT.run_ret, LT.run_next]
      unfold runN runL at ih ⊢
      rw [drop_at s i h1, List.takeWhile_cons]
      cases hl : letB ((s.data.toList.getD i 0).toNat : Int) with
      | true =>
        simp only [if_true, List.length_cons]
        rw [show i + ((List.takeWhile (fun b => letB (b.toNat : Int)) (List.drop (i + 1) s.data.toList)).length + 1) = i + 1 + (List.takeWhile (fun b => letB (b.toNat : Int)) (List.drop (i + 1) s.data.toList)).length by omega]
        exact ih
      | false => simp
theorem event_run_is (s : ByteArray) (i : Nat) (hi : i ≤ s.size) (hs : s.size ≤ 100000000000) : event_run s (i : Int) = some (runN s i : Int) := by
  unfold event_run event_run_t event_run_l0
  rw [run_loop s (by omega) s.size FUEL i (by omega) hi (by rw [fuel_is]; omega)]; rfl
theorem run_all : ∀ l : List UInt8, (runL l = l.length) ↔ lets l = true
  | [] => by simp [runL, lets]
  | b :: l => by
    have ih := run_all l
    unfold runL lets at ih ⊢
    rw [List.takeWhile_cons, List.all_cons]
    cases h : letB (b.toNat : Int) with
    | true => simpa using ih
    | false => simp
def nameB (s : ByteArray) : Bool := decide (1 ≤ s.size) && decide (s.size ≤ 16) && decide (b0 s ≥ 97) && decide (b0 s ≤ 122) && lets s.data.toList
theorem event_Name_is (s : ByteArray) : event_Name s = some (nameB s) := by
  unfold event_Name event_Name_t nameB
  simp only [LT.fin_br, LT.fin_ret, LT.fin_fail, Int.ofNat_eq_natCast]
  have hb : b0 s = ((s.data.toList.getD (Int.toNat 0) 0).toNat : Int) := rfl
  rw [hb]
  generalize s.data.toList.getD (Int.toNat 0) 0 = c
  have e : event_run s 0 = some (runN s 0 : Int) ∨ ¬ s.size ≤ 16 := by
    by_cases h : s.size ≤ 16
    · exact .inl (event_run_is s 0 (by omega) (by omega))
    · exact .inr h
  by_cases h1 : 1 ≤ s.size
  · by_cases h2 : s.size ≤ 16
    · replace e := e.resolve_right (fun h => h h2)
      rw [if_pos (decide_eq_true (by omega)), if_pos (decide_eq_true (by omega)), if_pos (decide_eq_true (by omega)), decide_eq_true h1, decide_eq_true h2]
      by_cases h3 : (c.toNat : Int) ≥ 97
      · rw [if_pos (decide_eq_true h3), if_pos (decide_eq_true (by omega)), decide_eq_true h3]
        by_cases h4 : (c.toNat : Int) ≤ 122
        · rw [if_pos (decide_eq_true h4), decide_eq_true h4, e, LT.fin_some, LT.fin_ret]
          unfold runN
          rw [List.drop_zero, Nat.zero_add]
          have hr := run_all s.data.toList
          rw [size_list] at hr
          congr 1
          cases hl : lets s.data.toList with
          | true => rw [hr.2 hl]; simp
          | false =>
            have : runL s.data.toList ≠ s.size := fun e => by rw [hr.1 e] at hl; cases hl
            simp; omega
        · rw [if_neg (by simpa using h4), decide_eq_false h4]; simp
      · rw [if_neg (by simpa using h3), decide_eq_false h3]; simp
    · rw [if_pos (decide_eq_true (by omega)), if_neg (by simp; omega), decide_eq_false h2]; simp
  · rw [if_neg (by simp; omega), decide_eq_false h1]; simp
theorem rname_loop (s : ByteArray) (hs : s.size ≤ 4611686018427387904) : ∀ (k m i : Nat), s.size - i ≤ k → i ≤ s.size → k < m →
    LT.loop ref03_Name_b0 m (s, (i : Int), ()) = some (if lets (s.data.toList.drop i) = true then .inr () else .inl (false, ()))
  | 0, m, i, hk, hi, hm => by
    rw [LT.loop_pos _ (by omega)]
    obtain rfl : i = s.size := by omega
    have : s.data.toList.drop s.size = [] := List.drop_of_length_le (by rw [size_list]; omega)
    rw [this]
    simp [ref03_Name_b0, LT.run_br, LT.run_ret, lets]
  | k + 1, m, i, hk, hi, hm => by
    rw [LT.loop_pos _ (by omega)]
    by_cases he : i = s.size
    · subst he
      have : s.data.toList.drop s.size = [] := List.drop_of_length_le (by rw [size_list]; omega)
      rw [this]
      simp [ref03_Name_b0, LT.run_br, LT.run_ret, lets]
    · have h1 : i < s.size := by omega
      have ih := rname_loop s hs k (m - 1) (i + 1) (by omega) (by omega) (by omega)
      simp only [ref03_Name_b0, LT.run_br, LT.run_ret, Int.ofNat_eq_natCast, Int.toNat_natCast]
      rw [if_pos (decide_eq_true (by omega)), if_pos (decide_eq_true (by omega)), if_pos (decide_eq_true (by omega)), ref03_letter_is, LT.run_some, i64_wrap _ (by omega) (by omega)]
      simp only [LT.run_br, LT.run_ret, LT.run_next]
      rw [drop_at s i h1]
      unfold lets at ih ⊢
      rw [List.all_cons]
      cases hl : letB ((s.data.toList.getD i 0).toNat : Int) with
      | true => simpa using ih
      | false => simp
theorem ref03_Name_is (s : ByteArray) : ref03_Name s = some (nameB s) := by
  unfold ref03_Name ref03_Name_t nameB
  simp only [LT.fin_br, LT.fin_ret, LT.fin_fail, Int.ofNat_eq_natCast]
  have hb : b0 s = ((s.data.toList.getD (Int.toNat 0) 0).toNat : Int) := rfl
  rw [hb]
  generalize s.data.toList.getD (Int.toNat 0) 0 = c
  by_cases h1 : 1 ≤ s.size
  · by_cases h2 : s.size ≤ 16
    · rw [if_neg (by simp; omega), if_neg (by simp; omega), if_pos (decide_eq_true (by omega)), decide_eq_true h1, decide_eq_true h2]
      by_cases h3 : (c.toNat : Int) ≥ 97
      · by_cases h4 : (c.toNat : Int) ≤ 122
        · rw [if_neg (by simp; omega), if_pos (decide_eq_true (by omega)), if_neg (by simp; omega), decide_eq_true h3, decide_eq_true h4]
          have := rname_loop s (by omega) s.size FUEL 0 (by omega) (by omega) (by rw [fuel_is]; omega)
          rw [show ((0 : Nat) : Int) = 0 from rfl, List.drop_zero] at this
          unfold ref03_Name_l0
          rw [this]
          cases hl : lets s.data.toList <;> rfl
        · rw [if_neg (by simp; omega), if_pos (decide_eq_true (by omega)), if_pos (by simp; omega), decide_eq_false h4]; simp
      · rw [if_pos (by simp; omega), decide_eq_false h3]; simp
    · rw [if_neg (by simp; omega), if_pos (by simp; omega), decide_eq_false h2]; simp
  · rw [if_pos (by simp; omega), decide_eq_false h1]; simp
theorem dropC {α : Type} (l : List α) (i : Nat) (h : i < l.length) : l.drop i = l[i] :: l.drop (i + 1) := List.drop_eq_getElem_cons h
/-- a name that does not come after the one ahead -/
def notUp (n p : ByteArray) : Bool := Op.bytesLess n.toList p.toList || n.toList == p.toList
theorem up_is (n p : ByteArray) : (!Op.bytesLess p.toList n.toList) = notUp n p := by
  unfold notUp
  have h := bl_tri n.toList p.toList
  rcases h with ⟨a, b, _⟩ | ⟨a, b, c⟩ | ⟨a, b, c⟩
  · rw [a, b]; rfl
  · rw [a, b]; simp [c]
  · rw [a, b]; simp [c]
/-! ### the document's side -/
/-! ### a bound -/
/-- Is a bound of the form, its name aside? -/
def frmB (b : Bd) : Bool := match b with
  | (_, k, lo, hi, ex, s, t, f) => if k = 1 then decide (lo ≤ hi) && !ex && decide (s.size = 0) && !t && !f else
    if k = 2 then decide (lo = 0) && decide (hi = 0) && !t && !f && (decide (s.size < 1000) || (ex && decide (s.size = 1000))) else
    if k = 3 then decide (lo = 0) && decide (hi = 0) && !ex && decide (s.size = 0) && (t || f) else false
def rgtB (b : Bd) (p : ByteArray) : Bool := nameB b.1 && ltN p b.1 && frmB b
theorem nup (n p : ByteArray) : (!(Op.bytesLess n.toList p.toList || n.toList == p.toList)) = ltN p n := by
  have := up_is n p
  unfold notUp at this
  rw [← this]; simp [ltN]
theorem beq_dec (a b : Int) : (a == b) = decide (a = b) := by
  by_cases h : a = b
  · subst h; simp
  · simp [h]
theorem Right_is (b : Bd) (p : ByteArray) : filter_Right b p = some (rgtB b p) := by
  obtain ⟨n, k, lo, hi, ex, s, t, f⟩ := b
  unfold filter_Right filter_Right_t rgtB frmB
  simp only [LT.fin_br, LT.fin_ret, event_Name_is, LT.fin_some, eqB, nup, empty_iff, beq_self_l, Int.ofNat_eq_natCast]
  by_cases h1 : k = 1
  · subst h1
    by_cases hl : lo ≤ hi <;> by_cases hs : s.size = 0 <;> cases ex <;> cases t <;> cases f <;> cases nameB n <;> simp [hl, hs]
  · by_cases h2 : k = 2
    · subst h2
      by_cases hs : s.size < 1000
      · have q : ((s.size : Nat) : Int) < 1000 := by omega
        by_cases hl : lo = 0 <;> by_cases hh : hi = 0 <;> cases t <;> cases f <;> cases nameB n <;> simp [hl, hh, hs, q]
      · have q : ¬ ((s.size : Nat) : Int) < 1000 := by omega
        by_cases he : s.size = 1000
        · have q2 : ((s.size : Nat) : Int) = 1000 := by omega
          by_cases hl : lo = 0 <;> by_cases hh : hi = 0 <;> cases ex <;> cases t <;> cases f <;> cases nameB n <;> simp [hl, hh, he]
        · have q2 : ¬ ((s.size : Nat) : Int) = 1000 := by omega
          cases ex <;> simp [hs, q, he, q2]
    · by_cases h3 : k = 3
      · subst h3
        by_cases hl : lo = 0 <;> by_cases hh : hi = 0 <;> by_cases hs : s.size = 0 <;> cases ex <;> cases t <;> cases f <;> cases nameB n <;> simp [hl, hh, hs]
      · simp [h1, h2, h3]
theorem form_is (b : Bd) : ref05_form b = some (frmB b) := by
  obtain ⟨n, k, lo, hi, ex, s, t, f⟩ := b
  unfold ref05_form ref05_form_t frmB
  simp only [LT.fin_br, LT.fin_ret, empty_iff, Int.ofNat_eq_natCast]
  by_cases h1 : k = 1
  · subst h1
    by_cases hl : lo ≤ hi <;> by_cases hs : s.size = 0 <;> cases ex <;> cases t <;> cases f <;> simp [hl, hs]
  · by_cases h2 : k = 2
    · subst h2
      by_cases hs : s.size < 1000
      · have q : ((s.size : Nat) : Int) < 1000 := by omega
        by_cases hl : lo = 0 <;> by_cases hh : hi = 0 <;> cases t <;> cases f <;> simp [hl, hh, hs, q]
      · have q : ¬ ((s.size : Nat) : Int) < 1000 := by omega
        by_cases he : s.size = 1000
        · have q2 : ((s.size : Nat) : Int) = 1000 := by omega
          by_cases hl : lo = 0 <;> by_cases hh : hi = 0 <;> cases ex <;> cases t <;> cases f <;> simp [hl, hh, he]
        · have q2 : ¬ ((s.size : Nat) : Int) = 1000 := by omega
          cases ex <;> simp [hs, q, he, q2]
    · by_cases h3 : k = 3
      · subst h3
        by_cases hl : lo = 0 <;> by_cases hh : hi = 0 <;> by_cases hs : s.size = 0 <;> cases ex <;> cases t <;> cases f <;> simp [hl, hh, hs]
      · simp [h1, h2, h3]
theorem Bound_is (b : Bd) (p : ByteArray) : ref05_Bound b p = some (rgtB b p) := by
  unfold ref05_Bound ref05_Bound_t rgtB
  simp only [LT.fin_br, LT.fin_ret, ref03_Name_is, LT.fin_some, form_is]
  have : Op.bytesLess p.toList (ByteArray.toList b.1) = ltN p b.1 := rfl
  rw [this]
  cases nameB b.1 <;> cases ltN p b.1 <;> simp
/-! ### a filter -/
def bsOk : ByteArray → List Bd → Bool
  | _, [] => true
  | p, b :: l => rgtB b p && bsOk b.1 l
def ckF (f : Fil) : Err := if f.2.length > 16 then some ([], 2) else if (f.2.isEmpty || (!f.1 && bsOk (ByteArray.mk #[]) f.2)) = true then none else some ([], 3)
def ckStep {Q : Type} (d : Bool) (q : Q) (p : ByteArray) (b : Bd) : ByteArray ⊕ Q := if d = true then .inr q else if rgtB b p = true then .inl b.1 else .inr q
theorem ckStep_all {Q : Type} (d : Bool) (q r : Q) : ∀ (l : List Bd) (p : ByteArray), foldE (ckStep d q) (fun _ => r) p l = if (l.isEmpty || (!d && bsOk p l)) = true then r else q
  | [], p => rfl
  | b :: l, p => by
    cases d with
    | true => rw [foldE_r (show ckStep true q p b = .inr q from rfl)]; simp
    | false =>
      have ih := ckStep_all false q r l b.1
      by_cases h : rgtB b p = true
      · rw [foldE_l (show ckStep false q p b = .inl b.1 from by simp [ckStep, h])]
        refine Eq.trans ih ?_
        rw [show bsOk p (b :: l) = (rgtB b p && bsOk b.1 l) from rfl, h]
        cases l with
        | nil => simp [bsOk]
        | cons c l => simp
      · rw [foldE_r (show ckStep false q p b = .inr q from by simp [ckStep, h])]
        rw [show bsOk p (b :: l) = (rgtB b p && bsOk b.1 l) from rfl]
        simp [h]
theorem filter_Check_is (f : Fil) : filter_Check f = some (ckF f) := by
  unfold filter_Check filter_Check_t ckF
  simp only [LT.fin_br, LT.fin_ret]
  by_cases h : f.2.length > 16
  · rw [if_pos (decide_eq_true (by simp only [Int.ofNat_eq_natCast]; omega)), if_pos h]
  · rw [if_neg (by simp; omega), if_neg h]
    have := foldE_run (bd := filter_Check_b0) f.2 (by omega) (fun i p => (p, f.2, Int.ofNat f.2.length, (i : Int), f.1, f.2, ())) (ckStep f.1 (Sum.inl (some ([], 3), ()))) (fun _ => .inr ())
      (fun i hi p g => by
        refine (rn_in hi).trans ?_
        rw [getI_lt hi]
        unfold ckStep
        cases f.1 with
        | true => exact rn_t rfl
        | false =>
          refine (rn_f rfl).trans ((rn_o (Right_is _ _)).trans ?_)
          cases rgtB f.2[i] p with
          | true => rw [wsucc (by omega)]; exact (rn_f rfl).trans rfl
          | false => exact (rn_t rfl).trans rfl)
      (fun p g => rn_out.trans rfl) (ByteArray.mk #[])
    rw [ckStep_all] at this
    refine (fn_o this).trans ?_
    split <;> rfl
theorem ref05_Check_is (f : Fil) : ref05_Check f = some (toE (ckF f)) := by
  unfold ref05_Check ref05_Check_t ckF
  simp only [LT.fin_br, LT.fin_ret]
  by_cases h : f.2.length > 16
  · rw [if_pos (decide_eq_true (by simp only [Int.ofNat_eq_natCast]; omega)), if_pos h]; rfl
  · rw [if_neg (by simp; omega), if_neg h]
    have := foldE_run (bd := ref05_Check_b0) f.2 (by omega) (fun i p => (p, f.2, Int.ofNat f.2.length, (i : Int), f.1, f.2, false, 0, ())) (ckStep f.1 (Sum.inl (true, [], 3, ()))) (fun _ => .inr (false, 0, ()))
      (fun i hi p g => by
        refine (rn_in hi).trans ?_
        rw [getI_lt hi]
        unfold ckStep
        cases f.1 with
        | true => exact rn_t rfl
        | false =>
          refine (rn_f rfl).trans ((rn_o (Bound_is _ _)).trans ?_)
          cases rgtB f.2[i] p with
          | true => rw [wsucc (by omega)]; exact (rn_f rfl).trans rfl
          | false => exact (rn_t rfl).trans rfl)
      (fun p g => rn_out.trans rfl) (ByteArray.mk #[])
    rw [ckStep_all] at this
    refine (fn_o this).trans ?_
    split <;> rfl
/-! ### does a bound hold? -/
def preB (a p : ByteArray) : Bool := decide (p.size ≤ a.size) && ((a.extract 0 p.size).toList == p.toList)
theorem preB_self (a : ByteArray) : preB a a = true := by
  unfold preB
  have : a.extract 0 a.size = a := bytes_ext (by simp)
  rw [this]; simp
theorem prefix_is (a p : ByteArray) : strings_HasPrefix a p = some (preB a p) := by
  have h : stringslite_HasPrefix a p = some (preB a p) := by
    unfold stringslite_HasPrefix stringslite_HasPrefix_t preB
    by_cases hs : p.size ≤ a.size
    · rw [decide_eq_true hs]
      exact (fn_t (decide_eq_true (by simp only [Int.ofNat_eq_natCast]; omega))).trans ((fn_t (decide_eq_true (by simp only [Int.ofNat_eq_natCast]; omega))).trans rfl)
    · rw [decide_eq_false hs]
      exact (fn_f (decide_eq_false (by simp only [Int.ofNat_eq_natCast]; omega))).trans rfl
  unfold strings_HasPrefix strings_HasPrefix_t
  exact (fn_o h).trans rfl
theorem begins_is (a p : ByteArray) : ref05_begins a p = some (preB a p) := by
  unfold ref05_begins ref05_begins_t preB
  by_cases hs : p.size ≤ a.size
  · rw [decide_eq_true hs]
    exact (fn_t (decide_eq_true (by simp only [Int.ofNat_eq_natCast]; omega))).trans ((fn_t (decide_eq_true (by simp only [Int.ofNat_eq_natCast]; omega))).trans rfl)
  · rw [decide_eq_false hs]
    exact (fn_f (decide_eq_false (by simp only [Int.ofNat_eq_natCast]; omega))).trans rfl
def holdB (b : Bd) (v : V) : Bool := match b with
  | (_, k, lo, hi, ex, s, t, f) => decide (k = v.1) && (if k = 1 then decide (lo ≤ v.2.1) && decide (v.2.1 ≤ hi) else
    if k = 2 then decide (v.2.2.1 = s) || (!ex && preB v.2.2.1 s) else (v.2.2.2 && t) || (!v.2.2.2 && f))
theorem ref05_Holds_is (b : Bd) (v : V) : ref05_Holds b v = some (holdB b v) := by
  obtain ⟨n, k, lo, hi, ex, s, t, f⟩ := b
  obtain ⟨k', i, u, c⟩ := v
  unfold ref05_Holds ref05_Holds_t holdB
  simp only [LT.fin_br, LT.fin_ret, begins_is, LT.fin_some, bytes_beq]
  by_cases hk : k = k'
  · subst hk
    by_cases h1 : k = 1
    · subst h1
      by_cases hl : lo ≤ i <;> simp [hl]
    · by_cases h2 : k = 2
      · subst h2
        by_cases hu : u = s
        · subst hu; cases ex <;> simp [preB_self]
        · cases ex <;> simp [hu]
      · cases c <;> cases t <;> simp [h1, h2]
  · simp [hk]
/-! ### the value of a name -/
/-! ### does a filter mean an event? -/
/-- The bound of a name. -/
def getB (bs : List Bd) (n : ByteArray) : Option Bd := bs.find? fun b => decide (b.1 = n)
theorem getB_cons (b : Bd) (bs : List Bd) (n : ByteArray) : getB (b :: bs) n = if b.1 = n then some b else getB bs n := by
  unfold getB
  rw [List.find?_cons]
  by_cases h : b.1 = n <;> simp [h]
theorem getB_none {bs : List Bd} {n : ByteArray} (h : ∀ b ∈ bs, b.1 ≠ n) : getB bs n = none := List.find?_eq_none.2 fun b hb => by simp [h b hb]
theorem getB_mem {bs : List Bd} {n : ByteArray} {b : Bd} (h : getB bs n = some b) : b ∈ bs ∧ b.1 = n := ⟨List.mem_of_find?_eq_some h, of_decide_eq_true (show decide (b.1 = n) = true from List.find?_some (p := fun (b : Bd) => decide (b.1 = n)) h)⟩
theorem rise_nodup {l : List ByteArray} (h : Rise l) : l.Nodup := h.imp fun {a b} hab c => by rw [c, ltN_irrefl] at hab; cases hab
/-- The names of a filter of the form rise. -/
theorem bsOk_rise : ∀ (l : List Bd) (p : ByteArray), bsOk p l = true → Rise (l.map (·.1)) ∧ ∀ b ∈ l, ltN p b.1 = true
  | [], _, _ => ⟨.nil, fun _ h => by cases h⟩
  | b :: l, p, h => by
    unfold bsOk at h
    rw [Bool.and_eq_true] at h
    obtain ⟨i1, i2⟩ := bsOk_rise l b.1 h.2
    have hb : ltN p b.1 = true := by
      have := h.1
      unfold rgtB at this
      simp only [Bool.and_eq_true] at this
      exact this.1.2
    refine ⟨List.pairwise_cons.2 ⟨fun n hn => ?_, i1⟩, fun c hc => ?_⟩
    · obtain ⟨c, hc, rfl⟩ := List.mem_map.1 hn
      exact i2 c hc
    · rcases List.mem_cons.1 hc with rfl | hc
      · exact hb
      · exact ltN_trans hb (i2 c hc)
theorem ckF_rise {f : Fil} (h : ckF f = none) : Rise (f.2.map (·.1)) ∧ f.2.length ≤ 16 ∧ (f.1 = true → f.2 = []) := by
  unfold ckF at h
  split at h
  · cases h
  · rename_i hl
    split at h
    · rename_i hc
      rw [Bool.or_eq_true] at hc
      refine ⟨?_, by omega, fun hf => ?_⟩
      · rcases hc with hc | hc
        · rw [List.isEmpty_iff.1 hc]; exact .nil
        · rw [Bool.and_eq_true] at hc
          exact (bsOk_rise _ _ hc.2).1
      · rcases hc with hc | hc
        · exact List.isEmpty_iff.1 hc
        · rw [hf] at hc; simp at hc
    · cases h
end Go.Proofs.YtmpgilieeegnhaaGreatDoor
