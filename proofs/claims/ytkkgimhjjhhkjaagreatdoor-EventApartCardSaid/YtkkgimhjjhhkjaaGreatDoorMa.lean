/- Plain: turned from an elder seat's text. -/
import Derived.Test.YtkkgimhjjhhkjaaGreatDoorGc
set_option maxRecDepth 100000
namespace Go.Proofs.YtkkgimhjjhhkjaaGreatDoor
open Go Go.Pev
abbrev Ev := List (ByteArray × V)
theorem bl_cons (a : UInt8) (x : List UInt8) (b : UInt8) (y : List UInt8) : Op.bytesLess (a :: x) (b :: y) = (decide (a < b) || (a == b && Op.bytesLess x y)) := rfl
theorem bl_tri : ∀ l m : List UInt8, (Op.bytesLess l m = true ∧ Op.bytesLess m l = false ∧ l ≠ m) ∨ (Op.bytesLess l m = false ∧ Op.bytesLess m l = false ∧ l = m) ∨ (Op.bytesLess l m = false ∧ Op.bytesLess m l = true ∧ l ≠ m)
  | [], [] => .inr (.inl ⟨rfl, rfl, rfl⟩)
  | [], _ :: _ => .inl ⟨rfl, rfl, by simp⟩
  | _ :: _, [] => .inr (.inr ⟨rfl, rfl, by simp⟩)
  | a :: x, b :: y => by
    simp only [bl_cons]
    rcases Nat.lt_trichotomy a.toNat b.toNat with h | h | h
    · have h1 : a < b := h
      have h2 : ¬ b < a := fun h' => by have : b.toNat < a.toNat := h'; omega
      have h3 : a ≠ b := fun e => by subst e; omega
      refine .inl ⟨by simp [h1], by simp [h2, Ne.symm h3], by simp [h3]⟩
    · have h3 : a = b := UInt8.toNat_inj.1 h
      subst h3
      have h1 : ¬ a < a := fun h' => by have : a.toNat < a.toNat := h'; omega
      rcases bl_tri x y with ⟨q1, q2, q3⟩ | ⟨q1, q2, q3⟩ | ⟨q1, q2, q3⟩
      · exact .inl ⟨by simp [q1], by simp [h1, q2], by simpa using q3⟩
      · exact .inr (.inl ⟨by simp [h1, q1], by simp [h1, q2], by simpa using q3⟩)
      · exact .inr (.inr ⟨by simp [h1, q1], by simp [q2], by simpa using q3⟩)
    · have h1 : b < a := h
      have h2 : ¬ a < b := fun h' => by have : a.toNat < b.toNat := h'; omega
      have h3 : a ≠ b := fun e => by subst e; omega
      refine .inr (.inr ⟨by simp [h2, h3], by simp [h1], by simp [h3]⟩)
theorem bl_trans : ∀ l m n : List UInt8, Op.bytesLess l m = true → Op.bytesLess m n = true → Op.bytesLess l n = true
  | _, _, [], _, h => by simp [Op.bytesLess] at h
  | [], _, _ :: _, _, _ => rfl
  | _ :: _, [], _, h, _ => by simp [Op.bytesLess] at h
  | a :: x, b :: y, c :: z, h1, h2 => by
    simp only [bl_cons, Bool.or_eq_true, decide_eq_true_eq, Bool.and_eq_true, beq_iff_eq] at h1 h2 ⊢
    rcases h1 with h1 | ⟨rfl, h1⟩ <;> rcases h2 with h2 | ⟨rfl, h2⟩
    · exact .inl (by have e1 : a.toNat < b.toNat := h1; have e2 : b.toNat < c.toNat := h2; show a.toNat < c.toNat; omega)
    · exact .inl h1
    · exact .inl h2
    · exact .inr ⟨rfl, bl_trans x y z h1 h2⟩
def ltN (a b : ByteArray) : Bool := Op.bytesLess a.toList b.toList
theorem cmp_lists : ∀ a b : List UInt8, (Lib.compareBytes a b < 0 ↔ Op.bytesLess a b = true) ∧ (Lib.compareBytes a b = 0 ↔ a = b)
  | [], [] => by simp [Lib.compareBytes, Op.bytesLess]
  | [], _ :: _ => by simp [Lib.compareBytes, Op.bytesLess]
  | _ :: _, [] => by simp [Lib.compareBytes, Op.bytesLess]
  | a :: x, b :: y => by
    obtain ⟨h1, h2⟩ := cmp_lists x y
    unfold Lib.compareBytes
    rw [bl_cons]
    by_cases hab : a < b
    · have hne : a ≠ b := fun e => by subst e; exact absurd hab (UInt8.lt_irrefl _)
      simp [hab, hne]
    · by_cases hba : b < a
      · have hne : a ≠ b := fun e => by subst e; exact absurd hba (UInt8.lt_irrefl _)
        simp [hab, hba, hne]
      · have e : a = b := UInt8.le_antisymm (UInt8.not_lt.1 hba) (UInt8.not_lt.1 hab)
        subst e
        simp [hab, h1, h2]
theorem cmp_lt (a b : ByteArray) : decide (Lib.compareBytes a.data.toList b.data.toList < 0) = ltN a b := by
  have := (cmp_lists a.data.toList b.data.toList).1
  unfold ltN
  rw [ByteArray.toList_eq, ByteArray.toList_eq]
  cases h : Op.bytesLess a.data.toList b.data.toList with
  | true => exact decide_eq_true (this.2 h)
  | false => exact decide_eq_false fun h' => by rw [this.1 h'] at h; cases h
theorem cmp_eq (a b : ByteArray) : (Lib.compareBytes a.data.toList b.data.toList == 0) = decide (a = b) := by
  have := (cmp_lists a.data.toList b.data.toList).2
  by_cases h : a = b
  · subst h; rw [decide_eq_true rfl]; simp [this]
  · rw [decide_eq_false h, beq_eq_false_iff_ne]
    exact fun e => h (bytes_ext (this.1 e))
theorem ltN_trans {a b c : ByteArray} (h : ltN a b = true) (k : ltN b c = true) : ltN a c = true := bl_trans _ _ _ h k
theorem ltN_irrefl (a : ByteArray) : ltN a a = false := by
  rcases bl_tri a.toList a.toList with ⟨_, _, h⟩ | ⟨h, _, _⟩ | ⟨_, _, h⟩
  · exact absurd rfl h
  · exact h
  · exact absurd rfl h
theorem toList_inj {a b : ByteArray} (h : a.toList = b.toList) : a = b := by
  rw [ByteArray.toList_eq, ByteArray.toList_eq] at h; exact bytes_ext h
theorem ltN_of {a b : ByteArray} (h : ltN a b = false) (hne : a ≠ b) : ltN b a = true := by
  rcases bl_tri a.toList b.toList with ⟨h1, _, _⟩ | ⟨_, _, h1⟩ | ⟨_, h1, _⟩
  · exact absurd (h1.symm.trans h) (by simp)
  · exact absurd (toList_inj h1) hne
  · exact h1
theorem ltN_asymm {a b : ByteArray} (h : ltN a b = true) : ltN b a = false := by
  cases hb : ltN b a with
  | false => rfl
  | true => have := ltN_trans h hb; rw [ltN_irrefl] at this; cases this
/-! ### a place in a rising list of names -/
def Rise (l : List ByteArray) : Prop := l.Pairwise fun a b => ltN a b = true
def posN : List ByteArray → ByteArray → Nat
  | [], _ => 0
  | a :: l, s => if ltN a s = true then posN l s + 1 else 0
theorem posN_le : ∀ (l : List ByteArray) (s : ByteArray), posN l s ≤ l.length
  | [], _ => Nat.le_refl _
  | a :: l, s => by
    unfold posN
    split
    · have := posN_le l s; simp; omega
    · simp
theorem posN_lt : ∀ (l : List ByteArray) (s : ByteArray) (i : Nat) (h : i < l.length), i < posN l s → ltN l[i] s = true
  | [], _, _, h, _ => absurd h (by simp)
  | a :: l, s, i, h, hi => by
    unfold posN at hi
    by_cases ha : ltN a s = true
    · rw [if_pos ha] at hi
      cases i with
      | zero => exact ha
      | succ i => exact posN_lt l s i (by simpa using h) (by omega)
    · rw [if_neg ha] at hi; omega
theorem posN_ge : ∀ (l : List ByteArray) (s : ByteArray) (i : Nat) (h : i < l.length), Rise l → posN l s ≤ i → ltN l[i] s = false
  | [], _, _, h, _, _ => absurd h (by simp)
  | a :: l, s, i, h, hr, hi => by
    obtain ⟨h1, h2⟩ := List.pairwise_cons.1 hr
    unfold posN at hi
    by_cases ha : ltN a s = true
    · rw [if_pos ha] at hi
      cases i with
      | zero => omega
      | succ i => exact posN_ge l s i (by simpa using h) h2 (by omega)
    · cases i with
      | zero => simpa using ha
      | succ i =>
        simp only [List.getElem_cons_succ]
        have hi' : i < l.length := by simpa using h
        have h3 := h1 l[i] (List.getElem_mem _)
        cases hb : ltN l[i] s with
        | false => rfl
        | true => exact absurd (ltN_trans h3 hb) ha
/-- Is it there? -/
def inN (l : List ByteArray) (s : ByteArray) : Bool := decide (l[posN l s]? = some s)
theorem inN_mem {l : List ByteArray} {s : ByteArray} (hr : Rise l) : inN l s = true ↔ s ∈ l := by
  unfold inN
  rw [decide_eq_true_eq]
  constructor
  · exact fun h => List.mem_of_getElem? h
  · intro h
    obtain ⟨i, hi, rfl⟩ := List.getElem_of_mem h
    have h1 : ¬ i < posN l l[i] := fun hlt => by
      have := posN_lt l l[i] i hi hlt
      rw [ltN_irrefl] at this; cases this
    have h2 : posN l l[i] = i := by
      rcases Nat.lt_or_ge (posN l l[i]) i with hlt | hge
      · have hp : posN l l[i] < l.length := by omega
        have := posN_ge l l[i] (posN l l[i]) hp hr (Nat.le_refl _)
        have h3 := List.pairwise_iff_getElem.1 hr (posN l l[i]) i hp hi hlt
        rw [this] at h3; cases h3
      · omega
    rw [h2, List.getElem?_eq_getElem hi]
theorem mid_is (a b : Nat) (h : a + b < 9223372036854775808) : IntKind.i64.wrap ((IntKind.u64.wrap (IntKind.i64.wrap ((a : Int) + (b : Int)))).fdiv (2 ^ min 1 IntKind.u64.bits)) = (((a + b) / 2 : Nat) : Int) := by
  rw [i64_wrap ((a : Int) + (b : Int)) (by omega) (by omega)]
  have h1 : IntKind.u64.wrap ((a : Int) + (b : Int)) = ((a + b : Nat) : Int) := by
    rw [IntKind.wrap_u64]; omega
  rw [h1, show (2 : Int) ^ min 1 IntKind.u64.bits = ((2 : Nat) : Int) from rfl, ← Int.ofNat_fdiv]
  exact i64_wrap _ (by omega) (by omega)
theorem event_Find_1_is (a : ByteArray × V) (s : ByteArray) : event_Find_1 a s = some (Lib.compareBytes a.1.data.toList s.data.toList) := by
  unfold event_Find_1 event_Find_1_t
  rfl
abbrev nms (l : Ev) : List ByteArray := l.map (·.1)
theorem bs_loop (l : Ev) (s : ByteArray) (hr : Rise (nms l)) (hl : l.length ≤ 1000000) : ∀ (m lo hi : Nat), lo ≤ posN (nms l) s → posN (nms l) s ≤ hi → hi ≤ l.length → hi - lo < m →
    LT.loop slices_BinarySearchFunc_b0 m (l, s, (l.length : Int), (lo : Int), (hi : Int), ()) = some (l, s, (l.length : Int), (posN (nms l) s : Int), ())
  | 0, lo, hi, _, _, _, h => by omega
  | m + 1, lo, hi, h1, h2, h3, h4 => by
    rw [LT.loop_succ]
    simp only [slices_BinarySearchFunc_b0, LT.run_br, LT.run_ret, LT.run_next]
    by_cases he : lo < hi
    · rw [mid_is lo hi (by omega)]
      have hm : (lo + hi) / 2 < l.length := by omega
      rw [if_pos (decide_eq_true (by omega)), if_pos (decide_eq_true (by omega)), if_pos (decide_eq_true (by simp only [Int.ofNat_eq_natCast]; omega)), getI_lt hm]
      simp only [cmp_lt]
      have hn : ltN l[(lo + hi) / 2].1 s = ltN ((nms l)[(lo + hi) / 2]'(by simpa using hm)) s := by simp
      rw [hn]
      rcases Nat.lt_or_ge ((lo + hi) / 2) (posN (nms l) s) with hlt | hge
      · rw [posN_lt (nms l) s _ (by simpa using hm) hlt, if_pos rfl, i64_wrap _ (by omega) (by omega)]
        exact bs_loop l s hr hl m ((lo + hi) / 2 + 1) hi (by omega) h2 h3 (by omega)
      · rw [posN_ge (nms l) s _ (by simpa using hm) hr hge, if_neg (by simp)]
        exact bs_loop l s hr hl m lo ((lo + hi) / 2) h1 hge (by omega) (by omega)
    · have hp : posN (nms l) s = lo := by omega
      rw [if_neg (by simp; omega), hp]
theorem event_Find_is (l : Ev) (s : ByteArray) (hr : Rise (nms l)) (hl : l.length ≤ 1000000) : event_Find l s = some ((posN (nms l) s : Int), inN (nms l) s) := by
  have h := bs_loop l s hr hl FUEL 0 l.length (by omega) (by have := posN_le (nms l) s; simpa using this) (Nat.le_refl _) (by rw [fuel_is]; omega)
  unfold event_Find event_Find_t slices_BinarySearchFunc slices_BinarySearchFunc_t slices_BinarySearchFunc_l0
  rw [Int.ofNat_eq_natCast]
  rw [show ((0 : Nat) : Int) = 0 from rfl] at h
  rw [h]
  simp only [LT.fin_some, LT.fin_br, LT.fin_ret]
  have hle := posN_le (nms l) s
  unfold inN
  by_cases hp : posN (nms l) s < l.length
  · rw [if_pos (decide_eq_true (by omega)), if_pos (decide_eq_true (by omega)), if_pos (decide_eq_true (by simp only [Int.ofNat_eq_natCast]; omega)), getI_lt hp]
    simp only [LT.fin_ret, LT.fin_some, cmp_eq]
    rw [List.getElem?_eq_getElem (by simpa using hp)]
    simp
  · rw [if_neg (by simp; omega), List.getElem?_eq_none (by simp; omega)]
    simp [LT.fin_some, LT.fin_ret]
end Go.Proofs.YtkkgimhjjhhkjaaGreatDoor
