/- Chapter 1, plain: the words, and an error's text. -/
import Derived.Test.YtkkgimhjjhhkjaaDoorMa
import Derived.Lib.SplitLaws
import Derived.Lib.ItoaLen
namespace Go.Proofs.YtkkgimhjjhhkjaaDoor
open Go Go.Pev

def joinC (c : UInt8) : List UInt8 → List (List UInt8) → List UInt8
  | p, [] => p
  | p, q :: qs => p ++ c :: joinC c q qs
theorem indexByte_miss (c : UInt8) : ∀ (p : List UInt8), c ∉ p → Lib.indexByte p c = -1
  | [], _ => rfl
  | b :: p, h => by
    have hb : (b == c) = false := by simp; intro e; exact h (e ▸ List.mem_cons_self)
    have ih := indexByte_miss c p fun hp => h (List.mem_cons_of_mem _ hp)
    simp [Lib.indexByte, hb, ih]
theorem indexByte_at (c : UInt8) (r : List UInt8) : ∀ (p : List UInt8), c ∉ p → Lib.indexByte (p ++ c :: r) c = p.length
  | [], _ => by simp [Lib.indexByte]
  | b :: p, h => by
    have hb : (b == c) = false := by simp; intro e; exact h (e ▸ List.mem_cons_self)
    have ih := indexByte_at c r p fun hp => h (List.mem_cons_of_mem _ hp)
    simp only [List.cons_append, Lib.indexByte, hb, Bool.false_eq_true, if_false, ih, List.length_cons]
    have : ((p.length : Int) == -1) = false := by simp
    simp [this]
theorem splitK_join (c : UInt8) : ∀ (qs : List (List UInt8)) (p : List UInt8), c ∉ p → (∀ q ∈ qs, c ∉ q) → Lib.splitK [c] 0 qs.length (joinC c p qs) = p :: qs
  | [], p, _, _ => rfl
  | q :: qs, p, hp, hq => by
    have ih := splitK_join c qs q (hq q List.mem_cons_self) fun x hx => hq x (List.mem_cons_of_mem _ hx)
    simp only [List.length_cons, joinC, Lib.splitK]
    rw [Lib.index_one, indexByte_at c _ p hp]
    have : ((p.length : Int) == -1) = false := by simp
    simp only [this, Bool.false_eq_true, if_false, Int.toNat_natCast, Nat.add_zero, List.length_cons, List.length_nil, Nat.zero_add, List.take_left]
    rw [show List.drop (p.length + 1) (p ++ c :: joinC c q qs) = joinC c q qs by simp, ih]
theorem count_join (c : UInt8) : ∀ (qs : List (List UInt8)) (p : List UInt8), c ∉ p → (∀ q ∈ qs, c ∉ q) → Lib.count (joinC c p qs) [c] = qs.length
  | [], p, hp, _ => by rw [Lib.count_one]; exact List.count_eq_zero_of_not_mem hp
  | q :: qs, p, hp, hq => by
    have ih := count_join c qs q (hq q List.mem_cons_self) fun x hx => hq x (List.mem_cons_of_mem _ hx)
    rw [Lib.count_one] at ih ⊢
    simp [joinC, ih, List.count_eq_zero_of_not_mem hp]
def wordsL : List (List UInt8) := [[97, 108, 108, 32, 105, 115, 32, 119, 101, 108, 108], [111, 117, 116, 115, 105, 100, 101, 32, 105, 116, 115, 32, 114, 97, 110, 103, 101], [116, 111, 111, 32, 108, 111, 110, 103], [110, 111, 116, 32, 111, 102, 32, 116, 104, 101, 32, 102, 111, 114, 109], [110, 111, 116, 32, 115, 117, 99, 104, 32, 97, 32, 116, 101, 120, 116], [117, 110, 108, 105, 107, 101, 32, 107, 105, 110, 100, 115], [116, 111, 111, 32, 115, 104, 111, 114, 116], [97, 32, 119, 114, 111, 110, 103, 32, 115, 117, 109], [115, 111, 109, 101, 116, 104, 105, 110, 103, 32, 98, 101, 104, 105, 110, 100], [116, 104, 101, 114, 101, 32, 97, 108, 114, 101, 97, 100, 121], [110, 111, 32, 115, 117, 99, 104, 32, 116, 104, 105, 110, 103], [110, 111, 32, 114, 111, 111, 109], [110, 111, 32, 109, 101, 109, 98, 101, 114], [97, 32, 119, 114, 111, 110, 103, 32, 108, 105, 110, 107], [110, 111, 32, 116, 114, 101, 101], [97, 32, 99, 104, 97, 110, 103, 101, 32, 105, 115, 32, 111, 112, 101, 110], [100, 111, 119, 110], [105, 110, 32, 117, 115, 101], [97, 116, 32, 105, 116, 115, 32, 101, 110, 100], [110, 105, 108], [111, 117, 116, 32, 111, 102, 32, 111, 114, 100, 101, 114], [116, 104, 101, 32, 119, 114, 111, 110, 103, 32, 116, 105, 109, 101]]
theorem words_split (s : ByteArray) (h : s.data.toList = joinC 44 wordsL.head! wordsL.tail!) (hs : s.size < 4294967281) : splitF s (ByteArray.mk #[44]) = some (wordsL.map fun l => ⟨l.toArray⟩) := by
  have hm : ∀ q ∈ wordsL, (44 : UInt8) ∉ q := by decide
  have hc : Lib.countB s (ByteArray.mk #[44]) = 21 := by
    show Lib.count s.data.toList [44] = 21
    rw [h]
    exact count_join 44 wordsL.tail! wordsL.head! (hm _ (by decide)) fun q hq => hm q (List.mem_of_mem_tail hq)
  have hk : (Lib.splitB (ByteArray.mk #[44]) 0 21 s).map (·.data.toList) = wordsL := by
    rw [Lib.splitB_data, h]
    exact splitK_join 44 wordsL.tail! wordsL.head! (hm _ (by decide)) fun q hq => hm q (List.mem_of_mem_tail hq)
  have hl : Lib.splitB (ByteArray.mk #[44]) 0 21 s = wordsL.map fun l => ⟨l.toArray⟩ := by
    rw [← hk, List.map_map]
    conv => lhs; rw [← List.map_id (Lib.splitB (ByteArray.mk #[44]) 0 21 s)]
    apply List.map_congr_left
    intro x _
    exact bytes_ext (by simp)
  rw [splitF_eq, hc, hl, decide_eq_true ⟨hs, by decide, by decide⟩]
  rfl
theorem says_is (n : Int) : fault_says n = ref01_words n := by
  unfold fault_says fault_says_t ref01_words ref01_words_t
  rw [words_split _ (by kernel_rfl) (of_decide_eq_true (by kernel_rfl))]
  simp only [LT.fin_some, LT.fin_br, LT.fin_ret, LT.fin_fail]
  rw [show ((wordsL.map fun l => (⟨l.toArray⟩ : ByteArray)).length) = 22 from rfl, show Int.ofNat 22 = 22 from rfl]
  by_cases h1 : n < 0
  · simp [h1]
  · have d1 : decide (n < 0) = false := decide_eq_false h1
    by_cases h2 : n ≥ 22
    · have d2 : decide (n ≥ 22) = true := decide_eq_true h2
      simp only [d1, d2, if_true, Bool.false_eq_true, if_false]
    · have d2 : decide (n ≥ 22) = false := decide_eq_false h2
      have d3 : decide (0 ≤ n) = true := decide_eq_true (by omega)
      have d4 : decide (n < 22) = true := decide_eq_true (by omega)
      simp only [d1, d2, d3, d4, if_true, Bool.false_eq_true, if_false]
      rfl
/-- The words of a number; they are few. -/
theorem words_some (n : Int) : ∃ s, ref01_words n = some s ∧ s.size ≤ 100 ∧ 1 ≤ s.size := by
  unfold ref01_words ref01_words_t
  simp only [LT.fin_br, LT.fin_ret, LT.fin_fail]
  by_cases h1 : n < 0
  · exact ⟨_, by rw [if_pos (decide_eq_true h1)], by decide, by decide⟩
  · rw [if_neg (by simpa using h1)]
    by_cases h2 : n ≥ 22
    · exact ⟨_, by rw [if_pos (decide_eq_true h2)], by decide, by decide⟩
    · rw [if_neg (by simpa using h2), if_pos (decide_eq_true (by omega)), if_pos (decide_eq_true (by omega)), if_pos (decide_eq_true (by omega)), if_pos (decide_eq_true (by omega))]
      refine ⟨_, rfl, ?_⟩
      obtain ⟨k, rfl⟩ := Int.eq_ofNat_of_zero_le (by omega : 0 ≤ n)
      have hk : k < 22 := by omega
      rw [getI_cast]
      have : ∀ k, k < 22 → ((wordsL.map fun l => (⟨l.toArray⟩ : ByteArray)).getD k ⟨#[]⟩).size ≤ 100 ∧ 1 ≤ ((wordsL.map fun l => (⟨l.toArray⟩ : ByteArray)).getD k ⟨#[]⟩).size := by decide
      exact this k hk

theorem word_same (k : Int) : fault_word k = ref01_word k := rfl
theorem word_some (k : Int) : ∃ s, ref01_word k = some s ∧ s.size ≤ 10 ∧ 1 ≤ s.size := by
  unfold ref01_word ref01_word_t
  simp only [LT.fin_br, LT.fin_ret]
  repeat' split
  all_goals exact ⟨_, rfl, by decide, by decide⟩
theorem itoa_len (n : Int) (h1 : -9223372036854775808 ≤ n) (h2 : n ≤ 9223372036854775807) : (Lib.itoa n).length ≤ 21 := by
  unfold Lib.itoa
  split
  · have := Lib.nDigits_le20 n.natAbs (by omega)
    simp only [List.length_cons, Lib.decDigits_length]; omega
  · have := Lib.nDigits_le20 n.toNat (by omega)
    rw [Lib.decDigits_length]; omega
theorem itoaF_is (n : Int) (h1 : -9223372036854775808 ≤ n) (h2 : n ≤ 9223372036854775807) : itoaF n = some ⟨(Lib.itoa n).toArray⟩ := by
  unfold itoaF
  rw [decide_eq_true ⟨h1, h2⟩]; rfl
theorem u64_wrap (n : Int) : IntKind.u64.wrap n = n % 18446744073709551616 := by
  simp [IntKind.wrap, IntKind.bits, IntKind.signed]
theorem number_is (n : Int) (h1 : -9223372036854775808 ≤ n) (h2 : n ≤ 9223372036854775807) : fault_number n = some ⟨(Lib.itoa n).toArray⟩ := by
  unfold fault_number fault_number_t fault_size fault_size_t
  simp only [LT.fin_br, LT.fin_ret, LT.fin_opt]
  by_cases h : n < 0
  · have e : IntKind.u64.wrap (0 - IntKind.u64.wrap n) = (n.natAbs : Int) := by rw [u64_wrap, u64_wrap]; omega
    have hd := Lib.nDigits_le20 n.natAbs (by omega)
    rw [if_pos (decide_eq_true h), if_pos (decide_eq_true h), Option.bind_some, e]
    unfold fmtU
    rw [decide_eq_true ⟨rfl, by omega, by omega⟩, cond_true, Option.bind_some, Int.toNat_natCast]
    rw [if_pos (decide_eq_true (by show 1 + (Lib.decDigits n.natAbs).length ≤ _; rw [Lib.decDigits_length]; omega))]
    congr 1
    apply bytes_ext
    unfold Lib.itoa
    rw [if_pos h]
    simp
  · have e : IntKind.u64.wrap n = (n.toNat : Int) := by rw [u64_wrap]; omega
    have hd := Lib.nDigits_le20 n.toNat (by omega)
    rw [if_neg (by simpa using h), if_neg (by simpa using h), Option.bind_some, e]
    unfold fmtU
    rw [decide_eq_true ⟨rfl, by omega, by omega⟩, cond_true, Option.bind_some, Int.toNat_natCast]
    rw [if_pos (decide_eq_true (by show 0 + (Lib.decDigits n.toNat).length ≤ _; rw [Lib.decDigits_length]; omega))]
    congr 1
    apply bytes_ext
    unfold Lib.itoa
    rw [if_neg h]
    simp
end Go.Proofs.YtkkgimhjjhhkjaaDoor
