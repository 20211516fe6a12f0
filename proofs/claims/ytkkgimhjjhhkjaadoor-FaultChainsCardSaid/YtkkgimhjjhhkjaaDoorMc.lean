/- Chapter 1, plain: texts, building, shifting, and the statements. -/
import Derived.Test.YtkkgimhjjhhkjaaDoorMb
namespace Go.Proofs.YtkkgimhjjhhkjaaDoor
open Go Go.Pev

def okI (n : Int) : Prop := -9223372036854775808 ≤ n ∧ n ≤ 9223372036854775807
theorem okI_of {n : Int} (h : (Lit.int .i64 n).wf = true) : okI n := by
  simp only [Lit.wf, Bool.and_eq_true, decide_eq_true_eq] at h
  exact h
/-- A place in words. -/
noncomputable def pieceB (p : Int × Int) : ByteArray := ((ref01_word p.1).getD ⟨#[]⟩) ++ ByteArray.mk #[32] ++ ⟨(Lib.itoa p.2).toArray⟩ ++ ByteArray.mk #[58, 32]
noncomputable def catB : List (Int × Int) → ByteArray
  | [] => ByteArray.mk #[]
  | p :: ps => pieceB p ++ catB ps
theorem piece_size (p : Int × Int) (h : okI p.2) : (pieceB p).size ≤ 40 ∧ 1 ≤ (pieceB p).size := by
  obtain ⟨s, e, h1, h2⟩ := word_some p.1
  have := itoa_len p.2 h.1 h.2
  unfold pieceB
  rw [e]
  simp only [Option.getD_some, ByteArray.size_append]
  have e2 : (ByteArray.mk (Lib.itoa p.2).toArray).size = (Lib.itoa p.2).length := rfl
  have e3 : (ByteArray.mk #[32]).size = 1 := rfl
  have e4 : (ByteArray.mk #[58, 32]).size = 2 := rfl
  omega
theorem append_nil_b (a : ByteArray) : a ++ ByteArray.mk #[] = a := bytes_ext (by simp)
theorem nil_append_b (a : ByteArray) : ByteArray.mk #[] ++ a = a := bytes_ext (by simp)
theorem append_assoc_b (a b c : ByteArray) : a ++ b ++ c = a ++ (b ++ c) := bytes_ext (by simp)
theorem text_loop (e : Err) (ps : List (Int × Int)) (hp : ∀ p ∈ ps, okI p.2) (hl : ps.length ≤ 1000) : ∀ (k m i : Nat) (acc : ByteArray), ps.length - i ≤ k → i ≤ ps.length → k < m → acc.size ≤ 40 * i →
    LT.loop fault_Text_b0 m (e, acc, ps, (ps.length : Int), (i : Int), ()) = some (e, acc ++ catB (ps.drop i), ())
  | 0, m, i, acc, hk, hi, hm, ha => by
    rw [LT.loop_pos _ (by omega)]
    obtain rfl : i = ps.length := by omega
    simp [fault_Text_b0, LT.run_br, LT.run_ret, catB, append_nil_b]
  | k + 1, m, i, acc, hk, hi, hm, ha => by
    rw [LT.loop_pos _ (by omega)]
    by_cases he : i = ps.length
    · subst he
      simp [fault_Text_b0, LT.run_br, LT.run_ret, catB, append_nil_b]
    · have h1 : i < ps.length := by omega
      have hq := hp ps[i] (List.getElem_mem h1)
      obtain ⟨w, ew, hw1, hw2⟩ := word_some ps[i].1
      have hi2 := itoa_len ps[i].2 hq.1 hq.2
      have hsz := (piece_size ps[i] hq).1
      have ih := text_loop e ps hp hl k (m - 1) (i + 1) (acc ++ pieceB ps[i]) (by omega) (by omega) (by omega) (by rw [ByteArray.size_append]; omega)
      have e2 : (ByteArray.mk (Lib.itoa ps[i].2).toArray).size = (Lib.itoa ps[i].2).length := rfl
      have e3 : (ByteArray.mk #[32]).size = 1 := rfl
      have e4 : (ByteArray.mk #[58, 32]).size = 2 := rfl
      simp only [fault_Text_b0, LT.run_br, LT.run_next]
      rw [if_pos (decide_eq_true (by omega)), if_pos (decide_eq_true (by omega)), if_pos (decide_eq_true (by simpa using h1)), getI_lt h1, word_same, ew, LT.run_some, LT.run_br]
      rw [if_pos (decide_eq_true (by omega)), number_is _ hq.1 hq.2, LT.run_some]
      simp only [LT.run_br, LT.run_next, ByteArray.size_append]
      rw [if_pos (decide_eq_true (by omega)), if_pos (decide_eq_true (by omega)), if_pos (decide_eq_true (by omega)), i64_wrap _ (by omega) (by omega)]
      rw [List.drop_eq_getElem_cons h1, catB]
      rw [append_assoc_b acc (pieceB ps[i])] at ih
      have hpc : pieceB ps[i] = w ++ ByteArray.mk #[32] ++ ⟨(Lib.itoa ps[i].2).toArray⟩ ++ ByteArray.mk #[58, 32] := by unfold pieceB; rw [ew]; rfl
      rw [hpc] at ih ⊢
      exact ih
theorem rtext_loop (b : Bool) (l : List (Int × Int)) (c : Int) (ps : List (Int × Int)) (hp : ∀ p ∈ ps, okI p.2) (hl : ps.length ≤ 1000) : ∀ (k m i : Nat) (acc : ByteArray), ps.length - i ≤ k → i ≤ ps.length → k < m → acc.size ≤ 40 * i →
    LT.loop ref01_Text_b0 m (acc, ps, (ps.length : Int), (i : Int), b, l, c, ()) = some (acc ++ catB (ps.drop i), b, l, c, ())
  | 0, m, i, acc, hk, hi, hm, ha => by
    rw [LT.loop_pos _ (by omega)]
    obtain rfl : i = ps.length := by omega
    simp [ref01_Text_b0, LT.run_br, LT.run_ret, catB, append_nil_b]
  | k + 1, m, i, acc, hk, hi, hm, ha => by
    rw [LT.loop_pos _ (by omega)]
    by_cases he : i = ps.length
    · subst he
      simp [ref01_Text_b0, LT.run_br, LT.run_ret, catB, append_nil_b]
    · have h1 : i < ps.length := by omega
      have hq := hp ps[i] (List.getElem_mem h1)
      obtain ⟨w, ew, hw1, hw2⟩ := word_some ps[i].1
      have hi2 := itoa_len ps[i].2 hq.1 hq.2
      have hsz := (piece_size ps[i] hq).1
      have ih := rtext_loop b l c ps hp hl k (m - 1) (i + 1) (acc ++ pieceB ps[i]) (by omega) (by omega) (by omega) (by rw [ByteArray.size_append]; omega)
      have e2 : (ByteArray.mk (Lib.itoa ps[i].2).toArray).size = (Lib.itoa ps[i].2).length := rfl
      have e3 : (ByteArray.mk #[32]).size = 1 := rfl
      have e4 : (ByteArray.mk #[58, 32]).size = 2 := rfl
      simp only [ref01_Text_b0, LT.run_br, LT.run_next]
      rw [if_pos (decide_eq_true (by omega)), if_pos (decide_eq_true (by omega)), if_pos (decide_eq_true (by simpa using h1)), getI_lt h1, ew, LT.run_some, LT.run_br]
      rw [if_pos (decide_eq_true (by omega)), itoaF_is _ hq.1 hq.2, LT.run_some]
      simp only [LT.run_br, LT.run_next, ByteArray.size_append]
      rw [if_pos (decide_eq_true (by omega)), if_pos (decide_eq_true (by omega)), if_pos (decide_eq_true (by omega)), i64_wrap _ (by omega) (by omega)]
      rw [List.drop_eq_getElem_cons h1, catB]
      rw [append_assoc_b acc (pieceB ps[i])] at ih
      have hpc : pieceB ps[i] = w ++ ByteArray.mk #[32] ++ ⟨(Lib.itoa ps[i].2).toArray⟩ ++ ByteArray.mk #[58, 32] := by unfold pieceB; rw [ew]; rfl
      rw [hpc] at ih ⊢
      exact ih
theorem cat_size : ∀ (ps : List (Int × Int)), (∀ p ∈ ps, okI p.2) → (catB ps).size ≤ 40 * ps.length
  | [], _ => by simp [catB, ByteArray.size]
  | p :: ps, h => by
    have := cat_size ps fun q hq => h q (List.mem_cons_of_mem _ hq)
    have := (piece_size p (h p List.mem_cons_self)).1
    simp only [catB, ByteArray.size_append, List.length_cons]; omega
noncomputable def saysB (n : Int) : ByteArray := (ref01_words n).getD ⟨#[]⟩
theorem says_some (n : Int) : ref01_words n = some (saysB n) ∧ (saysB n).size ≤ 100 ∧ 1 ≤ (saysB n).size := by
  obtain ⟨s, e, h⟩ := words_some n
  unfold saysB
  rw [e]
  exact ⟨rfl, h⟩
theorem fault_Text_is (ps : List (Int × Int)) (n : Int) (hp : ∀ p ∈ ps, okI p.2) (hl : ps.length ≤ 1000) : fault_Text (some (ps, n)) = some (catB ps ++ saysB n) := by
  have := text_loop (some (ps, n)) ps hp hl ps.length FUEL 0 (ByteArray.mk #[]) (by omega) (by omega) (by rw [fuel_is]; omega) (by simp [ByteArray.size])
  rw [show ((0 : Nat) : Int) = 0 from rfl, nil_append_b, List.drop_zero] at this
  unfold fault_Text fault_Text_t
  rw [fault_Places_is ps n hl, LT.fin_some, Int.ofNat_eq_natCast]
  unfold fault_Text_l0
  rw [this, LT.fin_some, fault_Code_is, LT.fin_some, says_is, (says_some n).1, LT.fin_some, LT.fin_br]
  have := cat_size ps hp
  have := (says_some n).2
  rw [if_pos (decide_eq_true (by show (catB ps).size + _ ≤ _; omega))]
  rfl
theorem fault_Text_nil : fault_Text none = some (saysB 0) := by
  have := text_loop none [] (by simp) (by simp) 0 FUEL 0 (ByteArray.mk #[]) (by simp) (by simp) (by rw [fuel_is]; omega) (by simp [ByteArray.size])
  rw [show ((0 : Nat) : Int) = 0 from rfl, nil_append_b, List.drop_zero] at this
  unfold fault_Text fault_Text_t
  rw [fault_Places_nil, LT.fin_some, Int.ofNat_eq_natCast]
  unfold fault_Text_l0
  rw [this, LT.fin_some, fault_Code_is, LT.fin_some, says_is, (says_some 0).1, LT.fin_some, LT.fin_br]
  have := (says_some 0).2
  rw [if_pos (decide_eq_true (by show (catB []).size + _ ≤ _; rw [show (catB []).size = 0 from rfl]; omega))]
  rw [LT.fin_ret]
  congr 1
theorem ref01_Text_is (b : Bool) (ps : List (Int × Int)) (n : Int) (hp : ∀ p ∈ ps, okI p.2) (hl : ps.length ≤ 1000) : ref01_Text (b, ps, n) = some (catB ps ++ saysB n) := by
  have := rtext_loop b ps n ps hp hl ps.length FUEL 0 (ByteArray.mk #[]) (by omega) (by omega) (by rw [fuel_is]; omega) (by simp [ByteArray.size])
  rw [show ((0 : Nat) : Int) = 0 from rfl, nil_append_b, List.drop_zero] at this
  unfold ref01_Text ref01_Text_t
  simp only [Int.ofNat_eq_natCast]
  unfold ref01_Text_l0
  rw [this, LT.fin_some, (says_some n).1, LT.fin_some, LT.fin_br]
  have := cat_size ps hp
  have := (says_some n).2
  rw [if_pos (decide_eq_true (by show (catB ps).size + _ ≤ _; omega))]
  rfl

theorem ref01_At_is (k a : Int) (l : List (Int × Int)) (c : Int) (h : l.length ≤ 1000000) : ref01_At k a (true, l, c) = some (true, (k, a) :: l, c) := by
  unfold ref01_At ref01_At_t
  simp only [LT.fin_br, LT.fin_ret]
  rw [if_neg (by simp), appLim_ok (by omega), if_pos rfl]
theorem build_loop (ps : List (Int × Int)) (hl : ps.length ≤ 1000) (n : Int) (b : Bool) (c : Int) : ∀ (k m : Nat) (acc : List (Int × Int)), k ≤ ps.length → k < m → acc.length ≤ 1000 - k →
    LT.loop law01_build_b0 m (ps, some (acc, n), (k : Int) - 1, b, c, true, acc, n, ()) = some (some (ps.take k ++ acc, n), b, c, true, ps.take k ++ acc, n, ())
  | 0, m, acc, hk, hm, _ => by
    rw [LT.loop_pos _ (by omega)]
    simp [law01_build_b0, LT.run_br, LT.run_ret]
  | k + 1, m, acc, hk, hm, ha => by
    rw [LT.loop_pos _ (by omega)]
    have h1 : k < ps.length := by omega
    have ih := build_loop ps hl n b c k (m - 1) (ps[k] :: acc) (by omega) (by omega) (by simp; omega)
    rw [show ((k + 1 : Nat) : Int) - 1 = (k : Int) by omega]
    simp only [law01_build_b0, LT.run_br, LT.run_next]
    rw [getI_lt h1, fault_At_is, LT.run_some, Option.map]
    simp only [LT.run_br, LT.run_next]
    rw [ref01_At_is _ _ _ _ (by omega), LT.run_some, LT.run_next, i64_wrap _ (by omega) (by omega)]
    rw [if_pos (decide_eq_true (by omega)), if_pos (decide_eq_true (by omega)), if_pos (decide_eq_true (by simpa using h1)), if_pos (decide_eq_true (by omega)), if_pos (decide_eq_true (by simpa using h1)), if_pos (decide_eq_true (by omega)), if_pos (decide_eq_true (by simpa using h1)), if_pos (decide_eq_true (by omega)), if_pos (decide_eq_true (by simpa using h1))]
    rw [List.take_succ_eq_append_getElem h1, List.append_assoc, List.singleton_append]
    exact ih
theorem build_is (ps : List (Int × Int)) (hl : ps.length ≤ 1000) (n : Int) : law01_build ps n = some (some (ps, n), true, ps, n) := by
  have := build_loop ps hl n false 0 ps.length FUEL [] (Nat.le_refl _) (by rw [fuel_is]; omega) (by simp)
  rw [List.append_nil, List.take_length] at this
  unfold law01_build law01_build_t
  simp only [Int.ofNat_eq_natCast]
  rw [i64_wrap _ (by omega) (by omega)]
  unfold law01_build_l0
  rw [this]
  rfl
theorem errorOf_is (ps : List (Int × Int)) (hl : ps.length ≤ 1000) (n : Int) : law01_errorOf ps n = some (some (ps, n)) := by
  unfold law01_errorOf law01_errorOf_t
  rw [build_is ps hl n]; rfl
theorem awake_is : law01_awake = some true := by
  unfold law01_awake law01_awake_t
  rw [fault_Text_is _ _ (by intro p hp; simp at hp; rcases hp with rfl | rfl <;> exact ⟨by decide, by decide⟩) (by decide), LT.fin_some, LT.fin_br, bytes_beq]
  have e : saysB 6 = ByteArray.mk #[116, 111, 111, 32, 115, 104, 111, 114, 116] := by
    unfold saysB ref01_words ref01_words_t
    simp only [LT.fin_br, LT.fin_ret, LT.fin_fail]
    rfl
  have e3 : Lib.itoa 3 = [51] := by unfold Lib.itoa Lib.decDigits; rfl
  have e7 : Lib.itoa 7 = [55] := by unfold Lib.itoa Lib.decDigits; rfl
  have p1 : pieceB (3, 3) = ByteArray.mk #[108, 105, 110, 101, 32, 51, 58, 32] := by
    unfold pieceB
    simp only [e3]
    rfl
  have p2 : pieceB (1, 7) = ByteArray.mk #[98, 121, 116, 101, 32, 55, 58, 32] := by
    unfold pieceB
    simp only [e7]
    rfl
  rw [e, catB, catB, catB, p1, p2]
  rfl
end Go.Proofs.YtkkgimhjjhhkjaaDoor
