/- Texts and values, plain law: what is written is read, and what is read was written so. -/
import Derived.Test.YtciajnknnoecaaaDoorZl
namespace Go.Proofs.YtciajnknnoecaaaDoor
open Go Go.Pev

theorem dec_len : ∀ (k n : Nat), n < 10 ^ (k + 1) → (Lib.decDigits n).length ≤ k + 1
  | 0, n, h => by rw [Lib.decDigits, dif_pos (by simpa using h)]; simp
  | k + 1, n, h => by
    by_cases h1 : n < 10
    · rw [Lib.decDigits, dif_pos h1]; simp
    · rw [Lib.decDigits, dif_neg h1, List.length_append]
      have := dec_len k (n / 10) (by rw [Nat.div_lt_iff_lt_mul (by omega)]; rw [Nat.pow_succ] at h; exact h)
      simp only [List.length_cons, List.length_nil]; omega
theorem lim20 {neg : Bool} {n : Nat} (h : n ≤ limOf neg) : n < 10 ^ (19 + 1) := by
  have h1 := (lim_le neg).2
  have h2 : (10 : Nat) ^ (19 + 1) = 100000000000000000000 := by decide
  omega
/-- How a number is parted. -/
theorem itoa_parts {i : Int} (h : inI i = true) : ∃ (neg : Bool) (n : Nat), i = sgn neg n ∧ Lib.itoa i = preOf neg ++ Lib.decDigits n ∧ (neg = true → 1 ≤ n) ∧ n ≤ limOf neg := by
  obtain ⟨h1, h2⟩ := of_decide_eq_true h
  by_cases h0 : i < 0
  · refine ⟨true, i.natAbs, ?_, ?_, fun _ => by omega, ?_⟩
    · show i = -(i.natAbs : Int); omega
    · unfold Lib.itoa; rw [if_pos h0]; rfl
    · show i.natAbs ≤ 9223372036854775808; omega
  · refine ⟨false, i.toNat, ?_, ?_, fun h => (by cases h), ?_⟩
    · show i = (i.toNat : Int); omega
    · unfold Lib.itoa; rw [if_neg h0]; rfl
    · show i.toNat ≤ 9223372036854775807; omega
theorem itoa_sgn {neg : Bool} {n : Nat} (h : neg = true → 1 ≤ n) : Lib.itoa (sgn neg n) = preOf neg ++ Lib.decDigits n := by
  cases neg with
  | true => exact Lib.itoa_neg n (h rfl)
  | false => exact Lib.itoa_nonneg n
theorem sgn_in {neg : Bool} {n : Nat} (h : n ≤ limOf neg) : inI (sgn neg n) = true := by
  cases neg with
  | true =>
    have h' : n ≤ 9223372036854775808 := h
    exact decide_eq_true (by show -9223372036854775808 ≤ -(n : Int) ∧ -(n : Int) ≤ 9223372036854775807; omega)
  | false =>
    have h' : n ≤ 9223372036854775807 := h
    exact decide_eq_true (by show -9223372036854775808 ≤ (n : Int) ∧ (n : Int) ≤ 9223372036854775807; omega)
theorem by0 {u : ByteArray} {c : UInt8} {l : List UInt8} (h : u.data.toList = c :: l) : by' u 0 = (c.toNat : Int) := by
  show ((u.data.toList.getD 0 0).toNat : Int) = _
  rw [h]; rfl
/-- The first byte says what is read. -/
theorem read_num {u : ByteArray} (h : u.size ≤ 8000) (h0 : u.size ≠ 0) (hc : by' u 0 = 45 ∨ (48 ≤ by' u 0 ∧ by' u 0 ≤ 57)) : readR u = numRes u := by
  unfold readR
  rw [decide_eq_false (by omega : ¬ u.size > 8000), decide_eq_false h0]
  simp only [cond_false]
  rcases hc with hc | ⟨h1, h2⟩
  · rw [hc]; rfl
  · rw [decide_eq_true h1, decide_eq_true h2]
    cases by' u 0 == 45 <;> rfl
theorem read_other {u : ByteArray} (h : u.size ≤ 8000) (h0 : u.size ≠ 0) (hc : ¬ (by' u 0 = 45 ∨ (48 ≤ by' u 0 ∧ by' u 0 ≤ 57))) : readR u = otherRes u := by
  unfold readR
  rw [decide_eq_false (by omega : ¬ u.size > 8000), decide_eq_false h0]
  simp only [cond_false]
  rw [show (by' u 0 == 45) = false from beq_eq_false_iff_ne.2 (by omega), cond_false]
  by_cases h1 : by' u 0 ≥ 48
  · rw [decide_eq_true h1, decide_eq_false (by omega : ¬ by' u 0 ≤ 57)]; rfl
  · rw [decide_eq_false h1]; rfl
theorem first_num {neg : Bool} {n : Nat} : ∃ c l, preOf neg ++ Lib.decDigits n = c :: l ∧ (c.toNat = 45 ∨ (48 ≤ c.toNat ∧ c.toNat ≤ 57)) := by
  cases neg with
  | true => exact ⟨45, Lib.decDigits n, rfl, .inl rfl⟩
  | false =>
    obtain ⟨⟨hne, hd, _⟩, _, _⟩ := dec_canon n
    cases hl : Lib.decDigits n with
    | nil => exact absurd hl hne
    | cons c l =>
      rw [hl, List.all_cons, Bool.and_eq_true] at hd
      exact ⟨c, l, rfl, .inr (isDig_of hd.1)⟩
/-- A value's text is read again. -/
theorem read_text (k i : Int) (s : ByteArray) (b : Bool) (hi : inI i = true) (hc : ckB k i s b = false) : readR (textS k i s b) = .val (k, i, s, b) ∧ (textS k i s b).size ≤ 8000 := by
  unfold textS
  have hc' := hc
  unfold ckB at hc'
  cases h1 : (k == 1) with
  | true =>
    rw [h1] at hc'
    obtain rfl : k = 1 := by simpa using h1
    simp only [cond_true] at hc' ⊢
    cases hs : (s.toList == ([] : List UInt8)) with
    | false => rw [hs] at hc'; cases hc'
    | true =>
      rw [hs] at hc'
      obtain rfl := ba_empty s hs
      cases b with
      | true => cases hc'
      | false =>
        obtain ⟨neg, n, rfl, ht, hn, hl⟩ := itoa_parts hi
        rw [ht]
        have hlen : (Lib.decDigits n).length ≤ 20 := dec_len 19 n (lim20 hl)
        have hsz : (⟨(preOf neg ++ Lib.decDigits n).toArray⟩ : ByteArray).size = (preOf neg ++ Lib.decDigits n).length := List.size_toArray
        have hpl : (preOf neg).length ≤ 1 := by cases neg <;> decide
        rw [List.length_append] at hsz
        have hle : (⟨(preOf neg ++ Lib.decDigits n).toArray⟩ : ByteArray).size ≤ 8000 := by omega
        refine ⟨?_, hle⟩
        obtain ⟨c, l, hcl, hcc⟩ := first_num (neg := neg) (n := n)
        have hb := by0 (u := ⟨(preOf neg ++ Lib.decDigits n).toArray⟩) (c := c) (l := l) (by simpa using hcl)
        rw [read_num hle (by rw [hsz, ← List.length_append, hcl]; simp) (by rw [hb]; omega)]
        exact num_read (by simp) hn hl
  | false =>
    rw [h1] at hc'
    cases h2 : (k == 2) with
    | true =>
      rw [h2] at hc'
      obtain rfl : k = 2 := by simpa using h2
      simp only [cond_true, cond_false] at hc' ⊢
      cases hi0 : (i != 0) with
      | true => rw [hi0] at hc'; cases hc'
      | false =>
        obtain rfl : i = 0 := by simpa [bne] using hi0
        cases b with
        | true => cases hc'
        | false =>
          have hs : s.size ≤ 1000 := by
            cases hd : decide ((s.size : Int) > 1000) with
            | true => rw [hd] at hc'; cases hc'
            | false => have := of_decide_eq_false hd; omega
          have hq := quote_size s
          have hf := flat_len s.data.toList
          rw [size_list] at hf
          change readR (quoteB s) = _ ∧ (quoteB s).size ≤ 8000
          refine ⟨?_, by omega⟩
          rw [read_other (by omega) (by omega) (by rw [quote_first]; omega)]
          unfold otherRes
          rw [quote_first]
          show strRes (quoteB s) = _
          rw [strRes_quote s [] (quoteB s) (by simp [quoteB])]
          rw [decide_eq_false (by omega : ¬ s.size > 1000)]
          rfl
    | false =>
      rw [h2] at hc'
      cases h3 : (k == 3) with
      | false => rw [h3] at hc'; cases hc'
      | true =>
        rw [h3] at hc'
        obtain rfl : k = 3 := by simpa using h3
        simp only [cond_true, cond_false] at hc' ⊢
        cases hs : (s.toList == ([] : List UInt8)) with
        | false => rw [hs] at hc'; cases hc'
        | true =>
          rw [hs] at hc'
          obtain rfl := ba_empty s hs
          cases hi0 : (i != 0) with
          | true => rw [hi0] at hc'; cases hc'
          | false =>
            obtain rfl : i = 0 := by simpa [bne] using hi0
            cases b with
            | true => exact ⟨by kernel_rfl, by show (4 : Nat) ≤ 8000; omega⟩
            | false => exact ⟨by kernel_rfl, by show (5 : Nat) ≤ 8000; omega⟩
theorem wordR_none (s w : ByteArray) : ∀ (f i : Nat), s.size ≤ i + f → wordR s w (f + 1) i = none → ∀ j, i ≤ j → j < s.size → j < w.size ∧ by' s j = by' w j
  | f, i, h, hn, j, hj, hlt => by
    rw [wordR, decide_eq_true (by omega : i < s.size)] at hn
    simp only [cond_true] at hn
    by_cases hw : w.size ≤ i
    · rw [decide_eq_true hw] at hn; cases hn
    · rw [decide_eq_false hw] at hn
      cases he : by' s i == by' w i with
      | false => rw [he] at hn; cases hn
      | true =>
        rw [he] at hn
        simp only [cond_true, cond_false] at hn
        by_cases hij : i = j
        · subst hij; exact ⟨by omega, eq_of_beq he⟩
        · match f, h, hn with
          | 0, h, hn => omega
          | f + 1, h, hn => exact wordR_none s w f (i + 1) (by omega) hn j (by omega) hlt
/-- A word that is read is the word. -/
theorem word_back {s w : ByteArray} (h : wordAt s w = none) (hs : ¬ s.size < w.size) : s = w := by
  have key := wordR_none s w s.size 0 (by omega) h
  have hsz : s.size = w.size := by
    rcases Nat.eq_zero_or_pos s.size with h0 | h0
    · omega
    · have := (key (s.size - 1) (by omega) (by omega)).1; omega
  apply ba_ext
  apply List.ext_getElem (by rw [size_list, size_list, hsz])
  intro j h1 h2
  have h3 := (key j (by omega) (by rw [size_list] at h1; exact h1)).2
  have e1 : by' s j = ((s.data.toList[j]).toNat : Int) := by show ((s.data.toList.getD j 0).toNat : Int) = _; rw [List.getD_eq_getElem?_getD, List.getElem?_eq_getElem h1]; rfl
  have e2 : by' w j = ((w.data.toList[j]).toNat : Int) := by show ((w.data.toList.getD j 0).toNat : Int) = _; rw [List.getD_eq_getElem?_getD, List.getElem?_eq_getElem h2]; rfl
  rw [e1, e2] at h3
  exact UInt8.toNat_inj.1 (by omega)
theorem word_val {s w : ByteArray} {b : Bool} {v : V} (h : wordRes s w b = .val v) : s = w ∧ v = (3, 0, ⟨#[]⟩, b) := by
  unfold wordRes at h
  cases hw : wordAt s w with
  | some p => rw [hw] at h; cases h
  | none =>
    rw [hw] at h
    simp only at h
    cases hd : decide (s.size < w.size) with
    | true => rw [hd] at h; cases h
    | false =>
      rw [hd] at h
      injection h with h
      exact ⟨word_back hw (of_decide_eq_false hd), h.symm⟩
theorem inI_0 : inI 0 = true := rfl
/-- What is read was written so. -/
theorem text_read {u : ByteArray} {v : V} (h : readR u = .val v) : textS v.1 v.2.1 v.2.2.1 v.2.2.2 = u ∧ ckB v.1 v.2.1 v.2.2.1 v.2.2.2 = false ∧ inI v.2.1 = true := by
  by_cases h8 : u.size > 8000
  · unfold readR at h; rw [decide_eq_true h8] at h; cases h
  by_cases h0 : u.size = 0
  · unfold readR at h; rw [decide_eq_false h8, decide_eq_true h0] at h; cases h
  by_cases hc : by' u 0 = 45 ∨ (48 ≤ by' u 0 ∧ by' u 0 ≤ 57)
  · rw [read_num (by omega) h0 hc] at h
    obtain ⟨neg, n, rfl, hl, hn, hle⟩ := num_back (by omega) h
    refine ⟨?_, by kernel_rfl, sgn_in hle⟩
    show (⟨(Lib.itoa (sgn neg n)).toArray⟩ : ByteArray) = u
    rw [itoa_sgn hn]
    exact ba_ext (by simpa using hl.symm)
  · rw [read_other (by omega) h0 hc] at h
    unfold otherRes at h
    cases h34 : by' u 0 == 34 with
    | true =>
      rw [h34] at h
      simp only [cond_true] at h
      unfold strRes at h
      cases hr : strR u (u.size + 1) 1 [] with
      | fin => rw [hr] at h; cases h
      | bad p => rw [hr] at h; cases h
      | long => rw [hr] at h; cases h
      | ok b =>
        rw [hr] at h
        injection h with h
        obtain ⟨l, r1, r2, r3⟩ := strR_ok u _ _ _ _ hr
        rw [List.nil_append] at r1
        subst h
        rw [r1] at r3 ⊢
        rw [ofU8s_ints]
        have hll : (ints l).length = l.length := by simp [ints]
        have hsz : (⟨l.toArray⟩ : ByteArray).size = l.length := List.size_toArray
        refine ⟨?_, ?_, inI_0⟩
        · show quoteB ⟨l.toArray⟩ = u
          apply ba_ext
          have h1 := drop_cons u.data.toList 0 (by rw [size_list]; omega)
          rw [List.drop_zero] at h1
          have h2 : u.data.toList.getD 0 0 = 34 := by
            have := eq_of_beq h34
            exact UInt8.toNat_inj.1 (by have e : by' u 0 = ((u.data.toList.getD 0 0).toNat : Int) := rfl; rw [e] at this; show _ = 34; omega)
          rw [h1, h2, show 0 + 1 = 1 from rfl, r2]
          simp [quoteB, quoteL]
        · show cond (decide (((⟨l.toArray⟩ : ByteArray).size : Int) > 1000)) true false = false
          rw [decide_eq_false (by rw [hsz]; omega)]
          rfl
    | false =>
      rw [h34] at h
      cases h116 : by' u 0 == 116 with
      | true =>
        rw [h116] at h
        obtain ⟨rfl, rfl⟩ := word_val h
        exact ⟨by kernel_rfl, by kernel_rfl, rfl⟩
      | false =>
        rw [h116] at h
        cases h102 : by' u 0 == 102 with
        | true =>
          rw [h102] at h
          obtain ⟨rfl, rfl⟩ := word_val h
          exact ⟨by kernel_rfl, by kernel_rfl, rfl⟩
        | false => rw [h102] at h; cases h
end Go.Proofs.YtciajnknnoecaaaDoor
