/- Numerals: plain law. -/
import Derived.Test.YtciajnknnoecaaaDoorZb
namespace Go.Proofs.YtciajnknnoecaaaDoor
open Go Go.Pev

def isDig (c : UInt8) : Bool := decide (48 ≤ c.toNat) && decide (c.toNat ≤ 57)
def valF (n : Nat) (l : List UInt8) : Nat := l.foldl (fun n c => n * 10 + (c.toNat - 48)) n
theorem valF_le : ∀ (l : List UInt8) (n : Nat), n ≤ valF n l
  | [], n => Nat.le_refl n
  | c :: l, n => Nat.le_trans (by omega) (valF_le l (n * 10 + (c.toNat - 48)))
theorem valF_append (l m : List UInt8) (n : Nat) : valF n (l ++ m) = valF (valF n l) m := List.foldl_append
theorem parseM : ∀ (l : List UInt8) (n : Nat), l.all isDig = true → n ≤ 18446744073709551615 →
    Lib.parseUintM 18446744073709551615 n l = if valF n l ≤ 18446744073709551615 then .ok (valF n l) else .range
  | [], n, _, hn => by simp [Lib.parseUintM, valF, hn]
  | c :: l, n, h, hn => by
    simp only [List.all_cons, Bool.and_eq_true] at h
    obtain ⟨hc, hl⟩ := h
    have hc' : 48 ≤ c.toNat ∧ c.toNat ≤ 57 := by unfold isDig at hc; simpa using hc
    have hv : valF n (c :: l) = valF (n * 10 + (c.toNat - 48)) l := rfl
    have hle := valF_le l (n * 10 + (c.toNat - 48))
    simp only [Lib.parseUintM, hc', and_self, if_true]
    by_cases h1 : 1844674407370955162 ≤ n
    · rw [if_pos h1, if_neg (by rw [hv]; omega)]
    · rw [if_neg h1]
      by_cases h2 : 18446744073709551615 < n * 10 + (c.toNat - 48)
      · rw [if_pos h2, if_neg (by rw [hv]; omega)]
      · rw [if_neg h2, parseM l _ hl (by omega), hv]
/-- The sign ahead, and how far a number goes with it. -/
def limOf (neg : Bool) : Nat := cond neg 9223372036854775808 9223372036854775807
def preOf (neg : Bool) : List UInt8 := cond neg [45] []
def sgn (neg : Bool) (n : Nat) : Int := cond neg (-(n : Int)) n
theorem parseI (neg : Bool) (ds : List UInt8) (hd : ds.all isDig = true) (hn : ds ≠ []) : Lib.parseIntB 64 (preOf neg ++ ds) = if valF 0 ds ≤ limOf neg then .ok (sgn neg (valF 0 ds)) else .range := by
  have hu : Lib.parseUintB 64 ds = if valF 0 ds ≤ 18446744073709551615 then .ok (valF 0 ds) else .range := by
    unfold Lib.parseUintB
    rw [if_neg hn]
    exact parseM ds 0 hd (by omega)
  cases neg with
  | true =>
    show Lib.parseIntB 64 (45 :: ds) = _
    simp only [Lib.parseIntB, show (45 : UInt8).toNat = 45 from rfl, or_true, if_true, hu]
    by_cases h1 : valF 0 ds ≤ 18446744073709551615
    · rw [if_pos h1]
      by_cases h2 : valF 0 ds ≤ 9223372036854775808
      · rw [if_pos (show valF 0 ds ≤ limOf true from h2)]
        simp [sgn, show ¬ 9223372036854775808 < valF 0 ds by omega]
      · rw [if_neg (show ¬ valF 0 ds ≤ limOf true from h2)]
        simp [show 9223372036854775808 < valF 0 ds by omega]
    · rw [if_neg h1, if_neg (show ¬ valF 0 ds ≤ limOf true by show ¬ valF 0 ds ≤ 9223372036854775808; omega)]
  | false =>
    show Lib.parseIntB 64 ds = _
    cases ds with
    | nil => exact absurd rfl hn
    | cons c l =>
      simp only [List.all_cons, Bool.and_eq_true] at hd
      have hc' : 48 ≤ c.toNat ∧ c.toNat ≤ 57 := by have := hd.1; unfold isDig at this; simpa using this
      simp only [Lib.parseIntB, show (c.toNat = 43) = False by simp; omega, show (c.toNat = 45) = False by simp; omega, or_self, if_false, hu]
      by_cases h1 : valF 0 (c :: l) ≤ 18446744073709551615
      · rw [if_pos h1]
        by_cases h2 : valF 0 (c :: l) ≤ 9223372036854775807
        · rw [if_pos (show valF 0 (c :: l) ≤ limOf false from h2)]
          simp [sgn, show ¬ 9223372036854775808 ≤ valF 0 (c :: l) by omega]
        · rw [if_neg (show ¬ valF 0 (c :: l) ≤ limOf false from h2)]
          simp [show 9223372036854775808 ≤ valF 0 (c :: l) by omega]
      · rw [if_neg h1, if_neg (show ¬ valF 0 (c :: l) ≤ limOf false by show ¬ valF 0 (c :: l) ≤ 9223372036854775807; omega)]
theorem piOk_is {s : ByteArray} {neg : Bool} {ds : List UInt8} (h : s.data.toList = preOf neg ++ ds) (hd : ds.all isDig = true) (hn : ds ≠ []) : piOk s = decide (valF 0 ds ≤ limOf neg) := by
  unfold piOk
  rw [h, parseI neg ds hd hn]
  by_cases h1 : valF 0 ds ≤ limOf neg
  · simp [h1]
  · simp [h1]
theorem piV_is {s : ByteArray} {neg : Bool} {ds : List UInt8} (h : s.data.toList = preOf neg ++ ds) (hd : ds.all isDig = true) (hn : ds ≠ []) (hl : valF 0 ds ≤ limOf neg) : piV s = sgn neg (valF 0 ds) := by
  unfold piV
  rw [h, parseI neg ds hd hn, if_pos hl]

/-- What comes of reading a number's text: a fault's place, or a number. -/
inductive NRd where
  | bad (p : Nat)
  | ok (n : Nat)
def NRd.isOk : NRd → Bool | .ok _ => true | _ => false
def NRd.pos : NRd → Nat | .bad p => p | _ => 0
def NRd.num : NRd → Nat | .ok n => n | _ => 0
def numR (s : ByteArray) (a lim : Nat) : Nat → Nat → Nat → NRd
  | 0, _, n => .ok n
  | f + 1, i, n => cond (decide (i < s.size)) (cond (decide (by' s i < 48)) (.bad i) (cond (decide (by' s i > 57)) (.bad i) (cond (decide (a < i) && (by' s a == 48)) (.bad i)
    (cond (decide (n * 10 + ((s.data.toList.getD i 0).toNat - 48) ≤ lim)) (numR s a lim f (i + 1) (n * 10 + ((s.data.toList.getD i 0).toNat - 48))) (.bad i))))) (.ok n)
/-- The digits from a on, as far as i. -/
def digs (s : ByteArray) (a i : Nat) : List UInt8 := (s.data.toList.drop a).take (i - a)
theorem digs_succ (s : ByteArray) (a i : Nat) (ha : a ≤ i) (hi : i < s.size) : digs s a (i + 1) = digs s a i ++ [s.data.toList.getD i 0] := by
  unfold digs
  have hl : i < s.data.toList.length := by rw [size_list]; exact hi
  rw [show i + 1 - a = (i - a) + 1 by omega, List.take_add_one, List.getElem?_drop, show a + (i - a) = i by omega]
  simp [List.getD_eq_getElem?_getD, hi]
theorem digs_self (s : ByteArray) (a : Nat) : digs s a a = [] := by simp [digs]
theorem digs_take (s : ByteArray) (a i : Nat) (ha : a ≤ i) : s.data.toList.take i = s.data.toList.take a ++ digs s a i := by
  unfold digs
  rw [← List.take_add, show a + (i - a) = i by omega]
theorem isDig_by {s : ByteArray} {i : Nat} (h1 : ¬ by' s i < 48) (h2 : ¬ by' s i > 57) : isDig (s.data.toList.getD i 0) = true := by
  have e : by' s i = ((s.data.toList.getD i 0).toNat : Int) := rfl
  rw [e] at h1 h2
  unfold isDig
  simp only [Bool.and_eq_true, decide_eq_true_eq]
  omega
theorem numR_ok (s : ByteArray) (a lim : Nat) : ∀ (f i n m : Nat), s.size ≤ i + f → a ≤ i → i ≤ s.size → (digs s a i).all isDig = true → n = valF 0 (digs s a i) → (digs s a i = [] ∨ n ≤ lim) → numR s a lim (f + 1) i n = .ok m →
    (digs s a s.size).all isDig = true ∧ m = valF 0 (digs s a s.size) ∧ (digs s a s.size = [] ∨ m ≤ lim)
  | f, i, n, m, hf, ha, hi, hd, hn, hl, h => by
    rw [numR] at h
    by_cases hlt : i < s.size
    · rw [show decide (i < s.size) = true from decide_eq_true hlt, cond_true] at h
      cases h1 : decide (by' s i < 48) with
      | true => rw [h1] at h; cases h
      | false =>
        cases h2 : decide (by' s i > 57) with
        | true => rw [h1, h2] at h; cases h
        | false =>
          cases h3 : (decide (a < i) && (by' s a == 48)) with
          | true => rw [h1, h2, h3] at h; cases h
          | false =>
            rw [h1, h2, h3] at h
            simp only [cond_false] at h
            cases h4 : decide (n * 10 + ((s.data.toList.getD i 0).toNat - 48) ≤ lim) with
            | false => rw [h4] at h; cases h
            | true =>
              rw [h4] at h
              simp only [cond_true] at h
              have hg := isDig_by (of_decide_eq_false h1) (of_decide_eq_false h2)
              match f, hf, h with
              | 0, hf, h => omega
              | f + 1, hf, h =>
                refine numR_ok s a lim f (i + 1) _ m (by omega) (by omega) (by omega) ?_ ?_ (.inr (of_decide_eq_true h4)) h
                · rw [digs_succ s a i ha hlt, List.all_append, hd, List.all_cons, hg]; rfl
                · rw [digs_succ s a i ha hlt, valF_append, ← hn]; rfl
    · rw [show decide (i < s.size) = false from decide_eq_false hlt, cond_false] at h
      have e : i = s.size := by omega
      subst e
      injection h with h
      subst h
      exact ⟨hd, hn, hl⟩
end Go.Proofs.YtciajnknnoecaaaDoor
