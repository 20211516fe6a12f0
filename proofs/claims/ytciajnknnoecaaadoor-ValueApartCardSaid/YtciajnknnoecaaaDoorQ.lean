/- The statement ValueOrders: plain law, and its evaluation: true. -/
import Derived.Test.YtciajnknnoecaaaDoorP
import Derived.Test.YtciajnknnoecaaaDoorD
namespace Go.Proofs.YtciajnknnoecaaaDoor
open Go Go.Pev

theorem ba_empty (s : ByteArray) (h : (s.toList == ([] : List UInt8)) = true) : s = ⟨#[]⟩ := by
  have h1 : s.toList = [] := by simpa using h
  have h2 : s.data.toList = [] := by rw [← ByteArray.toList_eq]; exact h1
  cases s with | mk d => simp at h2; subst h2; rfl
theorem empty_list : (⟨#[]⟩ : ByteArray).toList = ([] : List UInt8) := by kernel_rfl
theorem eqVal (k i : Int) (s : ByteArray) (b : Bool) : eqB shVal (k, i, s, b) (k, 0, ⟨#[]⟩, false) = ((i == 0) && ((s.toList == ([] : List UInt8)) && (b == false))) := by
  rw [show eqB shVal (k, i, s, b) (k, 0, ⟨#[]⟩, false) = ((k == k) && ((i == 0) && ((s.toList == (⟨#[]⟩ : ByteArray).toList) && (b == false)))) by kernel_rfl, empty_list]
  rw [show (k == k) = true from beq_self_eq_true k, Bool.true_and]
theorem ck (k i : Int) (s : ByteArray) (b : Bool) : checkV k i s b = cond (ckB k i s b) (some ([], ckN k i s b)) none := by
  unfold checkV ckB ckN
  rw [eqVal k 0 s b, eqVal k i ⟨#[]⟩ b, eqVal k i s false]
  cases h1 : (k == 1) with
  | true =>
    cases hs : (s.toList == ([] : List UInt8)) with
    | true => obtain rfl := ba_empty s hs; cases b <;> rfl
    | false => cases b <;> rfl
  | false =>
    cases h2 : (k == 2) with
    | true =>
      rw [empty_list]
      cases hi : (i == 0) <;> cases b <;> cases decide ((s.size : Int) > 1000) <;> simp [bne, hi]
    | false =>
      cases h3 : (k == 3) with
      | true =>
        cases hs : (s.toList == ([] : List UInt8)) with
        | true => obtain rfl := ba_empty s hs; cases hi : (i == 0) <;> simp [bne, hi] <;> rfl
        | false => cases hi : (i == 0) <;> simp
      | false => rfl
theorem fr (b : Bool) (n : Int) (b' : Bool) (n' : Int) : first2 (cond b (some ([], n)) none) (cond b' (some ([], n')) none) = cond (frB b b') (some ([], frN b n b' n')) none := by
  cases b <;> cases b' <;> rfl
theorem cmpE_is (k i : Int) (s : ByteArray) (b : Bool) (k' i' : Int) (s' : ByteArray) (b' : Bool) : cmpE k i s b k' i' s' b' = cond (docB k i s b k' i' s' b') (some ([], docC k i s b k' i' s' b')) none := by
  unfold cmpE docB docC
  rw [ck, ck, fr]
  cases frB (ckB k i s b) (ckB k' i' s' b') <;> cases (k != k') <;> rfl
theorem or3_0 (a : Int) : or3 a 0 0 = a := by
  unfold or3
  cases h : a != 0 with
  | true => rfl
  | false => simp [bne] at h; subst h; rfl
theorem or3_1 (a : Int) : or3 0 a 0 = a := by
  rw [show or3 0 a 0 = cond (a != 0) a (cond ((0 : Int) != 0) 0 0) from rfl]
  cases h : a != 0 with
  | true => rfl
  | false => simp [bne] at h; subst h; rfl
theorem cmpN_is (k i : Int) (s : ByteArray) (b : Bool) (k' i' : Int) (s' : ByteArray) (b' : Bool) (hz : docB k i s b k' i' s' b' = false → docC k i s b k' i' s' b' = 0) : cmpN k i s b k' i' s' b' = docN k i s b k' i' s' b' := by
  unfold cmpN docN
  rw [ck, ck, fr]
  cases hd : docB k i s b k' i' s' b' with
  | true =>
    unfold docB at hd
    cases hf : frB (ckB k i s b) (ckB k' i' s' b') with
    | true => rfl
    | false =>
      rw [hf] at hd
      cases hk : (k != k') with
      | true => rfl
      | false => rw [hk] at hd; cases hd
  | false =>
    unfold docB at hd
    cases hf : frB (ckB k i s b) (ckB k' i' s' b') with
    | true => rw [hf] at hd; cases hk : (k != k') <;> rw [hk] at hd <;> cases hd
    | false =>
      rw [hf] at hd
      cases hk : (k != k') with
      | true => rw [hk] at hd; cases hd
      | false =>
        simp only [cond_false, Option.isNone_none, Bool.not_true]
        obtain rfl : k = k' := by simpa [bne] using hk
        have f1 : ckB k i s b = false ∧ ckB k i' s' b' = false := by
          revert hf; cases ckB k i s b <;> cases ckB k i' s' b' <;> intro hf <;> simp_all [frB]
        obtain ⟨f1, f2⟩ := f1
        unfold ckB at f1 f2
        cases h1 : (k == 1) with
        | true =>
          rw [h1] at f1 f2
          simp only [cond_true] at f1 f2
          cases hs : (s.toList == ([] : List UInt8)) with
          | false => rw [hs] at f1; cases f1
          | true =>
            cases hs' : (s'.toList == ([] : List UInt8)) with
            | false => rw [hs'] at f2; cases f2
            | true =>
              obtain rfl := ba_empty s hs
              obtain rfl := ba_empty s' hs'
              cases b with
              | true => rw [hs] at f1; cases f1
              | false =>
                cases b' with
                | true => rw [hs'] at f2; cases f2
                | false =>
                  rw [cmpS_nil empty_list empty_list, show IntKind.i64.wrap (cond false 1 0 - cond false 1 0) = 0 from rfl, or3_0]
                  unfold cmpI rcmp
                  rw [empty_list]
                  rfl
        | false =>
          rw [h1] at f1 f2
          cases h2 : (k == 2) with
          | true =>
            rw [h2] at f1 f2
            simp only [cond_false, cond_true] at f1 f2
            cases hi : (i != 0) with
            | true => rw [hi] at f1; cases f1
            | false =>
              cases hi' : (i' != 0) with
              | true => rw [hi'] at f2; cases f2
              | false =>
                rw [hi] at f1
                rw [hi'] at f2
                obtain rfl : i = 0 := by simpa [bne] using hi
                obtain rfl : i' = 0 := by simpa [bne] using hi'
                cases b with
                | true => cases f1
                | false =>
                  cases b' with
                  | true => cases f2
                  | false =>
                    rw [show cmpI 0 0 = 0 from rfl, show IntKind.i64.wrap (cond false 1 0 - cond false 1 0) = 0 from rfl, or3_1]
                    unfold cmpS rcmp
                    cases Op.bytesLess s.toList s'.toList <;> cases (s.toList == s'.toList) <;> rfl
          | false =>
            rw [h2] at f1 f2
            cases h3 : (k == 3) with
            | false => rw [h3] at f1; cases f1
            | true =>
              rw [h3] at f1 f2
              simp only [cond_false, cond_true] at f1 f2
              cases hs : (s.toList == ([] : List UInt8)) with
              | false => rw [hs] at f1; cases f1
              | true =>
                cases hs' : (s'.toList == ([] : List UInt8)) with
                | false => rw [hs'] at f2; cases f2
                | true =>
                  rw [hs] at f1
                  rw [hs'] at f2
                  cases hi : (i != 0) with
                  | true => rw [hi] at f1; cases f1
                  | false =>
                    cases hi' : (i' != 0) with
                    | true => rw [hi'] at f2; cases f2
                    | false =>
                      obtain rfl := ba_empty s hs
                      obtain rfl := ba_empty s' hs'
                      obtain rfl : i = 0 := by simpa [bne] using hi
                      obtain rfl : i' = 0 := by simpa [bne] using hi'
                      rw [cmpS_nil empty_list empty_list]
                      unfold rcmp
                      rw [empty_list]
                      cases b <;> cases b' <;> rfl
theorem ckN_0 (k i : Int) (s : ByteArray) (b : Bool) (h : ckB k i s b = false) : ckN k i s b = 0 := by
  revert h
  unfold ckB ckN
  cases (k == 1) <;> cases (k == 2) <;> cases (k == 3) <;> cases (s.toList == ([] : List UInt8)) <;> cases (i != 0) <;> cases b <;> cases decide ((s.size : Int) > 1000) <;> intro h <;> first | rfl | cases h
theorem docC_0 (k i : Int) (s : ByteArray) (b : Bool) (k' i' : Int) (s' : ByteArray) (b' : Bool) (h : docB k i s b k' i' s' b' = false) : docC k i s b k' i' s' b' = 0 := by
  have h1 := ckN_0 k i s b
  have h2 := ckN_0 k' i' s' b'
  revert h h1 h2
  unfold docB docC
  cases ckB k i s b <;> cases ckB k' i' s' b' <;> cases (k != k') <;> intro h h1 h2 <;> first | rfl | cases h | skip
theorem t8 (k i : Int) (s : ByteArray) (b : Bool) (k' i' : Int) (s' : ByteArray) (b' : Bool) : evalF Tryd.prog (tabsG L8) A0 8 [.ag [.int .i64 k, .int .i64 i, .str s, .bool b], .ag [.int .i64 k', .int .i64 i', .str s', .bool b']] = some (.bool true) := by
  rw [show evalF Tryd.prog (tabsG L8) A0 8 [.ag [.int .i64 k, .int .i64 i, .str s, .bool b], .ag [.int .i64 k', .int .i64 i', .str s', .bool b']] =
    (cond (cmpN k i s b k' i' s' b' == docN k i s b k' i' s' b') 
 (cond (decide (deep (cmpE k i s b k' i' s' b') < 200)) (some (.bool (failsB (cmpE k i s b k' i' s' b') (docB k i s b k' i' s' b') [] (docC k i s b k' i' s' b')))) (none)) (some (.bool false))) by kernel_rfl]
  rw [cmpN_is k i s b k' i' s' b' (docC_0 k i s b k' i' s' b'), cmpE_is]
  simp only [beq_self_eq_true, cond_true]
  have hz := docC_0 k i s b k' i' s' b'
  cases hd : docB k i s b k' i' s' b' with
  | true => simp [deep, failsB, sameE]
  | false => rw [hz hd]; rfl
end Go.Proofs.YtciajnknnoecaaaDoor
