/- value.Read and aviaryref02.Read: both answer the same. -/
import Derived.Test.YtciajnknnoecaaaDoorZe
namespace Go.Proofs.YtciajnknnoecaaaDoor
open Go Go.Pev

/-- What comes of reading a text. -/
inductive RRd where
  | bad (p : Nat)
  | long
  | val (v : V)
def RRd.isVal : RRd → Bool | .val _ => true | _ => false
def RRd.isBad : RRd → Bool | .bad _ => true | _ => false
def RRd.pos : RRd → Nat | .bad p => p | _ => 0
def RRd.v : RRd → V | .val v => v | _ => (0, 0, ⟨#[]⟩, false)
def readT (r : RRd) : Tree := .br r.isVal (.ret (.tup [av r.v, .err none])) (.br r.isBad (.ret (.tup [zeroV, .err (badE r.pos)])) (.ret (.tup [zeroV, .err (some ([], 2))])))
def readT' (r : RRd) : Tree := .br r.isVal (.ret (.tup [av r.v, agE false [] 0])) (.br r.isBad (.ret (.tup [zeroV, agE true [(1, r.pos)] 4])) (.ret (.tup [zeroV, agE true [] 2])))
def numRes (s : ByteArray) : RRd := cond (badNeg s) (.bad 1) (match numAt s with | .ok n => .val (1, sgn (isNeg s) n, ⟨#[]⟩, false) | .bad p => .bad p)
def strRes (s : ByteArray) : RRd := match strR s (s.size + 1) 1 [] with | .fin => .bad s.size | .bad p => .bad p | .long => .long | .ok b => .val (2, 0, ofU8s b, false)
def wordRes (s w : ByteArray) (b : Bool) : RRd := match wordAt s w with | none => cond (decide (s.size < w.size)) (.bad s.size) (.val (3, 0, ⟨#[]⟩, b)) | some p => .bad p
abbrev trueS : ByteArray := ⟨#[116, 114, 117, 101]⟩
abbrev falseS : ByteArray := ⟨#[102, 97, 108, 115, 101]⟩
def otherRes (s : ByteArray) : RRd := cond (by' s 0 == 34) (strRes s) (cond (by' s 0 == 116) (wordRes s trueS true) (cond (by' s 0 == 102) (wordRes s falseS false) (.bad 0)))
def readR (s : ByteArray) : RRd := cond (decide (s.size > 8000)) .long (cond (decide (s.size = 0)) (.bad 0)
  (cond (by' s 0 == 45) (numRes s) (cond (decide (by' s 0 ≥ 48)) (cond (decide (by' s 0 ≤ 57)) (numRes s) (otherRes s)) (otherRes s))))
theorem num_get (s : ByteArray) (h : 0 < s.size ∧ s.size ≤ 8000) : (sp27.f [.str s]).get = (readT (numRes s)).get := by
  show cond (decide (0 < s.size ∧ s.size ≤ 8000)) _ _ = _
  rw [decide_eq_true h]
  unfold numRes
  cases badNeg s with
  | true => rfl
  | false => cases hn : numAt s <;> simp [Tree.get, readT, RRd.isVal, RRd.isBad, RRd.pos, RRd.v, NRd.isOk, NRd.num, NRd.pos]
theorem num_get' (s : ByteArray) (h : 0 < s.size ∧ s.size ≤ 8000) : (sp39.f [.str s]).get = (readT' (numRes s)).get := by
  show cond (decide (0 < s.size ∧ s.size ≤ 8000)) _ _ = _
  rw [decide_eq_true h]
  unfold numRes
  cases badNeg s with
  | true => rfl
  | false => cases hn : numAt s <;> simp [Tree.get, readT', RRd.isVal, RRd.isBad, RRd.pos, RRd.v, NRd.isOk, NRd.num, NRd.pos]
theorem str_get (s : ByteArray) (h : s.size ≤ 8000) : (sp28.f [.str s]).get = (readT (strRes s)).get := by
  show cond (decide (s.size ≤ 8000)) _ _ = _
  rw [decide_eq_true h]
  unfold strRes
  cases strR s (s.size + 1) 1 [] <;> rfl
theorem str_get' (s : ByteArray) (h : s.size ≤ 8000) : (sp40.f [.str s]).get = (readT' (strRes s)).get := by
  show cond (decide (s.size ≤ 8000)) _ _ = _
  rw [decide_eq_true h]
  unfold strRes
  cases strR s (s.size + 1) 1 [] <;> rfl
theorem word_get (s w : ByteArray) (b : Bool) (h : s.size ≤ 8000) : (sp29.f [.str s, .str w, .bool b]).get = (readT (wordRes s w b)).get := by
  show cond (decide (s.size ≤ 8000)) _ _ = _
  rw [decide_eq_true h]
  unfold wordRes
  cases wordAt s w with
  | none => cases decide (s.size < w.size) <;> rfl
  | some p => rfl
theorem word_get' (s w : ByteArray) (b : Bool) (h : s.size ≤ 8000) : (sp41.f [.str s, .str w, .bool b]).get = (readT' (wordRes s w b)).get := by
  show cond (decide (s.size ≤ 8000)) _ _ = _
  rw [decide_eq_true h]
  unfold wordRes
  cases wordAt s w with
  | none => cases decide (s.size < w.size) <;> rfl
  | some p => rfl
theorem empty_is (s : ByteArray) : (s.toList == (⟨#[]⟩ : ByteArray).toList) = decide (s.size = 0) := by
  rw [ByteArray.toList_eq, ByteArray.toList_eq, ← size_list]
  show (s.data.toList == []) = _
  cases s.data.toList <;> rfl
def L12 : List (Nat × Pev.CSpec) := [(26, sp26), (27, sp27), (28, sp28), (29, sp29)]
theorem s12 : SpecsOk Tryd.prog (tabsT L12) := oneSpecTT (oneSpecTT (oneSpecTT (oneSpecTT noSpecsT (liftT ok29)) (liftT ok28)) ok27) (liftT ok26)
def sp12 : Pev.CSpec := ⟨fun | [.str s] => readT (readR s) | _ => .fail⟩
theorem ok12 : EnterOk Tryd.prog 12 ∧ CSpecOk Tryd.prog cfgT 12 sp12 := ⟨enter Tryd.func12 (by kernel_rfl) (by kernel_rfl), by
  intro args res h
  unfold sp12 at h
  simp only at h
  split at h <;> try (cases h; done)
  rename_i s
  refine doneT s12 (A := A0) rfl (by kernel_rfl) ?_
  rw [← h]
  let x : Option AV := cond (by' s 0 == 34) (sp28.f [.str s]).get (cond (by' s 0 == 116) (sp29.f [.str s, .str trueS, .bool true]).get (cond (by' s 0 == 102) (sp29.f [.str s, .str falseS, .bool false]).get (readT (.bad 0)).get))
  rw [show evalF Tryd.prog (tabsT L12) A0 12 [.str s] = cond (decide ((s.size : Int) > 8000)) (readT .long).get (cond (s.toList == (⟨#[]⟩ : ByteArray).toList) (readT (.bad 0)).get
    (cond (decide (0 < (s.size : Int))) (cond (by' s 0 == 45) (sp27.f [.str s]).get (cond (decide (by' s 0 ≥ 48)) (cond (decide (by' s 0 ≤ 57)) (sp27.f [.str s]).get x) x)) none)) by kernel_rfl]
  rw [empty_is, show decide ((s.size : Int) > 8000) = decide (s.size > 8000) from decide_eq_decide.2 (by omega)]
  unfold readR
  by_cases h1 : s.size > 8000
  · rw [decide_eq_true h1]; rfl
  · rw [decide_eq_false h1]
    by_cases h2 : s.size = 0
    · rw [decide_eq_true h2]; rfl
    · rw [decide_eq_false h2, show decide (0 < (s.size : Int)) = true from decide_eq_true (by omega)]
      simp only [cond_true, cond_false]
      have hx : x = (readT (otherRes s)).get := by
        show cond (by' s 0 == 34) _ _ = _
        rw [str_get s (by omega), word_get s trueS true (by omega), word_get s falseS false (by omega)]
        unfold otherRes
        cases by' s 0 == 34 <;> cases by' s 0 == 116 <;> cases by' s 0 == 102 <;> rfl
      rw [num_get s (by omega), hx]
      cases by' s 0 == 45 <;> cases decide (by' s 0 ≥ 48) <;> cases decide (by' s 0 ≤ 57) <;> rfl⟩
def L19 : List (Nat × Pev.CSpec) := [(22, sp22), (38, sp38), (39, sp39), (40, sp40), (41, sp41)]
theorem s19 : SpecsOk Tryd.prog (tabs 0 L19) := oneSpecT (oneSpecT (oneSpecT (oneSpecT (oneSpecT noSpecs ok41) ok40) ok39) ok38) (tree ok22)
def sp19 : Pev.CSpec := ⟨fun | [.str s] => readT' (readR s) | _ => .fail⟩
theorem ok19 : EnterOk Tryd.prog 19 ∧ CSpecOk Tryd.prog cfg 19 sp19 := ⟨enter Tryd.func19 (by kernel_rfl) (by kernel_rfl), by
  intro args res h
  unfold sp19 at h
  simp only at h
  split at h <;> try (cases h; done)
  rename_i s
  refine done s19 (A := A0) rfl (by kernel_rfl) ?_
  rw [← h]
  let x : Option AV := cond (decide (0 < (s.size : Int))) (cond (by' s 0 == 34) (sp40.f [.str s]).get (cond (decide (0 < (s.size : Int))) (cond (by' s 0 == 116) (sp41.f [.str s, .str trueS, .bool true]).get (cond (decide (0 < (s.size : Int))) (cond (by' s 0 == 102) (sp41.f [.str s, .str falseS, .bool false]).get (readT' (.bad 0)).get) none)) none)) none
  rw [show evalF Tryd.prog (tabs 0 L19) A0 19 [.str s] = cond (decide ((s.size : Int) > 8000)) (readT' .long).get (cond ((s.size : Int) == 0) (readT' (.bad 0)).get
    (cond (decide (0 < (s.size : Int))) (cond (by' s 0 == 45) (sp39.f [.str s]).get (cond (decide (0 < (s.size : Int))) (cond (decide (by' s 0 ≥ 48)) (cond (decide (0 < (s.size : Int))) (cond (decide (by' s 0 ≤ 57)) (sp39.f [.str s]).get x) none) x) none)) none)) by kernel_rfl]
  rw [show ((s.size : Int) == 0) = decide (s.size = 0) by rw [show ((s.size : Int) == 0) = decide ((s.size : Int) = 0) from rfl]; exact decide_eq_decide.2 (by omega), show decide ((s.size : Int) > 8000) = decide (s.size > 8000) from decide_eq_decide.2 (by omega)]
  unfold readR
  by_cases h1 : s.size > 8000
  · rw [decide_eq_true h1]; rfl
  · rw [decide_eq_false h1]
    by_cases h2 : s.size = 0
    · rw [decide_eq_true h2]; rfl
    · have h3 : decide (0 < (s.size : Int)) = true := decide_eq_true (by omega)
      have hx : x = (readT' (otherRes s)).get := by
        show cond (decide (0 < (s.size : Int))) _ _ = _
        rw [h3, str_get' s (by omega), word_get' s trueS true (by omega), word_get' s falseS false (by omega)]
        unfold otherRes
        cases by' s 0 == 34 <;> cases by' s 0 == 116 <;> cases by' s 0 == 102 <;> rfl
      rw [decide_eq_false h2, h3]
      simp only [cond_true, cond_false]
      rw [num_get' s (by omega), hx]
      cases by' s 0 == 45 <;> cases decide (by' s 0 ≥ 48) <;> cases decide (by' s 0 ≤ 57) <;> rfl⟩
def sp13 : Pev.CSpec := ⟨fun | [.str s] => .br (decide (s.size > 3000)) (.ret (.bool (decide (s.size ≤ 8000)))) (.ret (.bool false)) | _ => .fail⟩
theorem ok13 : EnterOk Tryd.prog 13 ∧ CSpecOk Tryd.prog cfg 13 sp13 := ⟨enter Tryd.func13 (by kernel_rfl) (by kernel_rfl), by
  intro args res h
  unfold sp13 at h
  simp only at h
  split at h <;> try (cases h; done)
  rename_i s
  refine done noSpecs (A := A0) rfl (by kernel_rfl) ?_
  rw [← h, show evalF Tryd.prog (tabs 0 []) A0 13 [.str s] = cond (decide ((s.size : Int) > 3000)) (some (.bool (decide ((s.size : Int) ≤ 8000)))) (some (.bool false)) by kernel_rfl]
  rw [show decide ((s.size : Int) > 3000) = decide (s.size > 3000) from decide_eq_decide.2 (by omega), show decide ((s.size : Int) ≤ 8000) = decide (s.size ≤ 8000) from decide_eq_decide.2 (by omega)]
  rfl⟩
end Go.Proofs.YtciajnknnoecaaaDoor
