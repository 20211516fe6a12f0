/- value.Text and aviaryref02.DocText; the statement ValueTexts by evaluation: true. -/
import Derived.Test.YtciajnknnoecaaaDoorU
import Derived.Test.YtciajnknnoecaaaDoorQ
namespace Go.Proofs.YtciajnknnoecaaaDoor
open Go Go.Pev

def inI (i : Int) : Bool := decide (-9223372036854775808 ≤ i ∧ i ≤ 9223372036854775807)
/-- A value's text. -/
def textS (k i : Int) (s : ByteArray) (b : Bool) : ByteArray := cond (k == 1) ⟨(Lib.itoa i).toArray⟩ (cond (k == 2) ⟨(quoteL s).toArray⟩ ⟨(Lib.formatBool b).toArray⟩)
theorem ck_size {k i : Int} {s : ByteArray} {b : Bool} (h : ckB k i s b = false) (hk : (k == 2) = true) : s.size ≤ 1000000 := by
  unfold ckB at h
  have h1 : (k == 1) = false := by
    have : k = 2 := by simpa using hk
    subst this; rfl
  rw [h1, hk] at h
  cases hs : decide ((s.size : Int) > 1000) with
  | true => rw [hs] at h; revert h; cases (i != 0) <;> cases b <;> intro h <;> cases h
  | false => have := of_decide_eq_false hs; omega

def L11 : List (Nat × Pev.CSpec) := [(17, sp17), (23, sp23), (24, sp24), (25, sp25)]
theorem s11 : SpecsOk Tryd.prog (tabsT L11) := oneSpecTT (oneSpecTT (oneSpecTT (oneSpecTT noSpecsT (liftT ok25)) (liftT ok24)) ok23) (liftT (tree ok17))
def sp11 : Pev.CSpec := ⟨fun
  | [.ag [.int .i64 k, .int .i64 i, .str s, .bool b]] => .br (inI i) (.br (ckB k i s b) (.ret (.tup [.str ⟨#[]⟩, .err (some ([], ckN k i s b))])) (.ret (.tup [.str (textS k i s b), .err none]))) .fail
  | _ => .fail⟩
theorem ok11 : EnterOk Tryd.prog 11 ∧ CSpecOk Tryd.prog cfgT 11 sp11 := ⟨enter Tryd.func11 (by kernel_rfl) (by kernel_rfl), by
  intro args res h
  unfold sp11 at h
  simp only at h
  split at h <;> try (cases h; done)
  rename_i k i s b
  refine doneT s11 (A := A0) rfl (by kernel_rfl) ?_
  rw [show evalF Tryd.prog (tabsT L11) A0 11 [.ag [.int .i64 k, .int .i64 i, .str s, .bool b]] = (cond (!Option.isNone (checkV k i s b)) (some (.tup [.str ⟨#[]⟩, .err (checkV k i s b)])) 
 (cond (k == 1) 
  (cond (inI i) (some (.tup [.str { data := (Lib.itoa i).toArray }, .err none])) (none)) 
  (cond (k == 2) 
   (cond (decide (s.size ≤ 1000000)) (some (.tup [.str { data := (quoteL s).toArray }, .err none])) (none)) (some (.tup [.str { data := (Lib.formatBool b).toArray }, .err none]))))) by kernel_rfl]
  rw [← h]
  simp only [Tree.get]
  cases hi : inI i with
  | false => rw [hi] at h; cases h
  | true =>
    rw [ck]
    cases hc : ckB k i s b with
    | true => rfl
    | false =>
      cases h1 : (k == 1) with
      | true => simp [textS, h1]
      | false =>
        cases h2 : (k == 2) with
        | true => rw [show decide (s.size ≤ 1000000) = true from decide_eq_true (ck_size hc h2)]; simp [textS, h1, h2]
        | false => simp [textS, h1, h2]⟩

def L35 : List (Nat × Pev.CSpec) := [(23, sp23), (51, sp24)]
theorem s35 : SpecsOk Tryd.prog (tabsT L35) := oneSpecTT (oneSpecTT noSpecsT (liftT ok51)) ok23
def sp35 : Pev.CSpec := ⟨fun
  | [.ag [.int .i64 k, .int .i64 i, .str s, .bool b]] => .br (inI i) (.br (!(k == 2) || decide (s.size ≤ 1000000)) (.ret (.str (textS k i s b))) .fail) .fail
  | _ => .fail⟩
theorem ok35 : EnterOk Tryd.prog 35 ∧ CSpecOk Tryd.prog cfgT 35 sp35 := ⟨enter Tryd.func35 (by kernel_rfl) (by kernel_rfl), by
  intro args res h
  unfold sp35 at h
  simp only at h
  split at h <;> try (cases h; done)
  rename_i k i s b
  refine doneT s35 (A := A0) rfl (by kernel_rfl) ?_
  rw [show evalF Tryd.prog (tabsT L35) A0 35 [.ag [.int .i64 k, .int .i64 i, .str s, .bool b]] = (cond (k == 1) 
 (cond (inI i) (some (.str { data := (Lib.itoa i).toArray })) (none)) 
 (cond (k == 2) 
  (cond (decide (s.size ≤ 1000000)) (some (.str { data := (quoteL s).toArray })) (none)) 
  (cond (b) (some (.str { data := #[116, 114, 117, 101] })) (some (.str { data := #[102, 97, 108, 115, 101] }))))) by kernel_rfl]
  rw [← h]
  simp only [Tree.get]
  have hb : (cond b (some (AV.str { data := #[116, 114, 117, 101] })) (some (.str { data := #[102, 97, 108, 115, 101] }))) = some (.str ⟨(Lib.formatBool b).toArray⟩) := by cases b <;> kernel_rfl
  rw [hb]
  cases hi : inI i with
  | false => rw [hi] at h; cases h
  | true =>
    cases h1 : (k == 1) with
    | true =>
      have : (k == 2) = false := by
        have : k = 1 := by simpa using h1
        subst this; rfl
      simp [textS, h1, this]
    | false =>
      cases h2 : (k == 2) with
      | true =>
        rw [hi, h2] at h
        cases hs : decide (s.size ≤ 1000000) with
        | false => rw [hs] at h; cases h
        | true => simp [textS, h1, h2]
      | false => simp [textS, h1, h2]⟩
def L15 : List (Nat × Pev.CSpec) := [(18, sp18), (35, sp35)]
theorem s15 : SpecsOk Tryd.prog (tabsT L15) := oneSpecTT (oneSpecTT noSpecsT ok35) (liftT (tree ok18))
def sp15 : Pev.CSpec := ⟨fun
  | [.ag [.int .i64 k, .int .i64 i, .str s, .bool b]] => .br (inI i) (.br (ckB k i s b) (.ret (.tup [.str ⟨#[]⟩, agE (ckB k i s b) [] (ckN k i s b)])) (.ret (.tup [.str (textS k i s b), agE false [] 0]))) .fail
  | _ => .fail⟩
theorem ok15 : EnterOk Tryd.prog 15 ∧ CSpecOk Tryd.prog cfgT 15 sp15 := ⟨enter Tryd.func15 (by kernel_rfl) (by kernel_rfl), by
  intro args res h
  unfold sp15 at h
  simp only at h
  split at h <;> try (cases h; done)
  rename_i k i s b
  refine doneT s15 (A := A0) rfl (by kernel_rfl) ?_
  rw [show evalF Tryd.prog (tabsT L15) A0 15 [.ag [.int .i64 k, .int .i64 i, .str s, .bool b]] = cond (ckB k i s b) (some (.tup [.str ⟨#[]⟩, agE (ckB k i s b) [] (ckN k i s b)]))
    (cond (inI i) (cond (!(k == 2) || decide (s.size ≤ 1000000)) (some (.tup [.str (textS k i s b), agE false [] 0])) none) none) by kernel_rfl]
  rw [← h]
  simp only [Tree.get]
  cases hi : inI i with
  | false => rw [hi] at h; cases h
  | true =>
    cases hc : ckB k i s b with
    | true => rfl
    | false =>
      cases h2 : (k == 2) with
      | true => rw [show decide (s.size ≤ 1000000) = true from decide_eq_true (ck_size hc h2)]; rfl
      | false => rfl⟩
def L6 : List (Nat × Pev.CSpec) := [(10, sp10), (11, sp11), (15, sp15), (16, sp16g), (17, sp17), (18, sp18)]
theorem s6 : SpecsOk Tryd.prog (tabsG L6) := oneSpecGT (oneSpecGT (oneSpecGT (oneSpecGT (oneSpecGT (oneSpecGT noSpecsG (liftGT (tree ok18))) (liftGT (tree ok17))) ok16g) (liftTG ok15)) (liftTG ok11)) (liftGT (tree ok10))
theorem t6 (k i : Int) (s : ByteArray) (b : Bool) (hi : inI i = true) : evalF Tryd.prog (tabsG L6) A0 6 [.ag [.int .i64 k, .int .i64 i, .str s, .bool b]] = some (.bool true) := by
  rw [show evalF Tryd.prog (tabsG L6) A0 6 [.ag [.int .i64 k, .int .i64 i, .str s, .bool b]] = (cond (inI i) 
 (cond (ckB k i s b) 
  (cond (inI i) 
   (cond (ckB k i s b) 
    (cond (failsB (some ([], ckN k i s b)) (ckB k i s b) [] (ckN k i s b)) 
     (cond (decide (deep (checkV k i s b) < 200)) (some (.bool (failsB (checkV k i s b) (ckB k i s b) [] (ckN k i s b)))) (none)) (some (.bool false))) 
    (cond ((⟨#[]⟩ : ByteArray).toList == (textS k i s b).toList) (some (.bool false)) (some (.bool false)))) (none)) 
  (cond (inI i) 
   (cond (ckB k i s b) 
    (cond ((textS k i s b).toList == (⟨#[]⟩ : ByteArray).toList) 
     (cond (failsB none (ckB k i s b) [] (ckN k i s b)) 
      (cond (decide (deep (checkV k i s b) < 200)) (some (.bool (failsB (checkV k i s b) (ckB k i s b) [] (ckN k i s b)))) (none)) (some (.bool false))) (some (.bool false))) 
    (cond ((textS k i s b).toList == (textS k i s b).toList) 
     (cond (decide (deep (checkV k i s b) < 200)) (some (.bool (failsB (checkV k i s b) (ckB k i s b) [] (ckN k i s b)))) (none)) (some (.bool false)))) (none))) (none)) by kernel_rfl]
  rw [hi, ck]
  have hz := ckN_0 k i s b
  cases hc : ckB k i s b with
  | true => simp [deep, failsB, sameE]
  | false => rw [hz hc]; simp [deep, failsB, sameE]
theorem inI_wf {i : Int} (h : (Lit.int .i64 i).wf = true) : inI i = true := by
  have h' : (decide (IntKind.i64.min ≤ i) && decide (i ≤ IntKind.i64.max)) = true := h
  rw [Bool.and_eq_true, decide_eq_true_eq, decide_eq_true_eq] at h'
  have h1 : IntKind.i64.min = -9223372036854775808 := by kernel_rfl
  have h2 : IntKind.i64.max = 9223372036854775807 := by kernel_rfl
  exact decide_eq_true ⟨h1 ▸ h'.1, h2 ▸ h'.2⟩
theorem law6 (x : V) (w : wfS shVal x) : Contract Tryd.prog cfgG 6 [av x] (.bool true) := by
  obtain ⟨k, i, s, b⟩ := x
  exact doneG s6 (A := A0) rfl (by kernel_rfl) (t6 k i s b (inI_wf w.2.1))
end Go.Proofs.YtciajnknnoecaaaDoor
