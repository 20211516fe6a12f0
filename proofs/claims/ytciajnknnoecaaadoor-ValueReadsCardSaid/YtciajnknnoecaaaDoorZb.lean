/- value.word and aviaryref02.truth: a truth's text is read. -/
import Derived.Test.YtciajnknnoecaaaDoorZa
namespace Go.Proofs.YtciajnknnoecaaaDoor
open Go Go.Pev

/-- The first place where a text is not the word. -/
def wordR (s w : ByteArray) : Nat → Nat → Option Nat
  | 0, _ => none
  | f + 1, i => cond (decide (i < s.size)) (cond (decide (w.size ≤ i)) (some i) (cond (by' s i == by' w i) (wordR s w f (i + 1)) (some i))) none
abbrev wordAt (s w : ByteArray) : Option Nat := wordR s w (s.size + 1) 0
def oPos : Option Nat → Nat | some n => n | none => 0

def E29 (s w : ByteArray) (b : Bool) (z : V) (n i : Int) : Env := ⟨[(0, .str s), (1, .str w), (2, .bool b), (6, .ref 6 0), (7, .err none), (10, .int .i64 n), (11, .int .i64 i)], [(6, some (.box 23 (zl z)))]⟩
def X29 (s w : ByteArray) (b : Bool) (v : List AV) (e : Err) : Env := ⟨[(0, .str s), (1, .str w), (2, .bool b), (6, .ref 6 0), (7, .err e)], [(6, some (.box 23 v))]⟩
def o29 : Orc := fun E k => match E with
  | ⟨[(0, .str s), (1, .str w), (2, .bool b), (6, .ref 6 0), (7, .err none), (10, .int .i64 n), (11, .int .i64 0)], [(6, some (.box 23 [.int .i64 z1, .int .i64 z2, .str z3, .bool z4]))]⟩ =>
    cond (decide (n = s.size ∧ s.size ≤ 8000)) (cond (wordAt s w).isNone (k (.exit 0) (X29 s w b [.int .i64 z1, .int .i64 z2, .str z3, .bool z4] none)) (k .ret (X29 s w b zeroL (badE (oPos (wordAt s w)))))) none
  | _ => none
def A29 : Anns := ⟨[(2, [.keep [0, 1, 2, 6, 7, 10, 11] [6]]), (100002, [.keep [0, 1, 2, 6, 7] [6]])], [(2, o29)], 1000⟩
def L29 : List (Nat × Pev.CSpec) := [(26, sp26)]
theorem s29 : SpecsOk Tryd.prog (tabs 0 L29) := oneSpecT noSpecs ok26
noncomputable def loop29 : Code := loopAt 29 0
noncomputable abbrev L29' (m : Nat) (E : Env) (k : Exit → Env → Pev.R) : Pev.R := loopE (prep (tabs 0 L29) (annOf A29 loop29)) (evalC Tryd.prog (tabs 0 L29) A29 loop29) m E (outK (tabs 0 L29) A29 loop29 k)
theorem step29 (s w : ByteArray) (b : Bool) (z : V) (n i : Int) (m : Nat) (k : Exit → Env → Pev.R) :
    L29' (m + 1) (E29 s w b z n i) k = cond (decide (i < n)) (cond (decide (i ≥ (w.size : Int))) (k .ret (X29 s w b zeroL (badE i))) (cond (decide (0 ≤ i)) (cond (decide (i < (s.size : Int))) (cond (decide (0 ≤ i)) (cond (decide (i < (w.size : Int)))
      (cond (by' s i.toNat != by' w i.toNat) (k .ret (X29 s w b zeroL (badE i))) (L29' m (E29 s w b z n (IntKind.i64.wrap (i + 1))) k)) none) none) none) none)) (k (.exit 0) (X29 s w b (zl z) none)) := by kernel_rfl
theorem all29 (s w : ByteArray) (b : Bool) (z : V) (hs : s.size ≤ 8000) (k : Exit → Env → Pev.R) : ∀ (f i : Nat), s.size ≤ i + f →
    L29' (f + 1) (E29 s w b z s.size i) k = (match wordR s w (f + 1) i with | none => k (.exit 0) (X29 s w b (zl z) none) | some p => k .ret (X29 s w b zeroL (badE p)))
  | 0, i, h => by
    rw [step29, wordR, show decide ((i : Int) < (s.size : Int)) = false from decide_eq_false (by omega), show decide (i < s.size) = false from decide_eq_false (by omega)]
    rfl
  | f + 1, i, h => by
    rw [step29, wordR]
    by_cases ha : i < s.size
    · rw [show decide ((i : Int) < (s.size : Int)) = true from decide_eq_true (by omega), show decide (i < s.size) = true from decide_eq_true ha, show decide (0 ≤ (i : Int)) = true from decide_eq_true (by omega), i64w ((i : Int) + 1) (by omega) (by omega), Int.toNat_natCast]
      simp only [cond_true]
      by_cases hw : w.size ≤ i
      · rw [show decide ((i : Int) ≥ (w.size : Int)) = true from decide_eq_true (by omega), show decide (w.size ≤ i) = true from decide_eq_true hw]
        rfl
      · rw [show decide ((i : Int) ≥ (w.size : Int)) = false from decide_eq_false (by omega), show decide (w.size ≤ i) = false from decide_eq_false hw, show decide ((i : Int) < (w.size : Int)) = true from decide_eq_true (by omega)]
        simp only [cond_true, cond_false, bne]
        cases by' s i == by' w i with
        | true =>
          simp only [Bool.not_true, cond_true, cond_false]
          exact all29 s w b z hs k f (i + 1) (by omega)
        | false => rfl
    · rw [show decide ((i : Int) < (s.size : Int)) = false from decide_eq_false (by omega), show decide (i < s.size) = false from decide_eq_false ha]
      rfl
theorem orc29 : OrcOk Tryd.prog (tabs 0 L29) A29 loop29 := by
  intro o ho E k r h
  obtain rfl := orcIs (show orcOf A29 loop29 = some o29 by kernel_rfl) ho
  unfold o29 at h
  split at h
  · rename_i s w b n z1 z2 z3 z4
    cases hd : decide (n = s.size ∧ s.size ≤ 8000) with
    | false => rw [hd] at h; cases h
    | true =>
      rw [hd] at h
      obtain ⟨rfl, hs⟩ := of_decide_eq_true hd
      refine ⟨s.size + 1, (all29 s w b (z1, z2, z3, z4) hs k s.size 0 (by omega)).trans ?_⟩
      rw [← h]
      unfold wordAt
      cases wordR s w (s.size + 1) 0 <;> rfl
  · cases h
def sp29 : Pev.CSpec := ⟨fun | [.str s, .str w, .bool b] => .br (decide (s.size ≤ 8000)) (.br (wordAt s w).isNone (.br (decide (s.size < w.size)) (.ret (.tup [zeroV, .err (badE s.size)])) (.ret (.tup [.ag [.int .i64 3, .int .i64 0, .str ⟨#[]⟩, .bool b], .err none]))) (.ret (.tup [zeroV, .err (badE (oPos (wordAt s w)))]))) .fail | _ => .fail⟩
theorem ok29 : EnterOk Tryd.prog 29 ∧ CSpecOk Tryd.prog cfg 29 sp29 := ⟨enter Tryd.func29 (by kernel_rfl) (by kernel_rfl), by
  intro args res h
  unfold sp29 at h
  simp only at h
  split at h <;> try (cases h; done)
  rename_i s w b
  refine done1 s29 (A := A29) (c := loop29) (by kernel_rfl) orc29 (by kernel_rfl) ?_
  rw [← h, show evalF Tryd.prog (tabs 0 L29) A29 29 [.str s, .str w, .bool b] = cond (decide ((s.size : Int) = s.size ∧ s.size ≤ 8000)) (cond (wordAt s w).isNone (cond (decide ((s.size : Int) < (w.size : Int))) (some (.tup [zeroV, .err (badE s.size)])) (some (.tup [.ag [.int .i64 3, .int .i64 0, .str ⟨#[]⟩, .bool b], .err none]))) (some (.tup [zeroV, .err (badE (oPos (wordAt s w)))]))) none by kernel_rfl]
  rw [show decide ((s.size : Int) = s.size ∧ s.size ≤ 8000) = decide (s.size ≤ 8000) from decide_eq_decide.2 (by omega), show decide ((s.size : Int) < (w.size : Int)) = decide (s.size < w.size) from decide_eq_decide.2 (by omega)]
  rfl⟩

def E41 (s w : ByteArray) (b : Bool) (z : V) (eb : Bool) (en i : Int) : Env := ⟨[(0, .str s), (1, .str w), (2, .bool b), (6, .ref 6 0), (7, .ref 7 0), (8, .int .i64 i)], [(6, some (.box 23 (zl z))), (7, some (.box 40 (ze eb en)))]⟩
def X41 (s w : ByteArray) (b : Bool) (v e : List AV) : Env := ⟨[(0, .str s), (1, .str w), (2, .bool b), (6, .ref 6 0), (7, .ref 7 0)], [(6, some (.box 23 v)), (7, some (.box 40 e))]⟩
def o41 : Orc := fun E k => match E with
  | ⟨[(0, .str s), (1, .str w), (2, .bool b), (6, .ref 6 0), (7, .ref 7 0), (8, .int .i64 0)], [(6, some (.box 23 [.int .i64 z1, .int .i64 z2, .str z3, .bool z4])), (7, some (.box 40 [.bool eb, .nsl, .int .i64 en]))]⟩ =>
    cond (decide (s.size ≤ 8000)) (cond (wordAt s w).isNone (k (.exit 0) (X41 s w b [.int .i64 z1, .int .i64 z2, .str z3, .bool z4] (ze eb en))) (k .ret (X41 s w b zeroL (eL [(1, oPos (wordAt s w))] 4)))) none
  | _ => none
def A41 : Anns := ⟨[(2, [.keep [0, 1, 2, 6, 7, 8] [6, 7]]), (100002, [.keep [0, 1, 2, 6, 7] [6, 7]])], [(2, o41)], 1000⟩
def L41 : List (Nat × Pev.CSpec) := [(38, sp38)]
theorem s41 : SpecsOk Tryd.prog (tabs 0 L41) := oneSpecT noSpecs ok38
noncomputable def loop41 : Code := loopAt 41 0
noncomputable abbrev L41' (m : Nat) (E : Env) (k : Exit → Env → Pev.R) : Pev.R := loopE (prep (tabs 0 L41) (annOf A41 loop41)) (evalC Tryd.prog (tabs 0 L41) A41 loop41) m E (outK (tabs 0 L41) A41 loop41 k)
theorem step41 (s w : ByteArray) (b : Bool) (z : V) (eb : Bool) (en i : Int) (m : Nat) (k : Exit → Env → Pev.R) :
    L41' (m + 1) (E41 s w b z eb en i) k = cond (decide (i < (s.size : Int))) (cond (decide (i ≥ (w.size : Int))) (k .ret (X41 s w b zeroL (eL [(1, i)] 4))) (cond (decide (0 ≤ i)) (cond (decide (i < (s.size : Int))) (cond (decide (0 ≤ i)) (cond (decide (i < (w.size : Int)))
      (cond (by' s i.toNat != by' w i.toNat) (k .ret (X41 s w b zeroL (eL [(1, i)] 4))) (L41' m (E41 s w b z eb en (IntKind.i64.wrap (i + 1))) k)) none) none) none) none)) (k (.exit 0) (X41 s w b (zl z) (ze eb en))) := by kernel_rfl
theorem all41 (s w : ByteArray) (b : Bool) (z : V) (eb : Bool) (en : Int) (hs : s.size ≤ 8000) (k : Exit → Env → Pev.R) : ∀ (f i : Nat), s.size ≤ i + f →
    L41' (f + 1) (E41 s w b z eb en i) k = (match wordR s w (f + 1) i with | none => k (.exit 0) (X41 s w b (zl z) (ze eb en)) | some p => k .ret (X41 s w b zeroL (eL [(1, (p : Int))] 4)))
  | 0, i, h => by
    rw [step41, wordR, show decide ((i : Int) < (s.size : Int)) = false from decide_eq_false (by omega), show decide (i < s.size) = false from decide_eq_false (by omega)]
    rfl
  | f + 1, i, h => by
    rw [step41, wordR]
    by_cases ha : i < s.size
    · rw [show decide ((i : Int) < (s.size : Int)) = true from decide_eq_true (by omega), show decide (i < s.size) = true from decide_eq_true ha, show decide (0 ≤ (i : Int)) = true from decide_eq_true (by omega), i64w ((i : Int) + 1) (by omega) (by omega), Int.toNat_natCast]
      simp only [cond_true]
      by_cases hw : w.size ≤ i
      · rw [show decide ((i : Int) ≥ (w.size : Int)) = true from decide_eq_true (by omega), show decide (w.size ≤ i) = true from decide_eq_true hw]
        rfl
      · rw [show decide ((i : Int) ≥ (w.size : Int)) = false from decide_eq_false (by omega), show decide (w.size ≤ i) = false from decide_eq_false hw, show decide ((i : Int) < (w.size : Int)) = true from decide_eq_true (by omega)]
        simp only [cond_true, cond_false, bne]
        cases by' s i == by' w i with
        | true =>
          simp only [Bool.not_true, cond_true, cond_false]
          exact all41 s w b z eb en hs k f (i + 1) (by omega)
        | false => rfl
    · rw [show decide ((i : Int) < (s.size : Int)) = false from decide_eq_false (by omega), show decide (i < s.size) = false from decide_eq_false ha]
      rfl
theorem orc41 : OrcOk Tryd.prog (tabs 0 L41) A41 loop41 := by
  intro o ho E k r h
  obtain rfl := orcIs (show orcOf A41 loop41 = some o41 by kernel_rfl) ho
  unfold o41 at h
  split at h
  · rename_i s w b z1 z2 z3 z4 eb en
    cases hd : decide (s.size ≤ 8000) with
    | false => rw [hd] at h; cases h
    | true =>
      rw [hd] at h
      refine ⟨s.size + 1, (all41 s w b (z1, z2, z3, z4) eb en (of_decide_eq_true hd) k s.size 0 (by omega)).trans ?_⟩
      rw [← h]
      unfold wordAt
      cases wordR s w (s.size + 1) 0 <;> rfl
  · cases h
def sp41 : Pev.CSpec := ⟨fun | [.str s, .str w, .bool b] => .br (decide (s.size ≤ 8000)) (.br (wordAt s w).isNone (.br (decide (s.size < w.size)) (.ret (.tup [zeroV, agE true [(1, s.size)] 4])) (.ret (.tup [.ag [.int .i64 3, .int .i64 0, .str ⟨#[]⟩, .bool b], agE false [] 0]))) (.ret (.tup [zeroV, agE true [(1, oPos (wordAt s w))] 4]))) .fail | _ => .fail⟩
theorem ok41 : EnterOk Tryd.prog 41 ∧ CSpecOk Tryd.prog cfg 41 sp41 := ⟨enter Tryd.func41 (by kernel_rfl) (by kernel_rfl), by
  intro args res h
  unfold sp41 at h
  simp only at h
  split at h <;> try (cases h; done)
  rename_i s w b
  refine done1 s41 (A := A41) (c := loop41) (by kernel_rfl) orc41 (by kernel_rfl) ?_
  rw [← h, show evalF Tryd.prog (tabs 0 L41) A41 41 [.str s, .str w, .bool b] = cond (decide (s.size ≤ 8000)) (cond (wordAt s w).isNone (cond (decide ((s.size : Int) < (w.size : Int))) (some (.tup [zeroV, agE true [(1, s.size)] 4])) (some (.tup [.ag [.int .i64 3, .int .i64 0, .str ⟨#[]⟩, .bool b], agE false [] 0]))) (some (.tup [zeroV, agE true [(1, oPos (wordAt s w))] 4]))) none by kernel_rfl]
  rw [show decide ((s.size : Int) < (w.size : Int)) = decide (s.size < w.size) from decide_eq_decide.2 (by omega)]
  rfl⟩
end Go.Proofs.YtciajnknnoecaaaDoor
