/- aviaryref02.str: a string's text is read, byte by byte: the same. -/
import Derived.Test.YtciajnknnoecaaaDoorZ
namespace Go.Proofs.YtciajnknnoecaaaDoor
open Go Go.Pev

def L40 : List (Nat × Pev.CSpec) := [(22, sp22), (38, sp38), (53, sp53)]
theorem s40 : SpecsOk Tryd.prog (tabs 0 L40) := oneSpecT (oneSpecT (oneSpecT noSpecs ok53) ok38) (tree ok22)
abbrev eL (l : List (Int × Int)) (n : Int) : List AV := [.bool true, .sl shPlace l, .int .i64 n]
abbrev ze (eb : Bool) (en : Int) : List AV := [.bool eb, .nsl, .int .i64 en]
def E40 (s : ByteArray) (z : V) (eb : Bool) (en : Int) (b : List Int) (i : Int) : Env := ⟨[(0, .str s), (2, .ref 2 0), (3, .ref 3 0), (4, .own 900), (5, .int .i64 i)], [(2, some (.box 23 (zl z))), (3, some (.box 40 (ze eb en))), (900, some (.row 5 (.int .u8) b))]⟩
def E40i (s : ByteArray) (z : V) (eb : Bool) (en : Int) (b : List Int) (a n i : Int) : Env := ⟨[(0, .str s), (2, .ref 2 0), (3, .ref 3 0), (4, .own 900), (5, .int .i64 a), (7, .int .i64 n), (8, .int .i64 i)], [(2, some (.box 23 (zl z))), (3, some (.box 40 (ze eb en))), (900, some (.row 5 (.int .u8) b))]⟩
def X40i (s : ByteArray) (v e : List AV) (b : List Int) (a n : Int) : Env := ⟨[(0, .str s), (2, .ref 2 0), (3, .ref 3 0), (4, .own 900), (5, .int .i64 a), (7, .int .i64 n)], [(2, some (.box 23 v)), (3, some (.box 40 e)), (900, some (.row 5 (.int .u8) b))]⟩
def X40 (v e : List AV) : Env := ⟨[(2, .ref 2 0), (3, .ref 3 0)], [(2, some (.box 23 v)), (3, some (.box 40 e))]⟩
def fin40 (s : ByteArray) (k : Exit → Env → Pev.R) : SRd → Pev.R
  | .fin => k .ret (X40 zeroL (eL [(1, s.size)] 4))
  | .bad p => k .ret (X40 zeroL (eL [(1, p)] 4))
  | .long => k .ret (X40 zeroL (eL [] 2))
  | .ok b => k .ret (X40 [.int .i64 2, .int .i64 0, .str (ofU8s b), .bool false] (ze false 0))
/-- The loop over a pair of digits. -/
def o40i : Orc := fun E k => match E with
  | ⟨[(0, .str s), (2, .ref 2 0), (3, .ref 3 0), (4, .own 900), (5, .int .i64 a), (7, .int .i64 0), (8, .int .i64 i)], [(2, some (.box 23 [.int .i64 z1, .int .i64 z2, .str z3, .bool z4])), (3, some (.box 40 [.bool eb, .nsl, .int .i64 en])), (900, some (.row 5 (.int .u8) b))]⟩ =>
    cond (decide (i = a + 2 ∧ 0 ≤ a ∧ a ≤ 8000 ∧ s.size ≤ 8000)) (cond (decide (s.size ≤ a.toNat + 2)) (k .ret (X40i s zeroL (eL [(1, s.size)] 4) b a 0)) (cond (decide (dg s (a.toNat + 2) < 0)) (k .ret (X40i s zeroL (eL [(1, a + 2)] 4) b a 0))
      (cond (decide (s.size ≤ a.toNat + 3)) (k .ret (X40i s zeroL (eL [(1, s.size)] 4) b a (dg s (a.toNat + 2)))) (cond (decide (dg s (a.toNat + 3) < 0)) (k .ret (X40i s zeroL (eL [(1, a + 3)] 4) b a (dg s (a.toNat + 2))))
        (k (.exit 3) (X40i s [.int .i64 z1, .int .i64 z2, .str z3, .bool z4] (ze eb en) b a (dg s (a.toNat + 2) * 16 + dg s (a.toNat + 3)))))))) none
  | _ => none
def o40 : Orc := fun E k => match E with
  | ⟨[(0, .str s), (2, .ref 2 0), (3, .ref 3 0), (4, .own 900), (5, .int .i64 1)], [(2, some (.box 23 [.int .i64 _, .int .i64 _, .str _, .bool _])), (3, some (.box 40 [.bool _, .nsl, .int .i64 _])), (900, some (.row 5 (.int .u8) []))]⟩ =>
    cond (decide (s.size ≤ 8000)) (cond (strR s (s.size + 1) 1 []).isFin (k .ret (X40 zeroL (eL [(1, s.size)] 4))) (cond (strR s (s.size + 1) 1 []).isBad (k .ret (X40 zeroL (eL [(1, (strR s (s.size + 1) 1 []).pos)] 4)))
      (cond (strR s (s.size + 1) 1 []).isLong (k .ret (X40 zeroL (eL [] 2))) (k .ret (X40 [.int .i64 2, .int .i64 0, .str (ofU8s (strR s (s.size + 1) 1 []).bytes), .bool false] (ze false 0)))))) none
  | _ => none
def A40 : Anns := ⟨[(3, [.keep [0, 2, 3, 4, 5] [2, 3, 61, 87, 143, 900], .ownS 4 900 5, .keep [0, 2, 3, 4, 5] [2, 3, 900]]), (100003, [.keep [2, 3] [2, 3]]), (27, [.keep [0, 2, 3, 4, 5, 7, 8] [2, 3, 900]]), (100027, [.keep [0, 2, 3, 4, 5, 7] [2, 3, 900]])], [(3, o40), (27, o40i)], 1000⟩
noncomputable def loopAt (f n : Nat) : Code := match (loopsF Tryd.prog f)[n]? with | some c => c | none => .skip
noncomputable def loop40 : Code := loopAt 40 0
noncomputable def loop40i : Code := loopAt 40 1
noncomputable abbrev L40' (m : Nat) (E : Env) (k : Exit → Env → Pev.R) : Pev.R := loopE (prep (tabs 0 L40) (annOf A40 loop40)) (evalC Tryd.prog (tabs 0 L40) A40 loop40) m E (outK (tabs 0 L40) A40 loop40 k)
noncomputable abbrev L40i (m : Nat) (E : Env) (k : Exit → Env → Pev.R) : Pev.R := loopE (prep (tabs 0 L40) (annOf A40 loop40i)) (evalC Tryd.prog (tabs 0 L40) A40 loop40i) m E (outK (tabs 0 L40) A40 loop40i k)
theorem step40i (s : ByteArray) (z : V) (eb : Bool) (en : Int) (b : List Int) (a n i : Int) (m : Nat) (k : Exit → Env → Pev.R) :
    L40i (m + 1) (E40i s z eb en b a n i) k = cond (decide (i < IntKind.i64.wrap (a + 4))) (cond (decide (i ≥ (s.size : Int))) (k .ret (X40i s zeroL (eL [(1, s.size)] 4) b a n))
      (cond (decide (0 ≤ i)) (cond (decide (i < (s.size : Int))) (cond (decide (hexZ (by' s i.toNat) < 0)) (k .ret (X40i s zeroL (eL [(1, i)] 4) b a n))
        (L40i m (E40i s z eb en b a (IntKind.i64.wrap (IntKind.i64.wrap (16 * n) + hexZ (by' s i.toNat))) (IntKind.i64.wrap (i + 1))) k)) none) none)) (k (.exit 3) (X40i s (zl z) (ze eb en) b a n)) := by kernel_rfl
theorem round40i (s : ByteArray) (z : V) (eb : Bool) (en : Int) (b : List Int) (a n : Int) (i : Nat) (m : Nat) (k : Exit → Env → Pev.R) (ha : 0 ≤ a ∧ a ≤ 8000) (hi : (i : Int) < a + 4) (hn : 0 ≤ n ∧ n ≤ 15) :
    L40i (m + 1) (E40i s z eb en b a n i) k = cond (decide (s.size ≤ i)) (k .ret (X40i s zeroL (eL [(1, s.size)] 4) b a n)) (cond (decide (dg s i < 0)) (k .ret (X40i s zeroL (eL [(1, (i : Int))] 4) b a n)) (L40i m (E40i s z eb en b a (n * 16 + dg s i) ((i + 1 : Nat) : Int)) k)) := by
  have hd : -1 ≤ dg s i ∧ dg s i ≤ 15 := dig_lt (s.data.toList.getD i 0)
  rw [step40i, i64w (a + 4) (by omega) (by omega), show decide ((i : Int) < a + 4) = true from decide_eq_true hi, cond_true]
  by_cases h : s.size ≤ i
  · rw [show decide ((i : Int) ≥ (s.size : Int)) = true from decide_eq_true (by omega), show decide (s.size ≤ i) = true from decide_eq_true h, cond_true, cond_true]
  · rw [show decide ((i : Int) ≥ (s.size : Int)) = false from decide_eq_false (by omega), show decide (s.size ≤ i) = false from decide_eq_false h, show decide (0 ≤ (i : Int)) = true from decide_eq_true (by omega), show decide ((i : Int) < (s.size : Int)) = true from decide_eq_true (by omega)]
    simp only [cond_true, cond_false, Int.toNat_natCast, show hexZ (by' s i) = dg s i from hex_dig _]
    rw [i64w (16 * n) (by omega) (by omega), i64w (16 * n + _) (by omega) (by omega), i64w ((i : Int) + 1) (by omega) (by omega), Int.mul_comm 16 n]
    rfl
theorem last40i (s : ByteArray) (z : V) (eb : Bool) (en : Int) (b : List Int) (a n : Int) (m : Nat) (k : Exit → Env → Pev.R) (ha : 0 ≤ a ∧ a ≤ 8000) : L40i (m + 1) (E40i s z eb en b a n (a + 4)) k = k (.exit 3) (X40i s (zl z) (ze eb en) b a n) := by
  rw [step40i, i64w (a + 4) (by omega) (by omega), show decide (a + 4 < a + 4) = false from decide_eq_false (by omega), cond_false]
theorem orc40i : OrcOk Tryd.prog (tabs 0 L40) A40 loop40i := by
  intro o ho E k r h
  obtain rfl := orcIs (show orcOf A40 loop40i = some o40i by kernel_rfl) ho
  unfold o40i at h
  split at h
  · rename_i s a i z1 z2 z3 z4 eb en b
    cases hd : decide (i = a + 2 ∧ 0 ≤ a ∧ a ≤ 8000 ∧ s.size ≤ 8000) with
    | false => rw [hd] at h; cases h
    | true =>
      rw [hd] at h
      obtain ⟨rfl, h1, h2, h3⟩ := of_decide_eq_true hd
      refine ⟨3, ?_⟩
      rw [← h]
      have e1 : a + 2 = ((a.toNat + 2 : Nat) : Int) := by omega
      have e2 : a + 3 = ((a.toNat + 3 : Nat) : Int) := by omega
      have d1 : -1 ≤ dg s (a.toNat + 2) ∧ dg s (a.toNat + 2) ≤ 15 := dig_lt (s.data.toList.getD (a.toNat + 2) 0)
      show L40i 3 (E40i s (z1, z2, z3, z4) eb en b a 0 (a + 2)) k = _
      rw [e1, round40i s (z1, z2, z3, z4) eb en b a 0 (a.toNat + 2) 2 k ⟨h1, h2⟩ (by omega) (by omega)]
      simp only [cond_true]
      cases decide (s.size ≤ a.toNat + 2) with
      | true => simp only [cond_true]
      | false =>
        cases hg : decide (dg s (a.toNat + 2) < 0) with
        | true => simp only [cond_true, cond_false]
        | false =>
          have hg' := of_decide_eq_false hg
          simp only [cond_false]
          rw [Int.zero_mul, Int.zero_add, show a.toNat + 2 + 1 = a.toNat + 3 from rfl, round40i s (z1, z2, z3, z4) eb en b a (dg s (a.toNat + 2)) (a.toNat + 3) 1 k ⟨h1, h2⟩ (by omega) ⟨by omega, d1.2⟩, ← e2]
          cases decide (s.size ≤ a.toNat + 3) with
          | true => simp only [cond_true]
          | false =>
            cases decide (dg s (a.toNat + 3) < 0) with
            | true => simp only [cond_true, cond_false]
            | false =>
              simp only [cond_false]
              rw [show ((a.toNat + 3 + 1 : Nat) : Int) = a + 4 by omega, last40i s _ eb en b a _ 0 k ⟨h1, h2⟩]
  · cases h
theorem step40 (s : ByteArray) (z : V) (eb : Bool) (en : Int) (b : List Int) (i : Int) (m : Nat) (k : Exit → Env → Pev.R) :
    L40' (m + 1) (E40 s z eb en b i) k =
      let bad (p : Int) : Pev.R := k .ret (X40 zeroL (eL [(1, p)] 4))
      let next (c n : Int) : Pev.R := cond (appLim 1 b.length 1) (L40' m (E40 s z eb en (b ++ [c]) n) k) none
      let j : Int := IntKind.i64.wrap (i + 1)
      let l : Int := IntKind.i64.wrap (i + 2)
      cond (decide (i ≥ (s.size : Int))) (bad s.size) (cond (decide (0 ≤ i)) (cond (decide (i < (s.size : Int)))
      (cond (by' s i.toNat == 34) (cond (decide (j < (s.size : Int))) (bad j) (cond (decide ((b.length : Int) > 1000)) (k .ret (X40 zeroL (eL [] 2))) (k .ret (X40 [.int .i64 2, .int .i64 0, .str (ofU8s b), .bool false] (ze false 0)))))
        (cond (decide (by' s i.toNat < 32)) (bad i) (cond (decide (by' s i.toNat > 126)) (bad i) (cond (by' s i.toNat != 92) (next (by' s i.toNat) j)
          (cond (decide (j ≥ (s.size : Int))) (bad s.size) (cond (decide (0 ≤ j)) (cond (decide (j < (s.size : Int)))
            (cond (by' s j.toNat == 34) (next (by' s j.toNat) l) (cond (by' s j.toNat == 92) (next (by' s j.toNat) l) (cond (by' s j.toNat != 120) (bad j)
              (cond (decide (l = i + 2 ∧ 0 ≤ i ∧ i ≤ 8000 ∧ s.size ≤ 8000)) (cond (decide (s.size ≤ i.toNat + 2)) (bad s.size) (cond (decide (dg s (i.toNat + 2) < 0)) (bad (i + 2))
                (cond (decide (s.size ≤ i.toNat + 3)) (bad s.size) (cond (decide (dg s (i.toNat + 3) < 0)) (bad (i + 3))
                  (cond (decide (dg s (i.toNat + 2) * 16 + dg s (i.toNat + 3) ≥ 32)) (cond (decide (dg s (i.toNat + 2) * 16 + dg s (i.toNat + 3) ≤ 126)) (bad (IntKind.i64.wrap (i + 3))) (next (IntKind.u8.wrap (dg s (i.toNat + 2) * 16 + dg s (i.toNat + 3))) (IntKind.i64.wrap (i + 4))))
                    (next (IntKind.u8.wrap (dg s (i.toNat + 2) * 16 + dg s (i.toNat + 3))) (IntKind.i64.wrap (i + 4)))))))) none)))) none) none)))))) none) none) := by kernel_rfl
theorem all40 (s : ByteArray) (z : V) (eb : Bool) (en : Int) (hs : s.size ≤ 8000) (k : Exit → Env → Pev.R) : ∀ (f a : Nat) (b : List Int), s.size ≤ a + f → b.length ≤ a →
    L40' (f + 1) (E40 s z eb en b a) k = fin40 s k (strR s (f + 1) a b)
  | 0, a, b, h, _ => by
    rw [step40, show decide ((a : Int) ≥ (s.size : Int)) = true from decide_eq_true (by omega)]
    simp only [strR]
    rw [show decide (a < s.size) = false from decide_eq_false (by omega)]
    rfl
  | f + 1, a, b, h, hb => by
    rw [step40, strR]
    by_cases ha : a < s.size
    · rw [show decide ((a : Int) ≥ (s.size : Int)) = false from decide_eq_false (by omega), show decide ((a : Int) < (s.size : Int)) = true from decide_eq_true (by omega), show decide (a < s.size) = true from decide_eq_true ha, show decide (0 ≤ (a : Int)) = true from decide_eq_true (by omega)]
      simp only [cond_true, cond_false]
      rw [i64w ((a : Int) + 1) (by omega) (by omega), i64w ((a : Int) + 2) (by omega) (by omega), i64w ((a : Int) + 3) (by omega) (by omega), i64w ((a : Int) + 4) (by omega) (by omega), Int.toNat_natCast]
      rw [show decide ((a : Int) + 2 = (a : Int) + 2 ∧ 0 ≤ (a : Int) ∧ (a : Int) ≤ 8000 ∧ s.size ≤ 8000) = true from decide_eq_true ⟨rfl, by omega, by omega, hs⟩]
      rw [show ((a : Int) + 1) = ((a + 1 : Nat) : Int) from rfl, show ((a : Int) + 2) = ((a + 2 : Nat) : Int) from rfl, show ((a : Int) + 3) = ((a + 3 : Nat) : Int) from rfl, show ((a : Int) + 4) = ((a + 4 : Nat) : Int) from rfl]
      simp only [Int.toNat_natCast]
      rw [show appLim 1 b.length 1 = true from decide_eq_true (by omega), show decide (((a + 1 : Nat) : Int) < (s.size : Int)) = decide (a + 1 < s.size) from decide_eq_decide.2 (by omega), show decide ((b.length : Int) > 1000) = decide (b.length > 1000) from decide_eq_decide.2 (by omega)]
      rw [show decide (((a + 1 : Nat) : Int) ≥ (s.size : Int)) = decide (a + 1 = s.size) from decide_eq_decide.2 (by omega), show decide (0 ≤ ((a + 1 : Nat) : Int)) = true from decide_eq_true (by omega)]
      simp only [cond_true]
      cases by' s a == 34 with
      | true =>
        simp only [cond_true]
        cases decide (a + 1 < s.size) with
        | true => simp only [cond_true, fin40]
        | false => cases decide (b.length > 1000) <;> simp only [cond_true, cond_false, fin40]
      | false =>
        simp only [cond_false]
        cases decide (by' s a < 32) with
        | true => simp only [cond_true, fin40]
        | false =>
          cases decide (by' s a > 126) with
          | true => simp only [cond_true, cond_false, fin40]
          | false =>
            cases h92 : by' s a == 92 with
            | true =>
              have n1 : ∀ c, L40' (f + 1) (E40 s z eb en (b ++ [c]) ((a + 2 : Nat) : Int)) k = fin40 s k (strR s (f + 1) (a + 2) (b ++ [c])) := fun c => all40 s z eb en hs k f (a + 2) (b ++ [c]) (by omega) (by simp; omega)
              have n3 : ∀ c, L40' (f + 1) (E40 s z eb en (b ++ [c]) ((a + 4 : Nat) : Int)) k = fin40 s k (strR s (f + 1) (a + 4) (b ++ [c])) := fun c => all40 s z eb en hs k f (a + 4) (b ++ [c]) (by omega) (by simp; omega)
              simp only [bne, h92, Bool.not_true, cond_false, cond_true]
              rw [escT_map (fin40 s k)]
              unfold escT
              by_cases hE : a + 1 = s.size
              · rw [show decide (a + 1 = s.size) = true from decide_eq_true hE]
                simp only [cond_true, fin40, hE]
              · rw [show decide (a + 1 = s.size) = false from decide_eq_false hE, show decide (a + 1 < s.size) = true from decide_eq_true (by omega)]
                simp only [cond_true, cond_false, n1, n3]
                cases by' s (a + 1) == 34 <;> cases by' s (a + 1) == 92 <;> cases by' s (a + 1) == 120 <;> simp only [Bool.not_true, Bool.not_false, cond_true, cond_false, fin40] <;> rfl
            | false =>
              simp only [bne, h92, Bool.not_false, cond_false, cond_true]
              exact all40 s z eb en hs k f (a + 1) (b ++ [by' s a]) (by omega) (by simp; omega)
    · rw [show decide ((a : Int) ≥ (s.size : Int)) = true from decide_eq_true (by omega), show decide (a < s.size) = false from decide_eq_false ha]
      rfl
theorem orc40 : OrcOk Tryd.prog (tabs 0 L40) A40 loop40 := by
  intro o ho E k r h
  obtain rfl := orcIs (show orcOf A40 loop40 = some o40 by kernel_rfl) ho
  unfold o40 at h
  split at h
  · rename_i s z1 z2 z3 z4 eb en
    cases hd : decide (s.size ≤ 8000) with
    | false => rw [hd] at h; cases h
    | true =>
      rw [hd] at h
      refine ⟨s.size + 1, (all40 s (z1, z2, z3, z4) eb en (of_decide_eq_true hd) k s.size 1 [] (by omega) (by simp)).trans ?_⟩
      rw [← h]
      cases strR s (s.size + 1) 1 [] <;> rfl
  · cases h
/-- What the document answers. -/
def strT' (r : SRd) (n : Nat) : Tree := .br r.isFin (.ret (.tup [zeroV, agE true [(1, n)] 4])) (.br r.isBad (.ret (.tup [zeroV, agE true [(1, r.pos)] 4])) (.br r.isLong (.ret (.tup [zeroV, agE true [] 2])) (.ret (.tup [.ag [.int .i64 2, .int .i64 0, .str (ofU8s r.bytes), .bool false], agE false [] 0]))))
def sp40 : Pev.CSpec := ⟨fun | [.str s] => .br (decide (s.size ≤ 8000)) (strT' (strR s (s.size + 1) 1 []) s.size) .fail | _ => .fail⟩
set_option maxRecDepth 100000 in
theorem ok40 : EnterOk Tryd.prog 40 ∧ CSpecOk Tryd.prog cfg 40 sp40 := ⟨enter Tryd.func40 (by kernel_rfl) (by kernel_rfl), by
  intro args res h
  unfold sp40 at h
  simp only at h
  split at h <;> try (cases h; done)
  rename_i s
  refine evalF_ok (fit 0 L40) s40 mixed (by kernel_rfl) (fun c hc => ?_) (A := A40) ?_
  · have hl : loopsF Tryd.prog 40 = [loop40, loop40i] := by kernel_rfl
    rw [hl] at hc
    rcases List.mem_cons.1 hc with rfl | hc
    · exact orc40
    · obtain rfl := List.mem_singleton.1 hc; exact orc40i
  · rw [← h]
    kernel_rfl⟩
end Go.Proofs.YtciajnknnoecaaaDoor
