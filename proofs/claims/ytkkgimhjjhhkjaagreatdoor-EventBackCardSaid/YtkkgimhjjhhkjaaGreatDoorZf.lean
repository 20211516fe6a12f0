/- aviaryref02.str: a string's text is read, byte by byte: the same. -/
import Derived.Test.YtkkgimhjjhhkjaaGreatDoorZ
namespace Go.Proofs.YtkkgimhjjhhkjaaGreatDoor
open Go Go.Pev

def L40 : List (Nat × Pev.CSpec) := [(28, sp22), (75, sp38), (95, sp53)]
theorem s40 : SpecsOk Tryz.prog (tabs 0 L40) := oneSpecT (oneSpecT (oneSpecT noSpecs ok53) ok38) (tree ok22)
abbrev eL (l : List (Int × Int)) (n : Int) : List AV := [.bool true, .sl shPlace l, .int .i64 n]
abbrev ze (eb : Bool) (en : Int) : List AV := [.bool eb, .nsl, .int .i64 en]
def E40 (s : ByteArray) (z : V) (eb : Bool) (en : Int) (b : List Int) (i : Int) : Env := ⟨[(0, .str s), (2, .ref 2 0), (3, .ref 3 0), (4, .own 900), (5, .int .i64 i)], [(2, some (.box 48 (zl z))), (3, some (.box 33 (ze eb en))), (900, some (.row 5 (.int .u8) b))]⟩
def E40i (s : ByteArray) (z : V) (eb : Bool) (en : Int) (b : List Int) (a n i : Int) : Env := ⟨[(0, .str s), (2, .ref 2 0), (3, .ref 3 0), (4, .own 900), (5, .int .i64 a), (7, .int .i64 n), (8, .int .i64 i)], [(2, some (.box 48 (zl z))), (3, some (.box 33 (ze eb en))), (900, some (.row 5 (.int .u8) b))]⟩
def X40i (s : ByteArray) (v e : List AV) (b : List Int) (a n : Int) : Env := ⟨[(0, .str s), (2, .ref 2 0), (3, .ref 3 0), (4, .own 900), (5, .int .i64 a), (7, .int .i64 n)], [(2, some (.box 48 v)), (3, some (.box 33 e)), (900, some (.row 5 (.int .u8) b))]⟩
def X40 (v e : List AV) : Env := ⟨[(2, .ref 2 0), (3, .ref 3 0)], [(2, some (.box 48 v)), (3, some (.box 33 e))]⟩
def fin40 (s : ByteArray) (k : Exit → Env → Pev.R) : SRd → Pev.R
  | .fin => k .ret (X40 zeroL (eL [(1, s.size)] 4))
  | .bad p => k .ret (X40 zeroL (eL [(1, p)] 4))
  | .long => k .ret (X40 zeroL (eL [] 2))
  | .ok b => k .ret (X40 [.int .i64 2, .int .i64 0, .str (ofU8s b), .bool false] (ze false 0))
/-- The loop over a pair of digits. -/
def o40i : Orc := fun E k => match E with
  | ⟨[(0, .str s), (2, .ref 2 0), (3, .ref 3 0), (4, .own 900), (5, .int .i64 a), (7, .int .i64 0), (8, .int .i64 i)], [(2, some (.box 48 [.int .i64 z1, .int .i64 z2, .str z3, .bool z4])), (3, some (.box 33 [.bool eb, .nsl, .int .i64 en])), (900, some (.row 5 (.int .u8) b))]⟩ =>
    cond (decide (i = a + 2 ∧ 0 ≤ a ∧ a ≤ 8000 ∧ s.size ≤ 8000)) (cond (decide (s.size ≤ a.toNat + 2)) (k .ret (X40i s zeroL (eL [(1, s.size)] 4) b a 0)) (cond (decide (dg s (a.toNat + 2) < 0)) (k .ret (X40i s zeroL (eL [(1, a + 2)] 4) b a 0))
      (cond (decide (s.size ≤ a.toNat + 3)) (k .ret (X40i s zeroL (eL [(1, s.size)] 4) b a (dg s (a.toNat + 2)))) (cond (decide (dg s (a.toNat + 3) < 0)) (k .ret (X40i s zeroL (eL [(1, a + 3)] 4) b a (dg s (a.toNat + 2))))
        (k (.exit 3) (X40i s [.int .i64 z1, .int .i64 z2, .str z3, .bool z4] (ze eb en) b a (dg s (a.toNat + 2) * 16 + dg s (a.toNat + 3)))))))) none
  | _ => none
def o40 : Orc := fun E k => match E with
  | ⟨[(0, .str s), (2, .ref 2 0), (3, .ref 3 0), (4, .own 900), (5, .int .i64 1)], [(2, some (.box 48 [.int .i64 _, .int .i64 _, .str _, .bool _])), (3, some (.box 33 [.bool _, .nsl, .int .i64 _])), (900, some (.row 5 (.int .u8) []))]⟩ =>
    cond (decide (s.size ≤ 8000)) (cond (strR s (s.size + 1) 1 []).isFin (k .ret (X40 zeroL (eL [(1, s.size)] 4))) (cond (strR s (s.size + 1) 1 []).isBad (k .ret (X40 zeroL (eL [(1, (strR s (s.size + 1) 1 []).pos)] 4)))
      (cond (strR s (s.size + 1) 1 []).isLong (k .ret (X40 zeroL (eL [] 2))) (k .ret (X40 [.int .i64 2, .int .i64 0, .str (ofU8s (strR s (s.size + 1) 1 []).bytes), .bool false] (ze false 0)))))) none
  | _ => none
def A40 : Anns := ⟨[(3, [.keep [0, 2, 3, 4, 5] [2, 3, 61, 87, 143, 900], .ownS 4 900 5, .keep [0, 2, 3, 4, 5] [2, 3, 900]]), (100003, [.keep [2, 3] [2, 3]]), (27, [.keep [0, 2, 3, 4, 5, 7, 8] [2, 3, 900]]), (100027, [.keep [0, 2, 3, 4, 5, 7] [2, 3, 900]])], [(3, o40), (27, o40i)], 1000⟩
noncomputable def loopAt (f n : Nat) : Code := match (loopsF Tryz.prog f)[n]? with | some c => c | none => .skip
noncomputable def loop40 : Code := loopAt 77 0
noncomputable def loop40i : Code := loopAt 77 1
noncomputable abbrev L40' (m : Nat) (E : Env) (k : Exit → Env → Pev.R) : Pev.R := loopE (prep (tabs 0 L40) (annOf A40 loop40)) (evalC Tryz.prog (tabs 0 L40) A40 loop40) m E (outK (tabs 0 L40) A40 loop40 k)
noncomputable abbrev L40i (m : Nat) (E : Env) (k : Exit → Env → Pev.R) : Pev.R := loopE (prep (tabs 0 L40) (annOf A40 loop40i)) (evalC Tryz.prog (tabs 0 L40) A40 loop40i) m E (outK (tabs 0 L40) A40 loop40i k)
theorem step40i (s : ByteArray) (z : V) (eb : Bool) (en : Int) (b : List Int) (a n i : Int) (m : Nat) (k : Exit → Env → Pev.R) :
    L40i (m + 1) (E40i s z eb en b a n i) k = cond (decide (i < IntKind.i64.wrap (a + 4))) (cond (decide (i ≥ (s.size : Int))) (k .ret (X40i s zeroL (eL [(1, s.size)] 4) b a n))
      (cond (decide (0 ≤ i)) (cond (decide (i < (s.size : Int))) (cond (decide (hexZ (by' s i.toNat) < 0)) (k .ret (X40i s zeroL (eL [(1, i)] 4) b a n))
        (L40i m (E40i s z eb en b a (IntKind.i64.wrap (IntKind.i64.wrap (16 * n) + hexZ (by' s i.toNat))) (IntKind.i64.wrap (i + 1))) k)) none) none)) (k (.exit 3) (X40i s (zl z) (ze eb en) b a n)) := by kernel_rfl
theorem round40i (s : ByteArray) (z : V) (eb : Bool) (en : Int) (b : List Int) (a n : Int) (i : Nat) (m : Nat) (k : Exit → Env → Pev.R) (ha : 0 ≤ a ∧ a ≤ 8000) (hi : (i : Int) < a + 4) (hn : 0 ≤ n ∧ n ≤ 15) :
    L40i (m + 1) (E40i s z eb en b a n i) k = cond (decide (s.size ≤ i)) (k .ret (X40i s zeroL (eL [(1, s.size)] 4) b a n)) (cond (decide (dg s i < 0)) (k .ret (X40i s zeroL (eL [(1, (i : Int))] 4) b a n)) (L40i m (E40i s z eb en b a (n * 16 + dg s i) ((i + 1 : Nat) : Int)) k)) := by
  have hd : -1 ≤ dg s i ∧ dg s i ≤ 15 := dig_lt (s.data.toList.getD i 0)
  rw [step40i, i64w (a + 4) (by omega) (by omega), show decide ((i : Int) < a + 4) = true from decide_eq_true hi, cond_true]
  by_cases h : s.size ≤ i
  · rw [show decide ((i : Int) ≥ (s.size : Int)) = true from decide_eq_true (by omega), show decide (s.size ≤ i) = true from decide_eq_true h, cond_true, cond_true]
  · rw [show decide ((i : Int) ≥ (s.size : Int)) = false from decide_eq_false (by omega), show decide (s.size ≤ i) = false from decide_eq_false h, show decide (0 ≤ (i : Int)) = true from decide_eq_true (by omega), show decide ((i : Int) < (s.size : Int)) = true from decide_eq_true (by omega)]
    simp only [cond_true, cond_false, Int.toNat_natCast, show hexZ (by' s i) = dg s i from hex_dig _]
    rw [i64w (16 * n) (by omega) (by omega), i64w (16 * n + _) (by omega) (by omega), i64w ((i : Int) + 1) (by omega) (by omega), Int.mul_comm 16 n]
    rfl
theorem last40i (s : ByteArray) (z : V) (eb : Bool) (en : Int) (b : List Int) (a n : Int) (m : Nat) (k : Exit → Env → Pev.R) (ha : 0 ≤ a ∧ a ≤ 8000) : L40i (m + 1) (E40i s z eb en b a n (a + 4)) k = k (.exit 3) (X40i s (zl z) (ze eb en) b a n) := by
  rw [step40i, i64w (a + 4) (by omega) (by omega), show decide (a + 4 < a + 4) = false from decide_eq_false (by omega), cond_false]
theorem orc40i : OrcOk Tryz.prog (tabs 0 L40) A40 loop40i := by
  intro o ho E k r h
  obtain rfl := orcIs (show orcOf A40 loop40i = some o40i by kernel_rfl) ho
  unfold o40i at h
  split at h
  · rename_i s a i z1 z2 z3 z4 eb en b
    cases hd : decide (i = a + 2 ∧ 0 ≤ a ∧ a ≤ 8000 ∧ s.size ≤ 8000) with
    | false => rw [hd] at h; cases h
    | true =>
      rw [hd] at h
      obtain ⟨rfl, h1, h2, h3⟩ := of_decide_eq_true hd
      refine ⟨3, ?_⟩
      rw [← h]
      have e1 : a + 2 = ((a.toNat + 2 : Nat) : Int) := by omega
      have e2 : a + 3 = ((a.toNat + 3 : Nat) : Int) := by omega
      have d1 : -1 ≤ dg s (a.toNat + 2) ∧ dg s (a.toNat + 2) ≤ 15 := dig_lt (s.data.toList.getD (a.toNat + 2) 0)
      show L40i 3 (E40i s (z1, z2, z3, z4) eb en b a 0 (a + 2)) k = _
      rw [e1, round40i s (z1, z2, z3, z4) eb en b a 0 (a.toNat + 2) 2 k ⟨h1, h2⟩ (by omega) (by omega)]
      simp only [cond_true]
      cases decide (s.size ≤ a.toNat + 2) with
      | true => simp only [cond_true]
      | false =>
        cases hg : decide (dg s (a.toNat + 2) < 0) with
        | true => simp only [cond_true, cond_false]
        | false =>
          have hg' := of_decide_eq_false hg
          simp only [cond_false]
          rw [Int.zero_mul, Int.zero_add, show a.toNat + 2 + 1 = a.toNat + 3 from rfl, round40i s (z1, z2, z3, z4) eb en b a (dg s (a.toNat + 2)) (a.toNat + 3) 1 k ⟨h1, h2⟩ (by omega) ⟨by omega, d1.2⟩, ← e2]
          cases decide (s.size ≤ a.toNat + 3) with
          | true => simp only [cond_true]
          | false =>
            cases decide (dg s (a.toNat + 3) < 0) with
            | true => simp only [cond_true, cond_false]
            | false =>
              simp only [cond_false]
              rw [show ((a.toNat + 3 + 1 : Nat) : Int) = a + 4 by omega, last40i s _ eb en b a _ 0 k ⟨h1, h2⟩]
  · cases h
theorem step40 (s : ByteArray) (z : V) (eb : Bool) (en : Int) (b : List Int) (i : Int) (m : Nat) (k : Exit → Env → Pev.R) :
    L40' (m + 1) (E40 s z eb en b i) k =
      let bad (p : Int) : Pev.R := k .ret (X40 zeroL (eL [(1, p)] 4))
      let next (c n : Int) : Pev.R := cond (appLim 1 b.length 1) (L40' m (E40 s z eb en (b ++ [c]) n) k) none
      let j : Int := IntKind.i64.wrap (i + 1)
      let l : Int := IntKind.i64.wrap (i + 2)
      cond (decide (i ≥ (s.size : Int))) (bad s.size) (cond (decide (0 ≤ i)) (cond (decide (i < (s.size : Int)))
      (cond (by' s i.toNat == 34) (cond (decide (j < (s.size : Int))) (bad j) (cond (decide ((b.length : Int) > 1000)) (k .ret (X40 zeroL (eL [] 2))) (k .ret (X40 [.int .i64 2, .int .i64 0, .str (ofU8s b), .bool false] (ze false 0)))))
        (cond (decide (by' s i.toNat < 32)) (bad i) (cond (decide (by' s i.toNat > 126)) (bad i) (cond (by' s i.toNat != 92) (next (by' s i.toNat) j)
          (cond (decide (j ≥ (s.size : Int))) (bad s.size) (cond (decide (0 ≤ j)) (cond (decide (j < (s.size : Int)))
            (cond (by' s j.toNat == 34) (next (by' s j.toNat) l) (cond (by' s j.toNat == 92) (next (by' s j.toNat) l) (cond (by' s j.toNat != 120) (bad j)
              (cond (decide (l = i + 2 ∧ 0 ≤ i ∧ i ≤ 8000 ∧ s.size ≤ 8000)) (cond (decide (s.size ≤ i.toNat + 2)) (bad s.size) (cond (decide (dg s (i.toNat + 2) < 0)) (bad (i + 2))
                (cond (decide (s.size ≤ i.toNat + 3)) (bad s.size) (cond (decide (dg s (i.toNat + 3) < 0)) (bad (i + 3))
                  (cond (decide (dg s (i.toNat + 2) * 16 + dg s (i.toNat + 3) ≥ 32)) (cond (decide (dg s (i.toNat + 2) * 16 + dg s (i.toNat + 3) ≤ 126)) (bad (IntKind.i64.wrap (i + 3))) (next (IntKind.u8.wrap (dg s (i.toNat + 2) * 16 + dg s (i.toNat + 3))) (IntKind.i64.wrap (i + 4))))
                    (next (IntKind.u8.wrap (dg s (i.toNat + 2) * 16 + dg s (i.toNat + 3))) (IntKind.i64.wrap (i + 4)))))))) none)))) none) none)))))) none) none) := by kernel_rfl
theorem all40 (s : ByteArray) (z : V) (eb : Bool) (en : Int) (hs : s.size ≤ 8000) (k : Exit → Env → Pev.R) : ∀ (f a : Nat) (b : List Int), s.size ≤ a + f → b.length ≤ a →
    L40' (f + 1) (E40 s z eb en b a) k = fin40 s k (strR s (f + 1) a b)
  | 0, a, b, h, _ => by
    rw [step40, show decide ((a : Int) ≥ (s.size : Int)) = true from decide_eq_true (by omega)]
    simp only [strR]
    rw [show decide (a < s.size) = false from decide_eq_false (by omega)]
    rfl
  | f + 1, a, b, h, hb => by
    rw [step40, strR]
    by_cases ha : a < s.size
    · rw [show decide ((a : Int) ≥ (s.size : Int)) = false from decide_eq_false (by omega), show decide ((a : Int) < (s.size : Int)) = true from decide_eq_true (by omega), show decide (a < s.size) = true from decide_eq_true ha, show decide (0 ≤ (a : Int)) = true from decide_eq_true (by omega)]
      simp only [cond_true, cond_false]
      rw [i64w ((a : Int) + 1) (by omega) (by omega), i64w ((a : Int) + 2) (by omega) (by omega), i64w ((a : Int) + 3) (by omega) (by omega), i64w ((a : Int) + 4) (by omega) (by omega), Int.toNat_natCast]
      rw [show decide ((a : Int) + 2 = (a : Int) + 2 ∧ 0 ≤ (a : Int) ∧ (a : Int) ≤ 8000 ∧ s.size ≤ 8000) = true from decide_eq_true ⟨rfl, by omega, by omega, hs⟩]
      rw [show ((a : Int) + 1) = ((a + 1 : Nat) : Int) from rfl, show ((a : Int) + 2) = ((a + 2 : Nat) : Int) from rfl, show ((a : Int) + 3) = ((a + 3 : Nat) : Int) from rfl, show ((a : Int) + 4) = ((a + 4 : Nat) : Int) from rfl]
      simp only [Int.toNat_natCast]
      rw [show appLim 1 b.length 1 = true from decide_eq_true (by omega), show decide (((a + 1 : Nat) : Int) < (s.size : Int)) = decide (a + 1 < s.size) from decide_eq_decide.2 (by omega), show decide ((b.length : Int) > 1000) = decide (b.length > 1000) from decide_eq_decide.2 (by omega)]
      rw [show decide (((a + 1 : Nat) : Int) ≥ (s.size : Int)) = decide (a + 1 = s.size) from decide_eq_decide.2 (by omega), show decide (0 ≤ ((a + 1 : Nat) : Int)) = true from decide_eq_true (by omega)]
      simp only [cond_true]
      cases by' s a == 34 with
      | true =>
        simp only [cond_true]
        cases decide (a + 1 < s.size) with
        | true => simp only [cond_true, fin40]
        | false => cases decide (b.length > 1000) <;> simp only [cond_true, cond_false, fin40]
      | false =>
        simp only [cond_false]
        cases decide (by' s a < 32) with
        | true => simp only [cond_true, fin40]
        | false =>
          cases decide (by' s a > 126) with
          | true => simp only [cond_true, cond_false, fin40]
          | false =>
            cases h92 : by' s a == 92 with
            | true =>
              have n1 : ∀ c, L40' (f + 1) (E40 s z eb en (b ++ [c]) ((a + 2 : Nat) : Int)) k = fin40 s k (strR s (f + 1) (a + 2) (b ++ [c])) := fun c => all40 s z eb en hs k f (a + 2) (b ++ [c]) (by omega) (by simp; omega)
              have n3 : ∀ c, L40' (f + 1) (E40 s z eb en (b ++ [c]) ((a + 4 : Nat) : Int)) k = fin40 s k (strR s (f + 1) (a + 4) (b ++ [c])) := fun c => all40 s z eb en hs k f (a + 4) (b ++ [c]) (by omega) (by simp; omega)
              simp only [bne, h92, Bool.not_true, cond_false, cond_true]
              rw [escT_map (fin40 s k)]
              unfold escT
              by_cases hE : a + 1 = s.size
              · rw [show decide (a + 1 = s.size) = true from decide_eq_true hE]
                simp only [cond_true, fin40, hE]
              · rw [show decide (a + 1 = s.size) = false from decide_eq_false hE, show decide (a + 1 < s.size) = true from decide_eq_true (by omega)]
                simp only [cond_true, cond_false, n1, n3]
                cases by' s (a + 1) == 34 <;> cases by' s (a + 1) == 92 <;> cases by' s (a + 1) == 120 <;> simp only [Bool.not_true, Bool.not_false, cond_true, cond_false, fin40] <;> rfl
            | false =>
              simp only [bne, h92, Bool.not_false, cond_false, cond_true]
              exact all40 s z eb en hs k f (a + 1) (b ++ [by' s a]) (by omega) (by simp; omega)
    · rw [show decide ((a : Int) ≥ (s.size : Int)) = true from decide_eq_true (by omega), show decide (a < s.size) = false from decide_eq_false ha]
      rfl
theorem orc40 : OrcOk Tryz.prog (tabs 0 L40) A40 loop40 := by
  intro o ho E k r h
  obtain rfl := orcIs (show orcOf A40 loop40 = some o40 by kernel_rfl) ho
  unfold o40 at h
  split at h
  · rename_i s z1 z2 z3 z4 eb en
    cases hd : decide (s.size ≤ 8000) with
    | false => rw [hd] at h; cases h
    | true =>
      rw [hd] at h
      refine ⟨s.size + 1, (all40 s (z1, z2, z3, z4) eb en (of_decide_eq_true hd) k s.size 1 [] (by omega) (by simp)).trans ?_⟩
      rw [← h]
      cases strR s (s.size + 1) 1 [] <;> rfl
  · cases h
/-- What the document answers. -/
def strT' (r : SRd) (n : Nat) : Tree := .br r.isFin (.ret (.tup [zeroV, agE true [(1, n)] 4])) (.br r.isBad (.ret (.tup [zeroV, agE true [(1, r.pos)] 4])) (.br r.isLong (.ret (.tup [zeroV, agE true [] 2])) (.ret (.tup [.ag [.int .i64 2, .int .i64 0, .str (ofU8s r.bytes), .bool false], agE false [] 0]))))
def sp40 : Pev.CSpec := ⟨fun | [.str s] => .br (decide (s.size ≤ 8000)) (strT' (strR s (s.size + 1) 1 []) s.size) .fail | _ => .fail⟩
set_option maxRecDepth 100000 in
theorem ok40 : EnterOk Tryz.prog 77 ∧ CSpecOk Tryz.prog cfg 77 sp40 := ⟨enter Tryz.func77 (by kernel_rfl) (by kernel_rfl), by
  intro args res h
  unfold sp40 at h
  simp only at h
  split at h <;> try (cases h; done)
  rename_i s
  refine evalF_ok (fit 0 L40) s40 mixed (by kernel_rfl) (fun c hc => ?_) (A := A40) ?_
  · have hl : loopsF Tryz.prog 77 = [loop40, loop40i] := by kernel_rfl
    rw [hl] at hc
    rcases List.mem_cons.1 hc with rfl | hc
    · exact orc40
    · obtain rfl := List.mem_singleton.1 hc; exact orc40i
  · rw [← h]
    kernel_rfl⟩
end Go.Proofs.YtkkgimhjjhhkjaaGreatDoor
/- value.word and aviaryref02.truth: a truth's text is read. -/
namespace Go.Proofs.YtkkgimhjjhhkjaaGreatDoor
open Go Go.Pev

/-- The first place where a text is not the word. -/
def wordR (s w : ByteArray) : Nat → Nat → Option Nat
  | 0, _ => none
  | f + 1, i => cond (decide (i < s.size)) (cond (decide (w.size ≤ i)) (some i) (cond (by' s i == by' w i) (wordR s w f (i + 1)) (some i))) none
abbrev wordAt (s w : ByteArray) : Option Nat := wordR s w (s.size + 1) 0
def oPos : Option Nat → Nat | some n => n | none => 0

def E29 (s w : ByteArray) (b : Bool) (z : V) (n i : Int) : Env := ⟨[(0, .str s), (1, .str w), (2, .bool b), (6, .ref 6 0), (7, .err none), (10, .int .i64 n), (11, .int .i64 i)], [(6, some (.box 48 (zl z)))]⟩
def X29 (s w : ByteArray) (b : Bool) (v : List AV) (e : Err) : Env := ⟨[(0, .str s), (1, .str w), (2, .bool b), (6, .ref 6 0), (7, .err e)], [(6, some (.box 48 v))]⟩
def o29 : Orc := fun E k => match E with
  | ⟨[(0, .str s), (1, .str w), (2, .bool b), (6, .ref 6 0), (7, .err none), (10, .int .i64 n), (11, .int .i64 0)], [(6, some (.box 48 [.int .i64 z1, .int .i64 z2, .str z3, .bool z4]))]⟩ =>
    cond (decide (n = s.size ∧ s.size ≤ 8000)) (cond (wordAt s w).isNone (k (.exit 0) (X29 s w b [.int .i64 z1, .int .i64 z2, .str z3, .bool z4] none)) (k .ret (X29 s w b zeroL (badE (oPos (wordAt s w)))))) none
  | _ => none
def A29 : Anns := ⟨[(2, [.keep [0, 1, 2, 6, 7, 10, 11] [6]]), (100002, [.keep [0, 1, 2, 6, 7] [6]])], [(2, o29)], 1000⟩
def L29 : List (Nat × Pev.CSpec) := [(68, sp26)]
theorem s29 : SpecsOk Tryz.prog (tabs 0 L29) := oneSpecT noSpecs ok26
noncomputable def loop29 : Code := loopAt 71 0
noncomputable abbrev L29' (m : Nat) (E : Env) (k : Exit → Env → Pev.R) : Pev.R := loopE (prep (tabs 0 L29) (annOf A29 loop29)) (evalC Tryz.prog (tabs 0 L29) A29 loop29) m E (outK (tabs 0 L29) A29 loop29 k)
theorem step29 (s w : ByteArray) (b : Bool) (z : V) (n i : Int) (m : Nat) (k : Exit → Env → Pev.R) :
    L29' (m + 1) (E29 s w b z n i) k = cond (decide (i < n)) (cond (decide (i ≥ (w.size : Int))) (k .ret (X29 s w b zeroL (badE i))) (cond (decide (0 ≤ i)) (cond (decide (i < (s.size : Int))) (cond (decide (0 ≤ i)) (cond (decide (i < (w.size : Int)))
      (cond (by' s i.toNat != by' w i.toNat) (k .ret (X29 s w b zeroL (badE i))) (L29' m (E29 s w b z n (IntKind.i64.wrap (i + 1))) k)) none) none) none) none)) (k (.exit 0) (X29 s w b (zl z) none)) := by kernel_rfl
theorem all29 (s w : ByteArray) (b : Bool) (z : V) (hs : s.size ≤ 8000) (k : Exit → Env → Pev.R) : ∀ (f i : Nat), s.size ≤ i + f →
    L29' (f + 1) (E29 s w b z s.size i) k = (match wordR s w (f + 1) i with | none => k (.exit 0) (X29 s w b (zl z) none) | some p => k .ret (X29 s w b zeroL (badE p)))
  | 0, i, h => by
    rw [step29, wordR, show decide ((i : Int) < (s.size : Int)) = false from decide_eq_false (by omega), show decide (i < s.size) = false from decide_eq_false (by omega)]
    rfl
  | f + 1, i, h => by
    rw [step29, wordR]
    by_cases ha : i < s.size
    · rw [show decide ((i : Int) < (s.size : Int)) = true from decide_eq_true (by omega), show decide (i < s.size) = true from decide_eq_true ha, show decide (0 ≤ (i : Int)) = true from decide_eq_true (by omega), i64w ((i : Int) + 1) (by omega) (by omega), Int.toNat_natCast]
      simp only [cond_true]
      by_cases hw : w.size ≤ i
      · rw [show decide ((i : Int) ≥ (w.size : Int)) = true from decide_eq_true (by omega), show decide (w.size ≤ i) = true from decide_eq_true hw]
        rfl
      · rw [show decide ((i : Int) ≥ (w.size : Int)) = false from decide_eq_false (by omega), show decide (w.size ≤ i) = false from decide_eq_false hw, show decide ((i : Int) < (w.size : Int)) = true from decide_eq_true (by omega)]
        simp only [cond_true, cond_false, bne]
        cases by' s i == by' w i with
        | true =>
          simp only [Bool.not_true, cond_true, cond_false]
          exact all29 s w b z hs k f (i + 1) (by omega)
        | false => rfl
    · rw [show decide ((i : Int) < (s.size : Int)) = false from decide_eq_false (by omega), show decide (i < s.size) = false from decide_eq_false ha]
      rfl
theorem orc29 : OrcOk Tryz.prog (tabs 0 L29) A29 loop29 := by
  intro o ho E k r h
  obtain rfl := orcIs (show orcOf A29 loop29 = some o29 by kernel_rfl) ho
  unfold o29 at h
  split at h
  · rename_i s w b n z1 z2 z3 z4
    cases hd : decide (n = s.size ∧ s.size ≤ 8000) with
    | false => rw [hd] at h; cases h
    | true =>
      rw [hd] at h
      obtain ⟨rfl, hs⟩ := of_decide_eq_true hd
      refine ⟨s.size + 1, (all29 s w b (z1, z2, z3, z4) hs k s.size 0 (by omega)).trans ?_⟩
      rw [← h]
      unfold wordAt
      cases wordR s w (s.size + 1) 0 <;> rfl
  · cases h
def sp29 : Pev.CSpec := ⟨fun | [.str s, .str w, .bool b] => .br (decide (s.size ≤ 8000)) (.br (wordAt s w).isNone (.br (decide (s.size < w.size)) (.ret (.tup [zeroV, .err (badE s.size)])) (.ret (.tup [.ag [.int .i64 3, .int .i64 0, .str ⟨#[]⟩, .bool b], .err none]))) (.ret (.tup [zeroV, .err (badE (oPos (wordAt s w)))]))) .fail | _ => .fail⟩
theorem ok29 : EnterOk Tryz.prog 71 ∧ CSpecOk Tryz.prog cfg 71 sp29 := ⟨enter Tryz.func71 (by kernel_rfl) (by kernel_rfl), by
  intro args res h
  unfold sp29 at h
  simp only at h
  split at h <;> try (cases h; done)
  rename_i s w b
  refine done1 s29 (A := A29) (c := loop29) (by kernel_rfl) orc29 (by kernel_rfl) ?_
  rw [← h, show evalF Tryz.prog (tabs 0 L29) A29 71 [.str s, .str w, .bool b] = cond (decide ((s.size : Int) = s.size ∧ s.size ≤ 8000)) (cond (wordAt s w).isNone (cond (decide ((s.size : Int) < (w.size : Int))) (some (.tup [zeroV, .err (badE s.size)])) (some (.tup [.ag [.int .i64 3, .int .i64 0, .str ⟨#[]⟩, .bool b], .err none]))) (some (.tup [zeroV, .err (badE (oPos (wordAt s w)))]))) none by kernel_rfl]
  rw [show decide ((s.size : Int) = s.size ∧ s.size ≤ 8000) = decide (s.size ≤ 8000) from decide_eq_decide.2 (by omega), show decide ((s.size : Int) < (w.size : Int)) = decide (s.size < w.size) from decide_eq_decide.2 (by omega)]
  rfl⟩

def E41 (s w : ByteArray) (b : Bool) (z : V) (eb : Bool) (en i : Int) : Env := ⟨[(0, .str s), (1, .str w), (2, .bool b), (6, .ref 6 0), (7, .ref 7 0), (8, .int .i64 i)], [(6, some (.box 48 (zl z))), (7, some (.box 33 (ze eb en)))]⟩
def X41 (s w : ByteArray) (b : Bool) (v e : List AV) : Env := ⟨[(0, .str s), (1, .str w), (2, .bool b), (6, .ref 6 0), (7, .ref 7 0)], [(6, some (.box 48 v)), (7, some (.box 33 e))]⟩
def o41 : Orc := fun E k => match E with
  | ⟨[(0, .str s), (1, .str w), (2, .bool b), (6, .ref 6 0), (7, .ref 7 0), (8, .int .i64 0)], [(6, some (.box 48 [.int .i64 z1, .int .i64 z2, .str z3, .bool z4])), (7, some (.box 33 [.bool eb, .nsl, .int .i64 en]))]⟩ =>
    cond (decide (s.size ≤ 8000)) (cond (wordAt s w).isNone (k (.exit 0) (X41 s w b [.int .i64 z1, .int .i64 z2, .str z3, .bool z4] (ze eb en))) (k .ret (X41 s w b zeroL (eL [(1, oPos (wordAt s w))] 4)))) none
  | _ => none
def A41 : Anns := ⟨[(2, [.keep [0, 1, 2, 6, 7, 8] [6, 7]]), (100002, [.keep [0, 1, 2, 6, 7] [6, 7]])], [(2, o41)], 1000⟩
def L41 : List (Nat × Pev.CSpec) := [(75, sp38)]
theorem s41 : SpecsOk Tryz.prog (tabs 0 L41) := oneSpecT noSpecs ok38
noncomputable def loop41 : Code := loopAt 78 0
noncomputable abbrev L41' (m : Nat) (E : Env) (k : Exit → Env → Pev.R) : Pev.R := loopE (prep (tabs 0 L41) (annOf A41 loop41)) (evalC Tryz.prog (tabs 0 L41) A41 loop41) m E (outK (tabs 0 L41) A41 loop41 k)
theorem step41 (s w : ByteArray) (b : Bool) (z : V) (eb : Bool) (en i : Int) (m : Nat) (k : Exit → Env → Pev.R) :
    L41' (m + 1) (E41 s w b z eb en i) k = cond (decide (i < (s.size : Int))) (cond (decide (i ≥ (w.size : Int))) (k .ret (X41 s w b zeroL (eL [(1, i)] 4))) (cond (decide (0 ≤ i)) (cond (decide (i < (s.size : Int))) (cond (decide (0 ≤ i)) (cond (decide (i < (w.size : Int)))
      (cond (by' s i.toNat != by' w i.toNat) (k .ret (X41 s w b zeroL (eL [(1, i)] 4))) (L41' m (E41 s w b z eb en (IntKind.i64.wrap (i + 1))) k)) none) none) none) none)) (k (.exit 0) (X41 s w b (zl z) (ze eb en))) := by kernel_rfl
theorem all41 (s w : ByteArray) (b : Bool) (z : V) (eb : Bool) (en : Int) (hs : s.size ≤ 8000) (k : Exit → Env → Pev.R) : ∀ (f i : Nat), s.size ≤ i + f →
    L41' (f + 1) (E41 s w b z eb en i) k = (match wordR s w (f + 1) i with | none => k (.exit 0) (X41 s w b (zl z) (ze eb en)) | some p => k .ret (X41 s w b zeroL (eL [(1, (p : Int))] 4)))
  | 0, i, h => by
    rw [step41, wordR, show decide ((i : Int) < (s.size : Int)) = false from decide_eq_false (by omega), show decide (i < s.size) = false from decide_eq_false (by omega)]
    rfl
  | f + 1, i, h => by
    rw [step41, wordR]
    by_cases ha : i < s.size
    · rw [show decide ((i : Int) < (s.size : Int)) = true from decide_eq_true (by omega), show decide (i < s.size) = true from decide_eq_true ha, show decide (0 ≤ (i : Int)) = true from decide_eq_true (by omega), i64w ((i : Int) + 1) (by omega) (by omega), Int.toNat_natCast]
      simp only [cond_true]
      by_cases hw : w.size ≤ i
      · rw [show decide ((i : Int) ≥ (w.size : Int)) = true from decide_eq_true (by omega), show decide (w.size ≤ i) = true from decide_eq_true hw]
        rfl
      · rw [show decide ((i : Int) ≥ (w.size : Int)) = false from decide_eq_false (by omega), show decide (w.size ≤ i) = false from decide_eq_false hw, show decide ((i : Int) < (w.size : Int)) = true from decide_eq_true (by omega)]
        simp only [cond_true, cond_false, bne]
        cases by' s i == by' w i with
        | true =>
          simp only [Bool.not_true, cond_true, cond_false]
          exact all41 s w b z eb en hs k f (i + 1) (by omega)
        | false => rfl
    · rw [show decide ((i : Int) < (s.size : Int)) = false from decide_eq_false (by omega), show decide (i < s.size) = false from decide_eq_false ha]
      rfl
theorem orc41 : OrcOk Tryz.prog (tabs 0 L41) A41 loop41 := by
  intro o ho E k r h
  obtain rfl := orcIs (show orcOf A41 loop41 = some o41 by kernel_rfl) ho
  unfold o41 at h
  split at h
  · rename_i s w b z1 z2 z3 z4 eb en
    cases hd : decide (s.size ≤ 8000) with
    | false => rw [hd] at h; cases h
    | true =>
      rw [hd] at h
      refine ⟨s.size + 1, (all41 s w b (z1, z2, z3, z4) eb en (of_decide_eq_true hd) k s.size 0 (by omega)).trans ?_⟩
      rw [← h]
      unfold wordAt
      cases wordR s w (s.size + 1) 0 <;> rfl
  · cases h
def sp41 : Pev.CSpec := ⟨fun | [.str s, .str w, .bool b] => .br (decide (s.size ≤ 8000)) (.br (wordAt s w).isNone (.br (decide (s.size < w.size)) (.ret (.tup [zeroV, agE true [(1, s.size)] 4])) (.ret (.tup [.ag [.int .i64 3, .int .i64 0, .str ⟨#[]⟩, .bool b], agE false [] 0]))) (.ret (.tup [zeroV, agE true [(1, oPos (wordAt s w))] 4]))) .fail | _ => .fail⟩
theorem ok41 : EnterOk Tryz.prog 78 ∧ CSpecOk Tryz.prog cfg 78 sp41 := ⟨enter Tryz.func78 (by kernel_rfl) (by kernel_rfl), by
  intro args res h
  unfold sp41 at h
  simp only at h
  split at h <;> try (cases h; done)
  rename_i s w b
  refine done1 s41 (A := A41) (c := loop41) (by kernel_rfl) orc41 (by kernel_rfl) ?_
  rw [← h, show evalF Tryz.prog (tabs 0 L41) A41 78 [.str s, .str w, .bool b] = cond (decide (s.size ≤ 8000)) (cond (wordAt s w).isNone (cond (decide ((s.size : Int) < (w.size : Int))) (some (.tup [zeroV, agE true [(1, s.size)] 4])) (some (.tup [.ag [.int .i64 3, .int .i64 0, .str ⟨#[]⟩, .bool b], agE false [] 0]))) (some (.tup [zeroV, agE true [(1, oPos (wordAt s w))] 4]))) none by kernel_rfl]
  rw [show decide ((s.size : Int) < (w.size : Int)) = decide (s.size < w.size) from decide_eq_decide.2 (by omega)]
  rfl⟩
end Go.Proofs.YtkkgimhjjhhkjaaGreatDoor
/- Numerals: plain law. -/
namespace Go.Proofs.YtkkgimhjjhhkjaaGreatDoor
open Go Go.Pev

def isDig (c : UInt8) : Bool := decide (48 ≤ c.toNat) && decide (c.toNat ≤ 57)
def valF (n : Nat) (l : List UInt8) : Nat := l.foldl (fun n c => n * 10 + (c.toNat - 48)) n
theorem valF_le : ∀ (l : List UInt8) (n : Nat), n ≤ valF n l
  | [], n => Nat.le_refl n
  | c :: l, n => Nat.le_trans (by omega) (valF_le l (n * 10 + (c.toNat - 48)))
theorem valF_append (l m : List UInt8) (n : Nat) : valF n (l ++ m) = valF (valF n l) m := List.foldl_append
theorem parseM : ∀ (l : List UInt8) (n : Nat), l.all isDig = true → n ≤ 18446744073709551615 →
    Lib.parseUintM 18446744073709551615 n l = if valF n l ≤ 18446744073709551615 then .ok (valF n l) else .range
  | [], n, _, hn => by simp [Lib.parseUintM, valF, hn]
  | c :: l, n, h, hn => by
    simp only [List.all_cons, Bool.and_eq_true] at h
    obtain ⟨hc, hl⟩ := h
    have hc' : 48 ≤ c.toNat ∧ c.toNat ≤ 57 := by unfold isDig at hc; simpa using hc
    have hv : valF n (c :: l) = valF (n * 10 + (c.toNat - 48)) l := rfl
    have hle := valF_le l (n * 10 + (c.toNat - 48))
    simp only [Lib.parseUintM, hc', and_self, if_true]
    by_cases h1 : 1844674407370955162 ≤ n
    · rw [if_pos h1, if_neg (by rw [hv]; omega)]
    · rw [if_neg h1]
      by_cases h2 : 18446744073709551615 < n * 10 + (c.toNat - 48)
      · rw [if_pos h2, if_neg (by rw [hv]; omega)]
      · rw [if_neg h2, parseM l _ hl (by omega), hv]
/-- The sign ahead, and how far a number goes with it. -/
def limOf (neg : Bool) : Nat := cond neg 9223372036854775808 9223372036854775807
def preOf (neg : Bool) : List UInt8 := cond neg [45] []
def sgn (neg : Bool) (n : Nat) : Int := cond neg (-(n : Int)) n
theorem parseI (neg : Bool) (ds : List UInt8) (hd : ds.all isDig = true) (hn : ds ≠ []) : Lib.parseIntB 64 (preOf neg ++ ds) = if valF 0 ds ≤ limOf neg then .ok (sgn neg (valF 0 ds)) else .range := by
  have hu : Lib.parseUintB 64 ds = if valF 0 ds ≤ 18446744073709551615 then .ok (valF 0 ds) else .range := by
    unfold Lib.parseUintB
    rw [if_neg hn]
    exact parseM ds 0 hd (by omega)
  cases neg with
  | true =>
    show Lib.parseIntB 64 (45 :: ds) = _
    simp only [Lib.parseIntB, show (45 : UInt8).toNat = 45 from rfl, or_true, if_true, hu]
    by_cases h1 : valF 0 ds ≤ 18446744073709551615
    · rw [if_pos h1]
      by_cases h2 : valF 0 ds ≤ 9223372036854775808
      · rw [if_pos (show valF 0 ds ≤ limOf true from h2)]
        simp [sgn, show ¬ 9223372036854775808 < valF 0 ds by omega]
      · rw [if_neg (show ¬ valF 0 ds ≤ limOf true from h2)]
        simp [show 9223372036854775808 < valF 0 ds by omega]
    · rw [if_neg h1, if_neg (show ¬ valF 0 ds ≤ limOf true by show ¬ valF 0 ds ≤ 9223372036854775808; omega)]
  | false =>
    show Lib.parseIntB 64 ds = _
    cases ds with
    | nil => exact absurd rfl hn
    | cons c l =>
      simp only [List.all_cons, Bool.and_eq_true] at hd
      have hc' : 48 ≤ c.toNat ∧ c.toNat ≤ 57 := by have := hd.1; unfold isDig at this; simpa using this
      simp only [Lib.parseIntB, show (c.toNat = 43) = False by simp; omega, show (c.toNat = 45) = False by simp; omega, or_self, if_false, hu]
      by_cases h1 : valF 0 (c :: l) ≤ 18446744073709551615
      · rw [if_pos h1]
        by_cases h2 : valF 0 (c :: l) ≤ 9223372036854775807
        · rw [if_pos (show valF 0 (c :: l) ≤ limOf false from h2)]
          simp [sgn, show ¬ 9223372036854775808 ≤ valF 0 (c :: l) by omega]
        · rw [if_neg (show ¬ valF 0 (c :: l) ≤ limOf false from h2)]
          simp [show 9223372036854775808 ≤ valF 0 (c :: l) by omega]
      · rw [if_neg h1, if_neg (show ¬ valF 0 (c :: l) ≤ limOf false by show ¬ valF 0 (c :: l) ≤ 9223372036854775807; omega)]
theorem piOk_is {s : ByteArray} {neg : Bool} {ds : List UInt8} (h : s.data.toList = preOf neg ++ ds) (hd : ds.all isDig = true) (hn : ds ≠ []) : piOk s = decide (valF 0 ds ≤ limOf neg) := by
  unfold piOk
  rw [h, parseI neg ds hd hn]
  by_cases h1 : valF 0 ds ≤ limOf neg
  · simp [h1]
  · simp [h1]
theorem piV_is {s : ByteArray} {neg : Bool} {ds : List UInt8} (h : s.data.toList = preOf neg ++ ds) (hd : ds.all isDig = true) (hn : ds ≠ []) (hl : valF 0 ds ≤ limOf neg) : piV s = sgn neg (valF 0 ds) := by
  unfold piV
  rw [h, parseI neg ds hd hn, if_pos hl]

/-- What comes of reading a number's text: a fault's place, or a number. -/
inductive NRd where
  | bad (p : Nat)
  | ok (n : Nat)
def NRd.isOk : NRd → Bool | .ok _ => true | _ => false
def NRd.pos : NRd → Nat | .bad p => p | _ => 0
def NRd.num : NRd → Nat | .ok n => n | _ => 0
def numR (s : ByteArray) (a lim : Nat) : Nat → Nat → Nat → NRd
  | 0, _, n => .ok n
  | f + 1, i, n => cond (decide (i < s.size)) (cond (decide (by' s i < 48)) (.bad i) (cond (decide (by' s i > 57)) (.bad i) (cond (decide (a < i) && (by' s a == 48)) (.bad i)
    (cond (decide (n * 10 + ((s.data.toList.getD i 0).toNat - 48) ≤ lim)) (numR s a lim f (i + 1) (n * 10 + ((s.data.toList.getD i 0).toNat - 48))) (.bad i))))) (.ok n)
/-- The digits from a on, as far as i. -/
def digs (s : ByteArray) (a i : Nat) : List UInt8 := (s.data.toList.drop a).take (i - a)
theorem digs_succ (s : ByteArray) (a i : Nat) (ha : a ≤ i) (hi : i < s.size) : digs s a (i + 1) = digs s a i ++ [s.data.toList.getD i 0] := by
  unfold digs
  have hl : i < s.data.toList.length := by rw [size_list]; exact hi
  rw [show i + 1 - a = (i - a) + 1 by omega, List.take_add_one, List.getElem?_drop, show a + (i - a) = i by omega]
  simp [List.getD_eq_getElem?_getD, hi]
theorem digs_self (s : ByteArray) (a : Nat) : digs s a a = [] := by simp [digs]
theorem digs_take (s : ByteArray) (a i : Nat) (ha : a ≤ i) : s.data.toList.take i = s.data.toList.take a ++ digs s a i := by
  unfold digs
  rw [← List.take_add, show a + (i - a) = i by omega]
theorem isDig_by {s : ByteArray} {i : Nat} (h1 : ¬ by' s i < 48) (h2 : ¬ by' s i > 57) : isDig (s.data.toList.getD i 0) = true := by
  have e : by' s i = ((s.data.toList.getD i 0).toNat : Int) := rfl
  rw [e] at h1 h2
  unfold isDig
  simp only [Bool.and_eq_true, decide_eq_true_eq]
  omega
theorem numR_ok (s : ByteArray) (a lim : Nat) : ∀ (f i n m : Nat), s.size ≤ i + f → a ≤ i → i ≤ s.size → (digs s a i).all isDig = true → n = valF 0 (digs s a i) → (digs s a i = [] ∨ n ≤ lim) → numR s a lim (f + 1) i n = .ok m →
    (digs s a s.size).all isDig = true ∧ m = valF 0 (digs s a s.size) ∧ (digs s a s.size = [] ∨ m ≤ lim)
  | f, i, n, m, hf, ha, hi, hd, hn, hl, h => by
    rw [numR] at h
    by_cases hlt : i < s.size
    · rw [show decide (i < s.size) = true from decide_eq_true hlt, cond_true] at h
      cases h1 : decide (by' s i < 48) with
      | true => rw [h1] at h; cases h
      | false =>
        cases h2 : decide (by' s i > 57) with
        | true => rw [h1, h2] at h; cases h
        | false =>
          cases h3 : (decide (a < i) && (by' s a == 48)) with
          | true => rw [h1, h2, h3] at h; cases h
          | false =>
            rw [h1, h2, h3] at h
            simp only [cond_false] at h
            cases h4 : decide (n * 10 + ((s.data.toList.getD i 0).toNat - 48) ≤ lim) with
            | false => rw [h4] at h; cases h
            | true =>
              rw [h4] at h
              simp only [cond_true] at h
              have hg := isDig_by (of_decide_eq_false h1) (of_decide_eq_false h2)
              match f, hf, h with
              | 0, hf, h => omega
              | f + 1, hf, h =>
                refine numR_ok s a lim f (i + 1) _ m (by omega) (by omega) (by omega) ?_ ?_ (.inr (of_decide_eq_true h4)) h
                · rw [digs_succ s a i ha hlt, List.all_append, hd, List.all_cons, hg]; rfl
                · rw [digs_succ s a i ha hlt, valF_append, ← hn]; rfl
    · rw [show decide (i < s.size) = false from decide_eq_false hlt, cond_false] at h
      have e : i = s.size := by omega
      subst e
      injection h with h
      subst h
      exact ⟨hd, hn, hl⟩
end Go.Proofs.YtkkgimhjjhhkjaaGreatDoor
/- value.number: a number's text is read. -/
namespace Go.Proofs.YtkkgimhjjhhkjaaGreatDoor
open Go Go.Pev

def isNeg (s : ByteArray) : Bool := by' s 0 == 45
def fromOf (s : ByteArray) : Nat := cond (isNeg s) 1 0
/-- A number, from its first digit on. -/
def numAt (s : ByteArray) : NRd := numR s (fromOf s) (limOf (isNeg s)) (s.size + 1) (fromOf s) 0
def L27 : List (Nat × Pev.CSpec) := [(68, sp26), (93, sp47)]
theorem s27 : SpecsOk Tryz.prog (tabsT L27) := oneSpecTT (oneSpecTT noSpecsT ok47) (liftT ok26)
def E27 (s : ByteArray) (z : V) (a i : Int) : Env := ⟨[(0, .str s), (2, .ref 2 0), (3, .err none), (4, .int .i64 a), (5, .int .i64 i)], [(2, some (.box 48 (zl z)))]⟩
def o27 : Orc := fun E k => match E with
  | ⟨[(0, .str s), (2, .ref 2 0), (3, .err none), (4, .int .i64 a), (5, .int .i64 i)], [(2, some (.box 48 [.int .i64 z1, .int .i64 z2, .str z3, .bool z4]))]⟩ =>
    cond (decide (a = (fromOf s : Nat) ∧ i = a ∧ s.size ≤ 8000 ∧ fromOf s ≤ s.size)) (cond (numAt s).isOk (k (.exit 0) (X28 s none [.int .i64 z1, .int .i64 z2, .str z3, .bool z4])) (k .ret (X28 s (badE (numAt s).pos) zeroL))) none
  | _ => none
def A27 : Anns := ⟨[(7, [.keep [0, 2, 3, 4, 5] [2]]), (100007, [.keep [0, 2, 3] [2]])], [(7, o27)], 1000⟩
noncomputable def loop27 : Code := loopAt 69 0
noncomputable abbrev L27' (m : Nat) (E : Env) (k : Exit → Env → Pev.R) : Pev.R := loopE (prep (tabsT L27) (annOf A27 loop27)) (evalC Tryz.prog (tabsT L27) A27 loop27) m E (outK (tabsT L27) A27 loop27 k)
theorem step27 (s : ByteArray) (z : V) (a i : Int) (m : Nat) (k : Exit → Env → Pev.R) :
    L27' (m + 1) (E27 s z a i) k =
      let j : Int := IntKind.i64.wrap (i + 1)
      let pre : ByteArray := s.extract (0 : Int).toNat j.toNat
      let parse : Pev.R := cond (decide (0 ≤ j)) (cond (decide (j ≤ (s.size : Int))) (cond (decide (pre.size ≤ 281474976710656)) (cond (piOk pre) (L27' m (E27 s z a j) k) (k .ret (X28 s (badE i) zeroL))) none) none) none
      cond (decide (i < (s.size : Int))) (cond (decide (0 ≤ i)) (cond (decide (i < (s.size : Int))) (cond (decide (by' s i.toNat < 48)) (k .ret (X28 s (badE i) zeroL)) (cond (decide (0 ≤ i)) (cond (decide (i < (s.size : Int)))
        (cond (decide (by' s i.toNat > 57)) (k .ret (X28 s (badE i) zeroL)) (cond (decide (i > a)) (cond (decide (0 ≤ a)) (cond (decide (a < (s.size : Int))) (cond (by' s a.toNat == 48) (k .ret (X28 s (badE i) zeroL)) parse) none) none) parse)) none) none)) none) none) (k (.exit 0) (X28 s none (zl z))) := by kernel_rfl
theorem pre_take (s : ByteArray) (hs : isNeg s = true → s.size ≠ 0) : s.data.toList.take (fromOf s) = preOf (isNeg s) := by
  unfold fromOf preOf
  cases hn : isNeg s with
  | false => rfl
  | true =>
    have h0 : 0 < s.data.toList.length := by rw [size_list]; exact Nat.pos_of_ne_zero (hs hn)
    simp only [cond_true]
    unfold isNeg by' at hn
    have h1 : (s.data.toList.getD 0 0).toNat = 45 := by have := eq_of_beq hn; omega
    cases hl : s.data.toList with
    | nil => rw [hl] at h0; simp at h0
    | cons c l =>
      rw [hl] at h1
      simp only [List.getD_cons_zero] at h1
      rw [show c = 45 from UInt8.toNat_inj.1 h1]
      rfl
theorem all27 (s : ByteArray) (z : V) (hs : s.size ≤ 8000) (k : Exit → Env → Pev.R) : ∀ (f i n : Nat), s.size ≤ i + f → fromOf s ≤ i → i ≤ s.size → (digs s (fromOf s) i).all isDig = true → n = valF 0 (digs s (fromOf s) i) →
    L27' (f + 1) (E27 s z (fromOf s : Nat) i) k = (match numR s (fromOf s) (limOf (isNeg s)) (f + 1) i n with | .ok _ => k (.exit 0) (X28 s none (zl z)) | .bad p => k .ret (X28 s (badE p) zeroL))
  | f, i, n, hf, ha, hi, hd, hn => by
    rw [step27, numR]
    by_cases hlt : i < s.size
    · rw [show decide ((i : Int) < (s.size : Int)) = true from decide_eq_true (by omega), show decide (i < s.size) = true from decide_eq_true hlt, show decide (0 ≤ (i : Int)) = true from decide_eq_true (by omega), show decide (0 ≤ ((fromOf s : Nat) : Int)) = true from decide_eq_true (by omega), show decide (((fromOf s : Nat) : Int) < (s.size : Int)) = true from decide_eq_true (by omega)]
      simp only [cond_true, Int.toNat_natCast]
      rw [i64w ((i : Int) + 1) (by omega) (by omega)]
      have e1 : ((i : Int) + 1) = ((i + 1 : Nat) : Int) := rfl
      simp only [e1, Int.toNat_natCast, Int.toNat_zero]
      rw [show decide (0 ≤ ((i + 1 : Nat) : Int)) = true from decide_eq_true (by omega), show decide (((i + 1 : Nat) : Int) ≤ (s.size : Int)) = true from decide_eq_true (by omega)]
      rw [show decide ((s.extract 0 (i + 1)).size ≤ 281474976710656) = true from decide_eq_true (by rw [ByteArray.size_extract]; omega), show decide ((i : Int) > ((fromOf s : Nat) : Int)) = decide (fromOf s < i) from decide_eq_decide.2 (by omega)]
      simp only [cond_true]
      cases h1 : decide (by' s i < 48) with
      | true => rfl
      | false =>
        cases h2 : decide (by' s i > 57) with
        | true => rfl
        | false =>
          have hg := isDig_by (of_decide_eq_false h1) (of_decide_eq_false h2)
          have hsu := digs_succ s (fromOf s) i ha hlt
          have hds : (digs s (fromOf s) (i + 1)).all isDig = true := by rw [hsu, List.all_append, hd, List.all_cons, hg]; rfl
          have hv : valF 0 (digs s (fromOf s) (i + 1)) = n * 10 + ((s.data.toList.getD i 0).toNat - 48) := by rw [hsu, valF_append, ← hn]; rfl
          have hp : piOk (s.extract 0 (i + 1)) = decide (n * 10 + ((s.data.toList.getD i 0).toNat - 48) ≤ limOf (isNeg s)) := by
            rw [← hv]
            refine piOk_is (neg := isNeg s) (ds := digs s (fromOf s) (i + 1)) ?_ hds (by rw [hsu]; simp)
            rw [← pre_take s (fun _ => by omega), ← digs_take s (fromOf s) (i + 1) (by omega)]
            simp [ByteArray.data_extract]
          rw [hp]
          have next : ∀ (b : Bool), b = decide (n * 10 + ((s.data.toList.getD i 0).toNat - 48) ≤ limOf (isNeg s)) → (cond b (L27' f (E27 s z (fromOf s : Nat) ((i + 1 : Nat) : Int)) k) (k .ret (X28 s (badE i) zeroL))) =
              (match cond b (numR s (fromOf s) (limOf (isNeg s)) f (i + 1) (n * 10 + ((s.data.toList.getD i 0).toNat - 48))) (.bad i) with | .ok _ => k (.exit 0) (X28 s none (zl z)) | .bad p => k .ret (X28 s (badE p) zeroL)) := by
            intro b _
            cases b with
            | false => rfl
            | true =>
              simp only [cond_true]
              match f, hf with
              | 0, hf => omega
              | f + 1, hf => exact all27 s z hs k f (i + 1) _ (by omega) (by omega) (by omega) hds hv.symm
          cases h3 : decide (fromOf s < i) with
          | false =>
            simp only [cond_false, Bool.false_and]
            exact next _ rfl
          | true =>
            simp only [cond_false, cond_true, Bool.true_and]
            cases by' s (fromOf s) == 48 with
            | true => rfl
            | false =>
              simp only [cond_false]
              exact next _ rfl
    · rw [show decide ((i : Int) < (s.size : Int)) = false from decide_eq_false (by omega), show decide (i < s.size) = false from decide_eq_false hlt]
      rfl
theorem orc27 : OrcOk Tryz.prog (tabsT L27) A27 loop27 := by
  intro o ho E k r h
  obtain rfl := orcIs (show orcOf A27 loop27 = some o27 by kernel_rfl) ho
  unfold o27 at h
  split at h
  · rename_i s a i z1 z2 z3 z4
    cases hd : decide (a = (fromOf s : Nat) ∧ i = a ∧ s.size ≤ 8000 ∧ fromOf s ≤ s.size) with
    | false => rw [hd] at h; cases h
    | true =>
      rw [hd] at h
      obtain ⟨rfl, rfl, hs, hf⟩ := of_decide_eq_true hd
      refine ⟨s.size + 1, (all27 s (z1, z2, z3, z4) hs k s.size (fromOf s) 0 (by omega) (Nat.le_refl _) hf (by rw [digs_self]; rfl) (by rw [digs_self]; rfl)).trans ?_⟩
      rw [← h]
      show _ = cond (numAt s).isOk _ _
      unfold numAt
      cases numR s (fromOf s) (limOf (isNeg s)) (s.size + 1) (fromOf s) 0 <;> rfl
  · cases h
/-- Is a minus followed by no number? -/
def badNeg (s : ByteArray) : Bool := isNeg s && (decide (s.size = 1) || decide (by' s 1 < 49) || decide (by' s 1 > 57))
def sp27 : Pev.CSpec := ⟨fun
  | [.str s] => .br (decide (0 < s.size ∧ s.size ≤ 8000)) (.br (badNeg s) (.ret (.tup [zeroV, .err (badE 1)])) (.br (numAt s).isOk (.ret (.tup [.ag [.int .i64 1, .int .i64 (sgn (isNeg s) (numAt s).num), .str ⟨#[]⟩, .bool false], .err none])) (.ret (.tup [zeroV, .err (badE (numAt s).pos)])))) .fail
  | _ => .fail⟩
theorem from_lt {s : ByteArray} (h : 0 < s.size) (hb : badNeg s = false) : fromOf s < s.size := by
  unfold fromOf
  cases hn : isNeg s with
  | false => exact h
  | true =>
    unfold badNeg at hb
    rw [hn] at hb
    simp only [Bool.true_and, Bool.or_eq_false_iff, decide_eq_false_iff_not] at hb
    show 1 < s.size
    omega
theorem piV_num {s : ByteArray} (h : 0 < s.size) (hb : badNeg s = false) (ho : (numAt s).isOk = true) : piV s = sgn (isNeg s) (numAt s).num := by
  have hlt := from_lt h hb
  have hok : ∃ m, numAt s = .ok m := by
    cases hm : numAt s with
    | ok m => exact ⟨m, rfl⟩
    | bad p => rw [hm] at ho; cases ho
  obtain ⟨m, hm⟩ := hok
  rw [hm]
  unfold numAt at hm
  obtain ⟨h1, h2, h3⟩ := numR_ok s (fromOf s) (limOf (isNeg s)) s.size (fromOf s) 0 m (by omega) (Nat.le_refl _) (by omega) (by rw [digs_self]; rfl) (by rw [digs_self]; rfl) (.inl (digs_self s _)) hm
  have hne : digs s (fromOf s) s.size ≠ [] := by
    intro e
    have : (digs s (fromOf s) s.size).length = s.size - fromOf s := by unfold digs; rw [List.length_take, List.length_drop, size_list]; omega
    rw [e] at this
    simp at this
    omega
  have hl : s.data.toList = preOf (isNeg s) ++ digs s (fromOf s) s.size := by
    rw [← pre_take s (fun _ => by omega), ← digs_take s (fromOf s) s.size (by omega), List.take_of_length_le (by rw [size_list]; omega)]
  rw [piV_is hl h1 hne (by rw [← h2]; exact h3.resolve_left hne), ← h2]
  rfl
theorem ok27 : EnterOk Tryz.prog 69 ∧ CSpecOk Tryz.prog cfgT 69 sp27 := ⟨enter Tryz.func69 (by kernel_rfl) (by kernel_rfl), by
  intro args res h
  unfold sp27 at h
  simp only at h
  split at h <;> try (cases h; done)
  rename_i s
  cases hd : decide (0 < s.size ∧ s.size ≤ 8000) with
  | false => rw [hd] at h; cases h
  | true =>
    rw [hd] at h
    obtain ⟨h0, hs⟩ := of_decide_eq_true hd
    refine doneT1 s27 (A := A27) (c := loop27) (by kernel_rfl) orc27 (by kernel_rfl) ?_
    rw [← h]
    let bad1 : Option AV := some (.tup [zeroV, .err (badE 1)])
    let fin (a : Int) : Option AV := cond (decide (a = (fromOf s : Nat) ∧ a = a ∧ s.size ≤ 8000 ∧ fromOf s ≤ s.size)) (cond (numAt s).isOk (cond (decide (s.size ≤ 281474976710656)) (cond (piOk s) (some (.tup [.ag [.int .i64 1, .int .i64 (piV s), .str ⟨#[]⟩, .bool false], .err none])) (some (.tup [.ag [.int .i64 1, .int .i64 (piV s), .str ⟨#[]⟩, .bool false], .err none]))) none) (some (.tup [zeroV, .err (badE (numAt s).pos)]))) none
    rw [show evalF Tryz.prog (tabsT L27) A27 69 [.str s] = cond (decide (0 < (s.size : Int))) (cond (isNeg s) (cond ((s.size : Int) == 1) bad1 (cond (decide (1 < (s.size : Int))) (cond (decide (by' s 1 < 49)) bad1 (cond (decide (1 < (s.size : Int))) (cond (decide (by' s 1 > 57)) bad1 (fin 1)) none)) none)) (fin 0)) none by kernel_rfl]
    have hfin : badNeg s = false → fin (fromOf s : Nat) = (Tree.br (numAt s).isOk (.ret (.tup [.ag [.int .i64 1, .int .i64 (sgn (isNeg s) (numAt s).num), .str ⟨#[]⟩, .bool false], .err none])) (.ret (.tup [zeroV, .err (badE (numAt s).pos)]))).get := by
      intro hb
      have hlt := from_lt h0 hb
      show cond (decide (((fromOf s : Nat) : Int) = (fromOf s : Nat) ∧ ((fromOf s : Nat) : Int) = (fromOf s : Nat) ∧ s.size ≤ 8000 ∧ fromOf s ≤ s.size)) _ none = _
      rw [show decide (((fromOf s : Nat) : Int) = (fromOf s : Nat) ∧ ((fromOf s : Nat) : Int) = (fromOf s : Nat) ∧ s.size ≤ 8000 ∧ fromOf s ≤ s.size) = true from decide_eq_true ⟨rfl, rfl, hs, by omega⟩, show decide (s.size ≤ 281474976710656) = true from decide_eq_true (by omega)]
      cases ho : (numAt s).isOk with
      | false => rfl
      | true => rw [piV_num h0 hb ho]; cases piOk s <;> rfl
    rw [show decide (0 < (s.size : Int)) = true from decide_eq_true (by omega)]
    simp only [cond_true, Tree.get]
    cases hn : isNeg s with
    | false =>
      have hb : badNeg s = false := by unfold badNeg; rw [hn]; rfl
      have hfr : fromOf s = 0 := by unfold fromOf; rw [hn]; rfl
      have hh := hfin hb
      rw [hfr, hn] at hh
      rw [hb]
      exact hh
    | true =>
      have hfr : fromOf s = 1 := by unfold fromOf; rw [hn]; rfl
      simp only [cond_true]
      have hbn : badNeg s = (decide (s.size = 1) || decide (by' s 1 < 49) || decide (by' s 1 > 57)) := by unfold badNeg; rw [hn]; rfl
      by_cases h1 : s.size = 1
      · rw [show ((s.size : Int) == 1) = true by simp [h1], hbn, show decide (s.size = 1) = true from decide_eq_true h1]
        rfl
      · rw [show ((s.size : Int) == 1) = false by simp; omega, show decide (1 < (s.size : Int)) = true from decide_eq_true (by omega)]
        rw [show decide (s.size = 1) = false from decide_eq_false h1, Bool.false_or] at hbn
        simp only [cond_true, cond_false]
        cases h2 : decide (by' s 1 < 49) with
        | true => rw [hbn, h2]; rfl
        | false =>
          cases h3 : decide (by' s 1 > 57) with
          | true => rw [hbn, h2, h3]; rfl
          | false =>
            have hb : badNeg s = false := by rw [hbn, h2, h3]; rfl
            have hh := hfin hb
            rw [hfr, hn] at hh
            rw [hb]
            exact hh⟩
end Go.Proofs.YtkkgimhjjhhkjaaGreatDoor
/- aviaryref02.number: a number's text is read, digit by digit: the same. -/
namespace Go.Proofs.YtkkgimhjjhhkjaaGreatDoor
open Go Go.Pev

/-- The number so far, where the reading stops. -/
def numW (s : ByteArray) (a lim : Nat) : Nat → Nat → Nat → Nat
  | 0, _, n => n
  | f + 1, i, n => cond (decide (i < s.size)) (cond (decide (by' s i < 48)) n (cond (decide (by' s i > 57)) n (cond (decide (a < i) && (by' s a == 48)) n
    (cond (decide (n * 10 + ((s.data.toList.getD i 0).toNat - 48) ≤ lim)) (numW s a lim f (i + 1) (n * 10 + ((s.data.toList.getD i 0).toNat - 48))) n)))) n
theorem numW_ok (s : ByteArray) (a lim : Nat) : ∀ (f i n m : Nat), numR s a lim f i n = .ok m → numW s a lim f i n = m
  | 0, i, n, m, h => by injection h
  | f + 1, i, n, m, h => by
    rw [numR] at h
    rw [numW]
    revert h
    cases decide (i < s.size) <;> cases decide (by' s i < 48) <;> cases decide (by' s i > 57) <;> cases (decide (a < i) && (by' s a == 48)) <;> cases decide (n * 10 + ((s.data.toList.getD i 0).toNat - 48) ≤ lim) <;> intro h <;> first | (injection h; done) | (injection h with h; exact h) | exact numW_ok s a lim f _ _ m h | cases h
def L39 : List (Nat × Pev.CSpec) := [(75, sp38)]
theorem s39 : SpecsOk Tryz.prog (tabs 0 L39) := oneSpecT noSpecs ok38
def E39 (s : ByteArray) (z : V) (eb : Bool) (en : Int) (i : Int) (g : Bool) (n l a : Int) : Env := ⟨[(0, .str s), (2, .ref 2 0), (3, .ref 3 0), (4, .int .i64 i), (5, .bool g), (6, .int .u64 n), (7, .int .u64 l), (8, .int .i64 a)], [(2, some (.box 48 (zl z))), (3, some (.box 33 (ze eb en)))]⟩
def X39 (v e : List AV) (g : Bool) (n : Int) : Env := ⟨[(2, .ref 2 0), (3, .ref 3 0), (5, .bool g), (6, .int .u64 n)], [(2, some (.box 48 v)), (3, some (.box 33 e))]⟩
def numX (s : ByteArray) : Nat := numW s (fromOf s) (limOf (isNeg s)) (s.size + 1) (fromOf s) 0
def o39 : Orc := fun E k => match E with
  | ⟨[(0, .str s), (2, .ref 2 0), (3, .ref 3 0), (4, .int .i64 i), (5, .bool g), (6, .int .u64 0), (7, .int .u64 l), (8, .int .i64 a)], [(2, some (.box 48 [.int .i64 z1, .int .i64 z2, .str z3, .bool z4])), (3, some (.box 33 [.bool eb, .nsl, .int .i64 en]))]⟩ =>
    cond (decide (a = (fromOf s : Nat) ∧ i = a ∧ l = (limOf (isNeg s) : Nat) ∧ s.size ≤ 8000)) (cond (numAt s).isOk (k (.exit 0) (X39 [.int .i64 z1, .int .i64 z2, .str z3, .bool z4] (ze eb en) g (numX s))) (k .ret (X39 zeroL (eL [(1, (numAt s).pos)] 4) g (numX s)))) none
  | _ => none
def A39 : Anns := ⟨[(12, [.keep [0, 2, 3, 4, 5, 6, 7, 8] [2, 3]]), (100012, [.keep [2, 3, 5, 6] [2, 3]])], [(12, o39)], 1000⟩
noncomputable def loop39 : Code := loopAt 76 0
noncomputable abbrev L39' (m : Nat) (E : Env) (k : Exit → Env → Pev.R) : Pev.R := loopE (prep (tabs 0 L39) (annOf A39 loop39)) (evalC Tryz.prog (tabs 0 L39) A39 loop39) m E (outK (tabs 0 L39) A39 loop39 k)
def dZ (s : ByteArray) (i : Nat) : Int := IntKind.u64.wrap (IntKind.u8.wrap (by' s i - 48))
theorem step39 (s : ByteArray) (z : V) (eb : Bool) (en : Int) (i : Int) (g : Bool) (n l a : Int) (m : Nat) (k : Exit → Env → Pev.R) :
    L39' (m + 1) (E39 s z eb en i g n l a) k =
      let bad : Pev.R := k .ret (X39 zeroL (eL [(1, i)] 4) g n)
      let next : Pev.R := cond (decide (n > IntKind.u64.wrap ((IntKind.u64.wrap (l - dZ s i.toNat)).tdiv ((9 + 1 : Nat) : Int)))) bad (L39' m (E39 s z eb en (IntKind.i64.wrap (i + 1)) g (IntKind.u64.wrap (IntKind.u64.wrap (n * 10) + dZ s i.toNat)) l a) k)
      cond (decide (i < (s.size : Int))) (cond (decide (0 ≤ i)) (cond (decide (i < (s.size : Int))) (cond (decide (by' s i.toNat < 48)) bad (cond (decide (by' s i.toNat > 57)) bad
        (cond (decide (i > a)) (cond (decide (0 ≤ a)) (cond (decide (a < (s.size : Int))) (cond (by' s a.toNat == 48) bad next) none) none) next))) none) none) (k (.exit 0) (X39 (zl z) (ze eb en) g n)) := by kernel_rfl
theorem u64w (n : Int) (h1 : 0 ≤ n) (h2 : n ≤ 18446744073709551615) : IntKind.u64.wrap n = n := by rw [IntKind.wrap_u64]; omega
theorem u8w (n : Int) (h1 : 0 ≤ n) (h2 : n ≤ 255) : IntKind.u8.wrap n = n := by rw [IntKind.wrap_u8]; omega
theorem lim_le (g : Bool) : 9 ≤ limOf g ∧ limOf g ≤ 9223372036854775808 := by cases g <;> decide
theorem all39 (s : ByteArray) (z : V) (eb : Bool) (en : Int) (g : Bool) (hs : s.size ≤ 8000) (k : Exit → Env → Pev.R) : ∀ (f i n : Nat), s.size ≤ i + f → fromOf s ≤ i → n ≤ limOf (isNeg s) →
    L39' (f + 1) (E39 s z eb en i g n (limOf (isNeg s) : Nat) (fromOf s : Nat)) k = (match numR s (fromOf s) (limOf (isNeg s)) (f + 1) i n with
      | .ok _ => k (.exit 0) (X39 (zl z) (ze eb en) g (numW s (fromOf s) (limOf (isNeg s)) (f + 1) i n)) | .bad p => k .ret (X39 zeroL (eL [(1, (p : Int))] 4) g (numW s (fromOf s) (limOf (isNeg s)) (f + 1) i n)))
  | f, i, n, hf, ha, hl => by
    have hlim := lim_le (isNeg s)
    rw [step39, numR, numW]
    by_cases hlt : i < s.size
    · rw [show decide ((i : Int) < (s.size : Int)) = true from decide_eq_true (by omega), show decide (i < s.size) = true from decide_eq_true hlt, show decide (0 ≤ (i : Int)) = true from decide_eq_true (by omega), show decide (0 ≤ ((fromOf s : Nat) : Int)) = true from decide_eq_true (by omega), show decide (((fromOf s : Nat) : Int) < (s.size : Int)) = true from decide_eq_true (by omega)]
      simp only [cond_true, Int.toNat_natCast]
      rw [i64w ((i : Int) + 1) (by omega) (by omega), show decide ((i : Int) > ((fromOf s : Nat) : Int)) = decide (fromOf s < i) from decide_eq_decide.2 (by omega)]
      cases h1 : decide (by' s i < 48) with
      | true => rfl
      | false =>
        cases h2 : decide (by' s i > 57) with
        | true => rfl
        | false =>
          have g1 := of_decide_eq_false h1
          have g2 := of_decide_eq_false h2
          have e : by' s i = ((s.data.toList.getD i 0).toNat : Int) := rfl
          rw [e] at g1 g2
          have hdz : dZ s i = (((s.data.toList.getD i 0).toNat - 48 : Nat) : Int) := by
            unfold dZ
            rw [e, u8w _ (by omega) (by omega), u64w _ (by omega) (by omega)]
            omega
          have hd9 : (s.data.toList.getD i 0).toNat - 48 ≤ 9 := by omega
          generalize (s.data.toList.getD i 0).toNat - 48 = d at hdz hd9
          have hq : IntKind.u64.wrap ((IntKind.u64.wrap (((limOf (isNeg s) : Nat) : Int) - dZ s i)).tdiv ((9 + 1 : Nat) : Int)) = (((limOf (isNeg s) - d) / 10 : Nat) : Int) := by
            rw [hdz, show IntKind.u64.wrap (((limOf (isNeg s) : Nat) : Int) - (d : Int)) = ((limOf (isNeg s) - d : Nat) : Int) by rw [u64w _ (by omega) (by omega)]; omega, show (((limOf (isNeg s) - d : Nat) : Int)).tdiv ((9 + 1 : Nat) : Int) = (((limOf (isNeg s) - d) / 10 : Nat) : Int) from rfl, u64w _ (by omega) (by omega)]
          have next : cond (decide ((n : Int) > IntKind.u64.wrap ((IntKind.u64.wrap (((limOf (isNeg s) : Nat) : Int) - dZ s i)).tdiv ((9 + 1 : Nat) : Int)))) (k .ret (X39 zeroL (eL [(1, (i : Int))] 4) g n)) (L39' f (E39 s z eb en ((i : Int) + 1) g (IntKind.u64.wrap (IntKind.u64.wrap ((n : Int) * 10) + dZ s i)) (limOf (isNeg s) : Nat) (fromOf s : Nat)) k) =
              (match cond (decide (n * 10 + d ≤ limOf (isNeg s))) (numR s (fromOf s) (limOf (isNeg s)) f (i + 1) (n * 10 + d)) (.bad i) with
                | .ok _ => k (.exit 0) (X39 (zl z) (ze eb en) g (cond (decide (n * 10 + d ≤ limOf (isNeg s))) (numW s (fromOf s) (limOf (isNeg s)) f (i + 1) (n * 10 + d)) n : Nat))
                | .bad p => k .ret (X39 zeroL (eL [(1, (p : Int))] 4) g (cond (decide (n * 10 + d ≤ limOf (isNeg s))) (numW s (fromOf s) (limOf (isNeg s)) f (i + 1) (n * 10 + d)) n : Nat))) := by
            rw [hq]
            by_cases hle : n * 10 + d ≤ limOf (isNeg s)
            · rw [show decide ((n : Int) > (((limOf (isNeg s) - d) / 10 : Nat) : Int)) = false from decide_eq_false (by omega), show decide (n * 10 + d ≤ limOf (isNeg s)) = true from decide_eq_true hle]
              simp only [cond_true, cond_false]
              rw [hdz, u64w ((n : Int) * 10) (by omega) (by omega), u64w ((n : Int) * 10 + (d : Int)) (by omega) (by omega), show (n : Int) * 10 + (d : Int) = ((n * 10 + d : Nat) : Int) by omega, show (i : Int) + 1 = ((i + 1 : Nat) : Int) from rfl]
              match f, hf with
              | 0, hf => omega
              | f + 1, hf => exact all39 s z eb en g hs k f (i + 1) (n * 10 + d) (by omega) (by omega) hle
            · rw [show decide ((n : Int) > (((limOf (isNeg s) - d) / 10 : Nat) : Int)) = true from decide_eq_true (by omega), show decide (n * 10 + d ≤ limOf (isNeg s)) = false from decide_eq_false hle]
              rfl
          cases h3 : decide (fromOf s < i) with
          | false =>
            simp only [cond_false, Bool.false_and]
            exact next
          | true =>
            simp only [cond_false, cond_true, Bool.true_and]
            cases by' s (fromOf s) == 48 with
            | true => rfl
            | false =>
              simp only [cond_false]
              exact next
    · rw [show decide ((i : Int) < (s.size : Int)) = false from decide_eq_false (by omega), show decide (i < s.size) = false from decide_eq_false hlt]
      rfl
theorem orc39 : OrcOk Tryz.prog (tabs 0 L39) A39 loop39 := by
  intro o ho E k r h
  obtain rfl := orcIs (show orcOf A39 loop39 = some o39 by kernel_rfl) ho
  unfold o39 at h
  split at h
  · rename_i s i g l a z1 z2 z3 z4 eb en
    cases hd : decide (a = (fromOf s : Nat) ∧ i = a ∧ l = (limOf (isNeg s) : Nat) ∧ s.size ≤ 8000) with
    | false => rw [hd] at h; cases h
    | true =>
      rw [hd] at h
      obtain ⟨rfl, rfl, rfl, hs⟩ := of_decide_eq_true hd
      refine ⟨s.size + 1, (all39 s (z1, z2, z3, z4) eb en g hs k s.size (fromOf s) 0 (by omega) (Nat.le_refl _) (Nat.zero_le _)).trans ?_⟩
      rw [← h]
      show _ = cond (numAt s).isOk _ _
      unfold numAt numX
      cases numR s (fromOf s) (limOf (isNeg s)) (s.size + 1) (fromOf s) 0 <;> rfl
  · cases h
def sp39 : Pev.CSpec := ⟨fun
  | [.str s] => .br (decide (0 < s.size ∧ s.size ≤ 8000)) (.br (badNeg s) (.ret (.tup [zeroV, agE true [(1, 1)] 4])) (.br (numAt s).isOk (.ret (.tup [.ag [.int .i64 1, .int .i64 (sgn (isNeg s) (numAt s).num), .str ⟨#[]⟩, .bool false], agE false [] 0])) (.ret (.tup [zeroV, agE true [(1, (numAt s).pos)] 4])))) .fail
  | _ => .fail⟩
theorem numX_ok {s : ByteArray} (h : 0 < s.size) (hb : badNeg s = false) (ho : (numAt s).isOk = true) : numX s = (numAt s).num ∧ numX s ≤ limOf (isNeg s) := by
  have hlt := from_lt h hb
  have hok : ∃ m, numAt s = .ok m := by
    cases hm : numAt s with
    | ok m => exact ⟨m, rfl⟩
    | bad p => rw [hm] at ho; cases ho
  obtain ⟨m, hm⟩ := hok
  have hx : numX s = m := numW_ok s _ _ _ _ _ _ (by unfold numAt at hm; exact hm)
  rw [hm, hx]
  refine ⟨rfl, ?_⟩
  unfold numAt at hm
  obtain ⟨h1, h2, h3⟩ := numR_ok s (fromOf s) (limOf (isNeg s)) s.size (fromOf s) 0 m (by omega) (Nat.le_refl _) (by omega) (by rw [digs_self]; rfl) (by rw [digs_self]; rfl) (.inl (digs_self s _)) hm
  rcases h3 with h3 | h3
  · rw [h2, h3]; exact Nat.zero_le _
  · exact h3
theorem ok39 : EnterOk Tryz.prog 76 ∧ CSpecOk Tryz.prog cfg 76 sp39 := ⟨enter Tryz.func76 (by kernel_rfl) (by kernel_rfl), by
  intro args res h
  unfold sp39 at h
  simp only at h
  split at h <;> try (cases h; done)
  rename_i s
  cases hd : decide (0 < s.size ∧ s.size ≤ 8000) with
  | false => rw [hd] at h; cases h
  | true =>
    rw [hd] at h
    obtain ⟨h0, hs⟩ := of_decide_eq_true hd
    refine done1 s39 (A := A39) (c := loop39) (by kernel_rfl) orc39 (by kernel_rfl) ?_
    rw [← h]
    let bad1 : Option AV := some (.tup [zeroV, agE true [(1, 1)] 4])
    let fin (a l : Int) : Option AV := cond (decide (a = (fromOf s : Nat) ∧ a = a ∧ l = (limOf (isNeg s) : Nat) ∧ s.size ≤ 8000)) (cond (numAt s).isOk (cond (isNeg s) (some (.tup [.ag [.int .i64 1, .int .i64 (IntKind.i64.wrap (IntKind.u64.wrap (0 - (numX s : Int)))), .str ⟨#[]⟩, .bool false], agE false [] 0])) (some (.tup [.ag [.int .i64 1, .int .i64 (IntKind.i64.wrap (numX s : Int)), .str ⟨#[]⟩, .bool false], agE false [] 0]))) (some (.tup [zeroV, agE true [(1, (numAt s).pos)] 4]))) none
    let go (a : Int) : Option AV := cond (isNeg s) (fin a 9223372036854775808) (fin a 9223372036854775807)
    rw [show evalF Tryz.prog (tabs 0 L39) A39 76 [.str s] = cond (decide (0 < (s.size : Int))) (cond (isNeg s) (cond ((s.size : Int) == 1) bad1 (cond (decide (1 < (s.size : Int))) (cond (decide (by' s 1 < 49)) bad1 (cond (decide (1 < (s.size : Int))) (cond (decide (by' s 1 > 57)) bad1 (go 1)) none)) none)) (go 0)) none by kernel_rfl]
    have hgo : badNeg s = false → go (fromOf s : Nat) = (Tree.br (numAt s).isOk (.ret (.tup [.ag [.int .i64 1, .int .i64 (sgn (isNeg s) (numAt s).num), .str ⟨#[]⟩, .bool false], agE false [] 0])) (.ret (.tup [zeroV, agE true [(1, (numAt s).pos)] 4]))).get := by
      intro hb
      have hl : go (fromOf s : Nat) = fin (fromOf s : Nat) (limOf (isNeg s) : Nat) := by
        show cond (isNeg s) _ _ = _
        cases isNeg s <;> rfl
      rw [hl]
      show cond (decide (((fromOf s : Nat) : Int) = (fromOf s : Nat) ∧ ((fromOf s : Nat) : Int) = (fromOf s : Nat) ∧ ((limOf (isNeg s) : Nat) : Int) = (limOf (isNeg s) : Nat) ∧ s.size ≤ 8000)) _ none = _
      rw [show decide (((fromOf s : Nat) : Int) = (fromOf s : Nat) ∧ ((fromOf s : Nat) : Int) = (fromOf s : Nat) ∧ ((limOf (isNeg s) : Nat) : Int) = (limOf (isNeg s) : Nat) ∧ s.size ≤ 8000) = true from decide_eq_true ⟨rfl, rfl, rfl, hs⟩]
      cases ho : (numAt s).isOk with
      | false => rfl
      | true =>
        obtain ⟨e1, e2⟩ := numX_ok h0 hb ho
        rw [← e1]
        simp only [cond_true, Tree.get]
        cases hn : isNeg s with
        | false =>
          rw [hn] at e2
          have e2' : numX s ≤ 9223372036854775807 := e2
          simp only [cond_false]
          rw [i64w _ (by omega) (by omega)]
          rfl
        | true =>
          rw [hn] at e2
          have e2' : numX s ≤ 9223372036854775808 := e2
          simp only [cond_true]
          rw [show IntKind.i64.wrap (IntKind.u64.wrap (0 - (numX s : Int))) = -(numX s : Int) by rw [IntKind.wrap_u64, IntKind.wrap_i64]; omega]
          rfl
    rw [show decide (0 < (s.size : Int)) = true from decide_eq_true (by omega)]
    simp only [cond_true, Tree.get]
    cases hn : isNeg s with
    | false =>
      have hb : badNeg s = false := by unfold badNeg; rw [hn]; rfl
      have hfr : fromOf s = 0 := by unfold fromOf; rw [hn]; rfl
      have hh := hgo hb
      rw [hfr, hn] at hh
      rw [hb]
      exact hh
    | true =>
      have hfr : fromOf s = 1 := by unfold fromOf; rw [hn]; rfl
      simp only [cond_true]
      have hbn : badNeg s = (decide (s.size = 1) || decide (by' s 1 < 49) || decide (by' s 1 > 57)) := by unfold badNeg; rw [hn]; rfl
      by_cases h1 : s.size = 1
      · rw [show ((s.size : Int) == 1) = true by simp [h1], hbn, show decide (s.size = 1) = true from decide_eq_true h1]
        rfl
      · rw [show ((s.size : Int) == 1) = false by simp; omega, show decide (1 < (s.size : Int)) = true from decide_eq_true (by omega)]
        rw [show decide (s.size = 1) = false from decide_eq_false h1, Bool.false_or] at hbn
        simp only [cond_true, cond_false]
        cases h2 : decide (by' s 1 < 49) with
        | true => rw [hbn, h2]; rfl
        | false =>
          cases h3 : decide (by' s 1 > 57) with
          | true => rw [hbn, h2, h3]; rfl
          | false =>
            have hb : badNeg s = false := by rw [hbn, h2, h3]; rfl
            have hh := hgo hb
            rw [hfr, hn] at hh
            rw [hb]
            exact hh⟩
end Go.Proofs.YtkkgimhjjhhkjaaGreatDoor
/- value.Read and aviaryref02.Read: both answer the same. -/
namespace Go.Proofs.YtkkgimhjjhhkjaaGreatDoor
open Go Go.Pev

/-- What comes of reading a text. -/
inductive RRd where
  | bad (p : Nat)
  | long
  | val (v : V)
def RRd.isVal : RRd → Bool | .val _ => true | _ => false
def RRd.isBad : RRd → Bool | .bad _ => true | _ => false
def RRd.pos : RRd → Nat | .bad p => p | _ => 0
def RRd.v : RRd → V | .val v => v | _ => (0, 0, ⟨#[]⟩, false)
def readT (r : RRd) : Tree := .br r.isVal (.ret (.tup [av r.v, .err none])) (.br r.isBad (.ret (.tup [zeroV, .err (badE r.pos)])) (.ret (.tup [zeroV, .err (some ([], 2))])))
def readT' (r : RRd) : Tree := .br r.isVal (.ret (.tup [av r.v, agE false [] 0])) (.br r.isBad (.ret (.tup [zeroV, agE true [(1, r.pos)] 4])) (.ret (.tup [zeroV, agE true [] 2])))
def numRes (s : ByteArray) : RRd := cond (badNeg s) (.bad 1) (match numAt s with | .ok n => .val (1, sgn (isNeg s) n, ⟨#[]⟩, false) | .bad p => .bad p)
def strRes (s : ByteArray) : RRd := match strR s (s.size + 1) 1 [] with | .fin => .bad s.size | .bad p => .bad p | .long => .long | .ok b => .val (2, 0, ofU8s b, false)
def wordRes (s w : ByteArray) (b : Bool) : RRd := match wordAt s w with | none => cond (decide (s.size < w.size)) (.bad s.size) (.val (3, 0, ⟨#[]⟩, b)) | some p => .bad p
abbrev trueS : ByteArray := ⟨#[116, 114, 117, 101]⟩
abbrev falseS : ByteArray := ⟨#[102, 97, 108, 115, 101]⟩
def otherRes (s : ByteArray) : RRd := cond (by' s 0 == 34) (strRes s) (cond (by' s 0 == 116) (wordRes s trueS true) (cond (by' s 0 == 102) (wordRes s falseS false) (.bad 0)))
def readR (s : ByteArray) : RRd := cond (decide (s.size > 8000)) .long (cond (decide (s.size = 0)) (.bad 0)
  (cond (by' s 0 == 45) (numRes s) (cond (decide (by' s 0 ≥ 48)) (cond (decide (by' s 0 ≤ 57)) (numRes s) (otherRes s)) (otherRes s))))
theorem num_get (s : ByteArray) (h : 0 < s.size ∧ s.size ≤ 8000) : (sp27.f [.str s]).get = (readT (numRes s)).get := by
  show cond (decide (0 < s.size ∧ s.size ≤ 8000)) _ _ = _
  rw [decide_eq_true h]
  unfold numRes
  cases badNeg s with
  | true => rfl
  | false => cases hn : numAt s <;> simp [Tree.get, readT, RRd.isVal, RRd.isBad, RRd.pos, RRd.v, NRd.isOk, NRd.num, NRd.pos]
theorem num_get' (s : ByteArray) (h : 0 < s.size ∧ s.size ≤ 8000) : (sp39.f [.str s]).get = (readT' (numRes s)).get := by
  show cond (decide (0 < s.size ∧ s.size ≤ 8000)) _ _ = _
  rw [decide_eq_true h]
  unfold numRes
  cases badNeg s with
  | true => rfl
  | false => cases hn : numAt s <;> simp [Tree.get, readT', RRd.isVal, RRd.isBad, RRd.pos, RRd.v, NRd.isOk, NRd.num, NRd.pos]
theorem str_get (s : ByteArray) (h : s.size ≤ 8000) : (sp28.f [.str s]).get = (readT (strRes s)).get := by
  show cond (decide (s.size ≤ 8000)) _ _ = _
  rw [decide_eq_true h]
  unfold strRes
  cases strR s (s.size + 1) 1 [] <;> rfl
theorem str_get' (s : ByteArray) (h : s.size ≤ 8000) : (sp40.f [.str s]).get = (readT' (strRes s)).get := by
  show cond (decide (s.size ≤ 8000)) _ _ = _
  rw [decide_eq_true h]
  unfold strRes
  cases strR s (s.size + 1) 1 [] <;> rfl
theorem word_get (s w : ByteArray) (b : Bool) (h : s.size ≤ 8000) : (sp29.f [.str s, .str w, .bool b]).get = (readT (wordRes s w b)).get := by
  show cond (decide (s.size ≤ 8000)) _ _ = _
  rw [decide_eq_true h]
  unfold wordRes
  cases wordAt s w with
  | none => cases decide (s.size < w.size) <;> rfl
  | some p => rfl
theorem word_get' (s w : ByteArray) (b : Bool) (h : s.size ≤ 8000) : (sp41.f [.str s, .str w, .bool b]).get = (readT' (wordRes s w b)).get := by
  show cond (decide (s.size ≤ 8000)) _ _ = _
  rw [decide_eq_true h]
  unfold wordRes
  cases wordAt s w with
  | none => cases decide (s.size < w.size) <;> rfl
  | some p => rfl
theorem empty_is (s : ByteArray) : (s.toList == (⟨#[]⟩ : ByteArray).toList) = decide (s.size = 0) := by
  rw [ByteArray.toList_eq, ByteArray.toList_eq, ← size_list]
  show (s.data.toList == []) = _
  cases s.data.toList <;> rfl
def L12 : List (Nat × Pev.CSpec) := [(68, sp26), (69, sp27), (70, sp28), (71, sp29)]
theorem s12 : SpecsOk Tryz.prog (tabsT L12) := oneSpecTT (oneSpecTT (oneSpecTT (oneSpecTT noSpecsT (liftT ok29)) (liftT ok28)) ok27) (liftT ok26)
def sp12 : Pev.CSpec := ⟨fun | [.str s] => readT (readR s) | _ => .fail⟩
theorem ok12 : EnterOk Tryz.prog 43 ∧ CSpecOk Tryz.prog cfgT 43 sp12 := ⟨enter Tryz.func43 (by kernel_rfl) (by kernel_rfl), by
  intro args res h
  unfold sp12 at h
  simp only at h
  split at h <;> try (cases h; done)
  rename_i s
  refine doneT s12 (A := A0) rfl (by kernel_rfl) ?_
  rw [← h]
  let x : Option AV := cond (by' s 0 == 34) (sp28.f [.str s]).get (cond (by' s 0 == 116) (sp29.f [.str s, .str trueS, .bool true]).get (cond (by' s 0 == 102) (sp29.f [.str s, .str falseS, .bool false]).get (readT (.bad 0)).get))
  rw [show evalF Tryz.prog (tabsT L12) A0 43 [.str s] = cond (decide ((s.size : Int) > 8000)) (readT .long).get (cond (s.toList == (⟨#[]⟩ : ByteArray).toList) (readT (.bad 0)).get
    (cond (decide (0 < (s.size : Int))) (cond (by' s 0 == 45) (sp27.f [.str s]).get (cond (decide (by' s 0 ≥ 48)) (cond (decide (by' s 0 ≤ 57)) (sp27.f [.str s]).get x) x)) none)) by kernel_rfl]
  rw [empty_is, show decide ((s.size : Int) > 8000) = decide (s.size > 8000) from decide_eq_decide.2 (by omega)]
  unfold readR
  by_cases h1 : s.size > 8000
  · rw [decide_eq_true h1]; rfl
  · rw [decide_eq_false h1]
    by_cases h2 : s.size = 0
    · rw [decide_eq_true h2]; rfl
    · rw [decide_eq_false h2, show decide (0 < (s.size : Int)) = true from decide_eq_true (by omega)]
      simp only [cond_true, cond_false]
      have hx : x = (readT (otherRes s)).get := by
        show cond (by' s 0 == 34) _ _ = _
        rw [str_get s (by omega), word_get s trueS true (by omega), word_get s falseS false (by omega)]
        unfold otherRes
        cases by' s 0 == 34 <;> cases by' s 0 == 116 <;> cases by' s 0 == 102 <;> rfl
      rw [num_get s (by omega), hx]
      cases by' s 0 == 45 <;> cases decide (by' s 0 ≥ 48) <;> cases decide (by' s 0 ≤ 57) <;> rfl⟩
def L19 : List (Nat × Pev.CSpec) := [(28, sp22), (75, sp38), (76, sp39), (77, sp40), (78, sp41)]
theorem s19 : SpecsOk Tryz.prog (tabs 0 L19) := oneSpecT (oneSpecT (oneSpecT (oneSpecT (oneSpecT noSpecs ok41) ok40) ok39) ok38) (tree ok22)
def sp19 : Pev.CSpec := ⟨fun | [.str s] => readT' (readR s) | _ => .fail⟩
theorem ok19 : EnterOk Tryz.prog 48 ∧ CSpecOk Tryz.prog cfg 48 sp19 := ⟨enter Tryz.func48 (by kernel_rfl) (by kernel_rfl), by
  intro args res h
  unfold sp19 at h
  simp only at h
  split at h <;> try (cases h; done)
  rename_i s
  refine done s19 (A := A0) rfl (by kernel_rfl) ?_
  rw [← h]
  let x : Option AV := cond (decide (0 < (s.size : Int))) (cond (by' s 0 == 34) (sp40.f [.str s]).get (cond (decide (0 < (s.size : Int))) (cond (by' s 0 == 116) (sp41.f [.str s, .str trueS, .bool true]).get (cond (decide (0 < (s.size : Int))) (cond (by' s 0 == 102) (sp41.f [.str s, .str falseS, .bool false]).get (readT' (.bad 0)).get) none)) none)) none
  rw [show evalF Tryz.prog (tabs 0 L19) A0 48 [.str s] = cond (decide ((s.size : Int) > 8000)) (readT' .long).get (cond ((s.size : Int) == 0) (readT' (.bad 0)).get
    (cond (decide (0 < (s.size : Int))) (cond (by' s 0 == 45) (sp39.f [.str s]).get (cond (decide (0 < (s.size : Int))) (cond (decide (by' s 0 ≥ 48)) (cond (decide (0 < (s.size : Int))) (cond (decide (by' s 0 ≤ 57)) (sp39.f [.str s]).get x) none) x) none)) none)) by kernel_rfl]
  rw [show ((s.size : Int) == 0) = decide (s.size = 0) by rw [show ((s.size : Int) == 0) = decide ((s.size : Int) = 0) from rfl]; exact decide_eq_decide.2 (by omega), show decide ((s.size : Int) > 8000) = decide (s.size > 8000) from decide_eq_decide.2 (by omega)]
  unfold readR
  by_cases h1 : s.size > 8000
  · rw [decide_eq_true h1]; rfl
  · rw [decide_eq_false h1]
    by_cases h2 : s.size = 0
    · rw [decide_eq_true h2]; rfl
    · have h3 : decide (0 < (s.size : Int)) = true := decide_eq_true (by omega)
      have hx : x = (readT' (otherRes s)).get := by
        show cond (decide (0 < (s.size : Int))) _ _ = _
        rw [h3, str_get' s (by omega), word_get' s trueS true (by omega), word_get' s falseS false (by omega)]
        unfold otherRes
        cases by' s 0 == 34 <;> cases by' s 0 == 116 <;> cases by' s 0 == 102 <;> rfl
      rw [decide_eq_false h2, h3]
      simp only [cond_true, cond_false]
      rw [num_get' s (by omega), hx]
      cases by' s 0 == 45 <;> cases decide (by' s 0 ≥ 48) <;> cases decide (by' s 0 ≤ 57) <;> rfl⟩
def sp13 : Pev.CSpec := ⟨fun | [.str s] => .br (decide (s.size > 3000)) (.ret (.bool (decide (s.size ≤ 8000)))) (.ret (.bool false)) | _ => .fail⟩
end Go.Proofs.YtkkgimhjjhhkjaaGreatDoor
