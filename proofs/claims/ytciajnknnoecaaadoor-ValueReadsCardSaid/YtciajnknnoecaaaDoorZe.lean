/- aviaryref02.number: a number's text is read, digit by digit: the same. -/
import Derived.Test.YtciajnknnoecaaaDoorZd
namespace Go.Proofs.YtciajnknnoecaaaDoor
open Go Go.Pev

/-- The number so far, where the reading stops. -/
def numW (s : ByteArray) (a lim : Nat) : Nat → Nat → Nat → Nat
  | 0, _, n => n
  | f + 1, i, n => cond (decide (i < s.size)) (cond (decide (by' s i < 48)) n (cond (decide (by' s i > 57)) n (cond (decide (a < i) && (by' s a == 48)) n
    (cond (decide (n * 10 + ((s.data.toList.getD i 0).toNat - 48) ≤ lim)) (numW s a lim f (i + 1) (n * 10 + ((s.data.toList.getD i 0).toNat - 48))) n)))) n
theorem numW_ok (s : ByteArray) (a lim : Nat) : ∀ (f i n m : Nat), numR s a lim f i n = .ok m → numW s a lim f i n = m
  | 0, i, n, m, h => by injection h
  | f + 1, i, n, m, h => by
    rw [numR] at h
    rw [numW]
    revert h
    cases decide (i < s.size) <;> cases decide (by' s i < 48) <;> cases decide (by' s i > 57) <;> cases (decide (a < i) && (by' s a == 48)) <;> cases decide (n * 10 + ((s.data.toList.getD i 0).toNat - 48) ≤ lim) <;> intro h <;> first | (injection h; done) | (injection h with h; exact h) | exact numW_ok s a lim f _ _ m h | cases h
def L39 : List (Nat × Pev.CSpec) := [(38, sp38)]
theorem s39 : SpecsOk Tryd.prog (tabs 0 L39) := oneSpecT noSpecs ok38
def E39 (s : ByteArray) (z : V) (eb : Bool) (en : Int) (i : Int) (g : Bool) (n l a : Int) : Env := ⟨[(0, .str s), (2, .ref 2 0), (3, .ref 3 0), (4, .int .i64 i), (5, .bool g), (6, .int .u64 n), (7, .int .u64 l), (8, .int .i64 a)], [(2, some (.box 23 (zl z))), (3, some (.box 40 (ze eb en)))]⟩
def X39 (v e : List AV) (g : Bool) (n : Int) : Env := ⟨[(2, .ref 2 0), (3, .ref 3 0), (5, .bool g), (6, .int .u64 n)], [(2, some (.box 23 v)), (3, some (.box 40 e))]⟩
def numX (s : ByteArray) : Nat := numW s (fromOf s) (limOf (isNeg s)) (s.size + 1) (fromOf s) 0
def o39 : Orc := fun E k => match E with
  | ⟨[(0, .str s), (2, .ref 2 0), (3, .ref 3 0), (4, .int .i64 i), (5, .bool g), (6, .int .u64 0), (7, .int .u64 l), (8, .int .i64 a)], [(2, some (.box 23 [.int .i64 z1, .int .i64 z2, .str z3, .bool z4])), (3, some (.box 40 [.bool eb, .nsl, .int .i64 en]))]⟩ =>
    cond (decide (a = (fromOf s : Nat) ∧ i = a ∧ l = (limOf (isNeg s) : Nat) ∧ s.size ≤ 8000)) (cond (numAt s).isOk (k (.exit 0) (X39 [.int .i64 z1, .int .i64 z2, .str z3, .bool z4] (ze eb en) g (numX s))) (k .ret (X39 zeroL (eL [(1, (numAt s).pos)] 4) g (numX s)))) none
  | _ => none
def A39 : Anns := ⟨[(12, [.keep [0, 2, 3, 4, 5, 6, 7, 8] [2, 3]]), (100012, [.keep [2, 3, 5, 6] [2, 3]])], [(12, o39)], 1000⟩
noncomputable def loop39 : Code := loopAt 39 0
noncomputable abbrev L39' (m : Nat) (E : Env) (k : Exit → Env → Pev.R) : Pev.R := loopE (prep (tabs 0 L39) (annOf A39 loop39)) (evalC Tryd.prog (tabs 0 L39) A39 loop39) m E (outK (tabs 0 L39) A39 loop39 k)
def dZ (s : ByteArray) (i : Nat) : Int := IntKind.u64.wrap (IntKind.u8.wrap (by' s i - 48))
theorem step39 (s : ByteArray) (z : V) (eb : Bool) (en : Int) (i : Int) (g : Bool) (n l a : Int) (m : Nat) (k : Exit → Env → Pev.R) :
    L39' (m + 1) (E39 s z eb en i g n l a) k =
      let bad : Pev.R := k .ret (X39 zeroL (eL [(1, i)] 4) g n)
      let next : Pev.R := cond (decide (n > IntKind.u64.wrap ((IntKind.u64.wrap (l - dZ s i.toNat)).tdiv ((9 + 1 : Nat) : Int)))) bad (L39' m (E39 s z eb en (IntKind.i64.wrap (i + 1)) g (IntKind.u64.wrap (IntKind.u64.wrap (n * 10) + dZ s i.toNat)) l a) k)
      cond (decide (i < (s.size : Int))) (cond (decide (0 ≤ i)) (cond (decide (i < (s.size : Int))) (cond (decide (by' s i.toNat < 48)) bad (cond (decide (by' s i.toNat > 57)) bad
        (cond (decide (i > a)) (cond (decide (0 ≤ a)) (cond (decide (a < (s.size : Int))) (cond (by' s a.toNat == 48) bad next) none) none) next))) none) none) (k (.exit 0) (X39 (zl z) (ze eb en) g n)) := by kernel_rfl
theorem u64w (n : Int) (h1 : 0 ≤ n) (h2 : n ≤ 18446744073709551615) : IntKind.u64.wrap n = n := by rw [IntKind.wrap_u64]; omega
theorem u8w (n : Int) (h1 : 0 ≤ n) (h2 : n ≤ 255) : IntKind.u8.wrap n = n := by rw [IntKind.wrap_u8]; omega
theorem lim_le (g : Bool) : 9 ≤ limOf g ∧ limOf g ≤ 9223372036854775808 := by cases g <;> decide
theorem all39 (s : ByteArray) (z : V) (eb : Bool) (en : Int) (g : Bool) (hs : s.size ≤ 8000) (k : Exit → Env → Pev.R) : ∀ (f i n : Nat), s.size ≤ i + f → fromOf s ≤ i → n ≤ limOf (isNeg s) →
    L39' (f + 1) (E39 s z eb en i g n (limOf (isNeg s) : Nat) (fromOf s : Nat)) k = (match numR s (fromOf s) (limOf (isNeg s)) (f + 1) i n with
      | .ok _ => k (.exit 0) (X39 (zl z) (ze eb en) g (numW s (fromOf s) (limOf (isNeg s)) (f + 1) i n)) | .bad p => k .ret (X39 zeroL (eL [(1, (p : Int))] 4) g (numW s (fromOf s) (limOf (isNeg s)) (f + 1) i n)))
  | f, i, n, hf, ha, hl => by
    have hlim := lim_le (isNeg s)
    rw [step39, numR, numW]
    by_cases hlt : i < s.size
    · rw [show decide ((i : Int) < (s.size : Int)) = true from decide_eq_true (by omega), show decide (i < s.size) = true from decide_eq_true hlt, show decide (0 ≤ (i : Int)) = true from decide_eq_true (by omega), show decide (0 ≤ ((fromOf s : Nat) : Int)) = true from decide_eq_true (by omega), show decide (((fromOf s : Nat) : Int) < (s.size : Int)) = true from decide_eq_true (by omega)]
      simp only [cond_true, Int.toNat_natCast]
      rw [i64w ((i : Int) + 1) (by omega) (by omega), show decide ((i : Int) > ((fromOf s : Nat) : Int)) = decide (fromOf s < i) from decide_eq_decide.2 (by omega)]
      cases h1 : decide (by' s i < 48) with
      | true => rfl
      | false =>
        cases h2 : decide (by' s i > 57) with
        | true => rfl
        | false =>
          have g1 := of_decide_eq_false h1
          have g2 := of_decide_eq_false h2
          have e : by' s i = ((s.data.toList.getD i 0).toNat : Int) := rfl
          rw [e] at g1 g2
          have hdz : dZ s i = (((s.data.toList.getD i 0).toNat - 48 : Nat) : Int) := by
            unfold dZ
            rw [e, u8w _ (by omega) (by omega), u64w _ (by omega) (by omega)]
            omega
          have hd9 : (s.data.toList.getD i 0).toNat - 48 ≤ 9 := by omega
          generalize (s.data.toList.getD i 0).toNat - 48 = d at hdz hd9
          have hq : IntKind.u64.wrap ((IntKind.u64.wrap (((limOf (isNeg s) : Nat) : Int) - dZ s i)).tdiv ((9 + 1 : Nat) : Int)) = (((limOf (isNeg s) - d) / 10 : Nat) : Int) := by
            rw [hdz, show IntKind.u64.wrap (((limOf (isNeg s) : Nat) : Int) - (d : Int)) = ((limOf (isNeg s) - d : Nat) : Int) by rw [u64w _ (by omega) (by omega)]; omega, show (((limOf (isNeg s) - d : Nat) : Int)).tdiv ((9 + 1 : Nat) : Int) = (((limOf (isNeg s) - d) / 10 : Nat) : Int) from rfl, u64w _ (by omega) (by omega)]
          have next : cond (decide ((n : Int) > IntKind.u64.wrap ((IntKind.u64.wrap (((limOf (isNeg s) : Nat) : Int) - dZ s i)).tdiv ((9 + 1 : Nat) : Int)))) (k .ret (X39 zeroL (eL [(1, (i : Int))] 4) g n)) (L39' f (E39 s z eb en ((i : Int) + 1) g (IntKind.u64.wrap (IntKind.u64.wrap ((n : Int) * 10) + dZ s i)) (limOf (isNeg s) : Nat) (fromOf s : Nat)) k) =
              (match cond (decide (n * 10 + d ≤ limOf (isNeg s))) (numR s (fromOf s) (limOf (isNeg s)) f (i + 1) (n * 10 + d)) (.bad i) with
                | .ok _ => k (.exit 0) (X39 (zl z) (ze eb en) g (cond (decide (n * 10 + d ≤ limOf (isNeg s))) (numW s (fromOf s) (limOf (isNeg s)) f (i + 1) (n * 10 + d)) n : Nat))
                | .bad p => k .ret (X39 zeroL (eL [(1, (p : Int))] 4) g (cond (decide (n * 10 + d ≤ limOf (isNeg s))) (numW s (fromOf s) (limOf (isNeg s)) f (i + 1) (n * 10 + d)) n : Nat))) := by
            rw [hq]
            by_cases hle : n * 10 + d ≤ limOf (isNeg s)
            · rw [show decide ((n : Int) > (((limOf (isNeg s) - d) / 10 : Nat) : Int)) = false from decide_eq_false (by omega), show decide (n * 10 + d ≤ limOf (isNeg s)) = true from decide_eq_true hle]
              simp only [cond_true, cond_false]
              rw [hdz, u64w ((n : Int) * 10) (by omega) (by omega), u64w ((n : Int) * 10 + (d : Int)) (by omega) (by omega), show (n : Int) * 10 + (d : Int) = ((n * 10 + d : Nat) : Int) by omega, show (i : Int) + 1 = ((i + 1 : Nat) : Int) from rfl]
              match f, hf with
              | 0, hf => omega
              | f + 1, hf => exact all39 s z eb en g hs k f (i + 1) (n * 10 + d) (by omega) (by omega) hle
            · rw [show decide ((n : Int) > (((limOf (isNeg s) - d) / 10 : Nat) : Int)) = true from decide_eq_true (by omega), show decide (n * 10 + d ≤ limOf (isNeg s)) = false from decide_eq_false hle]
              rfl
          cases h3 : decide (fromOf s < i) with
          | false =>
            simp only [cond_false, Bool.false_and]
            exact next
          | true =>
            simp only [cond_false, cond_true, Bool.true_and]
            cases by' s (fromOf s) == 48 with
            | true => rfl
            | false =>
              simp only [cond_false]
              exact next
    · rw [show decide ((i : Int) < (s.size : Int)) = false from decide_eq_false (by omega), show decide (i < s.size) = false from decide_eq_false hlt]
      rfl
theorem orc39 : OrcOk Tryd.prog (tabs 0 L39) A39 loop39 := by
  intro o ho E k r h
  obtain rfl := orcIs (show orcOf A39 loop39 = some o39 by kernel_rfl) ho
  unfold o39 at h
  split at h
  · rename_i s i g l a z1 z2 z3 z4 eb en
    cases hd : decide (a = (fromOf s : Nat) ∧ i = a ∧ l = (limOf (isNeg s) : Nat) ∧ s.size ≤ 8000) with
    | false => rw [hd] at h; cases h
    | true =>
      rw [hd] at h
      obtain ⟨rfl, rfl, rfl, hs⟩ := of_decide_eq_true hd
      refine ⟨s.size + 1, (all39 s (z1, z2, z3, z4) eb en g hs k s.size (fromOf s) 0 (by omega) (Nat.le_refl _) (Nat.zero_le _)).trans ?_⟩
      rw [← h]
      show _ = cond (numAt s).isOk _ _
      unfold numAt numX
      cases numR s (fromOf s) (limOf (isNeg s)) (s.size + 1) (fromOf s) 0 <;> rfl
  · cases h
def sp39 : Pev.CSpec := ⟨fun
  | [.str s] => .br (decide (0 < s.size ∧ s.size ≤ 8000)) (.br (badNeg s) (.ret (.tup [zeroV, agE true [(1, 1)] 4])) (.br (numAt s).isOk (.ret (.tup [.ag [.int .i64 1, .int .i64 (sgn (isNeg s) (numAt s).num), .str ⟨#[]⟩, .bool false], agE false [] 0])) (.ret (.tup [zeroV, agE true [(1, (numAt s).pos)] 4])))) .fail
  | _ => .fail⟩
theorem numX_ok {s : ByteArray} (h : 0 < s.size) (hb : badNeg s = false) (ho : (numAt s).isOk = true) : numX s = (numAt s).num ∧ numX s ≤ limOf (isNeg s) := by
  have hlt := from_lt h hb
  have hok : ∃ m, numAt s = .ok m := by
    cases hm : numAt s with
    | ok m => exact ⟨m, rfl⟩
    | bad p => rw [hm] at ho; cases ho
  obtain ⟨m, hm⟩ := hok
  have hx : numX s = m := numW_ok s _ _ _ _ _ _ (by unfold numAt at hm; exact hm)
  rw [hm, hx]
  refine ⟨rfl, ?_⟩
  unfold numAt at hm
  obtain ⟨h1, h2, h3⟩ := numR_ok s (fromOf s) (limOf (isNeg s)) s.size (fromOf s) 0 m (by omega) (Nat.le_refl _) (by omega) (by rw [digs_self]; rfl) (by rw [digs_self]; rfl) (.inl (digs_self s _)) hm
  rcases h3 with h3 | h3
  · rw [h2, h3]; exact Nat.zero_le _
  · exact h3
theorem ok39 : EnterOk Tryd.prog 39 ∧ CSpecOk Tryd.prog cfg 39 sp39 := ⟨enter Tryd.func39 (by kernel_rfl) (by kernel_rfl), by
  intro args res h
  unfold sp39 at h
  simp only at h
  split at h <;> try (cases h; done)
  rename_i s
  cases hd : decide (0 < s.size ∧ s.size ≤ 8000) with
  | false => rw [hd] at h; cases h
  | true =>
    rw [hd] at h
    obtain ⟨h0, hs⟩ := of_decide_eq_true hd
    refine done1 s39 (A := A39) (c := loop39) (by kernel_rfl) orc39 (by kernel_rfl) ?_
    rw [← h]
    let bad1 : Option AV := some (.tup [zeroV, agE true [(1, 1)] 4])
    let fin (a l : Int) : Option AV := cond (decide (a = (fromOf s : Nat) ∧ a = a ∧ l = (limOf (isNeg s) : Nat) ∧ s.size ≤ 8000)) (cond (numAt s).isOk (cond (isNeg s) (some (.tup [.ag [.int .i64 1, .int .i64 (IntKind.i64.wrap (IntKind.u64.wrap (0 - (numX s : Int)))), .str ⟨#[]⟩, .bool false], agE false [] 0])) (some (.tup [.ag [.int .i64 1, .int .i64 (IntKind.i64.wrap (numX s : Int)), .str ⟨#[]⟩, .bool false], agE false [] 0]))) (some (.tup [zeroV, agE true [(1, (numAt s).pos)] 4]))) none
    let go (a : Int) : Option AV := cond (isNeg s) (fin a 9223372036854775808) (fin a 9223372036854775807)
    rw [show evalF Tryd.prog (tabs 0 L39) A39 39 [.str s] = cond (decide (0 < (s.size : Int))) (cond (isNeg s) (cond ((s.size : Int) == 1) bad1 (cond (decide (1 < (s.size : Int))) (cond (decide (by' s 1 < 49)) bad1 (cond (decide (1 < (s.size : Int))) (cond (decide (by' s 1 > 57)) bad1 (go 1)) none)) none)) (go 0)) none by kernel_rfl]
    have hgo : badNeg s = false → go (fromOf s : Nat) = (Tree.br (numAt s).isOk (.ret (.tup [.ag [.int .i64 1, .int .i64 (sgn (isNeg s) (numAt s).num), .str ⟨#[]⟩, .bool false], agE false [] 0])) (.ret (.tup [zeroV, agE true [(1, (numAt s).pos)] 4]))).get := by
      intro hb
      have hl : go (fromOf s : Nat) = fin (fromOf s : Nat) (limOf (isNeg s) : Nat) := by
        show cond (isNeg s) _ _ = _
        cases isNeg s <;> rfl
      rw [hl]
      show cond (decide (((fromOf s : Nat) : Int) = (fromOf s : Nat) ∧ ((fromOf s : Nat) : Int) = (fromOf s : Nat) ∧ ((limOf (isNeg s) : Nat) : Int) = (limOf (isNeg s) : Nat) ∧ s.size ≤ 8000)) _ none = _
      rw [show decide (((fromOf s : Nat) : Int) = (fromOf s : Nat) ∧ ((fromOf s : Nat) : Int) = (fromOf s : Nat) ∧ ((limOf (isNeg s) : Nat) : Int) = (limOf (isNeg s) : Nat) ∧ s.size ≤ 8000) = true from decide_eq_true ⟨rfl, rfl, rfl, hs⟩]
      cases ho : (numAt s).isOk with
      | false => rfl
      | true =>
        obtain ⟨e1, e2⟩ := numX_ok h0 hb ho
        rw [← e1]
        simp only [cond_true, Tree.get]
        cases hn : isNeg s with
        | false =>
          rw [hn] at e2
          have e2' : numX s ≤ 9223372036854775807 := e2
          simp only [cond_false]
          rw [i64w _ (by omega) (by omega)]
          rfl
        | true =>
          rw [hn] at e2
          have e2' : numX s ≤ 9223372036854775808 := e2
          simp only [cond_true]
          rw [show IntKind.i64.wrap (IntKind.u64.wrap (0 - (numX s : Int))) = -(numX s : Int) by rw [IntKind.wrap_u64, IntKind.wrap_i64]; omega]
          rfl
    rw [show decide (0 < (s.size : Int)) = true from decide_eq_true (by omega)]
    simp only [cond_true, Tree.get]
    cases hn : isNeg s with
    | false =>
      have hb : badNeg s = false := by unfold badNeg; rw [hn]; rfl
      have hfr : fromOf s = 0 := by unfold fromOf; rw [hn]; rfl
      have hh := hgo hb
      rw [hfr, hn] at hh
      rw [hb]
      exact hh
    | true =>
      have hfr : fromOf s = 1 := by unfold fromOf; rw [hn]; rfl
      simp only [cond_true]
      have hbn : badNeg s = (decide (s.size = 1) || decide (by' s 1 < 49) || decide (by' s 1 > 57)) := by unfold badNeg; rw [hn]; rfl
      by_cases h1 : s.size = 1
      · rw [show ((s.size : Int) == 1) = true by simp [h1], hbn, show decide (s.size = 1) = true from decide_eq_true h1]
        rfl
      · rw [show ((s.size : Int) == 1) = false by simp; omega, show decide (1 < (s.size : Int)) = true from decide_eq_true (by omega)]
        rw [show decide (s.size = 1) = false from decide_eq_false h1, Bool.false_or] at hbn
        simp only [cond_true, cond_false]
        cases h2 : decide (by' s 1 < 49) with
        | true => rw [hbn, h2]; rfl
        | false =>
          cases h3 : decide (by' s 1 > 57) with
          | true => rw [hbn, h2, h3]; rfl
          | false =>
            have hb : badNeg s = false := by rw [hbn, h2, h3]; rfl
            have hh := hgo hb
            rw [hfr, hn] at hh
            rw [hb]
            exact hh⟩
end Go.Proofs.YtciajnknnoecaaaDoor
