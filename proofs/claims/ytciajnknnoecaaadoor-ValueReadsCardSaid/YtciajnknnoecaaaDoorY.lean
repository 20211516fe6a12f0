/- value.escape. -/
import Derived.Test.YtciajnknnoecaaaDoorX
namespace Go.Proofs.YtciajnknnoecaaaDoor
open Go Go.Pev

/-- A string's byte; what it counts as a digit. -/
abbrev by' (s : ByteArray) (i : Nat) : Int := ((s.data.toList.getD i 0).toNat : Int)
abbrev dg (s : ByteArray) (i : Nat) : Int := digZ (by' s i)
theorem dig_lt (c : UInt8) : -1 ≤ digZ (c.toNat : Int) ∧ digZ (c.toNat : Int) ≤ 15 := by
  have h := List.all_eq_true.1 (show (List.range 256).all (fun n => decide (-1 ≤ digZ (n : Int)) && decide (digZ (n : Int) ≤ 15)) = true by kernel_rfl) c.toNat (List.mem_range.2 c.toNat_lt)
  simp only [Bool.and_eq_true, decide_eq_true_eq] at h
  exact h
/-- What stands behind a backslash at a: a fault's place, or a byte and the place behind it. -/
def escT {α : Type} (br : Bool → α → α → α) (s : ByteArray) (a : Nat) (bad : Nat → α) (ok : Int → Nat → α) : α :=
  br (decide (a = s.size)) (bad a) (br (by' s a == 34) (ok (by' s a) (a + 1)) (br (by' s a == 92) (ok (by' s a) (a + 1)) (br (by' s a == 120)
    (br (decide (s.size ≤ a + 1)) (bad s.size) (br (decide (dg s (a + 1) < 0)) (bad (a + 1)) (br (decide (s.size ≤ a + 2)) (bad s.size) (br (decide (dg s (a + 2) < 0)) (bad (a + 2))
      (br (decide (dg s (a + 1) * 16 + dg s (a + 2) ≥ 32)) (br (decide (dg s (a + 1) * 16 + dg s (a + 2) ≤ 126)) (bad (a + 2)) (ok (IntKind.u8.wrap (dg s (a + 1) * 16 + dg s (a + 2))) (a + 3))) (ok (IntKind.u8.wrap (dg s (a + 1) * 16 + dg s (a + 2))) (a + 3))))))) (bad a))))

def L48 : List (Nat × Pev.CSpec) := [(26, sp26), (60, sp60)]
theorem s48 : SpecsOk Tryd.prog (tabs 0 L48) := oneSpecT (oneSpecT noSpecs ok60) ok26
def E48 (s : ByteArray) (a n i : Int) : Env := ⟨[(0, .str s), (1, .int .i64 a), (4, .int .u8 0), (5, .int .i64 0), (6, .err none), (7, .int .i64 n), (8, .int .i64 i)], []⟩
def X48 (s : ByteArray) (a : Int) (e : Err) (n : Int) : Env := ⟨[(0, .str s), (1, .int .i64 a), (4, .int .u8 0), (5, .int .i64 0), (6, .err e), (7, .int .i64 n)], []⟩
def o48 : Orc := fun E k => match E with
  | ⟨[(0, .str s), (1, .int .i64 a), (4, .int .u8 0), (5, .int .i64 0), (6, .err none), (7, .int .i64 0), (8, .int .i64 i)], []⟩ =>
    cond (decide (i = a + 1 ∧ 0 ≤ a ∧ a ≤ 8000 ∧ s.size ≤ 8000)) (cond (decide (s.size ≤ a.toNat + 1)) (k .ret (X48 s a (badE s.size) 0)) (cond (decide (dg s (a.toNat + 1) < 0)) (k .ret (X48 s a (badE (a + 1)) 0))
      (cond (decide (s.size ≤ a.toNat + 2)) (k .ret (X48 s a (badE s.size) (dg s (a.toNat + 1)))) (cond (decide (dg s (a.toNat + 2) < 0)) (k .ret (X48 s a (badE (a + 2)) (dg s (a.toNat + 1)))) (k (.exit 1) (X48 s a none (dg s (a.toNat + 1) * 16 + dg s (a.toNat + 2)))))))) none
  | _ => none
def A48 : Anns := ⟨[(11, [.keep [0, 1, 4, 5, 6, 7, 8] []]), (100011, [.keep [0, 1, 4, 5, 6, 7] []])], [(11, o48)], 1000⟩
noncomputable def loop48 : Code := match loopsF Tryd.prog 48 with | c :: _ => c | [] => .skip
noncomputable abbrev L48' (m : Nat) (E : Env) (k : Exit → Env → Pev.R) : Pev.R := loopE (prep (tabs 0 L48) (annOf A48 loop48)) (evalC Tryd.prog (tabs 0 L48) A48 loop48) m E (outK (tabs 0 L48) A48 loop48 k)
def minI (i n : Int) : Int := cond (decide (n < i)) n i
theorem step48 (s : ByteArray) (a n i : Int) (m : Nat) (k : Exit → Env → Pev.R) :
    L48' (m + 1) (E48 s a n i) k = cond (decide (i < IntKind.i64.wrap (a + 3))) (cond (decide (i ≥ (s.size : Int))) (k .ret (X48 s a (badE (minI i s.size)) n))
      (cond (decide (0 ≤ i)) (cond (decide (i < (s.size : Int))) (cond (decide (dg s i.toNat < 0)) (k .ret (X48 s a (badE (minI i s.size)) n)) (cond (decide (0 ≤ i)) (cond (decide (i < (s.size : Int)))
        (L48' m (E48 s a (IntKind.i64.wrap (IntKind.i64.wrap (n * 2 ^ min 4 IntKind.i64.bits) + dg s i.toNat)) (IntKind.i64.wrap (i + 1))) k) none) none)) none) none)) (k (.exit 1) (X48 s a none n)) := by kernel_rfl
theorem round48 (s : ByteArray) (a n : Int) (i : Nat) (m : Nat) (k : Exit → Env → Pev.R) (ha : 0 ≤ a ∧ a ≤ 8000) (hi : (i : Int) < a + 3) (_ : s.size ≤ 8000) (hn : 0 ≤ n ∧ n ≤ 15) :
    L48' (m + 1) (E48 s a n i) k = cond (decide (s.size ≤ i)) (k .ret (X48 s a (badE s.size) n)) (cond (decide (dg s i < 0)) (k .ret (X48 s a (badE i) n)) (L48' m (E48 s a (n * 16 + dg s i) ((i + 1 : Nat) : Int)) k)) := by
  have hd : -1 ≤ dg s i ∧ dg s i ≤ 15 := dig_lt (s.data.toList.getD i 0)
  rw [step48, i64w (a + 3) (by omega) (by omega), show decide ((i : Int) < a + 3) = true from decide_eq_true hi, cond_true]
  by_cases h : s.size ≤ i
  · rw [show decide ((i : Int) ≥ (s.size : Int)) = true from decide_eq_true (by omega), show decide (s.size ≤ i) = true from decide_eq_true h, cond_true, cond_true]
    have : minI (i : Int) (s.size : Int) = (s.size : Int) := by
      unfold minI
      by_cases h' : s.size < i
      · rw [show decide ((s.size : Int) < (i : Int)) = true from decide_eq_true (by omega)]; rfl
      · rw [show decide ((s.size : Int) < (i : Int)) = false from decide_eq_false (by omega)]; show (i : Int) = _; omega
    rw [this]
  · rw [show decide ((i : Int) ≥ (s.size : Int)) = false from decide_eq_false (by omega), show decide (s.size ≤ i) = false from decide_eq_false h, show decide (0 ≤ (i : Int)) = true from decide_eq_true (by omega), show decide ((i : Int) < (s.size : Int)) = true from decide_eq_true (by omega)]
    simp only [cond_true, cond_false, Int.toNat_natCast]
    rw [show minI (i : Int) (s.size : Int) = (i : Int) by unfold minI; rw [show decide ((s.size : Int) < (i : Int)) = false from decide_eq_false (by omega)]; rfl]
    rw [show n * 2 ^ min 4 IntKind.i64.bits = n * 16 from rfl, i64w (n * 16) (by omega) (by omega), i64w (n * 16 + _) (by omega) (by omega), i64w ((i : Int) + 1) (by omega) (by omega)]
    rfl
theorem last48 (s : ByteArray) (a n : Int) (m : Nat) (k : Exit → Env → Pev.R) (ha : 0 ≤ a ∧ a ≤ 8000) : L48' (m + 1) (E48 s a n (a + 3)) k = k (.exit 1) (X48 s a none n) := by
  rw [step48, i64w (a + 3) (by omega) (by omega), show decide (a + 3 < a + 3) = false from decide_eq_false (by omega), cond_false]
theorem orc48 : OrcOk Tryd.prog (tabs 0 L48) A48 loop48 := by
  intro o ho E k r h
  obtain rfl := orcIs (show orcOf A48 loop48 = some o48 by kernel_rfl) ho
  unfold o48 at h
  split at h
  · rename_i s a i
    cases hd : decide (i = a + 1 ∧ 0 ≤ a ∧ a ≤ 8000 ∧ s.size ≤ 8000) with
    | false => rw [hd] at h; cases h
    | true =>
      rw [hd] at h
      obtain ⟨rfl, h1, h2, h3⟩ := of_decide_eq_true hd
      refine ⟨3, ?_⟩
      rw [← h]
      have e1 : a + 1 = ((a.toNat + 1 : Nat) : Int) := by omega
      have e2 : a + 2 = ((a.toNat + 2 : Nat) : Int) := by omega
      have d1 := dig_lt (s.data.toList.getD (a.toNat + 1) 0)
      show L48' 3 (E48 s a 0 (a + 1)) k = _
      rw [e1, round48 s a 0 (a.toNat + 1) 2 k ⟨h1, h2⟩ (by omega) h3 (by omega)]
      simp only [cond_true]
      cases decide (s.size ≤ a.toNat + 1) with
      | true => simp only [cond_true]
      | false =>
        cases hg : decide (dg s (a.toNat + 1) < 0) with
        | true => simp only [cond_true]
        | false =>
          have hg' := of_decide_eq_false hg
          simp only [cond_false]
          rw [Int.zero_mul, Int.zero_add, show a.toNat + 1 + 1 = a.toNat + 2 from rfl, round48 s a (dg s (a.toNat + 1)) (a.toNat + 2) 1 k ⟨h1, h2⟩ (by omega) h3 (by show 0 ≤ dg s (a.toNat + 1) ∧ dg s (a.toNat + 1) ≤ 15; exact ⟨by omega, d1.2⟩), ← e2]
          cases decide (s.size ≤ a.toNat + 2) with
          | true => simp only [cond_true]
          | false =>
            cases decide (dg s (a.toNat + 2) < 0) with
            | true => simp only [cond_true]
            | false =>
              simp only [cond_false]
              rw [show ((a.toNat + 2 + 1 : Nat) : Int) = a + 3 by omega, last48 s a _ 0 k ⟨h1, h2⟩]
  · cases h
def sp48 : Pev.CSpec := ⟨fun
  | [.str s, .int .i64 a] => .br (decide (0 ≤ a ∧ a ≤ s.size ∧ s.size ≤ 8000)) (escT Tree.br s a.toNat (fun p => Tree.ret (.tup [.int .u8 0, .int .i64 0, .err (badE p)])) (fun c n => Tree.ret (.tup [.int .u8 c, .int .i64 n, .err none]))) .fail
  | _ => .fail⟩
theorem escT_get (s : ByteArray) (a : Nat) (bad : Nat → Tree) (ok : Int → Nat → Tree) : (escT Tree.br s a bad ok).get = escT cond s a (fun p => (bad p).get) (fun c n => (ok c n).get) := rfl
theorem ok48 : EnterOk Tryd.prog 48 ∧ CSpecOk Tryd.prog cfg 48 sp48 := ⟨enter Tryd.func48 (by kernel_rfl) (by kernel_rfl), by
  intro args res h
  unfold sp48 at h
  simp only at h
  split at h <;> try (cases h; done)
  rename_i s a
  cases hd : decide (0 ≤ a ∧ a ≤ s.size ∧ s.size ≤ 8000) with
  | false => rw [hd] at h; cases h
  | true =>
    rw [hd] at h
    obtain ⟨h1, h2, h3⟩ := of_decide_eq_true hd
    replace h : (escT Tree.br s a.toNat (fun p => Tree.ret (.tup [.int .u8 0, .int .i64 0, .err (badE p)])) (fun c n => Tree.ret (.tup [.int .u8 c, .int .i64 n, .err none]))).get = some res := h
    rw [escT_get] at h
    refine done1 s48 (A := A48) (c := loop48) (by kernel_rfl) orc48 (by kernel_rfl) ?_
    rw [← h]
    obtain ⟨n, rfl⟩ := Int.eq_ofNat_of_zero_le h1
    let ok (c n : Int) : Option AV := some (.tup [.int .u8 c, .int .i64 n, .err none])
    let bad (p : Int) : Option AV := some (.tup [.int .u8 0, .int .i64 0, .err (badE p)])
    let i : Int := IntKind.i64.wrap ((n : Int) + 1)
    let a : Int := (n : Int)
    let x : Option AV := cond (decide (i = a + 1 ∧ 0 ≤ a ∧ a ≤ 8000 ∧ s.size ≤ 8000)) (cond (decide (s.size ≤ a.toNat + 1)) (bad s.size) (cond (decide (dg s (a.toNat + 1) < 0)) (bad (a + 1))
      (cond (decide (s.size ≤ a.toNat + 2)) (bad s.size) (cond (decide (dg s (a.toNat + 2) < 0)) (bad (a + 2))
        (cond (decide (dg s (a.toNat + 1) * 16 + dg s (a.toNat + 2) ≥ 32)) (cond (decide (dg s (a.toNat + 1) * 16 + dg s (a.toNat + 2) ≤ 126)) (bad (IntKind.i64.wrap (a + 2))) (ok (IntKind.u8.wrap (dg s (a.toNat + 1) * 16 + dg s (a.toNat + 2))) (IntKind.i64.wrap (a + 3)))) (ok (IntKind.u8.wrap (dg s (a.toNat + 1) * 16 + dg s (a.toNat + 2))) (IntKind.i64.wrap (a + 3)))))))) none
    rw [show evalF Tryd.prog (tabs 0 L48) A48 48 [.str s, .int .i64 (n : Int)] = cond (a == (s.size : Int)) (bad a) (cond (decide (0 ≤ a)) (cond (decide (a < (s.size : Int)))
      (cond (by' s a.toNat == 34) (cond (by' s a.toNat == 34) (cond (decide (0 ≤ a)) (cond (decide (a < (s.size : Int))) (ok (by' s a.toNat) i) none) none) (cond (by' s a.toNat == 120) x (bad a)))
        (cond (by' s a.toNat == 92) (cond (decide (0 ≤ a)) (cond (decide (a < (s.size : Int))) (ok (by' s a.toNat) i) none) none) (cond (by' s a.toNat == 120) x (bad a)))) none) none) by kernel_rfl]
    have c1 : i = (n : Int) + 1 := i64w _ (by omega) (by omega)
    have c2 : IntKind.i64.wrap (a + 2) = (n : Int) + 2 := i64w _ (by omega) (by omega)
    have c3 : IntKind.i64.wrap (a + 3) = (n : Int) + 3 := i64w _ (by omega) (by omega)
    have e : a.toNat = n := Int.toNat_natCast n
    have hx : x = cond (decide (s.size ≤ n + 1)) (bad s.size) (cond (decide (dg s (n + 1) < 0)) (bad ((n : Int) + 1))
      (cond (decide (s.size ≤ n + 2)) (bad s.size) (cond (decide (dg s (n + 2) < 0)) (bad ((n : Int) + 2))
        (cond (decide (dg s (n + 1) * 16 + dg s (n + 2) ≥ 32)) (cond (decide (dg s (n + 1) * 16 + dg s (n + 2) ≤ 126)) (bad ((n : Int) + 2)) (ok (IntKind.u8.wrap (dg s (n + 1) * 16 + dg s (n + 2))) ((n : Int) + 3))) (ok (IntKind.u8.wrap (dg s (n + 1) * 16 + dg s (n + 2))) ((n : Int) + 3)))))) := by
      show cond (decide (i = a + 1 ∧ 0 ≤ a ∧ a ≤ 8000 ∧ s.size ≤ 8000)) _ none = _
      rw [show decide (i = a + 1 ∧ 0 ≤ a ∧ a ≤ 8000 ∧ s.size ≤ 8000) = true from decide_eq_true ⟨c1, h1, by omega, h3⟩, cond_true, c2, c3, e]
    rw [hx, c1, e]
    unfold escT
    by_cases hE : n = s.size
    · rw [show (a == (s.size : Int)) = true by simp [a, hE], show decide (n = s.size) = true from decide_eq_true hE]
      rfl
    · rw [show (a == (s.size : Int)) = false by simp [a]; omega, show decide (n = s.size) = false from decide_eq_false hE, show decide (0 ≤ a) = true from decide_eq_true h1, show decide (a < (s.size : Int)) = true from decide_eq_true (by omega)]
      simp only [cond_true, cond_false, Int.toNat_natCast]
      cases by' s n == 34 <;> cases by' s n == 92 <;> cases by' s n == 120 <;> rfl⟩
end Go.Proofs.YtciajnknnoecaaaDoor
