/- value.str: a string's text is read. -/
import Derived.Test.YtciajnknnoecaaaDoorY
namespace Go.Proofs.YtciajnknnoecaaaDoor
open Go Go.Pev

/-- What comes of reading a string's text: its end, a fault's place, too long, bytes. -/
inductive SRd where
  | fin
  | bad (p : Nat)
  | long
  | ok (b : List Int)
def SRd.isFin : SRd → Bool | .fin => true | _ => false
def SRd.isBad : SRd → Bool | .bad _ => true | _ => false
def SRd.isLong : SRd → Bool | .long => true | _ => false
def SRd.pos : SRd → Nat | .bad p => p | _ => 0
def SRd.bytes : SRd → List Int | .ok b => b | _ => []
def strR (s : ByteArray) : Nat → Nat → List Int → SRd
  | 0, _, _ => .fin
  | f + 1, a, b => cond (decide (a < s.size)) (cond (by' s a == 34) (cond (decide (a + 1 < s.size)) (.bad (a + 1)) (cond (decide (b.length > 1000)) .long (.ok b)))
    (cond (decide (by' s a < 32)) (.bad a) (cond (decide (by' s a > 126)) (.bad a) (cond (by' s a == 92) (escT cond s (a + 1) .bad (fun c n => strR s f n (b ++ [c]))) (strR s f (a + 1) (b ++ [by' s a])))))) .fin
theorem escT_map {α β : Type} (g : α → β) (s : ByteArray) (a : Nat) (bad : Nat → α) (ok : Int → Nat → α) : g (escT cond s a bad ok) = escT cond s a (fun p => g (bad p)) (fun c n => g (ok c n)) := by
  unfold escT
  cases decide (a = s.size) <;> cases by' s a == 34 <;> cases by' s a == 92 <;> cases by' s a == 120 <;> cases decide (s.size ≤ a + 1) <;> cases decide (dg s (a + 1) < 0) <;> try rfl
  cases decide (s.size ≤ a + 2) <;> cases decide (dg s (a + 2) < 0) <;> cases decide (dg s (a + 1) * 16 + dg s (a + 2) ≥ 32) <;> cases decide (dg s (a + 1) * 16 + dg s (a + 2) ≤ 126) <;> rfl
theorem escT_congr {α : Type} (s : ByteArray) (a : Nat) {bad bad' : Nat → α} {ok ok' : Int → Nat → α} (h : ∀ p, bad p = bad' p) (h1 : ∀ c, ok c (a + 1) = ok' c (a + 1)) (h3 : ∀ c, ok c (a + 3) = ok' c (a + 3)) : escT cond s a bad ok = escT cond s a bad' ok' := by
  unfold escT
  simp only [h, h1, h3]

def L28 : List (Nat × Pev.CSpec) := [(26, sp26), (48, sp48)]
theorem s28 : SpecsOk Tryd.prog (tabs 0 L28) := oneSpecT (oneSpecT noSpecs ok48) ok26
abbrev zl (z : V) : List AV := [.int .i64 z.1, .int .i64 z.2.1, .str z.2.2.1, .bool z.2.2.2]
abbrev zeroL : List AV := [.int .i64 0, .int .i64 0, .str ⟨#[]⟩, .bool false]
def E28 (s : ByteArray) (zs : V) (b : List Int) (i : Int) : Env := ⟨[(0, .str s), (2, .ref 2 0), (3, .err none), (4, .own 900), (5, .int .i64 i)], [(2, some (.box 23 (zl zs))), (900, some (.row 5 (.int .u8) b))]⟩
def X28 (s : ByteArray) (e : Err) (v : List AV) : Env := ⟨[(0, .str s), (2, .ref 2 0), (3, .err e)], [(2, some (.box 23 v))]⟩
def fin28 (s : ByteArray) (zs : V) (k : Exit → Env → Pev.R) : SRd → Pev.R
  | .fin => k (.exit 0) (X28 s none (zl zs))
  | .bad p => k .ret (X28 s (badE p) zeroL)
  | .long => k .ret (X28 s (some ([], 2)) zeroL)
  | .ok b => k .ret (X28 s none [.int .i64 2, .int .i64 0, .str (ofU8s b), .bool false])
def o28 : Orc := fun E k => match E with
  | ⟨[(0, .str s), (2, .ref 2 0), (3, .err none), (4, .own 900), (5, .int .i64 1)], [(2, some (.box 23 [.int .i64 z1, .int .i64 z2, .str z3, .bool z4])), (900, some (.row 5 (.int .u8) []))]⟩ =>
    cond (decide (s.size ≤ 8000)) (cond (strR s (s.size + 1) 1 []).isFin (k (.exit 0) (X28 s none [.int .i64 z1, .int .i64 z2, .str z3, .bool z4])) (cond (strR s (s.size + 1) 1 []).isBad (k .ret (X28 s (badE (strR s (s.size + 1) 1 []).pos) zeroL))
      (cond (strR s (s.size + 1) 1 []).isLong (k .ret (X28 s (some ([], 2)) zeroL)) (k .ret (X28 s none [.int .i64 2, .int .i64 0, .str (ofU8s (strR s (s.size + 1) 1 []).bytes), .bool false]))))) none
  | _ => none
def A28 : Anns := ⟨[(3, [.keep [0, 2, 3, 4, 5] [2, 65, 900], .ownS 4 900 5, .keep [0, 2, 3, 4, 5] [2, 900]]), (100003, [.keep [0, 2, 3] [2]])], [(3, o28)], 1000⟩
noncomputable def loop28 : Code := match loopsF Tryd.prog 28 with | c :: _ => c | [] => .skip
noncomputable abbrev L28' (m : Nat) (E : Env) (k : Exit → Env → Pev.R) : Pev.R := loopE (prep (tabs 0 L28) (annOf A28 loop28)) (evalC Tryd.prog (tabs 0 L28) A28 loop28) m E (outK (tabs 0 L28) A28 loop28 k)
theorem step28 (s : ByteArray) (zs : V) (b : List Int) (i : Int) (m : Nat) (k : Exit → Env → Pev.R) :
    L28' (m + 1) (E28 s zs b i) k = cond (decide (i < (s.size : Int))) (cond (decide (0 ≤ i)) (cond (decide (i < (s.size : Int)))
      (cond (by' s i.toNat == 34) (cond (decide (IntKind.i64.wrap (i + 1) < (s.size : Int))) (k .ret (X28 s (badE (IntKind.i64.wrap (i + 1))) zeroL)) (cond (decide ((b.length : Int) > 1000)) (k .ret (X28 s (some ([], 2)) zeroL)) (k .ret (X28 s none [.int .i64 2, .int .i64 0, .str (ofU8s b), .bool false]))))
        (cond (decide (by' s i.toNat < 32)) (k .ret (X28 s (badE i) zeroL)) (cond (decide (by' s i.toNat > 126)) (k .ret (X28 s (badE i) zeroL)) (cond (by' s i.toNat == 92)
          (cond (decide (0 ≤ IntKind.i64.wrap (i + 1) ∧ IntKind.i64.wrap (i + 1) ≤ s.size ∧ s.size ≤ 8000)) (escT cond s (IntKind.i64.wrap (i + 1)).toNat (fun p => k .ret (X28 s (badE p) zeroL))
            (fun c n => cond (appLim 1 b.length 1) (L28' m (E28 s zs (b ++ [c]) n) k) none)) none)
          (cond (appLim 1 b.length 1) (L28' m (E28 s zs (b ++ [by' s i.toNat]) (IntKind.i64.wrap (i + 1))) k) none))))) none) none) (k (.exit 0) (X28 s none (zl zs))) := by kernel_rfl
theorem all28 (s : ByteArray) (zs : V) (hs : s.size ≤ 8000) (k : Exit → Env → Pev.R) : ∀ (f a : Nat) (b : List Int), s.size ≤ a + f → b.length ≤ a →
    L28' (f + 1) (E28 s zs b a) k = fin28 s zs k (strR s (f + 1) a b)
  | 0, a, b, h, _ => by
    rw [step28, show decide ((a : Int) < (s.size : Int)) = false from decide_eq_false (by omega), cond_false]
    simp only [strR]
    rw [show decide (a < s.size) = false from decide_eq_false (by omega)]
    rfl
  | f + 1, a, b, h, hb => by
    rw [step28]
    simp only [strR]
    by_cases ha : a < s.size
    · rw [show decide ((a : Int) < (s.size : Int)) = true from decide_eq_true (by omega), show decide (a < s.size) = true from decide_eq_true ha, show decide (0 ≤ (a : Int)) = true from decide_eq_true (by omega)]
      simp only [cond_true]
      rw [i64w ((a : Int) + 1) (by omega) (by omega), Int.toNat_natCast, show ((a : Int) + 1) = ((a + 1 : Nat) : Int) from rfl, Int.toNat_natCast]
      rw [show appLim 1 b.length 1 = true from decide_eq_true (by omega), show decide (((a + 1 : Nat) : Int) < (s.size : Int)) = decide (a + 1 < s.size) from decide_eq_decide.2 (by omega), show decide ((b.length : Int) > 1000) = decide (b.length > 1000) from decide_eq_decide.2 (by omega)]
      rw [show decide (0 ≤ ((a + 1 : Nat) : Int) ∧ ((a + 1 : Nat) : Int) ≤ (s.size : Int) ∧ s.size ≤ 8000) = true from decide_eq_true (by omega)]
      simp only [cond_true]
      cases by' s a == 34 with
      | true =>
        simp only [cond_true]
        cases decide (a + 1 < s.size) with
        | true => simp only [cond_true, fin28]
        | false => cases decide (b.length > 1000) <;> simp only [cond_true, cond_false, fin28]
      | false =>
        simp only [cond_false]
        cases decide (by' s a < 32) with
        | true => simp only [cond_true, fin28]
        | false =>
          cases decide (by' s a > 126) with
          | true => simp only [cond_true, cond_false, fin28]
          | false =>
            cases by' s a == 92 with
            | true =>
              simp only [cond_true, cond_false]
              rw [escT_map (fin28 s zs k)]
              refine escT_congr s (a + 1) (fun p => rfl) (fun c => ?_) (fun c => ?_)
              · exact all28 s zs hs k f (a + 1 + 1) (b ++ [c]) (by omega) (by simp; omega)
              · exact all28 s zs hs k f (a + 1 + 3) (b ++ [c]) (by omega) (by simp; omega)
            | false =>
              simp only [cond_false]
              exact all28 s zs hs k f (a + 1) (b ++ [by' s a]) (by omega) (by simp; omega)
    · rw [show decide ((a : Int) < (s.size : Int)) = false from decide_eq_false (by omega), show decide (a < s.size) = false from decide_eq_false ha]
      rfl
theorem orc28 : OrcOk Tryd.prog (tabs 0 L28) A28 loop28 := by
  intro o ho E k r h
  obtain rfl := orcIs (show orcOf A28 loop28 = some o28 by kernel_rfl) ho
  unfold o28 at h
  split at h
  · rename_i s z1 z2 z3 z4
    cases hd : decide (s.size ≤ 8000) with
    | false => rw [hd] at h; cases h
    | true =>
      rw [hd] at h
      refine ⟨s.size + 1, (all28 s (z1, z2, z3, z4) (of_decide_eq_true hd) k s.size 1 [] (by omega) (by simp)).trans ?_⟩
      rw [← h]
      cases strR s (s.size + 1) 1 [] <;> rfl
  · cases h
/-- What reading a string's text answers. -/
def strT (r : SRd) (n : Nat) : Tree := .br r.isFin (.ret (.tup [zeroV, .err (badE n)])) (.br r.isBad (.ret (.tup [zeroV, .err (badE r.pos)])) (.br r.isLong (.ret (.tup [zeroV, .err (some ([], 2))])) (.ret (.tup [.ag [.int .i64 2, .int .i64 0, .str (ofU8s r.bytes), .bool false], .err none]))))
def sp28 : Pev.CSpec := ⟨fun | [.str s] => .br (decide (s.size ≤ 8000)) (strT (strR s (s.size + 1) 1 []) s.size) .fail | _ => .fail⟩
theorem ok28 : EnterOk Tryd.prog 28 ∧ CSpecOk Tryd.prog cfg 28 sp28 := ⟨enter Tryd.func28 (by kernel_rfl) (by kernel_rfl), by
  intro args res h
  unfold sp28 at h
  simp only at h
  split at h <;> try (cases h; done)
  rename_i s
  refine done1 s28 (A := A28) (c := loop28) (by kernel_rfl) orc28 (by kernel_rfl) ?_
  rw [← h]
  kernel_rfl⟩
end Go.Proofs.YtciajnknnoecaaaDoor
