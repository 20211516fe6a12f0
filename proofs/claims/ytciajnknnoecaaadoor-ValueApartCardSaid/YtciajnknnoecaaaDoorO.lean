/- Whether two errors told plainly are alike (aviaryref01.Same); whether an error is this one (fails); the first that is one (First). -/
import Derived.Test.YtciajnknnoecaaaDoorN
namespace Go.Proofs.YtciajnknnoecaaaDoor
open Go Go.Pev
theorem getI_nat {α : Type} (l : List α) (i : Nat) (d : α) (h : i < l.length) : getI l (i : Int) d = l[i] := by simp [getI, List.getD_eq_getElem?_getD, h]
theorem eqPlace (x y : Int × Int) : eqB shPlace (x.1, x.2) (y.1, y.2) = (x == y) := by
  obtain ⟨a, b⟩ := x; obtain ⟨c, d⟩ := y; rfl

def E36 (b : Bool) (l : List (Int × Int)) (n : Int) (b' : Bool) (l' : List (Int × Int)) (n' : Int) (len i : Int) : Env := ⟨[(2, .ref 2 0), (3, .ref 3 0), (4, .bool false), (29, .int .i64 len), (30, .int .i64 i)], [(2, some (.box 40 [.bool b, .sl shPlace l, .int .i64 n])), (3, some (.box 40 [.bool b', .sl shPlace l', .int .i64 n']))]⟩
def X36 : Env := ⟨[(4, .bool false)], []⟩
def o36 : Orc := fun E k => match E with
  | ⟨[(2, .ref 2 0), (3, .ref 3 0), (4, .bool false), (29, .int .i64 len), (30, .int .i64 0)], [(2, some (.box 40 [.bool _, .sl (.pair (.int .i64) (.int .i64)) l, .int .i64 _])), (3, some (.box 40 [.bool _, .sl (.pair (.int .i64) (.int .i64)) l', .int .i64 _]))]⟩ =>
    cond (decide (len = l.length ∧ l.length = l'.length ∧ l.length < 9223372036854775807)) (cond (l == l') (k (.exit 0) X36) (k .ret X36)) none
  | _ => none
def A36 : Anns := ⟨[(4, [.keep [2,3,4,29,30] [2,3]]), (100004, [.keep [4] []])], [(4, o36)], 1000⟩
noncomputable def loop36 : Code := match loopsF Tryd.prog 36 with | c :: _ => c | [] => .skip
noncomputable abbrev L36 (m : Nat) (E : Env) (k : Exit → Env → Pev.R) : Pev.R := loopE (prep (tabs 0 []) (annOf A36 loop36)) (evalC Tryd.prog (tabs 0 []) A36 loop36) m E (outK (tabs 0 []) A36 loop36 k)
theorem step36 (b : Bool) (l : List (Int × Int)) (n : Int) (b' : Bool) (l' : List (Int × Int)) (n' : Int) (len i : Int) (m : Nat) (k : Exit → Env → Pev.R) :
    L36 (m + 1) (E36 b l n b' l' n' len i) k = cond (decide (i < len)) (cond (decide (0 ≤ i)) (cond (decide (i < l.length)) (cond (decide (0 ≤ i)) (cond (decide (i < l'.length))
      (cond (!eqB shPlace ((getI l i shPlace.dflt).1, (getI l i shPlace.dflt).2) ((getI l' i shPlace.dflt).1, (getI l' i shPlace.dflt).2)) (k .ret X36) (L36 m (E36 b l n b' l' n' len (IntKind.i64.wrap (i + 1))) k)) none) none) none) none) (k (.exit 0) X36) := by kernel_rfl
theorem drop_beq {α : Type} [BEq α] [LawfulBEq α] (l l' : List α) (i : Nat) (h : i < l.length) (h' : i < l'.length) : (l.drop i == l'.drop i) = ((l[i] == l'[i]) && (l.drop (i + 1) == l'.drop (i + 1))) := by
  rw [List.drop_eq_getElem_cons h, List.drop_eq_getElem_cons h']; rfl
theorem all36 (b : Bool) (l : List (Int × Int)) (n : Int) (b' : Bool) (l' : List (Int × Int)) (n' : Int) (k : Exit → Env → Pev.R) (hl : l.length = l'.length) (hs : l.length < 9223372036854775807) : ∀ (d i : Nat), i + d = l.length →
    L36 (d + 1) (E36 b l n b' l' n' l.length i) k = cond (l.drop i == l'.drop i) (k (.exit 0) X36) (k .ret X36)
  | 0, i, h => by
    rw [step36, show decide ((i : Int) < (l.length : Int)) = false from decide_eq_false (by omega), cond_false, List.drop_eq_nil_of_le (by omega), List.drop_eq_nil_of_le (by omega)]
    rfl
  | d + 1, i, h => by
    have h1 : i < l.length := by omega
    have h2 : i < l'.length := by omega
    rw [step36, show decide ((i : Int) < (l.length : Int)) = true from decide_eq_true (by omega), show decide ((i : Int) < (l'.length : Int)) = true from decide_eq_true (by omega), show decide (0 ≤ (i : Int)) = true from decide_eq_true (by omega)]
    simp only [cond_true]
    rw [eqPlace, getI_nat l i _ h1, getI_nat l' i _ h2, i64w _ (by omega) (by omega), drop_beq l l' i h1 h2]
    cases l[i] == l'[i] with
    | false => rfl
    | true =>
      simp only [Bool.not_true, cond_false, Bool.true_and]
      exact all36 b l n b' l' n' k hl hs d (i + 1) (by omega)
theorem orc36 : OrcOk Tryd.prog (tabs 0 []) A36 loop36 := by
  intro o ho E k r h
  obtain rfl := orcIs (show orcOf A36 loop36 = some o36 by kernel_rfl) ho
  unfold o36 at h
  split at h
  · rename_i len b l n b' l' n'
    cases hd : decide (len = l.length ∧ l.length = l'.length ∧ l.length < 9223372036854775807) with
    | false => rw [hd] at h; cases h
    | true =>
      rw [hd] at h
      obtain ⟨rfl, h1, h2⟩ := of_decide_eq_true hd
      exact ⟨l.length + 1, (all36 b l n b' l' n' k h1 h2 l.length 0 (by omega)).trans h⟩
  · cases h
def sameE (b : Bool) (l : List (Int × Int)) (n : Int) (b' : Bool) (l' : List (Int × Int)) (n' : Int) : Bool := b == b' && n == n' && l == l'
def sp36 : Pev.CSpec := ⟨fun
  | [.ag [.bool b, .sl (.pair (.int .i64) (.int .i64)) l, .int .i64 n], .ag [.bool b', .sl (.pair (.int .i64) (.int .i64)) l', .int .i64 n']] => .br (decide (l.length < 9223372036854775807)) (.ret (.bool (sameE b l n b' l' n'))) .fail
  | _ => .fail⟩
theorem t36 (b : Bool) (l : List (Int × Int)) (n : Int) (b' : Bool) (l' : List (Int × Int)) (n' : Int) (h : l.length < 9223372036854775807) : evalF Tryd.prog (tabs 0 []) A36 36 [.ag [.bool b, .sl shPlace l, .int .i64 n], .ag [.bool b', .sl shPlace l', .int .i64 n']] = some (.bool (sameE b l n b' l' n')) := by
  rw [show evalF Tryd.prog (tabs 0 []) A36 36 [.ag [.bool b, .sl shPlace l, .int .i64 n], .ag [.bool b', .sl shPlace l', .int .i64 n']] =
    cond (!(b == b')) (some (.bool false)) (cond (n != n') (some (.bool false)) (cond ((l.length : Int) != (l'.length : Int)) (some (.bool false)) (cond (decide ((l.length : Int) = l.length ∧ l.length = l'.length ∧ l.length < 9223372036854775807)) (cond (l == l') (some (.bool true)) (some (.bool false))) none))) by kernel_rfl]
  unfold sameE
  cases hb : b == b' with
  | false => rfl
  | true =>
    cases hn : n == n' with
    | false => simp [bne, hn]
    | true =>
      by_cases hl : l.length = l'.length
      · rw [show ((l.length : Int) != (l'.length : Int)) = false by simp [hl], show decide ((l.length : Int) = l.length ∧ l.length = l'.length ∧ l.length < 9223372036854775807) = true from decide_eq_true ⟨rfl, hl, h⟩]
        simp only [bne, hn, Bool.not_true, cond_false, cond_true, Bool.true_and]
        cases l == l' <;> rfl
      · rw [show ((l.length : Int) != (l'.length : Int)) = true by simp; omega]
        have he : (l == l') = false := beq_eq_false_iff_ne.2 fun e => hl (congrArg List.length e)
        simp [bne, hn, he]
theorem ok36 : EnterOk Tryd.prog 36 ∧ CSpecOk Tryd.prog cfg 36 sp36 := ⟨enter Tryd.func36 (by kernel_rfl) (by kernel_rfl), by
  intro args res h
  unfold sp36 at h
  simp only at h
  split at h <;> try (cases h; done)
  rename_i b l n b' l' n'
  cases hd : decide (l.length < 9223372036854775807) with
  | false => rw [hd] at h; cases h
  | true =>
    rw [hd] at h
    obtain rfl := Option.some.inj h
    exact done1 noSpecs (A := A36) (c := loop36) (by kernel_rfl) orc36 (by kernel_rfl) (t36 b l n b' l' n' (of_decide_eq_true hd))⟩

/-! ### fails -/
def sp16 : Pev.CSpec := ⟨fun
  | [.err none, .ag [.bool b', .sl (.pair (.int .i64) (.int .i64)) l', .int .i64 n']] => .ret (.bool (sameE false [] 0 b' l' n'))
  | [.err (some (ps, n)), .ag [.bool b', .sl (.pair (.int .i64) (.int .i64)) l', .int .i64 n']] => .br (decide (ps.length < 200)) (.ret (.bool (sameE true ps n b' l' n'))) .fail
  | _ => .fail⟩
def L16 : List (Nat × Pev.CSpec) := [(36, sp36), (37, sp37)]
theorem s16 : SpecsOk Tryd.prog (tabsG L16) := oneSpecGT (oneSpecGT noSpecsG ok37) (liftGT ok36)
theorem ok16 : EnterOk Tryd.prog 16 ∧ CSpecOk Tryd.prog cfgG 16 sp16 := ⟨enter Tryd.func16 (by kernel_rfl) (by kernel_rfl), by
  intro args res h
  unfold sp16 at h
  simp only at h
  split at h <;> try (cases h; done)
  · obtain rfl := Option.some.inj h
    exact doneG s16 (A := A0) rfl (by kernel_rfl) (by kernel_rfl)
  · rename_i ps n b' l' n'
    cases hd : decide (ps.length < 200) with
    | false => rw [hd] at h; cases h
    | true =>
      rw [hd] at h
      obtain rfl := Option.some.inj h
      refine doneG s16 (A := A0) rfl (by kernel_rfl) ?_
      rw [show evalF Tryd.prog (tabsG L16) A0 16 [.err (some (ps, n)), .ag [.bool b', .sl shPlace l', .int .i64 n']] = cond (decide (ps.length < 200)) (cond (decide (ps.length < 9223372036854775807)) (some (.bool (sameE true ps n b' l' n'))) none) none by kernel_rfl]
      rw [hd, show decide (ps.length < 9223372036854775807) = true from decide_eq_true (by have := of_decide_eq_true hd; omega)]
      rfl⟩
end Go.Proofs.YtciajnknnoecaaaDoor
