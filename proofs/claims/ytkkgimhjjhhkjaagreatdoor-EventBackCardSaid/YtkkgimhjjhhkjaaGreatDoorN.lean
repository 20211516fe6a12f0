/- What an error tells, plainly (aviarylaw01.Of), at every error of fewer than 200 places; and whether two such are alike. -/
import Derived.Test.YtkkgimhjjhhkjaaGreatDoorIs
import Derived.Test.YtkkgimhjjhhkjaaGreatDoorBs
namespace Go.Proofs.YtkkgimhjjhhkjaaGreatDoor
open Go Go.Pev
theorem noSpecsG : SpecsOk Tryz.prog (tabsG []) := ⟨(fun g sp h => by cases h), .inr (asOk [])⟩
/-! ### Of -/
def E37 (e : Err) (i : Int) (b : Bool) (c : Int) (l : List (Int × Int)) : Env := ⟨[(0, .err e), (2, .ref 2 0), (3, .ref 3 0), (10, .int .i64 i)], [(2, some (.box 33 [.bool false, .nsl, .int .i64 0])), (3, some (.box 33 [.bool b, .own 900, .int .i64 c])), (900, some (.row 103 shPlace l))]⟩
def X37 (e : Err) (b : Bool) (c : Int) (l : List (Int × Int)) : Env := ⟨[(0, .err e), (2, .ref 2 0), (3, .ref 3 0)], [(2, some (.box 33 [.bool false, .nsl, .int .i64 0])), (3, some (.box 33 [.bool b, .own 900, .int .i64 c])), (900, some (.row 103 shPlace l))]⟩
def o37 : Orc := fun E k => match E with
  | ⟨[(0, .err (some (ps, n))), (2, .ref 2 0), (3, .ref 3 0), (10, .int .i64 0)], [(2, some (.box 33 [.bool false, .nsl, .int .i64 0])), (3, some (.box 33 [.bool b, .own 900, .int .i64 c])), (900, some (.row 103 (.pair (.int .i64) (.int .i64)) []))]⟩ =>
    cond (decide (ps.length < 200)) (k (.exit 0) (X37 (some ([], n)) b c ps)) none
  | _ => none
def A37 : Anns := ⟨[(5, [.keep [0, 2, 3, 10] [2, 3, 27, 900], .ownB 3 1 900 103, .keep [0, 2, 3, 10] [2, 3, 900]]), (100005, [.keep [0, 2, 3] [2, 3, 900]])], [(5, o37)], 1000⟩
noncomputable def loop37 : Code := match loopsF Tryz.prog 34 with | c :: _ => c | [] => .skip
theorem step37 (p : Int × Int) (ps : List (Int × Int)) (n i : Int) (b : Bool) (c : Int) (l : List (Int × Int)) (m : Nat) (k : Exit → Env → Pev.R) :
    loopE (prep (tabsG []) (annOf A37 loop37)) (evalC Tryz.prog (tabsG []) A37 loop37) (m + 1) (E37 (some (p :: ps, n)) i b c l) (outK (tabsG []) A37 loop37 k) =
      cond (decide (i < 200)) (cond (appLim 16 l.length 1) (loopE (prep (tabsG []) (annOf A37 loop37)) (evalC Tryz.prog (tabsG []) A37 loop37) m (E37 (some (ps, n)) (IntKind.i64.wrap (i + 1)) b c (l ++ [p])) (outK (tabsG []) A37 loop37 k)) none)
        (k (.exit 0) (X37 (some (p :: ps, n)) b c l)) := by kernel_rfl
theorem last37 (n i : Int) (b : Bool) (c : Int) (l : List (Int × Int)) (m : Nat) (k : Exit → Env → Pev.R) :
    loopE (prep (tabsG []) (annOf A37 loop37)) (evalC Tryz.prog (tabsG []) A37 loop37) (m + 1) (E37 (some ([], n)) i b c l) (outK (tabsG []) A37 loop37 k) =
      k (.exit 0) (X37 (some ([], n)) b c l) := by
  rw [show loopE (prep (tabsG []) (annOf A37 loop37)) (evalC Tryz.prog (tabsG []) A37 loop37) (m + 1) (E37 (some ([], n)) i b c l) (outK (tabsG []) A37 loop37 k) = cond (decide (i < 200)) (k (.exit 0) (X37 (some ([], n)) b c l)) (k (.exit 0) (X37 (some ([], n)) b c l)) by kernel_rfl]
  cases decide (i < 200) <;> rfl
theorem all37 (n : Int) (b : Bool) (c : Int) (k : Exit → Env → Pev.R) : ∀ (ps : List (Int × Int)) (l : List (Int × Int)), ps.length + l.length < 200 →
    loopE (prep (tabsG []) (annOf A37 loop37)) (evalC Tryz.prog (tabsG []) A37 loop37) (ps.length + 1) (E37 (some (ps, n)) (l.length : Int) b c l) (outK (tabsG []) A37 loop37 k) = k (.exit 0) (X37 (some ([], n)) b c (l ++ ps))
  | [], l, _ => by rw [List.append_nil]; exact last37 n _ b c l 0 k
  | p :: ps, l, h => by
    simp only [List.length_cons] at h
    rw [List.length_cons, step37, i64w _ (by omega) (by omega)]
    rw [show decide ((l.length : Int) < 200) = true from decide_eq_true (by omega), show appLim 16 l.length 1 = true from decide_eq_true (by omega), cond_true, cond_true]
    have := all37 n b c k ps (l ++ [p]) (by simp; omega)
    rw [show l ++ p :: ps = l ++ [p] ++ ps by simp, ← this]
    simp
theorem orc37 : OrcOk Tryz.prog (tabsG []) A37 loop37 := by
  intro o ho E k r h
  obtain rfl : o = o37 := by
    have e : orcOf A37 loop37 = some o37 := by kernel_rfl
    rw [e] at ho; exact (Option.some.inj ho).symm
  unfold o37 at h
  split at h
  · rename_i ps n b c
    cases hd : decide (ps.length < 200) with
    | false => rw [hd] at h; cases h
    | true =>
      rw [hd] at h
      refine ⟨ps.length + 1, ?_⟩
      rw [← h]
      have := all37 n b c k ps [] (by have := of_decide_eq_true hd; simpa using this)
      exact this
  · cases h
def sp37 : Pev.CSpec := ⟨fun
  | [.err none] => .ret (.ag [.bool false, .sl shPlace [], .int .i64 0])
  | [.err (some (ps, n))] => .br (decide (ps.length < 200)) (.ret (.ag [.bool true, .sl shPlace ps, .int .i64 n])) .fail
  | _ => .fail⟩
theorem ok37 : EnterOk Tryz.prog 34 ∧ CSpecOk Tryz.prog cfgG 34 sp37 := ⟨enter Tryz.func34 (by kernel_rfl) (by kernel_rfl), by
  intro args res h
  unfold sp37 at h
  simp only at h
  split at h <;> try (cases h; done)
  · obtain rfl := Option.some.inj h
    exact doneG1 noSpecsG (A := A37) (c := loop37) (by kernel_rfl) orc37 (by kernel_rfl) (by kernel_rfl)
  · rename_i ps n
    have e : evalF Tryz.prog (tabsG []) A37 34 [.err (some (ps, n))] = cond (decide (ps.length < 200)) (some (.ag [.bool true, .sl shPlace ps, .int .i64 n])) none := by kernel_rfl
    exact doneG1 noSpecsG (A := A37) (c := loop37) (by kernel_rfl) orc37 (by kernel_rfl) (e.trans h)⟩
end Go.Proofs.YtkkgimhjjhhkjaaGreatDoor
