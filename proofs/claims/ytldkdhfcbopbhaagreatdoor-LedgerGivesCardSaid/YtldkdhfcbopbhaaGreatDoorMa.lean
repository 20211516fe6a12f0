/- Chapter 21, plain: copies of rows; the document's example. -/
import Derived.Test.YtldkdhfcbopbhaaGreatDoorGb
set_option maxRecDepth 100000
namespace Go.Proofs.YtldkdhfcbopbhaaGreatDoor
open Go Go.Pev
theorem relR_one {α ρ : Type} (a : α) (f : α → Option ρ) : relR (anyW [a]) f = f a := by
  cases h : f a with
  | none => exact relR_none (anyW_good _) ⟨by simp, fun b hb => by rw [List.mem_singleton.1 hb]; exact h⟩
  | some r => exact relR_is (anyW_good _) ⟨by simp, fun b hb => by rw [List.mem_singleton.1 hb]; exact h⟩
/-- Clone, as it can be computed. -/
def cloneC {α : Type} (n : Nat) (l : List α) : Option (List α) := cond (appLim n 0 l.length) (some l) none
theorem appLim_zero (b : Nat) : appLim b 0 0 = true := by simp [appLim]
theorem slices_Clone_eq : slices_Clone = cloneC 56 := by
  funext l
  unfold slices_Clone slices_Clone_t cloneC
  cases l with
  | nil =>
    rw [List.length_nil, appLim_zero]
    exact LT.fin_rel _ _ _ ⟨by simp, fun b _ => by cases b <;> rfl⟩
  | cons a l =>
    show relR (anyW [false]) _ = _
    rw [relR_one]
    cases appLim 56 0 (a :: l).length <;> rfl
theorem slices_Clone_39_eq : slices_Clone_39 = cloneC 72 := by
  funext l
  unfold slices_Clone_39 slices_Clone_39_t cloneC
  cases l with
  | nil =>
    rw [List.length_nil, appLim_zero]
    exact LT.fin_rel _ _ _ ⟨by simp, fun b _ => by cases b <;> rfl⟩
  | cons a l =>
    show relR (anyW [false]) _ = _
    rw [relR_one]
    cases appLim 72 0 (a :: l).length <;> rfl

/-! ### the example -/
abbrev ndEv (l : List ((Int × Int) × Option Nat)) : Pev.Node := .map true false shFrom (.rf .sli) l
abbrev ndSub (l : List (Int × Option Nat)) : Pev.Node := .map false false (.int .i64) (.rf .ptr) l
abbrev ndNum (l : List ((Int × Int) × Int)) : Pev.Node := .map true false shFrom (.int .i64) l
abbrev ndL (ev : Nat) (n : Int) (sb : Nat) : Pev.Node := .box 67 shLedger (some ev, n, some sb)
abbrev ndS (f : Fil) (b n : Nat) (c : Bool) : Pev.Node := .box 90 shSub (f, some b, some n, c)
abbrev ndRow (l : List (List (ByteArray × V))) : Pev.Node := .row 33 shEvent l
def exE (n : Int) : List (ByteArray × V) := [(ByteArray.mk #[97], 1, n, ByteArray.mk #[], false)]
def exF : Fil := (false, [(ByteArray.mk #[97], 1, -9223372036854775808, 9223372036854775807, false, ByteArray.mk #[], false, false)])
def exH0 : List Pev.Node := [ndEv [], ndSub [], ndL 0 0 1]
def exH1 : List Pev.Node := [ndEv [((0, 0), some 3)], ndSub [], ndL 0 1 1, ndRow [exE 1]]
def exH2 : List Pev.Node := [ndEv [((0, 0), some 3)], ndSub [(5, some 6)], ndL 0 1 1, ndRow [exE 1], ndNum [((0, 0), 1)], ndNum [], ndS exF 4 5 false]
def exH3 : List Pev.Node := [ndEv [((0, 0), some 7)], ndSub [(5, some 6)], ndL 0 2 1, .gone, ndNum [((0, 0), 1)], ndNum [], ndS exF 4 5 false, ndRow [exE 1, exE 2]]
def exH4 : List Pev.Node := [ndEv [((0, 0), some 8)], ndSub [(5, some 6)], ndL 0 3 1, .gone, ndNum [((0, 0), 1)], ndNum [], ndS exF 4 5 false, .gone, ndRow [exE 1, exE 2, exE 3]]
def exH5 : List Pev.Node := [ndEv [((0, 0), some 8)], ndSub [(5, some 6)], ndL 0 3 1, .gone, ndNum [((0, 0), 1)], ndNum [((0, 0), 1)], ndS exF 4 5 false, .gone, ndRow [exE 1, exE 2, exE 3]]
theorem ex1 : ledger_Ledger_Accept (some 2) 0 0 (exE 1) [] exH0 = some (0, none, exH1) := by
  unfold ledger_Ledger_Accept ledger_Ledger_Accept_t
  rw [slices_Clone_eq]
  kernel_rfl
theorem ex3 : ledger_Ledger_Accept (some 2) 0 0 (exE 2) [] exH2 = some (1, none, exH3) := by
  unfold ledger_Ledger_Accept ledger_Ledger_Accept_t
  rw [slices_Clone_eq]
  kernel_rfl
theorem ex4 : ledger_Ledger_Accept (some 2) 0 0 (exE 3) [] exH3 = some (2, none, exH4) := by
  unfold ledger_Ledger_Accept ledger_Ledger_Accept_t
  rw [slices_Clone_eq]
  kernel_rfl
theorem ex5 : ledger_Ledger_Due (some 2) 5 0 0 [] exH4 = some ([1, 2], none, exH4) := by kernel_rfl
theorem ex6 : ledger_Ledger_Give (some 2) 5 0 0 2 [] exH4 = some (some ([], 20), exH4) := by kernel_rfl
theorem ex7 : ledger_Ledger_Give (some 2) 5 0 0 0 [] exH4 = some (none, exH5) := by kernel_rfl
theorem fin_br_t {Q : Type} {b : Bool} {x y : FT Q} (h : b = true) : (LT.br b x y : FT Q).fin = x.fin := by subst h; rfl
theorem fin_br_f {Q : Type} {b : Bool} {x y : FT Q} (h : b = false) : (LT.br b x y : FT Q).fin = y.fin := by subst h; rfl
theorem fin_get {Q α : Type} {o : Option α} {k : α → FT Q} (h : o.isSome = true) : (LT.opt o k : FT Q).fin = (k (o.get h)).fin := by
  cases o with
  | none => cases h
  | some a => rfl
theorem fin_eq {Q α : Type} {o : Option α} {a : α} {k : α → FT Q} (h : o = some a) : (LT.opt o k : FT Q).fin = (k a).fin := by subst h; rfl
/-- A loop over a map with one entry. -/
theorem ex2 : ledger_Ledger_Open (some 2) 5 exF [] exH1 = some (none, exH2) := by
  have hl : ledger_Ledger_Open_l0 (some 2, 5, some 6, [], some 0, [((0, 0), some 3)], exH1 ++ [ndNum [], ndNum [], ndS exF 4 5 false], ()) = some (some 2, 5, some 6, [], exH1 ++ [ndNum [((0, 0), 1)], ndNum [], ndS exF 4 5 false], ()) := by
    unfold ledger_Ledger_Open_l0
    rw [LT.loop_pos _ (by rw [fuel_is]; omega)]
    show relR (anyW [((0, 0), some 3)]) _ = _
    rw [relR_one]
    kernel_rfl
  have hc : filter_Copy exF = some exF := by
    unfold filter_Copy filter_Copy_t
    rw [slices_Clone_39_eq]
    kernel_rfl
  unfold ledger_Ledger_Open ledger_Ledger_Open_t
  refine (fin_br_f (by kernel_rfl)).trans ((fin_br_f (by kernel_rfl)).trans ((fin_get (by kernel_rfl)).trans ((fin_br_f (by kernel_rfl)).trans ((fin_br_t (by kernel_rfl)).trans ((fin_br_t (by kernel_rfl)).trans ?_)))))
  refine (fin_get (by kernel_rfl)).trans ((fin_get (by kernel_rfl)).trans ((fin_br_t (by kernel_rfl)).trans ((fin_get (by kernel_rfl)).trans ((fin_br_f (by kernel_rfl)).trans ?_))))
  refine (fin_br_t (by kernel_rfl)).trans ((fin_br_t (by kernel_rfl)).trans ((fin_get (by kernel_rfl)).trans ((fin_get (by kernel_rfl)).trans ((fin_br_t (by kernel_rfl)).trans ((fin_get (by kernel_rfl)).trans ((fin_br_f (by kernel_rfl)).trans ((fin_eq hc).trans ?_)))))))
  refine (fin_br_t (by kernel_rfl)).trans ((fin_br_t (by kernel_rfl)).trans ((fin_get (by kernel_rfl)).trans ((fin_get (by kernel_rfl)).trans ((fin_br_t (by kernel_rfl)).trans ((fin_get (by kernel_rfl)).trans ((fin_eq (Eq.trans (congrArg ledger_Ledger_Open_l0 (by kernel_rfl)) hl)).trans ?_))))))
  kernel_rfl
theorem awake_is : law21_awake [] [] = some (true, exH5) := by
  unfold law21_awake law21_awake_t
  refine (fin_eq (Eq.trans (by kernel_rfl) ex1)).trans ((fin_eq (Eq.trans (by kernel_rfl) ex2)).trans ((fin_eq (Eq.trans (by kernel_rfl) ex3)).trans ((fin_eq (Eq.trans (by kernel_rfl) ex4)).trans ((fin_eq (Eq.trans (by kernel_rfl) ex5)).trans ?_))))
  kernel_rfl
end Go.Proofs.YtldkdhfcbopbhaaGreatDoor
