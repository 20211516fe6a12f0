/- Chapter 7, plain: which filter means more; the document's pairs. -/
import Derived.Test.YtmpgilieeegnhaaGreatDoorKb
set_option maxRecDepth 100000
namespace Go.Proofs.YtmpgilieeegnhaaGreatDoor
open Go Go.Pev
/-- Is a at least as wide as b? -/
def wdB (a b : Bd) : Bool := match a, b with
  | (_, k, lo, hi, ex, s, t, f), (_, k', lo', hi', ex', s', t', f') => decide (k = k') && (if k = 1 then decide (lo ≤ lo') && decide (hi' ≤ hi) else
    if k = 2 then preB s' s && (!ex || (ex' && decide (s = s'))) else (t || !t') && (f || !f'))
theorem wide_is (a b : Bd) : cover_wide a b = some (wdB a b) := by
  obtain ⟨n, k, lo, hi, ex, s, t, f⟩ := a
  obtain ⟨n', k', lo', hi', ex', s', t', f'⟩ := b
  unfold cover_wide cover_wide_t wdB
  simp only [LT.fin_br, LT.fin_ret, prefix_is, LT.fin_some, bytes_beq]
  by_cases hk : k = k'
  · subst hk
    by_cases h1 : k = 1
    · subst h1
      by_cases hl : lo ≤ lo' <;> simp [hl]
    · by_cases h2 : k = 2
      · subst h2
        cases preB s' s <;> cases ex <;> cases ex' <;> simp
      · cases t <;> cases f <;> cases t' <;> cases f' <;> simp [h1, h2]
  · simp [hk]
theorem within_is (a b : Bd) : ref06_within b a = some (wdB a b) := by
  obtain ⟨n, k, lo, hi, ex, s, t, f⟩ := a
  obtain ⟨n', k', lo', hi', ex', s', t', f'⟩ := b
  unfold ref06_within ref06_within_t wdB
  simp only [LT.fin_br, LT.fin_ret, ref05_Holds_is, LT.fin_some, holdB]
  by_cases hk : k = k'
  · subst hk
    by_cases h1 : k = 1
    · subst h1
      by_cases hl : lo ≤ lo' <;> simp [hl]
    · by_cases h2 : k = 2
      · subst h2
        by_cases hs : s' = s
        · subst hs; cases ex <;> cases ex' <;> simp [preB_self]
        · have hs2 : ¬ s = s' := fun c => hs c.symm
          cases hp : preB s' s <;> cases ex <;> cases ex' <;> simp [hs, hs2, hp]
      · cases t <;> cases f <;> cases t' <;> cases f' <;> simp [h1, h2]
  · simp [hk]
def zBd : Bd := (ByteArray.mk #[], 0, 0, 0, false, ByteArray.mk #[], false, false)
def fndQ : Option Bd → Bd × Bool
  | some b => (b, true)
  | none => (zBd, false)
theorem find_is (f : Fil) (n : ByteArray) (hf : f.2.length ≤ 1000000) : cover_find f n = some (fndQ (getB f.2 n)) := by
  unfold cover_find cover_find_t
  have := foldE_run (bd := cover_find_b0) f.2 (by omega) (fun i _ => (n, f.2, Int.ofNat f.2.length, (i : Int), ByteArray.mk #[], 0, 0, 0, false, ByteArray.mk #[], false, false, ())) (fun (_ : Unit) (b : Bd) => if b.1 = n then .inr (.inl (true, b.1, b.2.1, b.2.2.1, b.2.2.2.1, b.2.2.2.2.1, b.2.2.2.2.2.1, b.2.2.2.2.2.2.1, b.2.2.2.2.2.2.2, ())) else .inl ()) (fun _ => .inr (ByteArray.mk #[], 0, 0, 0, false, ByteArray.mk #[], false, false, ()))
    (fun i hi p g => by
      refine (rn_in hi).trans ?_
      rw [getI_lt hi, bytes_beq]
      by_cases h : f.2[i].1 = n
      · rw [if_pos h]; exact (rn_t (decide_eq_true h)).trans rfl
      · rw [if_neg h, wsucc (by omega)]; exact (rn_f (decide_eq_false h)).trans rfl)
    (fun p g => rn_out.trans rfl) ()
  refine (fn_o this).trans ?_
  generalize f.2 = l
  clear this hf
  induction l with
  | nil => rfl
  | cons b l ih =>
    rw [foldE_cons, getB_cons]
    by_cases h : b.1 = n
    · rw [if_pos h, if_pos h]; rfl
    · rw [if_neg h, if_neg h]; exact ih
theorem bound_is (f : Fil) (n : ByteArray) (hf : f.2.length ≤ 1000000) : ref06_bound f n = some (fndQ (getB f.2 n)) := by
  unfold ref06_bound ref06_bound_t
  have := foldE_run (bd := ref06_bound_b0) f.2 (by omega) (fun i _ => (n, f.2, Int.ofNat f.2.length, (i : Int), ByteArray.mk #[], 0, 0, 0, false, ByteArray.mk #[], false, false, ())) (fun (_ : Unit) (b : Bd) => if b.1 = n then .inr (.inl (true, b.1, b.2.1, b.2.2.1, b.2.2.2.1, b.2.2.2.2.1, b.2.2.2.2.2.1, b.2.2.2.2.2.2.1, b.2.2.2.2.2.2.2, ())) else .inl ()) (fun _ => .inr (ByteArray.mk #[], 0, 0, 0, false, ByteArray.mk #[], false, false, ()))
    (fun i hi p g => by
      refine (rn_in hi).trans ?_
      rw [getI_lt hi, bytes_beq]
      by_cases h : f.2[i].1 = n
      · rw [if_pos h]; exact (rn_t (decide_eq_true h)).trans rfl
      · rw [if_neg h, wsucc (by omega)]; exact (rn_f (decide_eq_false h)).trans rfl)
    (fun p g => rn_out.trans rfl) ()
  refine (fn_o this).trans ?_
  generalize f.2 = l
  clear this hf
  induction l with
  | nil => rfl
  | cons b l ih =>
    rw [foldE_cons, getB_cons]
    by_cases h : b.1 = n
    · rw [if_pos h, if_pos h]; rfl
    · rw [if_neg h, if_neg h]; exact ih
/-- Is a bound's name there, and no wider? -/
def hasB (bs : List Bd) (a : Bd) : Bool := match getB bs a.1 with
  | some b => wdB a b
  | none => false
/-- Does f cover g? -/
def covB (f g : Fil) : Bool := if (f.1 || g.1) = true then g.1 else f.2.all (hasB g.2)
def covStep {Q : Type} (bs : List Bd) (q : Q) (_ : Unit) (a : Bd) : Unit ⊕ Q := if hasB bs a = true then .inl () else .inr q
theorem covStep_h {Q : Type} {bs : List Bd} {q : Q} {a : Bd} {c : Bool} (h : hasB bs a = c) : covStep bs q () a = if c = true then .inl () else .inr q := by unfold covStep; rw [h]
theorem covStep_all {Q : Type} (bs : List Bd) (q r : Q) : ∀ l : List Bd, foldE (covStep bs q) (fun _ => r) () l = if l.all (hasB bs) = true then r else q
  | [] => rfl
  | a :: l => by
    rw [foldE_cons, List.all_cons]
    unfold covStep
    cases h : hasB bs a with
    | true => simp only [if_true, Bool.true_and]; exact covStep_all bs q r l
    | false => simp
theorem Wide_is (f g : Fil) (hf : f.2.length ≤ 1000000) (hg : g.2.length ≤ 1000000) : cover_Wide f g = some (covB f g) := by
  unfold cover_Wide cover_Wide_t covB
  cases h1 : f.1 with
  | true => exact (fn_t rfl).trans rfl
  | false =>
    refine (fn_f rfl).trans ?_
    cases h2 : g.1 with
    | true => exact (fn_t rfl).trans rfl
    | false =>
      refine (fn_f rfl).trans ?_
      have := foldE_run (bd := cover_Wide_b0) f.2 (by omega) (fun i _ => (f.2, Int.ofNat f.2.length, (i : Int), false, g.2, ())) (covStep g.2 (Sum.inl (false, ()))) (fun _ => .inr ())
        (fun i hi p k => by
          refine (rn_in hi).trans ?_
          rw [getI_lt hi]
          refine (rn_o (find_is (false, g.2) _ hg)).trans ?_
          show (LT.br (!(fndQ (getB g.2 f.2[i].1)).2) _ _).run some k = _
          cases hb : getB g.2 f.2[i].1 with
          | none =>
            rw [covStep_h (c := false) (by unfold hasB; rw [hb])]
            exact (rn_t rfl).trans rfl
          | some b =>
            refine (rn_f rfl).trans ((rn_o (wide_is _ _)).trans ?_)
            show (LT.br (!(wdB f.2[i] b)) _ _).run some k = _
            rw [covStep_h (c := wdB f.2[i] b) (by unfold hasB; rw [hb])]
            cases hw : wdB f.2[i] b with
            | true => rw [wsucc (by omega)]; exact (rn_f rfl).trans rfl
            | false => exact (rn_t rfl).trans rfl)
        (fun p g => rn_out.trans rfl) ()
      rw [covStep_all] at this
      refine (fn_o this).trans ?_
      cases f.2.all (hasB g.2) <;> rfl
theorem Covers_is (f g : Fil) (hf : f.2.length ≤ 1000000) (hg : g.2.length ≤ 1000000) : ref06_Covers f g = some (covB f g) := by
  unfold ref06_Covers ref06_Covers_t covB
  cases h2 : g.1 with
  | true =>
    refine (fn_t rfl).trans ?_
    rw [Bool.or_true]; rfl
  | false =>
    refine (fn_f rfl).trans ?_
    cases h1 : f.1 with
    | true => exact (fn_t rfl).trans rfl
    | false =>
      refine (fn_f rfl).trans ?_
      have := foldE_run (bd := ref06_Covers_b0) f.2 (by omega) (fun i _ => (f.2, Int.ofNat f.2.length, (i : Int), false, g.2, ())) (covStep g.2 (Sum.inl (false, ()))) (fun _ => .inr ())
        (fun i hi p k => by
          refine (rn_in hi).trans ?_
          rw [getI_lt hi]
          refine (rn_o (bound_is (false, g.2) _ hg)).trans ?_
          show (LT.br (!(fndQ (getB g.2 f.2[i].1)).2) _ _).run some k = _
          cases hb : getB g.2 f.2[i].1 with
          | none =>
            rw [covStep_h (c := false) (by unfold hasB; rw [hb])]
            exact (rn_t rfl).trans rfl
          | some b =>
            refine (rn_f rfl).trans ((rn_o (within_is _ _)).trans ?_)
            show (LT.br (!(wdB f.2[i] b)) _ _).run some k = _
            rw [covStep_h (c := wdB f.2[i] b) (by unfold hasB; rw [hb])]
            cases hw : wdB f.2[i] b with
            | true => rw [wsucc (by omega)]; exact (rn_f rfl).trans rfl
            | false => exact (rn_t rfl).trans rfl)
        (fun p g => rn_out.trans rfl) ()
      rw [covStep_all] at this
      refine (fn_o this).trans ?_
      cases f.2.all (hasB g.2) <;> rfl
/-! ### pairs -/
/-- Lists as they are here: few, and each of few bounds. -/
abbrev few7 (l : Items) : Prop := ∀ p ∈ l, p.2.2.length ≤ 1000000
/-- Is x above y? -/
def abvI (x y : Item) : Bool := covB x.2 y.2 && (!covB y.2 x.2 || decide (x.1 < y.1))
def abvN (x y : Item) : Bool := decide (x.1 ≠ y.1) && abvI x y
theorem above_is (x y : Item) (hx : x.2.2.length ≤ 1000000) (hy : y.2.2.length ≤ 1000000) : ref07_above x y = some (abvI x y) := by
  unfold ref07_above ref07_above_t abvI
  refine (fn_o (Covers_is _ _ hx hy)).trans ?_
  cases covB x.2 y.2 with
  | false => exact (fn_f rfl).trans rfl
  | true =>
    refine (fn_t rfl).trans ((fn_o (Covers_is _ _ hy hx)).trans ?_)
    cases covB y.2 x.2 with
    | false => exact (fn_t rfl).trans rfl
    | true => exact (fn_f rfl).trans rfl
theorem neZ (a b : Int) : (a != b) = decide (a ≠ b) := by
  by_cases h : a = b <;> simp [h]
def upsL (l : Items) (y : Item) : Items := l.filter fun x => abvN x y
def topB (l : Items) (y : Item) : Bool := !(l.any fun x => abvN x y)
def rootsL (l : Items) : List Int := (l.filter (topB l)).map (·.1)
def justB (u : Items) (x : Item) : Bool := !(u.any fun z => decide (z.1 ≠ x.1) && abvI x z)
def parsL (l : Items) (y : Item) : List Int := ((upsL l y).filter (justB (upsL l y))).map (·.1)
theorem map_filter_fold (p : Item → Bool) : ∀ (l : Items) (m : List Int), l.foldl (fun m x => if p x = true then m ++ [x.1] else m) m = m ++ (l.filter p).map (·.1)
  | [], m => by simp
  | x :: l, m => by
    rw [List.foldl_cons, map_filter_fold p l, List.filter_cons]
    split <;> simp
theorem roots_loop1 (l : Items) (hl : l.length ≤ 1000000) (hb : few7 l) (y : Item) (hy : y.2.2.length ≤ 1000000) (L : Items) (n j : Int) (m : List Int) :
    ref07_Roots_l1 (l, true, L, n, j, l, Int.ofNat l.length, 0, y.1, y.2.1, y.2.2, m, ()) = some (l, topB l y, L, n, j, y.1, y.2.1, y.2.2, m, ()) := by
  have := foldE_run (bd := ref07_Roots_b1) l (by omega) (fun i (b : Bool) => (l, b, L, n, j, l, Int.ofNat l.length, (i : Int), y.1, y.2.1, y.2.2, m, ())) (fun b x => .inl (b && !abvN x y)) (fun b => (l, b, L, n, j, y.1, y.2.1, y.2.2, m, ()))
    (fun i hi b g => by
      refine (rn_in hi).trans ?_
      rw [getI_lt hi, wsucc (by omega)]
      cases b with
      | false => exact (rn_f rfl).trans rfl
      | true =>
        refine (rn_t rfl).trans ?_
        rw [neZ]
        unfold abvN
        by_cases h : l[i].1 = y.1
        · refine (rn_f (decide_eq_false (fun c => c h))).trans ?_
          rw [decide_eq_false (fun c => c h)]; rfl
        · refine (rn_t (decide_eq_true h)).trans ((rn_o (above_is _ _ (hb _ (List.getElem_mem hi)) hy)).trans ?_)
          rw [decide_eq_true (show l[i].1 ≠ y.1 from h)]; rfl)
    (fun b g => rn_out.trans rfl) true
  rw [foldE_fold (fun b x => b && !abvN x y) (fun _ _ => rfl)] at this
  refine Eq.trans (show ref07_Roots_l1 _ = _ from this) ?_
  have key : ∀ (l : Items) (b : Bool), l.foldl (fun b x => b && !abvN x y) b = (b && !(l.any fun x => abvN x y)) := by
    intro l
    induction l with
    | nil => intro b; simp
    | cons x l ih => intro b; rw [List.foldl_cons, ih, List.any_cons]; cases b <;> cases abvN x y <;> simp
  rw [key]; rfl
theorem roots_is (l : Items) (hl : l.length ≤ 1000000) (hb : few7 l) : ref07_Roots l = some (rootsL l) := by
  unfold ref07_Roots ref07_Roots_t
  have := foldE_runI (bd := ref07_Roots_b0) l (by omega) (fun i (m : List Int) => (l, l, Int.ofNat l.length, (i : Int), m, ())) (fun m y => .inl (if topB l y = true then m ++ [y.1] else m)) (fun m => (m, ())) (fun i m => m.length ≤ i)
    (fun i hi m g hm => by
      refine (rn_in hi).trans ?_
      rw [getI_lt hi]
      refine (rn_o (roots_loop1 l hl hb l[i] (hb _ (List.getElem_mem hi)) l (Int.ofNat l.length) (i : Int) m)).trans ?_
      show (LT.br (topB l l[i]) _ _).run some g = _
      dsimp only
      rw [wsucc (by omega)]
      cases topB l l[i] with
      | true => exact (rn_t rfl).trans ((rn_t (appLim_ok (by omega))).trans rfl)
      | false => exact (rn_f rfl).trans rfl)
    (fun i hi s t hs h => by cases h; split <;> (try simp only [List.length_append, List.length_singleton]) <;> omega)
    (fun m g hm => rn_out.trans rfl) [] (Nat.le_refl _)
  rw [foldE_fold (fun (m : List Int) (y : Item) => if topB l y = true then m ++ [y.1] else m) (fun _ _ => rfl), map_filter_fold, List.nil_append] at this
  exact (fn_o this).trans rfl
theorem pars_loop0 (l : Items) (hl : l.length ≤ 1000000) (hb : few7 l) (y : Item) (hy : y.2.2.length ≤ 1000000) : ref07_parents_l0 (l, Int.ofNat l.length, 0, y.1, y.2.1, y.2.2, [], ()) = some (upsL l y, ()) := by
  have := foldE_runI (bd := ref07_parents_b0) l (by omega) (fun i (m : Items) => (l, Int.ofNat l.length, (i : Int), y.1, y.2.1, y.2.2, m, ())) (fun m x => .inl (if abvN x y = true then m ++ [x] else m)) (fun m => (m, ())) (fun i m => m.length ≤ i)
    (fun i hi m g hm => by
      refine (rn_in hi).trans ?_
      rw [getI_lt hi, wsucc (by omega), neZ]
      unfold abvN
      by_cases h : l[i].1 = y.1
      · refine (rn_f (decide_eq_false (fun c => c h))).trans ?_
        rw [decide_eq_false (fun c => c h)]; rfl
      · refine (rn_t (decide_eq_true h)).trans ((rn_o (above_is _ _ (hb _ (List.getElem_mem hi)) hy)).trans ?_)
        rw [decide_eq_true (show l[i].1 ≠ y.1 from h), Bool.true_and]
        show (LT.br (abvI l[i] y) _ _).run some g = _
        cases abvI l[i] y with
        | true => exact (rn_t rfl).trans ((rn_t (appLim_ok (by omega))).trans rfl)
        | false => exact (rn_f rfl).trans rfl)
    (fun i hi s t hs h => by cases h; split <;> (try simp only [List.length_append, List.length_singleton]) <;> omega)
    (fun m g hm => rn_out.trans rfl) [] (Nat.le_refl _)
  rw [foldE_fold (fun (m : Items) (x : Item) => if abvN x y = true then m ++ [x] else m) (fun _ _ => rfl), foldl_filter (fun x => abvN x y), List.nil_append] at this
  exact this
theorem pars_loop2 (u : Items) (hl : u.length ≤ 1000000) (hb : few7 u) (x : Item) (hx : x.2.2.length ≤ 1000000) (n j : Int) (m : List Int) :
    ref07_parents_l2 (true, n, j, Int.ofNat u.length, 0, x.1, x.2.1, x.2.2, u, m, ()) = some (justB u x, n, j, x.1, x.2.1, x.2.2, u, m, ()) := by
  have := foldE_run (bd := ref07_parents_b2) u (by omega) (fun i (b : Bool) => (b, n, j, Int.ofNat u.length, (i : Int), x.1, x.2.1, x.2.2, u, m, ())) (fun b z => .inl (b && !(decide (z.1 ≠ x.1) && abvI x z))) (fun b => (b, n, j, x.1, x.2.1, x.2.2, u, m, ()))
    (fun i hi b g => by
      refine (rn_in hi).trans ((rn_t dge0).trans ((rn_t (dlt hi)).trans ?_))
      rw [getI_lt hi, wsucc (by omega)]
      cases b with
      | false => exact (rn_f rfl).trans rfl
      | true =>
        refine (rn_t rfl).trans ?_
        rw [neZ]
        by_cases h : u[i].1 = x.1
        · refine (rn_f (decide_eq_false (fun c => c h))).trans ?_
          rw [decide_eq_false (fun c => c h)]; rfl
        · refine (rn_t (decide_eq_true h)).trans ((rn_o (above_is _ _ hx (hb _ (List.getElem_mem hi)))).trans ?_)
          rw [decide_eq_true (show u[i].1 ≠ x.1 from h)]; rfl)
    (fun b g => rn_out.trans rfl) true
  rw [foldE_fold (fun b z => b && !(decide (z.1 ≠ x.1) && abvI x z)) (fun _ _ => rfl)] at this
  refine Eq.trans (show ref07_parents_l2 _ = _ from this) ?_
  have key : ∀ (l : Items) (b : Bool), l.foldl (fun b z => b && !(decide (z.1 ≠ x.1) && abvI x z)) b = (b && !(l.any fun z => decide (z.1 ≠ x.1) && abvI x z)) := by
    intro l
    induction l with
    | nil => intro b; simp
    | cons z l ih => intro b; rw [List.foldl_cons, ih, List.any_cons]; cases b <;> cases (decide (z.1 ≠ x.1) && abvI x z) <;> simp
  rw [key]; rfl
theorem pars_is (l : Items) (hl : l.length ≤ 1000000) (hb : few7 l) (y : Item) (hy : y.2.2.length ≤ 1000000) : ref07_parents l y = some (parsL l y) := by
  unfold ref07_parents ref07_parents_t
  refine (fn_o (pars_loop0 l hl hb y hy)).trans ?_
  have hu : (upsL l y).length ≤ 1000000 := Nat.le_trans (List.length_filter_le _ _) hl
  have hub : few7 (upsL l y) := fun p hp => hb p (List.mem_filter.1 hp).1
  unfold parsL
  dsimp only
  generalize upsL l y = u at hu hub
  have := foldE_runI (bd := ref07_parents_b1) u (by omega) (fun i (m : List Int) => (Int.ofNat u.length, (i : Int), u, m, ())) (fun m x => .inl (if justB u x = true then m ++ [x.1] else m)) (fun m => (m, ())) (fun i m => m.length ≤ i)
    (fun i hi m g hm => by
      refine (rn_in hi).trans ((rn_t dge0).trans ((rn_t (dlt hi)).trans ?_))
      rw [getI_lt hi]
      refine (rn_o (pars_loop2 u hu hub u[i] (hub _ (List.getElem_mem hi)) (Int.ofNat u.length) (i : Int) m)).trans ?_
      dsimp only
      rw [wsucc (by omega)]
      cases justB u u[i] with
      | true => exact (rn_t rfl).trans ((rn_t (appLim_ok (by omega))).trans rfl)
      | false => exact (rn_f rfl).trans rfl)
    (fun i hi s t hs h => by cases h; split <;> (try simp only [List.length_append, List.length_singleton]) <;> omega)
    (fun m g hm => rn_out.trans rfl) [] (Nat.le_refl _)
  rw [foldE_fold (fun (m : List Int) (x : Item) => if justB u x = true then m ++ [x.1] else m) (fun _ _ => rfl), map_filter_fold, List.nil_append] at this
  exact (fn_o this).trans rfl
theorem hasZ_is (l : List Int) (x : Int) (hl : l.length ≤ 1000000) : ref01_Has l x = some (l.contains x) := by
  unfold ref01_Has ref01_Has_t
  have := foldE_run (bd := ref01_Has_b0) l (by omega) (fun i (_ : Unit) => (x, l, Int.ofNat l.length, (i : Int), ())) (fun _ y => if y = x then .inr (.inl (true, ())) else .inl ()) (fun _ => .inr ())
    (fun i hi p g => by
      refine (rn_in hi).trans ?_
      rw [getI_lt hi, beq_dec]
      by_cases h : l[i] = x
      · rw [if_pos h]; exact (rn_t (decide_eq_true h)).trans rfl
      · rw [if_neg h, wsucc (by omega)]; exact (rn_f (decide_eq_false h)).trans rfl)
    (fun p g => rn_out.trans rfl) ()
  refine (fn_o this).trans ?_
  clear this hl
  induction l with
  | nil => rfl
  | cons y l ih =>
    rw [foldE_cons, List.contains_cons]
    by_cases h : y = x
    · subst h; rw [if_pos rfl, beq_self_eq_true]; rfl
    · rw [if_neg h, show (x == y) = false by simpa using fun c => h c.symm, Bool.false_or]; exact ih
/-- Parents, Children, Covered, Get, as the document has them. -/
def parP (l : Items) (id : Int) : List Int × Err := match lkF id l with
  | none => ([], eN 10)
  | some f => (parsL l (id, f), none)
def chlP (l : Items) (id : Int) : List Int × Err := match lkF id l with
  | none => ([], eN 10)
  | some _ => ((l.filter fun y => (parsL l y).contains id).map (·.1), none)
def covP (l : Items) (f : Fil) : Bool × Err := match ckF f with
  | some e => (false, some e)
  | none => (l.any fun x => covB x.2 f, none)
def getP (l : Items) (id : Int) : Fil × Err := match lkF id l with
  | none => ((false, []), eN 10)
  | some f => (f, none)
/-- The number's place. -/
theorem place_at (l : Items) (id : Int) {f : Fil} (h : lkF id l = some f) : ∃ j, ∃ hj : j < l.length, idxI (isI id) 0 l = (j : Int) ∧ l[j] = (id, f) := by
  rcases idxI_is (isI id) l 0 with ⟨h1, h2⟩ | ⟨j, hj, h1, h2, h3, _⟩
  · rw [lkF_find] at h
    have h1 : (l.find? fun p => decide (p.1 = id)) = none := h1
    rw [h1] at h; cases h
  · refine ⟨j, hj, by rw [h1, Nat.zero_add], ?_⟩
    rw [lkF_find] at h
    have h2 : (l.find? fun p => decide (p.1 = id)) = some l[j] := h2
    rw [h2] at h
    have e1 : l[j].2 = f := Option.some.inj h
    have e2 : l[j].1 = id := of_decide_eq_true h3
    rw [← e1, ← e2]
theorem rparents_is (l : Items) (id : Int) (hl : l.length ≤ 1000000) (hb : few7 l) : ref07_Parents l id = some ((parP l id).1, toE (parP l id).2) := by
  unfold ref07_Parents ref07_Parents_t parP
  refine (fn_o (place_is l id hl)).trans ?_
  cases hk : lkF id l with
  | none => exact (fn_t (decide_eq_true ((place_lk l id).2 hk))).trans rfl
  | some f =>
    obtain ⟨j, hj, h1, h2⟩ := place_at l id hk
    rw [h1]
    refine (fn_f (decide_eq_false (by omega))).trans ((fn_t dge0).trans ((fn_t (dlt hj)).trans ?_))
    rw [getI_lt hj, h2]
    have hf : f.2.length ≤ 1000000 := by have := hb _ (List.getElem_mem hj); rw [h2] at this; exact this
    exact (fn_o (pars_is l hl hb (id, f) hf)).trans rfl
theorem rget_is (l : Items) (id : Int) (hl : l.length ≤ 1000000) : ref07_Get l id = some ((getP l id).1, toE (getP l id).2) := by
  unfold ref07_Get ref07_Get_t getP
  refine (fn_o (place_is l id hl)).trans ?_
  cases hk : lkF id l with
  | none => exact (fn_t (decide_eq_true ((place_lk l id).2 hk))).trans rfl
  | some f =>
    obtain ⟨j, hj, h1, h2⟩ := place_at l id hk
    rw [h1]
    refine (fn_f (decide_eq_false (by omega))).trans ((fn_t dge0).trans ((fn_t (dlt hj)).trans ?_))
    rw [getI_lt hj, h2]
    rfl
theorem rchildren_is (l : Items) (id : Int) (hl : l.length ≤ 1000000) (hb : few7 l) : ref07_Children l id = some ((chlP l id).1, toE (chlP l id).2) := by
  unfold ref07_Children ref07_Children_t chlP
  refine (fn_o (place_is l id hl)).trans ?_
  cases hk : lkF id l with
  | none => exact (fn_t (decide_eq_true ((place_lk l id).2 hk))).trans rfl
  | some f =>
    obtain ⟨j, hj, h1, h2⟩ := place_at l id hk
    rw [h1]
    refine (fn_f (decide_eq_false (by omega))).trans ?_
    have hpl : ∀ y, (parsL l y).length ≤ 1000000 := fun y => by
      unfold parsL
      rw [List.length_map]
      exact Nat.le_trans (List.length_filter_le _ _) (Nat.le_trans (List.length_filter_le _ _) hl)
    have := foldE_runI (bd := ref07_Children_b0) l (by omega) (fun i (m : List Int) => (l, id, l, Int.ofNat l.length, (i : Int), false, (0 : Int), m, ())) (fun m y => .inl (if (parsL l y).contains id = true then m ++ [y.1] else m)) (fun m => (false, (0 : Int), m, ())) (fun i m => m.length ≤ i)
      (fun i hi m g hm => by
        refine (rn_in hi).trans ?_
        rw [getI_lt hi]
        refine (rn_o (pars_is l hl hb l[i] (hb _ (List.getElem_mem hi)))).trans ((rn_o (hasZ_is _ _ (hpl _))).trans ?_)
        rw [wsucc (by omega)]
        cases (parsL l l[i]).contains id with
        | true => exact (rn_t rfl).trans ((rn_t (appLim_ok (by omega))).trans rfl)
        | false => exact (rn_f rfl).trans rfl)
      (fun i hi s t hs h => by cases h; split <;> (try simp only [List.length_append, List.length_singleton]) <;> omega)
      (fun m g hm => rn_out.trans rfl) [] (Nat.le_refl _)
    rw [foldE_fold (fun (m : List Int) (y : Item) => if (parsL l y).contains id = true then m ++ [y.1] else m) (fun _ _ => rfl), map_filter_fold (fun y => (parsL l y).contains id), List.nil_append] at this
    exact (fn_o this).trans rfl
theorem rcovered_is (l : Items) (f : Fil) (hl : l.length ≤ 1000000) (hb : few7 l) : ref07_Covered l f = some ((covP l f).1, toE (covP l f).2) := by
  unfold ref07_Covered ref07_Covered_t covP
  refine (fn_o (ref05_Check_is f)).trans ?_
  cases hc : ckF f with
  | some e => exact (fn_t rfl).trans rfl
  | none =>
    have hf : f.2.length ≤ 1000000 := by have := (ckF_rise hc).2.1; omega
    refine (fn_f rfl).trans ?_
    have := foldE_run (bd := ref07_Covered_b0) l (by omega) (fun i (_ : Unit) => (l, Int.ofNat l.length, (i : Int), f.1, f.2, false, (0 : Int), ())) (fun _ x => if covB x.2 f = true then .inr (.inl (true, false, (0 : Int), ())) else .inl ()) (fun _ => .inr (false, (0 : Int), ()))
      (fun i hi p g => by
        refine (rn_in hi).trans ?_
        rw [getI_lt hi]
        refine (rn_o (Covers_is l[i].2 f (hb _ (List.getElem_mem hi)) hf)).trans ?_
        cases h : covB l[i].2 f with
        | true => exact (rn_t rfl).trans rfl
        | false => rw [wsucc (by omega)]; exact (rn_f rfl).trans rfl)
      (fun p g => rn_out.trans rfl) ()
    refine (fn_o this).trans ?_
    clear this hb hl
    induction l with
    | nil => rfl
    | cons x l ih =>
      rw [foldE_cons, List.any_cons]
      cases h : covB x.2 f with
      | true => rfl
      | false => simp only [Bool.false_eq_true, if_false, Bool.false_or]; exact ih
theorem rall_is (l : Items) (hl : l.length ≤ 1000000) : ref07_All l = some (l.map (·.1)) := by
  unfold ref07_All ref07_All_t
  have := foldE_runI (bd := ref07_All_b0) l (by omega) (fun i (m : List Int) => (l, Int.ofNat l.length, (i : Int), m, ())) (fun m y => .inl (m ++ [y.1])) (fun m => (m, ())) (fun i m => m.length ≤ i)
    (fun i hi m g hm => by
      refine (rn_in hi).trans ?_
      rw [getI_lt hi, wsucc (by omega)]
      exact (rn_t (appLim_ok (by omega))).trans rfl)
    (fun i hi s t hs h => by cases h; simp only [List.length_append, List.length_singleton]; omega)
    (fun m g hm => rn_out.trans rfl) [] (Nat.le_refl _)
  rw [foldE_fold (fun (m : List Int) (y : Item) => m ++ [y.1]) (fun _ _ => rfl)] at this
  have key : ∀ (l : Items) (m : List Int), l.foldl (fun (m : List Int) (y : Item) => m ++ [y.1]) m = m ++ l.map (·.1) := by
    intro l
    induction l with
    | nil => intro m; simp
    | cons x l ih => intro m; rw [List.foldl_cons, ih]; simp
  rw [key, List.nil_append] at this
  exact (fn_o this).trans rfl
end Go.Proofs.YtmpgilieeegnhaaGreatDoor
