/- Chapter 8, plain: what an error tells; lists alike; what the document's lists answer. -/
import Derived.Test.YtdiomgmckidccaaGreatDoorKf
set_option maxRecDepth 100000
namespace Go.Proofs.YtdiomgmckidccaaGreatDoor
open Go Go.Pev
abbrev TE := Bool × List (Int × Int) × Int
/-- What an error tells. -/
def tellE : Err → TE
  | none => (false, [], 0)
  | some (ps, n) => (true, ps, n)
theorem of_loop (n : Int) : ∀ (ps l : List (Int × Int)) (m : Nat), ps.length + l.length < 200 → ps.length < m →
    LT.loop law01_Of_b0 m (some (ps, n), (l.length : Int), false, 0, true, 0, l, ()) = some (some ([], n), false, 0, true, 0, l ++ ps, ())
  | _, _, 0, _, h => by omega
  | [], l, m + 1, h, _ => by
    rw [LT.loop_succ]
    simp only [List.length_nil] at h
    refine (rn_t (decide_eq_true (by omega))).trans ((rn_f rfl).trans ?_)
    show some _ = some _
    rw [List.append_nil]
  | p :: ps, l, m + 1, h, hm => by
    simp only [List.length_cons] at h hm
    rw [LT.loop_succ]
    refine (rn_t (decide_eq_true (by omega))).trans ((rn_t rfl).trans ((rn_o (a := (p, some (ps, n))) rfl).trans ((rn_t (appLim_ok (by omega))).trans ?_)))
    have hw : IntKind.i64.wrap ((l.length : Int) + 1) = ((l ++ [p]).length : Int) := by rw [i64_wrap _ (by omega) (by omega)]; simp
    have ih := of_loop n ps (l ++ [p]) m (by simp; omega) (by omega)
    rw [List.append_assoc] at ih
    rw [hw]
    exact ih
theorem of_is (e : Err) (h : (tellE e).2.1.length < 200) : law01_Of e = some (tellE e) := by
  cases e with
  | none => rfl
  | some v =>
    obtain ⟨ps, n⟩ := v
    have hl := of_loop n ps [] FUEL (by have h2 : ps.length < 200 := h; simpa using h2) (by rw [fuel_is]; have : ps.length < 200 := h; omega)
    unfold law01_Of law01_Of_t
    refine (fn_f rfl).trans ((fn_o hl).trans ((fn_t rfl).trans ((fn_o rfl).trans ?_)))
    rfl
theorem same_loop (a : Bool) (n : Int) (l : List (Int × Int)) (b : Bool) (n' : Int) (l' : List (Int × Int)) (hl : l.length = l'.length) (hn : l.length < 1000) : ∀ (m i : Nat), i ≤ l.length → l.length - i < m → (∀ j, j < i → l[j]? = l'[j]?) →
    LT.loop ref01_Same_b0 m ((l.length : Int), (i : Int), a, l, n, b, l', n', ()) = some (if l = l' then .inr () else .inl (false, ()))
  | 0, _, _, h, _ => by omega
  | m + 1, i, h1, h2, h3 => by
    rw [LT.loop_succ]
    by_cases hi : i < l.length
    · have d0 : decide ((0 : Int) ≤ (i : Int)) = true := decide_eq_true (by omega)
      refine (rn_t (decide_eq_true (by omega))).trans ((rn_t d0).trans ((rn_t (decide_eq_true (by simp only [Int.ofNat_eq_natCast]; omega))).trans ((rn_t d0).trans ((rn_t (decide_eq_true (by simp only [Int.ofNat_eq_natCast]; omega))).trans ?_))))
      rw [getI_lt hi, getI_lt (by omega)]
      by_cases he : l[i] = l'[i]'(by omega)
      · rw [he, eqB_self shPlace _ rfl]
        refine (rn_f rfl).trans ?_
        have hw : IntKind.i64.wrap ((i : Int) + 1) = ((i + 1 : Nat) : Int) := by rw [i64_wrap _ (by omega) (by omega)]; omega
        rw [hw]
        refine same_loop a n l b n' l' hl hn m (i + 1) (by omega) (by omega) fun j hj => ?_
        by_cases hji : j = i
        · subst hji
          rw [List.getElem?_eq_getElem hi, List.getElem?_eq_getElem (by omega), he]
        · exact h3 j (by omega)
      · have hb : eqB shPlace l[i] (l'[i]'(by omega)) = false := by
          cases hc : eqB shPlace l[i] (l'[i]'(by omega)) with
          | false => rfl
          | true => exact absurd (eqB_eq shPlace _ _ rfl hc) he
        rw [hb, if_neg fun c => he (by subst c; rfl)]
        exact (rn_t rfl).trans rfl
    · have : l = l' := List.ext_getElem? fun j => by
        by_cases hj : j < i
        · exact h3 j hj
        · rw [List.getElem?_eq_none (by omega), List.getElem?_eq_none (by omega)]
      rw [if_pos this]
      exact (rn_f (decide_eq_false (by omega))).trans rfl
theorem same_is (x y : TE) (h : x.2.1.length < 1000) : ref01_Same x y = some (decide (x = y)) := by
  obtain ⟨a, l, n⟩ := x
  obtain ⟨b, l', n'⟩ := y
  have h : l.length < 1000 := h
  unfold ref01_Same ref01_Same_t
  by_cases hab : a = b
  · subst hab
    refine (fn_f (by cases a <;> rfl)).trans ?_
    by_cases hn : n = n'
    · subst hn
      refine (fn_f (by simp)).trans ?_
      by_cases hl : l.length = l'.length
      · refine (fn_f (by simp [hl])).trans ?_
        have := same_loop a n l a n l' hl h FUEL 0 (by omega) (by rw [fuel_is]; omega) (fun j hj => by omega)
        refine (fn_o this).trans ?_
        by_cases he : l = l'
        · rw [if_pos he]; subst he; simp; rfl
        · rw [if_neg he]; simp [he]; rfl
      · refine (fn_t (by simp; omega)).trans ?_
        have : l ≠ l' := fun c => hl (by rw [c])
        simp [this]; rfl
    · refine (fn_t (by simpa using hn)).trans ?_
      simp [hn]; rfl
  · refine (fn_t (by cases a <;> cases b <;> simp_all)).trans ?_
    simp [hab]; rfl
theorem tell_is (e : Err) : tellE e = toE e := by cases e <;> rfl
def few8 (e : Err) : Prop := (tellE e).2.1.length ≤ 1
theorem fails_is {e : Err} (h : few8 e) : law08_fails e (toE e) = some true := by
  have h1 : (tellE e).2.1.length ≤ 1 := h
  unfold law08_fails law08_fails_t
  refine (fn_o (of_is e (by omega))).trans ((fn_o (same_is _ _ (by omega))).trans ?_)
  rw [tell_is, decide_eq_true rfl]; rfl
theorem few_eN (n : Int) : few8 (eN n) := Nat.zero_le _
theorem few_none : few8 none := Nat.zero_le _
theorem few_ckF (f : Fil) : few8 (ckF f) := by
  unfold ckF
  split
  · exact Nat.zero_le _
  · split
    · exact Nat.zero_le _
    · exact Nat.zero_le _
theorem few_chk : ∀ (l : Ev) (p : ByteArray) (i : Nat), few8 (chk p l i)
  | [], _, _ => Nat.zero_le _
  | (n, v) :: l, p, i => by
    unfold chk
    cases nameB n with
    | false => exact Nat.le_refl _
    | true =>
      cases notUp n p with
      | true => exact Nat.le_refl _
      | false =>
        cases hc : ckE v with
        | none => exact few_chk l n (i + 1)
        | some x =>
          have := ckE_few v x hc
          show few8 (some ((2, (i : Int)) :: x.1, x.2))
          rw [this]; exact Nat.le_refl _
theorem few_ckEv (l : Ev) : few8 (ckEv l) := by
  unfold ckEv
  split
  · exact Nat.zero_le _
  · exact few_chk _ _ _
theorem foldE_fold {σ α Q : Type} {step : σ → α → σ ⊕ Q} {out : σ → Q} (f : σ → α → σ) (h : ∀ s x, step s x = .inl (f s x)) : ∀ (l : List α) (s : σ), foldE step out s l = out (l.foldl f s)
  | [], _ => rfl
  | x :: l, s => by rw [foldE_l (h s x), foldE_fold f h l (f s x)]; rfl
theorem ints_self (l : List Int) (hl : l.length ≤ 1000000) : ref01_Ints l l = some true := by
  unfold ref01_Ints ref01_Ints_t
  refine (fn_f (by simp)).trans ?_
  have := foldE_run (bd := ref01_Ints_b0) l (by omega) (fun i (_ : Unit) => (l, l, Int.ofNat l.length, (i : Int), ())) (fun _ _ => .inl ()) (fun _ => .inr ())
    (fun i hi p g => by
      refine (rn_in hi).trans ((rn_t dge0).trans ((rn_t (dlt hi)).trans ((rn_f (by simp)).trans ?_)))
      rw [wsucc (by omega)]; rfl)
    (fun s g => rn_out.trans rfl) ()
  rw [foldE_fold (fun _ _ => ()) (fun _ _ => rfl)] at this
  exact (fn_o this).trans rfl
theorem strs_self (l : List ByteArray) (hl : l.length ≤ 1000000) : ref01_Strings l l = some true := by
  unfold ref01_Strings ref01_Strings_t
  refine (fn_f (by simp)).trans ?_
  have := foldE_run (bd := ref01_Strings_b0) l (by omega) (fun i (_ : Unit) => (l, l, Int.ofNat l.length, (i : Int), ())) (fun _ _ => .inl ()) (fun _ => .inr ())
    (fun i hi p g => by
      refine (rn_in hi).trans ((rn_t dge0).trans ((rn_t (dlt hi)).trans ((rn_f (by simp)).trans ?_)))
      rw [wsucc (by omega)]; rfl)
    (fun s g => rn_out.trans rfl) ()
  rw [foldE_fold (fun _ _ => ()) (fun _ _ => rfl)] at this
  exact (fn_o this).trans rfl
theorem twin_is (x : Ev) (h : x.length * 56 ≤ 140737488355328) : ref03_Twin x = some x := by
  unfold ref03_Twin ref03_Twin_t
  exact (fn_t (appLim_ok (by omega))).trans rfl
theorem ftwin_is (f : Fil) (h : f.2.length * 72 ≤ 140737488355328) : ref05_Twin f = some f := by
  unfold ref05_Twin ref05_Twin_t
  exact (fn_t (appLim_ok (by omega))).trans rfl
/-- The first place of which something holds. -/
def idxI {α : Type} (p : α → Bool) : Nat → List α → Int
  | _, [] => -1
  | i, x :: l => if p x = true then (i : Int) else idxI p (i + 1) l
theorem idxI_is {α : Type} (p : α → Bool) : ∀ (l : List α) (i : Nat), (l.find? p = none ∧ idxI p i l = -1) ∨ ∃ j, ∃ h : j < l.length, idxI p i l = ((i + j : Nat) : Int) ∧ l.find? p = some l[j] ∧ p l[j] = true ∧ ∀ k, (hk : k < j) → p l[k] = false
  | [], i => .inl ⟨rfl, rfl⟩
  | x :: l, i => by
    unfold idxI
    rw [List.find?_cons]
    cases h : p x with
    | true => exact .inr ⟨0, by simp, rfl, rfl, h, fun k hk => by omega⟩
    | false =>
      rcases idxI_is p l (i + 1) with h1 | ⟨j, hj, h1, h2, h3, h4⟩
      · exact .inl h1
      · refine .inr ⟨j + 1, by simpa using hj, ?_, by simpa using h2, by simpa using h3, fun k hk => ?_⟩
        · simp only [Bool.false_eq_true, if_false]; rw [h1]; congr 1; omega
        · cases k with
          | zero => exact h
          | succ k => exact h4 k (by omega)
theorem foldE_idx {α Q : Type} (p : α → Bool) (fi : Int → Q) (no : Q) : ∀ (l : List α) (i : Nat), foldE (fun (j : Nat) x => if p x = true then (.inr (fi (j : Int)) : Nat ⊕ Q) else .inl (j + 1)) (fun _ => no) i l = if idxI p i l < 0 then no else fi (idxI p i l)
  | [], _ => rfl
  | x :: l, i => by
    rw [foldE_cons]
    unfold idxI
    cases h : p x with
    | true => simp only [if_true]; rw [if_neg (by omega)]
    | false => simp only [Bool.false_eq_true, if_false]; exact foldE_idx p fi no l (i + 1)
def isI (id : Int) (x : Item) : Bool := decide (x.1 = id)
theorem place_is (l : Items) (id : Int) (hl : l.length ≤ 1000000) : ref07_place l id = some (idxI (isI id) 0 l) := by
  unfold ref07_place ref07_place_t
  have := foldE_runI (bd := ref07_place_b0) l (by omega) (fun i (_ : Nat) => (id, l, Int.ofNat l.length, (i : Int), ())) (fun (j : Nat) x => if isI id x = true then .inr (.inl ((j : Int), ())) else .inl (j + 1)) (fun _ => .inr ()) (fun i j => j = i)
    (fun i hi j g hj => by
      subst hj
      refine (rn_in hi).trans ?_
      rw [getI_lt hi, beq_dec]
      unfold isI
      by_cases h : l[j].1 = id
      · refine (rn_t (decide_eq_true h)).trans ?_
        rw [decide_eq_true h]; rfl
      · refine (rn_f (decide_eq_false h)).trans ?_
        rw [decide_eq_false h, wsucc (by omega)]; rfl)
    (fun i hi s t hs h => by split at h <;> cases h; omega)
    (fun s g hs => rn_out.trans rfl) 0 rfl
  refine (fn_o (this.trans (congrArg some (foldE_idx (isI id) (fun j => (Sum.inl (j, ()) : (Int × Unit) ⊕ Unit)) (Sum.inr ()) l 0)))).trans ?_
  rcases idxI_is (isI id) l 0 with ⟨_, h⟩ | ⟨j, _, h, _⟩
  · rw [h]; rfl
  · rw [h, if_neg (by omega)]; rfl
theorem place_lk (l : Items) (id : Int) : (idxI (isI id) 0 l < 0 ↔ lkF id l = none) := by
  rw [lkF_find]
  rcases idxI_is (isI id) l 0 with ⟨h1, h⟩ | ⟨j, hj, h, h2, _⟩
  · rw [h, show l.find? (fun p => decide (p.1 = id)) = none from h1]; simp
  · rw [h, show l.find? (fun p => decide (p.1 = id)) = some l[j] from h2]; simp
theorem insert_is (l : Items) (id : Int) (f : Fil) (hl : l.length ≤ 1000) : ref07_Insert l id f = some ((addP l id f).1, toE (addP l id f).2) := by
  unfold ref07_Insert ref07_Insert_t addP
  refine (fn_o (ref05_Check_is f)).trans ?_
  cases hc : ckF f with
  | some e => exact (fn_t rfl).trans rfl
  | none =>
    refine (fn_f rfl).trans ((fn_o (place_is l id (by omega))).trans ?_)
    simp only
    by_cases hk : (lkF id l).isSome = true
    · rw [if_pos hk]
      have hp : ¬ idxI (isI id) 0 l < 0 := fun c => by rw [(place_lk l id).1 c] at hk; cases hk
      exact (fn_t (decide_eq_true (by omega))).trans rfl
    · rw [if_neg hk]
      have hno : lkF id l = none := by
        cases hx : lkF id l with
        | none => rfl
        | some y => rw [hx] at hk; exact absurd rfl hk
      have hp := (place_lk l id).2 hno
      refine (fn_f (decide_eq_false (by omega))).trans ?_
      by_cases hn : l.length ≥ 512
      · rw [if_pos hn]
        exact (fn_t (decide_eq_true (by simp only [Int.ofNat_eq_natCast]; omega))).trans rfl
      · rw [if_neg hn]
        refine (fn_f (decide_eq_false (by simp only [Int.ofNat_eq_natCast]; omega))).trans ?_
        have := foldE_runI (bd := ref07_Insert_b0) l (by omega) (fun i (st : Items × Bool) => (id, st.2, l, Int.ofNat l.length, (i : Int), f.1, f.2, false, (0 : Int), false, ([] : List (Int × Int)), (0 : Int), st.1, ())) (fun st x => .inl (insS id f st x)) (fun st => (id, st.2, f.1, f.2, false, (0 : Int), false, ([] : List (Int × Int)), (0 : Int), st.1, ())) (fun i st => st.1.length ≤ 2 * i)
          (fun i hi st g hst => by
            refine (rn_in hi).trans ?_
            rw [getI_lt hi, wsucc (by omega)]
            unfold insS
            cases hb : st.2 with
            | true =>
              exact (rn_f rfl).trans ((rn_t (appLim_ok (by omega))).trans rfl)
            | false =>
              refine (rn_t rfl).trans ?_
              by_cases hg : l[i].1 > id
              · refine (rn_t (decide_eq_true hg)).trans ((rn_t (appLim_ok (by omega))).trans ((rn_t (appLim_ok (by simp; omega))).trans ?_))
                rw [decide_eq_true hg]
                simp only [Bool.not_false, Bool.true_and, if_true]
                rw [rn_next, List.append_assoc]; rfl
              · refine (rn_f (decide_eq_false hg)).trans ((rn_t (appLim_ok (by omega))).trans ?_)
                rw [decide_eq_false hg]; rfl)
          (fun i hi s t hs h => by cases h; unfold insS; split <;> simp <;> omega)
          (fun s g hs => rn_out.trans rfl) ([], false) (Nat.le_refl _)
        rw [foldE_fold (insS id f) (fun _ _ => rfl)] at this
        refine (fn_o this).trans ?_
        have hi : insF id f l = putL (.int .i64) shFil id f l := insF_put hno
        have hlen : (l.foldl (insS id f) ([], false)).1.length ≤ 2000 := by
          have key : ∀ (l : Items) (st : Items × Bool), (l.foldl (insS id f) st).1.length ≤ st.1.length + 2 * l.length := by
            intro l
            induction l with
            | nil => intro st; simp
            | cons x l ih =>
              intro st
              have h1 := ih (insS id f st x)
              have h2 : (insS id f st x).1.length ≤ st.1.length + 2 := by unfold insS; split <;> simp
              rw [List.foldl_cons, List.length_cons]; omega
          have := key l ([], false)
          simp only [List.length_nil] at this; omega
        rw [← hi]
        rw [show insF id f l = (if (l.foldl (insS id f) ([], false)).2 = true then (l.foldl (insS id f) ([], false)).1 else (l.foldl (insS id f) ([], false)).1 ++ [(id, f)]) from rfl]
        cases hb : (l.foldl (insS id f) ([], false)).2 with
        | true =>
          refine (fn_f rfl).trans ?_
          simp only [if_true]; rfl
        | false =>
          refine (fn_t rfl).trans ((fn_t (appLim_ok (by dsimp only; omega))).trans ?_)
          simp only [Bool.false_eq_true, if_false]; rfl
theorem foldl_filter {α : Type} (p : α → Bool) : ∀ (l m : List α), l.foldl (fun m x => if p x = true then m ++ [x] else m) m = m ++ l.filter p
  | [], m => by simp
  | x :: l, m => by
    rw [List.foldl_cons, foldl_filter p l, List.filter_cons]
    split <;> simp
theorem remove_is (l : Items) (id : Int) (hs : SoF l) (hl : l.length ≤ 1000) : ref07_Remove l id = some ((remP l id).1, toE (remP l id).2) := by
  unfold ref07_Remove ref07_Remove_t remP
  refine (fn_o (place_is l id (by omega))).trans ?_
  cases hk : lkF id l with
  | none =>
    exact (fn_t (decide_eq_true ((place_lk l id).2 hk))).trans rfl
  | some y =>
    have hp : ¬ idxI (isI id) 0 l < 0 := fun c => by rw [(place_lk l id).1 c] at hk; cases hk
    refine (fn_f (decide_eq_false hp)).trans ?_
    have := foldE_runI (bd := ref07_Remove_b0) l (by omega) (fun i (m : Items) => (id, l, Int.ofNat l.length, (i : Int), false, (0 : Int), m, ())) (fun m x => .inl (if decide (x.1 ≠ id) = true then m ++ [x] else m)) (fun m => (false, (0 : Int), m, ())) (fun i m => m.length ≤ i)
      (fun i hi m g hm => by
        refine (rn_in hi).trans ?_
        rw [getI_lt hi, wsucc (by omega)]
        by_cases h : l[i].1 = id
        · refine (rn_f (by simp [h])).trans ?_
          rw [decide_eq_false (fun c => c h)]; rfl
        · refine (rn_t (by simp [h])).trans ((rn_t (appLim_ok (by omega))).trans ?_)
          rw [decide_eq_true (show l[i].1 ≠ id from h)]; rfl)
      (fun i hi s t hs h => by cases h; split <;> (try simp only [List.length_append, List.length_singleton]) <;> omega)
      (fun s g hs => rn_out.trans rfl) [] (Nat.le_refl _)
    rw [foldE_fold (fun (m : Items) (x : Item) => if decide (x.1 ≠ id) = true then m ++ [x] else m) (fun _ _ => rfl), foldl_filter (fun x : Item => decide (x.1 ≠ id)), List.nil_append, filter_del hs] at this
    exact (fn_o this).trans rfl
theorem rck (l : Ev) : ref03_Check l = some (toE (ckEv l)) := by
  by_cases h : l.length ≤ 1000000
  · exact ref03_Check_is l h
  · unfold ref03_Check ref03_Check_t ckEv
    rw [if_pos (by omega)]
    exact (fn_t (decide_eq_true (by simp only [Int.ofNat_eq_natCast]; omega))).trans rfl
theorem rmatch_is (l : Items) (e : Ev) (hl : l.length ≤ 1000) (he : ckEv e = none → e.length ≤ 1000000) (hf : ∀ p ∈ l, p.2.2.length ≤ 1000000) : ref08_Match l e = some ((matchP l e).1, toE (matchP l e).2) := by
  unfold ref08_Match ref08_Match_t matchP
  refine (fn_o (rck e)).trans ?_
  cases hc : ckEv e with
  | some x => exact (fn_t rfl).trans rfl
  | none =>
    refine (fn_f rfl).trans ?_
    have := foldE_runI (bd := ref08_Match_b0) l (by omega) (fun i (m : List Int) => (e, l, Int.ofNat l.length, (i : Int), false, (0 : Int), m, ())) (fun m x => .inl (if mnB x.2 e = true then m ++ [x.1] else m)) (fun m => (false, (0 : Int), m, ())) (fun i m => m.length ≤ i)
      (fun i hi m g hm => by
        refine (rn_in hi).trans ?_
        rw [getI_lt hi, wsucc (by omega)]
        refine (rn_o (ref05_Means_is _ e (he hc) (hf _ (List.getElem_mem hi)))).trans ?_
        cases h : mnB l[i].2 e with
        | true => exact (rn_t rfl).trans ((rn_t (appLim_ok (by omega))).trans rfl)
        | false => exact (rn_f rfl).trans rfl)
      (fun i hi s t hs h => by cases h; split <;> (try simp only [List.length_append, List.length_singleton]) <;> omega)
      (fun s g hs => rn_out.trans rfl) [] (Nat.le_refl _)
    rw [foldE_fold (fun (m : List Int) (x : Item) => if mnB x.2 e = true then m ++ [x.1] else m) (fun _ _ => rfl)] at this
    have key : ∀ (l : Items) (m : List Int), l.foldl (fun m x => if mnB x.2 e = true then m ++ [x.1] else m) m = m ++ (l.filter fun p => mnB p.2 e).map (·.1) := by
      intro l
      induction l with
      | nil => intro m; simp
      | cons x l ih =>
        intro m
        rw [List.foldl_cons, ih, List.filter_cons]
        split <;> simp
    rw [key, List.nil_append] at this
    exact (fn_o this).trans rfl
end Go.Proofs.YtdiomgmckidccaaGreatDoor
