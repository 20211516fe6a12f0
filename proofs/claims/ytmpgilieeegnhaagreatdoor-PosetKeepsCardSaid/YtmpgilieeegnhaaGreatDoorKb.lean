/- Plain: turned from an elder seat's text. -/
import Derived.Test.YtmpgilieeegnhaaGreatDoorKa
set_option maxRecDepth 100000
namespace Go.Proofs.YtmpgilieeegnhaaGreatDoor
open Go Go.Pev
abbrev Items := List (Int × Fil)
abbrev Ents := List (Int × Bd)
abbrev lkF (id : Int) (l : Items) : Option Fil := lookL (.int .i64) shFil id l
abbrev lkE (id : Int) (l : Ents) : Option Bd := lookL (.int .i64) shBound id l
abbrev SoF (l : Items) : Prop := Go.Pev.Sorted (.int .i64) shFil l
abbrev SoE (l : Ents) : Prop := Go.Pev.Sorted (.int .i64) shBound l
theorem eqZ (x y : Int) : eqB (.int .i64) x y = decide (x = y) := beq_dec x y
theorem ltZ (x y : Int) : ltB (.int .i64) x y = decide (x < y) := rfl
theorem idk {α : Type} {a b : α} {k z : Int} : (if eqB (.int .i64) k z = true then a else b) = if z = k then a else b := by
  rw [eqZ]
  by_cases h : z = k
  · subst h; rw [if_pos rfl, if_pos (decide_eq_true rfl)]
  · rw [if_neg h, if_neg (by simp; exact fun c => h c.symm)]
section
variable {β : Sh}
theorem lk_cons (id : Int) (p : Int × β.T) (l : List (Int × β.T)) : lookL (.int .i64) β id (p :: l) = if p.1 = id then some p.2 else lookL (.int .i64) β id l := by
  show (match eqB (.int .i64) p.1 id with | true => some p.2 | false => lookL (.int .i64) β id l) = _
  rw [eqZ]
  by_cases h : p.1 = id
  · rw [if_pos h, decide_eq_true h]
  · rw [if_neg h, decide_eq_false h]
theorem lk_put {id z : Int} {y : β.T} {l : List (Int × β.T)} (h : Go.Pev.Sorted (.int .i64) β l) : lookL (.int .i64) β z (putL (.int .i64) β id y l) = if z = id then some y else lookL (.int .i64) β z l :=
  (look_put (k := .int .i64) (v := β) rfl (h.keys rfl)).trans idk
theorem so_put {id : Int} {y : β.T} {l : List (Int × β.T)} (h : Go.Pev.Sorted (.int .i64) β l) : Go.Pev.Sorted (.int .i64) β (putL (.int .i64) β id y l) := sorted_put (k := .int .i64) (v := β) rfl h
theorem lk_del {id z : Int} {l : List (Int × β.T)} (h : Go.Pev.Sorted (.int .i64) β l) : lookL (.int .i64) β z (delL (.int .i64) β id l) = if z = id then none else lookL (.int .i64) β z l :=
  (look_del (k := .int .i64) (v := β) rfl (h.keys rfl)).trans idk
theorem so_del {id : Int} {l : List (Int × β.T)} (h : Go.Pev.Sorted (.int .i64) β l) : Go.Pev.Sorted (.int .i64) β (delL (.int .i64) β id l) := h.sublist (delL_sub (k := .int .i64) (v := β) id l)
theorem so_ext {l m : List (Int × β.T)} (h : Go.Pev.Sorted (.int .i64) β l) (k : Go.Pev.Sorted (.int .i64) β m) (e : ∀ z, lookL (.int .i64) β z l = lookL (.int .i64) β z m) : l = m := sorted_ext (k := .int .i64) (v := β) rfl h k e
theorem lk_lt {id : Int} {l : List (Int × β.T)} (h : ∀ p ∈ l, id < p.1) : lookL (.int .i64) β id l = none := look_lt (k := .int .i64) (v := β) rfl fun p hp => decide_eq_true (h p hp)
theorem so_cons {p : Int × β.T} {l : List (Int × β.T)} : Go.Pev.Sorted (.int .i64) β (p :: l) ↔ (∀ q ∈ l, p.1 < q.1) ∧ Go.Pev.Sorted (.int .i64) β l := by
  unfold Go.Pev.Sorted
  rw [List.pairwise_cons]
  exact and_congr_left fun _ => ⟨fun h q hq => of_decide_eq_true (h q hq), fun h q hq => decide_eq_true (h q hq)⟩
theorem lk_mem {id : Int} {y : β.T} {l : List (Int × β.T)} (h : Go.Pev.Sorted (.int .i64) β l) : lookL (.int .i64) β id l = some y ↔ (id, y) ∈ l := lookL_some (k := .int .i64) (v := β) rfl (h.keys rfl)
end
/-! ### bounds by names, one after the other -/
/-- A filter put in: ahead of the first greater number. -/
def insS (id : Int) (f : Fil) (st : Items × Bool) (x : Item) : Items × Bool := if !st.2 && decide (x.1 > id) then (st.1 ++ [(id, f), x], true) else (st.1 ++ [x], st.2)
def insF (id : Int) (f : Fil) (l : Items) : Items := (fun st : Items × Bool => if st.2 = true then st.1 else st.1 ++ [(id, f)]) (l.foldl (insS id f) ([], false))
theorem insS_done (id : Int) (f : Fil) : ∀ (l : Items) (m : Items), l.foldl (insS id f) (m, true) = (m ++ l, true)
  | [], m => by simp
  | x :: l, m => by
    rw [List.foldl_cons, show insS id f (m, true) x = (m ++ [x], true) from rfl, insS_done id f l]; simp
theorem insF_go (id : Int) (f : Fil) : ∀ (l m : Items), (fun st : Items × Bool => if st.2 = true then st.1 else st.1 ++ [(id, f)]) (l.foldl (insS id f) (m, false)) = m ++ insL (.int .i64) shFil id f l
  | [], m => rfl
  | x :: l, m => by
    rw [List.foldl_cons]
    have e : insL (.int .i64) shFil id f (x :: l) = if id < x.1 then (id, f) :: x :: l else x :: insL (.int .i64) shFil id f l := by
      show (match decide (id < x.1) with | true => (id, f) :: x :: l | false => x :: insL (.int .i64) shFil id f l) = _
      by_cases h : id < x.1
      · rw [if_pos h, decide_eq_true h]
      · rw [if_neg h, decide_eq_false h]
    rw [e]
    by_cases h : id < x.1
    · rw [if_pos h, show insS id f (m, false) x = (m ++ [(id, f), x], true) from by simp [insS, h], insS_done]; simp
    · rw [if_neg h, show insS id f (m, false) x = (m ++ [x], false) from by simp [insS, h]]
      exact (insF_go id f l (m ++ [x])).trans (by simp)
theorem del_none {id : Int} : ∀ {l : Items}, lkF id l = none → delL (.int .i64) shFil id l = l
  | [], _ => rfl
  | p :: l, h => by
    have h' : (if p.1 = id then some p.2 else lkF id l) = none := (lk_cons (β := shFil) id p l).symm.trans h
    by_cases hp : p.1 = id
    · rw [if_pos hp] at h'; cases h'
    · rw [if_neg hp] at h'
      show (match eqB (.int .i64) p.1 id with | true => l | false => p :: delL (.int .i64) shFil id l) = _
      rw [eqZ, decide_eq_false hp]
      exact congrArg (p :: ·) (del_none h')
theorem insF_put {id : Int} {f : Fil} {l : Items} (h : lkF id l = none) : insF id f l = putL (.int .i64) shFil id f l := by
  unfold putL
  rw [del_none h]
  exact insF_go id f l []
theorem filter_del {id : Int} {l : Items} (h : SoF l) : l.filter (fun x => decide (x.1 ≠ id)) = delL (.int .i64) shFil id l := by
  rw [delL_filter (k := .int .i64) (v := shFil) rfl id l (h.keys rfl)]
  refine List.filter_congr fun p _ => ?_
  rw [eqZ]
  by_cases hp : p.1 = id <;> simp [hp]
theorem lkF_find (id : Int) : ∀ l : Items, lkF id l = (l.find? fun p => decide (p.1 = id)).map (·.2)
  | [] => rfl
  | p :: l => by
    have := lk_cons (β := shFil) id p l
    rw [show lkF id (p :: l) = _ from this, List.find?_cons]
    by_cases hp : p.1 = id
    · rw [if_pos hp, decide_eq_true hp]; rfl
    · rw [if_neg hp, decide_eq_false hp]; exact lkF_find id l
theorem put_len {id : Int} {f : Fil} {l : Items} (hl : SoF l) (h : lkF id l = none) : (putL (.int .i64) shFil id f l).length = l.length + 1 := by
  rw [len_put (k := .int .i64) (v := shFil) rfl (hl.keys rfl), if_neg]
  rw [show lookL (.int .i64) shFil id l = none from h]; simp
theorem del_len {id : Int} {l : Items} : (delL (.int .i64) shFil id l).length ≤ l.length := (delL_sub (k := .int .i64) (v := shFil) id l).length_le
/-! ### what an attribute's hits leave -/
abbrev eN (n : Int) : Err := some ([], n)
theorem relR_one {α ρ : Type} (a : α) (f : α → Option ρ) : relR (anyW [a]) f = f a := by
  cases h : f a with
  | none => exact relR_none (anyW_good _) ⟨by simp, fun b hb => by rw [List.mem_singleton.1 hb]; exact h⟩
  | some r => exact relR_is (anyW_good _) ⟨by simp, fun b hb => by rw [List.mem_singleton.1 hb]; exact h⟩
def cloneC {α : Type} (n : Nat) (l : List α) : Option (List α) := cond (appLim n 0 l.length) (some l) none
theorem appLim_zero (b : Nat) : appLim b 0 0 = true := by simp [appLim]
theorem slices_Clone_eq : slices_Clone = cloneC 72 := by
  funext l
  unfold slices_Clone slices_Clone_t cloneC
  cases l with
  | nil =>
    rw [List.length_nil, appLim_zero]
    exact LT.fin_rel _ _ _ ⟨by simp, fun b _ => by cases b <;> rfl⟩
  | cons a l =>
    show relR (anyW [false]) _ = _
    rw [relR_one]
    cases appLim 72 0 (a :: l).length <;> rfl
theorem copy_is (f : Fil) (hl : f.2.length ≤ 1000) : filter_Copy f = some f := by
  unfold filter_Copy filter_Copy_t
  rw [slices_Clone_eq]
  refine (fn_o (show cloneC 72 f.2 = some f.2 from ?_)).trans rfl
  unfold cloneC
  rw [appLim_ok (by omega)]
  rfl
/-- What Add leaves, and answers. -/
def addP (L : Items) (id : Int) (f : Fil) : Items × Err := match ckF f with
  | some e => (L, some e)
  | none => if (lkF id L).isSome = true then (L, eN 9) else if L.length ≥ 512 then (L, eN 11) else (putL (.int .i64) shFil id f L, none)
/-- All filters are of the form. -/
def okF (L : Items) : Prop := ∀ p ∈ L, ckF p.2 = none
/-- What Remove leaves, and answers. -/
def remP (L : Items) (id : Int) : Items × Err := match lkF id L with
  | none => (L, eN 10)
  | some _ => (delL (.int .i64) shFil id L, none)
abbrev TE := Bool × List (Int × Int) × Int
/-- What an error tells. -/
def tellE : Err → TE
  | none => (false, [], 0)
  | some (ps, n) => (true, ps, n)
theorem of_loop (n : Int) : ∀ (ps l : List (Int × Int)) (m : Nat), ps.length + l.length < 200 → ps.length < m →
    LT.loop law01_Of_b0 m (some (ps, n), (l.length : Int), false, 0, true, 0, l, ()) = some (some ([], n), false, 0, true, 0, l ++ ps, ())
  | _, _, 0, _, h => by omega
  | [], l, m + 1, h, _ => by
    rw [LT.loop_succ]
    simp only [List.length_nil] at h
    refine (rn_t (decide_eq_true (by omega))).trans ((rn_f rfl).trans ?_)
    show some _ = some _
    rw [List.append_nil]
  | p :: ps, l, m + 1, h, hm => by
    simp only [List.length_cons] at h hm
    rw [LT.loop_succ]
    refine (rn_t (decide_eq_true (by omega))).trans ((rn_t rfl).trans ((rn_o (a := (p, some (ps, n))) rfl).trans ((rn_t (appLim_ok (by omega))).trans ?_)))
    have hw : IntKind.i64.wrap ((l.length : Int) + 1) = ((l ++ [p]).length : Int) := by rw [i64_wrap _ (by omega) (by omega)]; simp
    have ih := of_loop n ps (l ++ [p]) m (by simp; omega) (by omega)
    rw [List.append_assoc] at ih
    rw [hw]
    exact ih
theorem of_is (e : Err) (h : (tellE e).2.1.length < 200) : law01_Of e = some (tellE e) := by
  cases e with
  | none => rfl
  | some v =>
    obtain ⟨ps, n⟩ := v
    have hl := of_loop n ps [] FUEL (by have h2 : ps.length < 200 := h; simpa using h2) (by rw [fuel_is]; have : ps.length < 200 := h; omega)
    unfold law01_Of law01_Of_t
    refine (fn_f rfl).trans ((fn_o hl).trans ((fn_t rfl).trans ((fn_o rfl).trans ?_)))
    rfl
theorem same_loop (a : Bool) (n : Int) (l : List (Int × Int)) (b : Bool) (n' : Int) (l' : List (Int × Int)) (hl : l.length = l'.length) (hn : l.length < 1000) : ∀ (m i : Nat), i ≤ l.length → l.length - i < m → (∀ j, j < i → l[j]? = l'[j]?) →
    LT.loop ref01_Same_b0 m ((l.length : Int), (i : Int), a, l, n, b, l', n', ()) = some (if l = l' then .inr () else .inl (false, ()))
  | 0, _, _, h, _ => by omega
  | m + 1, i, h1, h2, h3 => by
    rw [LT.loop_succ]
    by_cases hi : i < l.length
    · have d0 : decide ((0 : Int) ≤ (i : Int)) = true := decide_eq_true (by omega)
      refine (rn_t (decide_eq_true (by omega))).trans ((rn_t d0).trans ((rn_t (decide_eq_true (by simp only [Int.ofNat_eq_natCast]; omega))).trans ((rn_t d0).trans ((rn_t (decide_eq_true (by simp only [Int.ofNat_eq_natCast]; omega))).trans ?_))))
      rw [getI_lt hi, getI_lt (by omega)]
      by_cases he : l[i] = l'[i]'(by omega)
      · rw [he, eqB_self shPlace _ rfl]
        refine (rn_f rfl).trans ?_
        have hw : IntKind.i64.wrap ((i : Int) + 1) = ((i + 1 : Nat) : Int) := by rw [i64_wrap _ (by omega) (by omega)]; omega
        rw [hw]
        refine same_loop a n l b n' l' hl hn m (i + 1) (by omega) (by omega) fun j hj => ?_
        by_cases hji : j = i
        · subst hji
          rw [List.getElem?_eq_getElem hi, List.getElem?_eq_getElem (by omega), he]
        · exact h3 j (by omega)
      · have hb : eqB shPlace l[i] (l'[i]'(by omega)) = false := by
          cases hc : eqB shPlace l[i] (l'[i]'(by omega)) with
          | false => rfl
          | true => exact absurd (eqB_eq shPlace _ _ rfl hc) he
        rw [hb, if_neg fun c => he (by subst c; rfl)]
        exact (rn_t rfl).trans rfl
    · have : l = l' := List.ext_getElem? fun j => by
        by_cases hj : j < i
        · exact h3 j hj
        · rw [List.getElem?_eq_none (by omega), List.getElem?_eq_none (by omega)]
      rw [if_pos this]
      exact (rn_f (decide_eq_false (by omega))).trans rfl
theorem same_is (x y : TE) (h : x.2.1.length < 1000) : ref01_Same x y = some (decide (x = y)) := by
  obtain ⟨a, l, n⟩ := x
  obtain ⟨b, l', n'⟩ := y
  have h : l.length < 1000 := h
  unfold ref01_Same ref01_Same_t
  by_cases hab : a = b
  · subst hab
    refine (fn_f (by cases a <;> rfl)).trans ?_
    by_cases hn : n = n'
    · subst hn
      refine (fn_f (by simp)).trans ?_
      by_cases hl : l.length = l'.length
      · refine (fn_f (by simp [hl])).trans ?_
        have := same_loop a n l a n l' hl h FUEL 0 (by omega) (by rw [fuel_is]; omega) (fun j hj => by omega)
        refine (fn_o this).trans ?_
        by_cases he : l = l'
        · rw [if_pos he]; subst he; simp; rfl
        · rw [if_neg he]; simp [he]; rfl
      · refine (fn_t (by simp; omega)).trans ?_
        have : l ≠ l' := fun c => hl (by rw [c])
        simp [this]; rfl
    · refine (fn_t (by simpa using hn)).trans ?_
      simp [hn]; rfl
  · refine (fn_t (by cases a <;> cases b <;> simp_all)).trans ?_
    simp [hab]; rfl
theorem tell_is (e : Err) : tellE e = toE e := by cases e <;> rfl
def few8 (e : Err) : Prop := (tellE e).2.1.length ≤ 1
theorem fails_is {e : Err} (h : few8 e) : law07_fails e (toE e) = some true := by
  have h1 : (tellE e).2.1.length ≤ 1 := h
  unfold law07_fails law07_fails_t
  refine (fn_o (of_is e (by omega))).trans ((fn_o (same_is _ _ (by omega))).trans ?_)
  rw [tell_is, decide_eq_true rfl]; rfl
theorem few_eN (n : Int) : few8 (eN n) := Nat.zero_le _
theorem few_none : few8 none := Nat.zero_le _
theorem few_ckF (f : Fil) : few8 (ckF f) := by
  unfold ckF
  split
  · exact Nat.zero_le _
  · split
    · exact Nat.zero_le _
    · exact Nat.zero_le _
theorem foldE_fold {σ α Q : Type} {step : σ → α → σ ⊕ Q} {out : σ → Q} (f : σ → α → σ) (h : ∀ s x, step s x = .inl (f s x)) : ∀ (l : List α) (s : σ), foldE step out s l = out (l.foldl f s)
  | [], _ => rfl
  | x :: l, s => by rw [foldE_l (h s x), foldE_fold f h l (f s x)]; rfl
theorem ints_self (l : List Int) (hl : l.length ≤ 1000000) : ref01_Ints l l = some true := by
  unfold ref01_Ints ref01_Ints_t
  refine (fn_f (by simp)).trans ?_
  have := foldE_run (bd := ref01_Ints_b0) l (by omega) (fun i (_ : Unit) => (l, l, Int.ofNat l.length, (i : Int), ())) (fun _ _ => .inl ()) (fun _ => .inr ())
    (fun i hi p g => by
      refine (rn_in hi).trans ((rn_t dge0).trans ((rn_t (dlt hi)).trans ((rn_f (by simp)).trans ?_)))
      rw [wsucc (by omega)]; rfl)
    (fun s g => rn_out.trans rfl) ()
  rw [foldE_fold (fun _ _ => ()) (fun _ _ => rfl)] at this
  exact (fn_o this).trans rfl
theorem ftwin_is (f : Fil) (h : f.2.length * 72 ≤ 140737488355328) : ref05_Twin f = some f := by
  unfold ref05_Twin ref05_Twin_t
  exact (fn_t (appLim_ok (by omega))).trans rfl
/-- The first place of which something holds. -/
def idxI {α : Type} (p : α → Bool) : Nat → List α → Int
  | _, [] => -1
  | i, x :: l => if p x = true then (i : Int) else idxI p (i + 1) l
theorem idxI_is {α : Type} (p : α → Bool) : ∀ (l : List α) (i : Nat), (l.find? p = none ∧ idxI p i l = -1) ∨ ∃ j, ∃ h : j < l.length, idxI p i l = ((i + j : Nat) : Int) ∧ l.find? p = some l[j] ∧ p l[j] = true ∧ ∀ k, (hk : k < j) → p l[k] = false
  | [], i => .inl ⟨rfl, rfl⟩
  | x :: l, i => by
    unfold idxI
    rw [List.find?_cons]
    cases h : p x with
    | true => exact .inr ⟨0, by simp, rfl, rfl, h, fun k hk => by omega⟩
    | false =>
      rcases idxI_is p l (i + 1) with h1 | ⟨j, hj, h1, h2, h3, h4⟩
      · exact .inl h1
      · refine .inr ⟨j + 1, by simpa using hj, ?_, by simpa using h2, by simpa using h3, fun k hk => ?_⟩
        · simp only [Bool.false_eq_true, if_false]; rw [h1]; congr 1; omega
        · cases k with
          | zero => exact h
          | succ k => exact h4 k (by omega)
theorem foldE_idx {α Q : Type} (p : α → Bool) (fi : Int → Q) (no : Q) : ∀ (l : List α) (i : Nat), foldE (fun (j : Nat) x => if p x = true then (.inr (fi (j : Int)) : Nat ⊕ Q) else .inl (j + 1)) (fun _ => no) i l = if idxI p i l < 0 then no else fi (idxI p i l)
  | [], _ => rfl
  | x :: l, i => by
    rw [foldE_cons]
    unfold idxI
    cases h : p x with
    | true => simp only [if_true]; rw [if_neg (by omega)]
    | false => simp only [Bool.false_eq_true, if_false]; exact foldE_idx p fi no l (i + 1)
def isI (id : Int) (x : Item) : Bool := decide (x.1 = id)
theorem place_is (l : Items) (id : Int) (hl : l.length ≤ 1000000) : ref07_place l id = some (idxI (isI id) 0 l) := by
  unfold ref07_place ref07_place_t
  have := foldE_runI (bd := ref07_place_b0) l (by omega) (fun i (_ : Nat) => (id, l, Int.ofNat l.length, (i : Int), ())) (fun (j : Nat) x => if isI id x = true then .inr (.inl ((j : Int), ())) else .inl (j + 1)) (fun _ => .inr ()) (fun i j => j = i)
    (fun i hi j g hj => by
      subst hj
      refine (rn_in hi).trans ?_
      rw [getI_lt hi, beq_dec]
      unfold isI
      by_cases h : l[j].1 = id
      · refine (rn_t (decide_eq_true h)).trans ?_
        rw [decide_eq_true h]; rfl
      · refine (rn_f (decide_eq_false h)).trans ?_
        rw [decide_eq_false h, wsucc (by omega)]; rfl)
    (fun i hi s t hs h => by split at h <;> cases h; omega)
    (fun s g hs => rn_out.trans rfl) 0 rfl
  refine (fn_o (this.trans (congrArg some (foldE_idx (isI id) (fun j => (Sum.inl (j, ()) : (Int × Unit) ⊕ Unit)) (Sum.inr ()) l 0)))).trans ?_
  rcases idxI_is (isI id) l 0 with ⟨_, h⟩ | ⟨j, _, h, _⟩
  · rw [h]; rfl
  · rw [h, if_neg (by omega)]; rfl
theorem place_lk (l : Items) (id : Int) : (idxI (isI id) 0 l < 0 ↔ lkF id l = none) := by
  rw [lkF_find]
  rcases idxI_is (isI id) l 0 with ⟨h1, h⟩ | ⟨j, hj, h, h2, _⟩
  · rw [h, show l.find? (fun p => decide (p.1 = id)) = none from h1]; simp
  · rw [h, show l.find? (fun p => decide (p.1 = id)) = some l[j] from h2]; simp
theorem insert_is (l : Items) (id : Int) (f : Fil) (hl : l.length ≤ 1000) : ref07_Insert l id f = some ((addP l id f).1, toE (addP l id f).2) := by
  unfold ref07_Insert ref07_Insert_t addP
  refine (fn_o (ref05_Check_is f)).trans ?_
  cases hc : ckF f with
  | some e => exact (fn_t rfl).trans rfl
  | none =>
    refine (fn_f rfl).trans ((fn_o (place_is l id (by omega))).trans ?_)
    simp only
    by_cases hk : (lkF id l).isSome = true
    · rw [if_pos hk]
      have hp : ¬ idxI (isI id) 0 l < 0 := fun c => by rw [(place_lk l id).1 c] at hk; cases hk
      exact (fn_t (decide_eq_true (by omega))).trans rfl
    · rw [if_neg hk]
      have hno : lkF id l = none := by
        cases hx : lkF id l with
        | none => rfl
        | some y => rw [hx] at hk; exact absurd rfl hk
      have hp := (place_lk l id).2 hno
      refine (fn_f (decide_eq_false (by omega))).trans ?_
      by_cases hn : l.length ≥ 512
      · rw [if_pos hn]
        exact (fn_t (decide_eq_true (by simp only [Int.ofNat_eq_natCast]; omega))).trans rfl
      · rw [if_neg hn]
        refine (fn_f (decide_eq_false (by simp only [Int.ofNat_eq_natCast]; omega))).trans ?_
        have := foldE_runI (bd := ref07_Insert_b0) l (by omega) (fun i (st : Items × Bool) => (id, st.2, l, Int.ofNat l.length, (i : Int), f.1, f.2, false, (0 : Int), false, ([] : List (Int × Int)), (0 : Int), st.1, ())) (fun st x => .inl (insS id f st x)) (fun st => (id, st.2, f.1, f.2, false, (0 : Int), false, ([] : List (Int × Int)), (0 : Int), st.1, ())) (fun i st => st.1.length ≤ 2 * i)
          (fun i hi st g hst => by
            refine (rn_in hi).trans ?_
            rw [getI_lt hi, wsucc (by omega)]
            unfold insS
            cases hb : st.2 with
            | true =>
              exact (rn_f rfl).trans ((rn_t (appLim_ok (by omega))).trans rfl)
            | false =>
              refine (rn_t rfl).trans ?_
              by_cases hg : l[i].1 > id
              · refine (rn_t (decide_eq_true hg)).trans ((rn_t (appLim_ok (by omega))).trans ((rn_t (appLim_ok (by simp; omega))).trans ?_))
                rw [decide_eq_true hg]
                simp only [Bool.not_false, Bool.true_and, if_true]
                rw [rn_next, List.append_assoc]; rfl
              · refine (rn_f (decide_eq_false hg)).trans ((rn_t (appLim_ok (by omega))).trans ?_)
                rw [decide_eq_false hg]; rfl)
          (fun i hi s t hs h => by cases h; unfold insS; split <;> simp <;> omega)
          (fun s g hs => rn_out.trans rfl) ([], false) (Nat.le_refl _)
        rw [foldE_fold (insS id f) (fun _ _ => rfl)] at this
        refine (fn_o this).trans ?_
        have hi : insF id f l = putL (.int .i64) shFil id f l := insF_put hno
        have hlen : (l.foldl (insS id f) ([], false)).1.length ≤ 2000 := by
          have key : ∀ (l : Items) (st : Items × Bool), (l.foldl (insS id f) st).1.length ≤ st.1.length + 2 * l.length := by
            intro l
            induction l with
            | nil => intro st; simp
            | cons x l ih =>
              intro st
              have h1 := ih (insS id f st x)
              have h2 : (insS id f st x).1.length ≤ st.1.length + 2 := by unfold insS; split <;> simp
              rw [List.foldl_cons, List.length_cons]; omega
          have := key l ([], false)
          simp only [List.length_nil] at this; omega
        rw [← hi]
        rw [show insF id f l = (if (l.foldl (insS id f) ([], false)).2 = true then (l.foldl (insS id f) ([], false)).1 else (l.foldl (insS id f) ([], false)).1 ++ [(id, f)]) from rfl]
        cases hb : (l.foldl (insS id f) ([], false)).2 with
        | true =>
          refine (fn_f rfl).trans ?_
          simp only [if_true]; rfl
        | false =>
          refine (fn_t rfl).trans ((fn_t (appLim_ok (by dsimp only; omega))).trans ?_)
          simp only [Bool.false_eq_true, if_false]; rfl
theorem foldl_filter {α : Type} (p : α → Bool) : ∀ (l m : List α), l.foldl (fun m x => if p x = true then m ++ [x] else m) m = m ++ l.filter p
  | [], m => by simp
  | x :: l, m => by
    rw [List.foldl_cons, foldl_filter p l, List.filter_cons]
    split <;> simp
theorem remove_is (l : Items) (id : Int) (hs : SoF l) (hl : l.length ≤ 1000) : ref07_Remove l id = some ((remP l id).1, toE (remP l id).2) := by
  unfold ref07_Remove ref07_Remove_t remP
  refine (fn_o (place_is l id (by omega))).trans ?_
  cases hk : lkF id l with
  | none =>
    exact (fn_t (decide_eq_true ((place_lk l id).2 hk))).trans rfl
  | some y =>
    have hp : ¬ idxI (isI id) 0 l < 0 := fun c => by rw [(place_lk l id).1 c] at hk; cases hk
    refine (fn_f (decide_eq_false hp)).trans ?_
    have := foldE_runI (bd := ref07_Remove_b0) l (by omega) (fun i (m : Items) => (id, l, Int.ofNat l.length, (i : Int), false, (0 : Int), m, ())) (fun m x => .inl (if decide (x.1 ≠ id) = true then m ++ [x] else m)) (fun m => (false, (0 : Int), m, ())) (fun i m => m.length ≤ i)
      (fun i hi m g hm => by
        refine (rn_in hi).trans ?_
        rw [getI_lt hi, wsucc (by omega)]
        by_cases h : l[i].1 = id
        · refine (rn_f (by simp [h])).trans ?_
          rw [decide_eq_false (fun c => c h)]; rfl
        · refine (rn_t (by simp [h])).trans ((rn_t (appLim_ok (by omega))).trans ?_)
          rw [decide_eq_true (show l[i].1 ≠ id from h)]; rfl)
      (fun i hi s t hs h => by cases h; split <;> (try simp only [List.length_append, List.length_singleton]) <;> omega)
      (fun s g hs => rn_out.trans rfl) [] (Nat.le_refl _)
    rw [foldE_fold (fun (m : Items) (x : Item) => if decide (x.1 ≠ id) = true then m ++ [x] else m) (fun _ _ => rfl), foldl_filter (fun x : Item => decide (x.1 ≠ id)), List.nil_append, filter_del hs] at this
    exact (fn_o this).trans rfl
/-- Lists stay as they should. -/
structure Fine (L : Items) : Prop where
  so : SoF L
  ok : okF L
  le : L.length ≤ 512
theorem Fine.nil : Fine [] := ⟨.nil, fun _ h => (nomatch h), Nat.zero_le _⟩
theorem Fine.add {L : Items} (h : Fine L) (id : Int) (f : Fil) : Fine (addP L id f).1 := by
  unfold addP
  cases hc : ckF f with
  | some e => exact h
  | none =>
    simp only
    by_cases hl : (lkF id L).isSome = true
    · rw [if_pos hl]; exact h
    · rw [if_neg hl]
      by_cases hn : L.length ≥ 512
      · rw [if_pos hn]; exact h
      · rw [if_neg hn]
        have hno : lkF id L = none := by
          cases hx : lkF id L with
          | none => rfl
          | some y => rw [hx] at hl; exact absurd rfl hl
        refine ⟨so_put h.so, fun p hp => ?_, ?_⟩
        · have h1 : lkF p.1 (putL (.int .i64) shFil id f L) = some p.2 := (lk_mem (β := shFil) (so_put h.so)).2 hp
          rw [show lkF p.1 (putL (.int .i64) shFil id f L) = if p.1 = id then some f else lkF p.1 L from lk_put h.so] at h1
          by_cases hpi : p.1 = id
          · rw [if_pos hpi] at h1; rw [← Option.some.inj h1]; exact hc
          · rw [if_neg hpi] at h1
            exact h.ok p ((lk_mem (β := shFil) h.so).1 h1)
        · show (putL (.int .i64) shFil id f L).length ≤ 512
          rw [put_len h.so hno]; omega
theorem Fine.rem {L : Items} (h : Fine L) (id : Int) : Fine (remP L id).1 := by
  unfold remP
  cases lkF id L with
  | none => exact h
  | some f => exact ⟨so_del h.so, fun p hp => h.ok p ((delL_sub (k := .int .i64) (v := shFil) id L).subset hp), Nat.le_trans del_len h.le⟩
end Go.Proofs.YtmpgilieeegnhaaGreatDoor
