/- Chapter 21, plain: what the document's lists answer. -/
import Derived.Test.YtldkdhfcbopbhaaGreatDoorNb
set_option maxRecDepth 100000
namespace Go.Proofs.YtldkdhfcbopbhaaGreatDoor
open Go Go.Pev
theorem foldE_fold {σ α Q : Type} {step : σ → α → σ ⊕ Q} {out : σ → Q} (f : σ → α → σ) (h : ∀ s x, step s x = .inl (f s x)) : ∀ (l : List α) (s : σ), foldE step out s l = out (l.foldl f s)
  | [], _ => rfl
  | x :: l, s => by rw [foldE_l (h s x), foldE_fold f h l (f s x)]; rfl
abbrev KP := Int × Int
def isK (k : KP) (x : RFact) : Bool := decide (x.1 = k.1) && decide (x.2.1 = k.2)
def cntK (k : KP) (l : List RFact) : Nat := (l.filter (isK k)).length
theorem Count_is (l : List RFact) (a b : Int) (hl : l.length ≤ 1000000) : ref21_Count l a b = some (cntK (a, b) l : Int) := by
  unfold ref21_Count ref21_Count_t
  have := foldE_runI (bd := ref21_Count_b0) l (by omega) (fun i (c : Nat) => (a, b, (c : Int), l, Int.ofNat l.length, (i : Int), ())) (fun c x => .inl (if isK (a, b) x = true then c + 1 else c)) (fun c => ((c : Int), ())) (fun i c => c ≤ i)
    (fun i hi c g hc => by
      refine (rn_in hi).trans ?_
      rw [getI_lt hi, wsucc (i := i) (by omega), beq_dec, beq_dec]
      unfold isK
      by_cases h1 : l[i].1 = a
      · refine (rn_t (decide_eq_true h1)).trans ?_
        rw [decide_eq_true h1]
        by_cases h2 : l[i].2.1 = b
        · refine (rn_t (decide_eq_true h2)).trans ?_
          rw [decide_eq_true h2, wsucc (by omega)]; rfl
        · refine (rn_f (decide_eq_false h2)).trans ?_
          rw [decide_eq_false h2]; rfl
      · refine (rn_f (decide_eq_false h1)).trans ?_
        rw [decide_eq_false h1]; rfl)
    (fun i hi s t hs h => by cases h; split <;> omega)
    (fun s g hs => rn_out.trans rfl) 0 (Nat.le_refl _)
  rw [foldE_fold (fun c x => if isK (a, b) x = true then c + 1 else c) (fun _ _ => rfl)] at this
  refine (fn_o this).trans ?_
  have key : ∀ (l : List RFact) (c : Nat), l.foldl (fun c x => if isK (a, b) x = true then c + 1 else c) c = c + cntK (a, b) l := by
    intro l
    induction l with
    | nil => intro c; rfl
    | cons x l ih =>
      intro c
      rw [List.foldl_cons, ih]
      unfold cntK
      rw [List.filter_cons]
      split <;> simp <;> omega
  rw [key, Nat.zero_add]; rfl
/-- The first place of which something holds. -/
def idxI {α : Type} (p : α → Bool) : Nat → List α → Int
  | _, [] => -1
  | i, x :: l => if p x = true then (i : Int) else idxI p (i + 1) l
theorem idxI_is {α : Type} (p : α → Bool) : ∀ (l : List α) (i : Nat), (l.find? p = none ∧ idxI p i l = -1) ∨ ∃ j, ∃ h : j < l.length, idxI p i l = ((i + j : Nat) : Int) ∧ l.find? p = some l[j] ∧ p l[j] = true ∧ ∀ k, (hk : k < j) → p l[k] = false
  | [], i => .inl ⟨rfl, rfl⟩
  | x :: l, i => by
    unfold idxI
    rw [List.find?_cons]
    cases h : p x with
    | true => exact .inr ⟨0, by simp, rfl, rfl, h, fun k hk => by omega⟩
    | false =>
      rcases idxI_is p l (i + 1) with h1 | ⟨j, hj, h1, h2, h3, h4⟩
      · exact .inl h1
      · refine .inr ⟨j + 1, by simpa using hj, ?_, by simpa using h2, by simpa using h3, fun k hk => ?_⟩
        · simp only [Bool.false_eq_true, if_false]; rw [h1]; congr 1; omega
        · cases k with
          | zero => exact h
          | succ k => exact h4 k (by omega)
def isS (id : Int) (s : RSub) : Bool := decide (s.1 = id)
theorem foldE_idx {α Q : Type} (p : α → Bool) (fi : Int → Q) (no : Q) : ∀ (l : List α) (i : Nat), foldE (fun (j : Nat) x => if p x = true then (.inr (fi (j : Int)) : Nat ⊕ Q) else .inl (j + 1)) (fun _ => no) i l = if idxI p i l < 0 then no else fi (idxI p i l)
  | [], _ => rfl
  | x :: l, i => by
    rw [foldE_cons]
    unfold idxI
    cases h : p x with
    | true => simp only [if_true]; rw [if_neg (by omega)]
    | false => simp only [Bool.false_eq_true, if_false]; exact foldE_idx p fi no l (i + 1)
theorem Find_is (m : RLed) (id : Int) (hl : m.2.1.length ≤ 1000000) : ref21_Find m id = some (idxI (isS id) 0 m.2.1) := by
  unfold ref21_Find ref21_Find_t
  have := foldE_runI (bd := ref21_Find_b0) m.2.1 (by omega) (fun i (_ : Nat) => (id, m.2.1, Int.ofNat m.2.1.length, (i : Int), ())) (fun (j : Nat) x => if isS id x = true then .inr (.inl ((j : Int), ())) else .inl (j + 1)) (fun _ => .inr ()) (fun i j => j = i)
    (fun i hi j g hj => by
      subst hj
      refine (rn_in hi).trans ?_
      rw [getI_lt hi, beq_dec]
      unfold isS
      cases decide (m.2.1[j].1 = id) with
      | true => exact (rn_t rfl).trans rfl
      | false => rw [wsucc (by omega)]; exact (rn_f rfl).trans rfl)
    (fun i hi s t hs h => by
      subst hs
      split at h
      · cases h
      · cases h; rfl)
    (fun s g hs => rn_out.trans rfl) 0 rfl
  rw [foldE_idx (isS id) (fun j => (Sum.inl (j, ()) : ref21_Find_Q0)) (.inr ())] at this
  refine (fn_o this).trans ?_
  rcases idxI_is (isS id) m.2.1 0 with ⟨_, h⟩ | ⟨j, _, h, _⟩
  · rw [h]; rfl
  · rw [h, if_neg (by omega)]; rfl
/-- The place of a subscription that is open; -1. -/
def livI (m : RLed) (id : Int) : Int := match m.2.1.find? (isS id) with
  | none => -1
  | some s => if s.2.2.2 = true then -1 else idxI (isS id) 0 m.2.1
theorem live_is (m : RLed) (id : Int) (hl : m.2.1.length ≤ 1000000) : ref21_live m id = some (livI m id) := by
  unfold ref21_live ref21_live_t livI
  refine (fn_o (Find_is m id hl)).trans ?_
  rcases idxI_is (isS id) m.2.1 0 with ⟨h1, h⟩ | ⟨j, hj, h, h2, h3, _⟩
  · rw [h, h1]; exact (fn_f rfl).trans rfl
  · rw [h, h2, Nat.zero_add]
    refine (fn_t (decide_eq_true (by omega))).trans ((fn_t dge0).trans ((fn_t (dlt hj)).trans ?_))
    rw [getI_lt hj]
    cases hc : m.2.1[j].2.2.2 with
    | true => exact (fn_t rfl).trans (by simp [hc]; rfl)
    | false => exact (fn_f rfl).trans (by simp [hc]; rfl)
/-! ### gifts -/
def isG (id : Int) (k : KP) (g : RGift) : Bool := decide (g.1 = id) && decide (g.2.1 = k.1) && decide (g.2.2.1 = k.2)
def lasI (id : Int) (k : KP) (l : List RGift) (n : Int) : Int := l.foldl (fun n g => if isG id k g = true then g.2.2.2 else n) n
theorem last_is (m : RLed) (id a b : Int) (hl : m.2.2.length ≤ 1000000) : ref21_last m id a b = some (lasI id (a, b) m.2.2 (-1)) := by
  unfold ref21_last ref21_last_t
  have := foldE_run (bd := ref21_last_b0) m.2.2 (by omega) (fun i (n : Int) => (id, a, b, n, m.2.2, Int.ofNat m.2.2.length, (i : Int), ())) (fun n x => .inl (if isG id (a, b) x = true then x.2.2.2 else n)) (fun n => (n, ()))
    (fun i hi n g => by
      refine (rn_in hi).trans ?_
      rw [getI_lt hi, wsucc (i := i) (by omega), beq_dec, beq_dec, beq_dec]
      unfold isG
      cases decide (m.2.2[i].1 = id) with
      | false => exact (rn_f rfl).trans rfl
      | true =>
        refine (rn_t rfl).trans ?_
        cases decide (m.2.2[i].2.1 = (a, b).1) with
        | false => exact (rn_f rfl).trans rfl
        | true =>
          refine (rn_t rfl).trans ?_
          cases decide (m.2.2[i].2.2.1 = (a, b).2) with
          | false => exact (rn_f rfl).trans rfl
          | true => exact (rn_t rfl).trans rfl)
    (fun s g => rn_out.trans rfl) (-1)
  rw [foldE_fold (fun n x => if isG id (a, b) x = true then x.2.2.2 else n) (fun _ _ => rfl)] at this
  exact (fn_o this).trans rfl
/-! ### what is meant -/
def meaR (f : Fil) (k : KP) (l : List RFact) : List Int := (l.filter fun x => isK k x && mnB f x.2.2.2).map (·.2.2.1)
theorem meaR_len (f : Fil) (k : KP) (l : List RFact) : (meaR f k l).length ≤ l.length := by
  unfold meaR; rw [List.length_map]; exact List.length_filter_le _ _
theorem Meant_is (m : RLed) (f : Fil) (a b : Int) (hl : m.1.length ≤ 1000000) (hf : f.2.length ≤ 1000000) (he : ∀ x ∈ m.1, x.2.2.2.length ≤ 1000000) : ref21_Meant m f a b = some (meaR f (a, b) m.1) := by
  unfold ref21_Meant ref21_Meant_t
  have := foldE_runI (bd := ref21_Meant_b0) m.1 (by omega) (fun i (r : List Int) => (a, b, m.1, Int.ofNat m.1.length, (i : Int), f.1, f.2, r, ())) (fun r x => .inl (if (isK (a, b) x && mnB f x.2.2.2) = true then r ++ [x.2.2.1] else r)) (fun r => (r, ())) (fun i r => r.length ≤ i)
    (fun i hi r g hr => by
      refine (rn_in hi).trans ?_
      rw [getI_lt hi, wsucc (i := i) (by omega), beq_dec, beq_dec]
      unfold isK
      cases decide (m.1[i].1 = (a, b).1) with
      | false => exact (rn_f rfl).trans rfl
      | true =>
        refine (rn_t rfl).trans ?_
        cases decide (m.1[i].2.1 = (a, b).2) with
        | false => exact (rn_f rfl).trans rfl
        | true =>
          refine (rn_t rfl).trans ((rn_o (ref05_Means_is f _ (he _ (List.getElem_mem hi)) hf)).trans ?_)
          cases mnB f m.1[i].2.2.2 with
          | false => exact (rn_f rfl).trans rfl
          | true => exact (rn_t rfl).trans ((rn_t (appLim_ok (by omega))).trans rfl))
    (fun i hi s t hs h => by cases h; split; (· simp; omega); (· omega))
    (fun s g hs => rn_out.trans rfl) [] (Nat.le_refl _)
  rw [foldE_fold (fun r x => if (isK (a, b) x && mnB f x.2.2.2) = true then r ++ [x.2.2.1] else r) (fun _ _ => rfl)] at this
  refine (fn_o this).trans ?_
  have key : ∀ (l : List RFact) (r : List Int), l.foldl (fun r x => if (isK (a, b) x && mnB f x.2.2.2) = true then r ++ [x.2.2.1] else r) r = r ++ meaR f (a, b) l := by
    intro l
    induction l with
    | nil => intro r; simp [meaR]
    | cons x l ih =>
      intro r
      rw [List.foldl_cons, ih]
      unfold meaR
      rw [List.filter_cons]
      split <;> simp
  rw [key]; rfl
theorem Has_is (l : List Int) (n : Int) (hl : l.length ≤ 1000000) : ref01_Has l n = some (decide (n ∈ l)) := by
  unfold ref01_Has ref01_Has_t
  have := foldE_run (bd := ref01_Has_b0) l (by omega) (fun i (_ : Unit) => (n, l, Int.ofNat l.length, (i : Int), ())) (fun _ x => if x = n then .inr (.inl (true, ())) else .inl ()) (fun _ => .inr ())
    (fun i hi p g => by
      refine (rn_in hi).trans ?_
      rw [getI_lt hi, beq_dec]
      by_cases h : l[i] = n
      · rw [if_pos h]; exact (rn_t (decide_eq_true h)).trans rfl
      · rw [if_neg h, wsucc (by omega)]; exact (rn_f (decide_eq_false h)).trans rfl)
    (fun s g => rn_out.trans rfl) ()
  have key : ∀ l : List Int, foldE (fun (_ : Unit) (x : Int) => if x = n then (.inr (.inl (true, ())) : Unit ⊕ ref01_Has_Q0) else .inl ()) (fun _ => .inr ()) () l = if n ∈ l then .inl (true, ()) else .inr () := by
    intro l
    induction l with
    | nil => simp [foldE_nil]
    | cons x l ih =>
      rw [foldE_cons]
      by_cases h : x = n
      · subst h; simp
      · simp only [if_neg h]
        refine ih.trans ?_
        have : (n ∈ x :: l) ↔ n ∈ l := by simp [Ne.symm h]
        by_cases hm : n ∈ l
        · rw [if_pos hm, if_pos (this.2 hm)]
        · rw [if_neg hm, if_neg fun c => hm (this.1 c)]
  rw [key] at this
  refine (fn_o this).trans ?_
  by_cases h : n ∈ l
  · rw [if_pos h, decide_eq_true h]; rfl
  · rw [if_neg h, decide_eq_false h]; rfl
/-! ### may an event come now? -/
/-- Is one ahead of it? -/
def ahead (was fst i n : Int) : Bool := (decide (was ≥ 0) && decide (n > was) && decide (n < i)) || (decide (was < 0) && decide (n ≥ fst) && decide (n < i))
def mayB (f : Fil) (m : RLed) (k : KP) (was fst i : Int) : Bool := decide (i ∈ meaR f k m.1) && (meaR f k m.1).all (fun n => !ahead was fst i n) && decide (i > was)
theorem may_is (m : RLed) (s : RSub) (a b i : Int) (hl : m.1.length ≤ 1000000) (hg : m.2.2.length ≤ 1000000) (hf : s.2.1.2.length ≤ 1000000) (he : ∀ x ∈ m.1, x.2.2.2.length ≤ 1000000) (h0 : 0 ≤ s.2.2.1) (h1 : s.2.2.1 ≤ m.1.length) :
    ref21_may m s a b i = some (mayB s.2.1 m (a, b) (lasI s.1 (a, b) m.2.2 (-1)) (cntK (a, b) (m.1.take s.2.2.1.toNat)) i) := by
  unfold ref21_may ref21_may_t mayB
  refine (fn_o (Meant_is m s.2.1 a b hl hf he)).trans ?_
  have hml := meaR_len s.2.1 (a, b) m.1
  refine (fn_o (Has_is _ i (by omega))).trans ?_
  by_cases hm : i ∈ meaR s.2.1 (a, b) m.1
  · rw [decide_eq_true hm]
    refine (fn_f rfl).trans ((fn_o (last_is m s.1 a b hg)).trans ?_)
    refine (fn_t (decide_eq_true h0)).trans ((fn_t (decide_eq_true (by simpa using h1))).trans ?_)
    have hc : List.take (s.2.2.1 - 0).toNat (List.drop (Int.toNat 0) m.1) = m.1.take s.2.2.1.toNat := by simp
    rw [hc]
    refine (fn_o (Count_is _ a b (by rw [List.length_take]; omega))).trans ?_
    generalize lasI s.1 (a, b) m.2.2 (-1) = was
    generalize ((cntK (a, b) (m.1.take s.2.2.1.toNat) : Nat) : Int) = fst
    have := foldE_run (bd := ref21_may_b0) (meaR s.2.1 (a, b) m.1) (by omega) (fun j (_ : Unit) => (i, was, fst, meaR s.2.1 (a, b) m.1, Int.ofNat (meaR s.2.1 (a, b) m.1).length, (j : Int), ())) (fun _ n => if ahead was fst i n = true then .inr (.inl (i, false, was, ())) else .inl ()) (fun _ => .inr (i, was, ()))
      (fun j hj _ g => by
        refine (rn_in hj).trans ?_
        rw [getI_lt hj, wsucc (by omega)]
        generalize (meaR s.2.1 (a, b) m.1)[j] = n
        unfold ahead
        cases decide (was ≥ 0) <;> cases decide (n > was) <;> cases decide (n < i) <;> cases decide (was < 0) <;> cases decide (n ≥ fst) <;> rfl)
      (fun s g => rn_out.trans rfl) ()
    have key : ∀ l : List Int, foldE (fun (_ : Unit) (n : Int) => if ahead was fst i n = true then (.inr (.inl (i, false, was, ())) : Unit ⊕ ref21_may_Q0) else .inl ()) (fun _ => .inr (i, was, ())) () l = if (l.all fun n => !ahead was fst i n) = true then .inr (i, was, ()) else .inl (i, false, was, ()) := by
      intro l
      induction l with
      | nil => rfl
      | cons x l ih =>
        rw [foldE_cons, List.all_cons]
        cases h : ahead was fst i x with
        | true => rfl
        | false => simp only [Bool.false_eq_true, if_false]; exact ih
    rw [key] at this
    refine (fn_o this).trans ?_
    cases h : ((meaR s.2.1 (a, b) m.1).all fun n => !ahead was fst i n) with
    | true => simp; rfl
    | false => simp; rfl
  · rw [decide_eq_false hm]
    exact (fn_t rfl).trans rfl
theorem rright_is (a b : Int) : ref21_right a b = some (decide (a ≥ 0) && decide (a < 8) && decide (b ≥ 0) && decide (b < 16)) := by
  unfold ref21_right ref21_right_t
  cases decide (a ≥ 0) with
  | false => rfl
  | true =>
    cases decide (a < 8) with
    | false => rfl
    | true =>
      cases decide (b ≥ 0) with
      | false => rfl
      | true => rfl
/-- What is left from one on. -/
theorem dueL (t : Int) (l : List Int) (hl : l.length ≤ 1000000) : ref21_Due_l0 (t, l, Int.ofNat l.length, 0, false, 0, [], ()) = some (false, 0, l.filter (fun n => decide (n ≥ t)), ()) := by
  have := foldE_runI (bd := ref21_Due_b0) l (by omega) (fun i (r : List Int) => (t, l, Int.ofNat l.length, (i : Int), false, 0, r, ())) (fun r x => .inl (if decide (x ≥ t) = true then r ++ [x] else r)) (fun r => (false, 0, r, ())) (fun i r => r.length ≤ i)
    (fun i hi r g hr => by
      refine (rn_in hi).trans ?_
      rw [getI_lt hi, wsucc (by omega)]
      cases decide (l[i] ≥ t) with
      | false => exact (rn_f rfl).trans rfl
      | true => exact (rn_t rfl).trans ((rn_t (appLim_ok (by omega))).trans rfl))
    (fun i hi s t hs h => by cases h; split; (· simp; omega); (· omega))
    (fun s g hs => rn_out.trans rfl) [] (Nat.le_refl _)
  rw [foldE_fold (fun r x => if decide (x ≥ t) = true then r ++ [x] else r) (fun _ _ => rfl)] at this
  refine this.trans ?_
  have key : ∀ (l : List Int) (r : List Int), l.foldl (fun r x => if decide (x ≥ t) = true then r ++ [x] else r) r = r ++ l.filter (fun n => decide (n ≥ t)) := by
    intro l
    induction l with
    | nil => intro r; simp
    | cons x l ih =>
      intro r
      rw [List.foldl_cons, ih, List.filter_cons]
      split <;> simp
  rw [key]; rfl
end Go.Proofs.YtldkdhfcbopbhaaGreatDoor
