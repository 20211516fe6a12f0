/- Chapter 21, plain: the document's lists, and what a ledger knows. -/
import Derived.Test.YtldkdhfcbopbhaaGreatDoorNc
import Derived.Test.YtldkdhfcbopbhaaGreatDoorMn
set_option maxRecDepth 100000
namespace Go.Proofs.YtldkdhfcbopbhaaGreatDoor
open Go Go.Pev
def en : Nat → List Ev → List (Int × Ev)
  | _, [] => []
  | i, x :: l => ((i : Int), x) :: en (i + 1) l
theorem en_snoc (x : Ev) : ∀ (l : List Ev) (i : Nat), en i (l ++ [x]) = en i l ++ [(((i + l.length : Nat) : Int), x)]
  | [], _ => rfl
  | y :: l, i => by
    show _ :: en (i + 1) (l ++ [x]) = _ :: (en (i + 1) l ++ _)
    rw [en_snoc x l (i + 1), List.length_cons]
    congr 4; omega
theorem en_len : ∀ (l : List Ev) (i : Nat), (en i l).length = l.length
  | [], _ => rfl
  | y :: l, i => by show (en (i + 1) l).length + 1 = _; rw [en_len l (i + 1)]; rfl
def facK (k : K21) (l : List RFact) : List (Int × Ev) := (l.filter (isK k)).map fun x => (x.2.2.1, x.2.2.2)
theorem facK_len (k : K21) (l : List RFact) : (facK k l).length = cntK k l := List.length_map _
/-- The next index that may come, if one came. -/
def nxI (id : Int) (k : K21) (l : List RGift) : Option Int := if lasI id k l (-1) = -1 then none else some (lasI id k l (-1) + 1)
def mkP (m : RLed) (s : RSub) : PSub := ⟨s.2.1, fun k => (cntK k (m.1.take s.2.2.1.toNat) : Int), fun k => nxI s.1 k m.2.2, s.2.2.2⟩
structure Rel (A : PL) (m : RLed) : Prop where
  cnt : A.cnt = m.1.length
  ev : ∀ k, facK k m.1 = en 0 (A.ev k)
  sub : ∀ id, A.sub id = (m.2.1.find? (isS id)).map (mkP m)
  ns : A.ns = m.2.1.length
  at_ : ∀ s ∈ m.2.1, 0 ≤ s.2.2.1 ∧ s.2.2.1 ≤ m.1.length
  gv : ∀ g ∈ m.2.2, 0 ≤ g.2.2.2 ∧ g.2.2.2 ≤ 1000000 ∧ (m.2.1.find? (isS g.1)).isSome = true
  rt : ∀ x ∈ m.1, rightB x.1 x.2.1 = true
  nd : (m.2.1.map (·.1)).Nodup
theorem Rel.no : Rel noP ([], [], []) := ⟨rfl, fun _ => rfl, fun _ => rfl, rfl, (fun _ h => by cases h), (fun _ h => by cases h), (fun _ h => by cases h), .nil⟩
theorem Rel.len {A : PL} {m : RLed} (h : Rel A m) (k : K21) : cntK k m.1 = (A.ev k).length := by rw [← facK_len, h.ev, en_len]
theorem Rel.evs {A : PL} {m : RLed} {i : Nat} (h : Rel A m) (hg : Good A i) : ∀ x ∈ m.1, x.2.2.2.length ≤ 1000000 := by
  intro x hx
  have h1 : (x.2.2.1, x.2.2.2) ∈ facK (x.1, x.2.1) m.1 := List.mem_map_of_mem (f := fun x : RFact => (x.2.2.1, x.2.2.2)) (List.mem_filter.2 ⟨hx, by simp [isK]⟩)
  rw [h.ev] at h1
  have key : ∀ (l : List Ev) (i : Nat) (p : Int × Ev), p ∈ en i l → p.2 ∈ l := by
    intro l
    induction l with
    | nil => intro i p hp; cases hp
    | cons y l ih =>
      intro i p hp
      rcases List.mem_cons.1 (show p ∈ ((i : Int), y) :: en (i + 1) l from hp) with rfl | hp
      · exact List.mem_cons_self
      · exact List.mem_cons_of_mem _ (ih _ _ hp)
  have := (hg.evs _ _ (key _ _ _ h1)).1
  have e : ((x.2.2.1, x.2.2.2) : Int × Ev).2.length = x.2.2.2.length := rfl
  omega
theorem tell_is (e : Err) : tellE e = toE e := by cases e <;> rfl
theorem twin_is (x : Ev) (h : x.length ≤ 1000000) : ref03_Twin x = some x := by
  unfold ref03_Twin ref03_Twin_t
  exact (fn_t (appLim_ok (by omega))).trans rfl
theorem ftwin_is (f : Fil) (h : f.2.length ≤ 1000000) : ref05_Twin f = some f := by
  unfold ref05_Twin ref05_Twin_t
  exact (fn_t (appLim_ok (by omega))).trans rfl
theorem rightR (a b : Int) : ref21_right a b = some (rightB a b) := rright_is a b
/-! ### lasI -/
theorem lasI_snoc (id : Int) (k : K21) (l : List RGift) (g : RGift) (n : Int) : lasI id k (l ++ [g]) n = if isG id k g = true then g.2.2.2 else lasI id k l n := by
  unfold lasI; rw [List.foldl_append]; rfl
theorem lasI_mem (id : Int) (k : K21) : ∀ (l : List RGift) (n : Int), lasI id k l n = n ∨ ∃ g ∈ l, isG id k g = true ∧ lasI id k l n = g.2.2.2
  | [], _ => .inl rfl
  | g :: l, n => by
    have h0 : lasI id k (g :: l) n = lasI id k l (if isG id k g = true then g.2.2.2 else n) := rfl
    rw [h0]
    rcases lasI_mem id k l (if isG id k g = true then g.2.2.2 else n) with h | ⟨x, hx, h1, h2⟩
    · by_cases hg : isG id k g = true
      · rw [if_pos hg] at h ⊢
        exact .inr ⟨g, List.mem_cons_self, hg, h⟩
      · rw [if_neg hg] at h ⊢
        exact .inl h
    · exact .inr ⟨x, List.mem_cons_of_mem _ hx, h1, h2⟩
theorem Rel.las {A : PL} {m : RLed} (h : Rel A m) (id : Int) (k : K21) : lasI id k m.2.2 (-1) = -1 ∨ (0 ≤ lasI id k m.2.2 (-1) ∧ lasI id k m.2.2 (-1) ≤ 1000000) := by
  rcases lasI_mem id k m.2.2 (-1) with h1 | ⟨g, hg, _, h1⟩
  · exact .inl h1
  · right; rw [h1]; exact ⟨(h.gv g hg).1, (h.gv g hg).2.1⟩
/-! ### the calls that change something -/
section
variable {A : PL} {m : RLed} {i : Nat}
theorem Rel.fac {m' : RLed} (h : Rel A m) (a b : Int) (x : Ev) (hr : rightB a b = true) (hm : m' = (m.1 ++ [(a, b, (cntK (a, b) m.1 : Int), x)], m.2)) : Rel (upE A (a, b) x) m' := by
  subst hm
  refine ⟨?_, fun k => ?_, fun id => ?_, h.ns, fun s hs => ?_, h.gv, fun y hy => (List.mem_append.1 hy).elim (h.rt y) fun hy => by rw [List.mem_singleton.1 hy]; exact hr, h.nd⟩
  · show A.cnt + 1 = (((m.1 ++ [_]).length : Nat) : Int)
    rw [h.cnt]; simp
  · show facK k (m.1 ++ [_]) = en 0 (if k = (a, b) then A.ev (a, b) ++ [x] else A.ev k)
    unfold facK
    rw [List.filter_append, List.map_append]
    have h1 := h.ev k
    unfold facK at h1
    rw [h1]
    by_cases hk : k = (a, b)
    · subst hk
      rw [if_pos rfl, en_snoc, h.len]
      simp [isK]
    · rw [if_neg hk]
      have : isK k (a, b, (cntK (a, b) m.1 : Int), x) = false := by
        unfold isK
        cases h1 : decide (a = k.1) with
        | false => rfl
        | true =>
          cases h2 : decide (b = k.2) with
          | false => rfl
          | true => exact absurd (Prod.ext (of_decide_eq_true h1).symm (of_decide_eq_true h2).symm) hk
      simp [this]
  · rw [show (upE A (a, b) x).sub id = A.sub id from rfl, h.sub]
    show (m.2.1.find? (isS id)).map (mkP m) = (m.2.1.find? (isS id)).map _
    cases hf : m.2.1.find? (isS id) with
    | none => rfl
    | some s =>
      have hs := h.at_ s (List.mem_of_find?_eq_some hf)
      show some (mkP m s) = some (mkP _ s)
      unfold mkP
      simp only
      rw [List.take_append_of_le_length (by omega)]
  · have := h.at_ s hs
    refine ⟨this.1, ?_⟩
    show _ ≤ (((m.1 ++ [_]).length : Nat) : Int)
    rw [List.length_append]; simp; omega
theorem Rel.accept (h : Rel A m) (a b : Int) (x : Ev) (hx : x.length ≤ 1000000) (hl : A.cnt < 4096) : ∃ m', ref21_Accept m a b x = some (m', (acceptP A a b x (ckEv x)).2.1, toE (acceptP A a b x (ckEv x)).2.2) ∧ Rel (acceptP A a b x (ckEv x)).1 m' ∧ m'.2.2 = m.2.2 := by
  have hc := h.cnt
  unfold ref21_Accept ref21_Accept_t acceptP
  cases hr : rightB a b with
  | false =>
    refine ⟨m, ?_, h, rfl⟩
    refine (fn_o ((rightR a b).trans (congrArg some hr))).trans ((fn_t rfl).trans rfl)
  | true =>
    rw [if_pos rfl]
    cases hk : ckEv x with
    | some v =>
      refine ⟨m, ?_, h, rfl⟩
      refine (fn_o ((rightR a b).trans (congrArg some hr))).trans ((fn_f rfl).trans ((fn_o (ref03_Check_is x hx)).trans ?_))
      rw [hk]
      exact (fn_t rfl).trans rfl
    | none =>
      simp only [if_pos hl]
      refine ⟨_, ?_, h.fac a b x hr rfl, rfl⟩
      refine (fn_o ((rightR a b).trans (congrArg some hr))).trans ((fn_f rfl).trans ((fn_o (ref03_Check_is x hx)).trans ?_))
      rw [hk]
      refine (fn_f rfl).trans ((fn_f (decide_eq_false (by simp only [Int.ofNat_eq_natCast]; omega))).trans ((fn_o (Count_is m.1 a b (by omega))).trans ((fn_t (appLim_ok (by omega))).trans ((fn_o (twin_is x hx)).trans ((fn_t (appLim_ok (by omega))).trans ?_)))))
      rw [LT.fin_ret, ← h.len]; rfl
theorem Rel.opn {m' : RLed} (h : Rel A m) (id : Int) (f : Fil) (hno : A.sub id = none) (hm : m' = (m.1, m.2.1 ++ [(id, f, (m.1.length : Int), false)], m.2.2)) : Rel (upO A id f) m' := by
  have hfn : m.2.1.find? (isS id) = none := by
    have := h.sub id
    rw [hno] at this
    cases hf : m.2.1.find? (isS id) with
    | none => rfl
    | some s => rw [hf] at this; cases this
  have hnew : ∀ k, nxI id k m.2.2 = none := fun k => by
    unfold nxI
    rcases lasI_mem id k m.2.2 (-1) with h1 | ⟨g, hg, h1, _⟩
    · rw [if_pos h1]
    · exfalso
      have := (h.gv g hg).2.2
      have e : g.1 = id := by
        unfold isG at h1
        simp only [Bool.and_eq_true, decide_eq_true_eq] at h1
        exact h1.1.1
      rw [e, hfn] at this; cases this
  subst hm
  refine ⟨h.cnt, h.ev, fun z => ?_, ?_, fun s hs => ?_, fun g hg => ?_, h.rt, ?_⟩
  · show (if z = id then some (newS A f) else A.sub z) = ((m.2.1 ++ [_]).find? (isS z)).map _
    rw [List.find?_append]
    by_cases hz : z = id
    · subst hz
      rw [if_pos rfl, hfn]
      have : List.find? (isS z) [(z, f, (m.1.length : Int), false)] = some (z, f, (m.1.length : Int), false) := by simp [isS]
      rw [Option.none_or, this]
      show some (newS A f) = some (mkP _ _)
      unfold newS mkP
      simp only
      congr 2
      · funext k; rw [← h.len]; simp
      · funext k; exact (hnew k).symm
    · rw [if_neg hz, h.sub z]
      have : List.find? (isS z) [(id, f, (m.1.length : Int), false)] = none := by simp [isS]; exact fun c => hz c.symm
      rw [this, Option.or_none]; rfl
  · show A.ns + 1 = (m.2.1 ++ [_]).length
    rw [h.ns]; simp
  · rcases List.mem_append.1 hs with hs | hs
    · exact h.at_ s hs
    · rw [List.mem_singleton.1 hs]; exact ⟨by show (0 : Int) ≤ (m.1.length : Int); omega, Int.le_refl _⟩
  · have := h.gv g hg
    refine ⟨this.1, this.2.1, ?_⟩
    show ((m.2.1 ++ [_]).find? _).isSome = true
    rw [List.find?_append]
    cases hf : m.2.1.find? (isS g.1) with
    | none => rw [hf] at this; cases this.2.2
    | some s => rfl
  · show ((m.2.1 ++ [_]).map (fun s : RSub => s.1)).Nodup
    rw [List.map_append, List.nodup_append]
    refine ⟨h.nd, by simp, fun x hx y hy => ?_⟩
    obtain ⟨s, hs, rfl⟩ := List.mem_map.1 hx
    rw [List.mem_singleton.1 hy]
    have := List.find?_eq_none.1 hfn s hs
    intro c
    exact this (decide_eq_true c)
theorem Rel.fnd (h : Rel A m) (id : Int) : (A.sub id = none ∧ m.2.1.find? (isS id) = none ∧ idxI (isS id) 0 m.2.1 = -1) ∨ ∃ j, ∃ hj : j < m.2.1.length, A.sub id = some (mkP m m.2.1[j]) ∧ m.2.1[j].1 = id ∧ m.2.1.find? (isS id) = some m.2.1[j] ∧ idxI (isS id) 0 m.2.1 = (j : Int) ∧ isS id m.2.1[j] = true ∧ ∀ k, (hk : k < j) → isS id m.2.1[k] = false := by
  have hs := h.sub id
  rcases idxI_is (isS id) m.2.1 0 with ⟨h1, h2⟩ | ⟨j, hj, h1, h2, h3, h4⟩
  · rw [h1] at hs; exact .inl ⟨hs, h1, h2⟩
  · rw [h2] at hs
    exact .inr ⟨j, hj, hs, of_decide_eq_true h3, h2, by rw [h1, Nat.zero_add], h3, h4⟩
theorem Rel.open_ (h : Rel A m) (id : Int) (f : Fil) (hf : f.2.length ≤ 1000000) (hn : A.ns < 512) (hl : A.cnt < 4096) : ∃ m', ref21_Open m id f = some (m', toE (openP A id f (ckF f)).2) ∧ Rel (openP A id f (ckF f)).1 m' ∧ m'.2.2 = m.2.2 := by
  have hns := h.ns
  have hc := h.cnt
  unfold ref21_Open ref21_Open_t openP
  by_cases h0 : id < 0
  · rw [if_pos h0]
    exact ⟨m, (fn_t (decide_eq_true h0)).trans rfl, h, rfl⟩
  · rw [if_neg h0]
    cases hk : ckF f with
    | some v =>
      refine ⟨m, (fn_f (decide_eq_false h0)).trans ((fn_o (ref05_Check_is f)).trans ?_), h, rfl⟩
      rw [hk]; exact (fn_t rfl).trans rfl
    | none =>
      rcases h.fnd id with ⟨h1, h2, h3⟩ | ⟨j, hj, h1, h2, h3, h4, _⟩
      · simp only [h1, if_pos hn]
        refine ⟨_, ?_, h.opn id f h1 rfl, rfl⟩
        refine (fn_f (decide_eq_false h0)).trans ((fn_o (ref05_Check_is f)).trans ?_)
        rw [hk]
        refine (fn_f rfl).trans ((fn_o (Find_is m id (by omega))).trans ?_)
        rw [h3]
        refine (fn_f rfl).trans ((fn_f (decide_eq_false (by simp only [Int.ofNat_eq_natCast]; omega))).trans ((fn_t (appLim_ok (by omega))).trans ((fn_o (ftwin_is f hf)).trans ((fn_t (appLim_ok (by omega))).trans rfl))))
      · simp only [h1]
        refine ⟨m, ?_, h, rfl⟩
        refine (fn_f (decide_eq_false h0)).trans ((fn_o (ref05_Check_is f)).trans ?_)
        rw [hk]
        refine (fn_f rfl).trans ((fn_o (Find_is m id (by omega))).trans ?_)
        rw [h4]
        exact (fn_t (decide_eq_true (by omega))).trans rfl
theorem find_set (id : Int) (s : RSub) (hs : s.1 = id) : ∀ (l : List RSub) (j : Nat) (hj : j < l.length), isS id l[j] = true → (∀ k, (hk : k < j) → isS id l[k] = false) → ∀ z, (l.set j s).find? (isS z) = if z = id then some s else l.find? (isS z)
  | x :: l, 0, _, h1, _, z => by
    have h1 : x.1 = id := of_decide_eq_true h1
    rw [List.set_cons_zero, List.find?_cons, List.find?_cons]
    unfold isS
    by_cases hz : z = id
    · subst hz; rw [if_pos rfl, decide_eq_true hs]
    · rw [if_neg hz, decide_eq_false (fun c => hz (c.symm.trans hs)), decide_eq_false (fun c => hz (c.symm.trans h1))]
  | x :: l, j + 1, hj, h1, h2, z => by
    have h0 : x.1 ≠ id := of_decide_eq_false (h2 0 (by omega))
    rw [List.set_cons_succ, List.find?_cons, List.find?_cons]
    have ih := find_set id s hs l j (by simpa using hj) h1 (fun k hk => h2 (k + 1) (by omega)) z
    rw [ih]
    by_cases hx : x.1 = z
    · rw [show isS z x = true from decide_eq_true hx]
      show some x = if z = id then some s else some x
      rw [if_neg fun c => h0 (hx.trans c)]
    · rw [show isS z x = false from decide_eq_false hx]
theorem Rel.live (h : Rel A m) (id : Int) : (liveP A id = none ∧ livI m id = -1) ∨ ∃ j, ∃ hj : j < m.2.1.length, liveP A id = some (mkP m m.2.1[j]) ∧ livI m id = (j : Int) ∧ A.sub id = some (mkP m m.2.1[j]) ∧ m.2.1[j].1 = id ∧ m.2.1[j].2.2.2 = false ∧ isS id m.2.1[j] = true ∧ ∀ k, (hk : k < j) → isS id m.2.1[k] = false := by
  unfold liveP livI
  rcases h.fnd id with ⟨h1, h2, h3⟩ | ⟨j, hj, h1, h2, h3, h4, h5, h6⟩
  · left; rw [h1, h2]; exact ⟨rfl, rfl⟩
  · rw [h1, h3, h4]
    cases hc : m.2.1[j].2.2.2 with
    | true =>
      left
      refine ⟨?_, ?_⟩
      · show (if (mkP m m.2.1[j]).closed = true then none else _) = none
        rw [if_pos (show (mkP m m.2.1[j]).closed = true from hc)]
      · show (if m.2.1[j].2.2.2 = true then _ else _) = _
        rw [if_pos hc]
    | false =>
      right
      refine ⟨j, hj, ?_, ?_, rfl, h2, hc, h5, h6⟩
      · show (if (mkP m m.2.1[j]).closed = true then none else _) = _
        rw [if_neg (by rw [show (mkP m m.2.1[j]).closed = false from hc]; simp)]
      · show (if m.2.1[j].2.2.2 = true then _ else _) = _
        rw [if_neg (by rw [hc]; simp)]
theorem Rel.setS {m' : RLed} (h : Rel A m) {id : Int} {j : Nat} (hj : j < m.2.1.length) (h5 : isS id m.2.1[j] = true) (h6 : ∀ k, (hk : k < j) → isS id m.2.1[k] = false) (s : RSub) (hs1 : s.1 = id) (hs : s.2.2.1 = m.2.1[j].2.2.1) (hm : m' = (m.1, m.2.1.set j s, m.2.2)) : Rel (upS A id (mkP m s)) m' := by
  subst hm
  have hfs := find_set id s hs1 m.2.1 j hj h5 h6
  refine ⟨h.cnt, h.ev, fun z => ?_, ?_, fun t ht => ?_, fun g hg => ?_, h.rt, ?_⟩
  · show (if z = id then some (mkP m s) else A.sub z) = ((m.2.1.set j s).find? (isS z)).map _
    rw [hfs]
    by_cases hz : z = id
    · rw [if_pos hz, if_pos hz]; rfl
    · rw [if_neg hz, if_neg hz, h.sub]; rfl
  · show A.ns = (m.2.1.set j s).length
    rw [h.ns, List.length_set]
  · rcases List.mem_or_eq_of_mem_set ht with ht | rfl
    · exact h.at_ t ht
    · rw [hs]; exact h.at_ _ (List.getElem_mem hj)
  · have := h.gv g hg
    refine ⟨this.1, this.2.1, ?_⟩
    show ((m.2.1.set j s).find? _).isSome = true
    rw [hfs]
    split
    · rfl
    · exact this.2.2
  · show ((m.2.1.set j s).map (·.1)).Nodup
    have e : (m.2.1.set j s).map (·.1) = m.2.1.map (·.1) := by
      rw [List.map_set]
      refine List.ext_getElem (by simp) fun k hk1 hk2 => ?_
      rw [List.getElem_set]
      split
      · rename_i hk
        subst hk
        have h5 : m.2.1[j].1 = id := of_decide_eq_true h5
        rw [List.getElem_map, h5, hs1]
      · rfl
    rw [e]; exact h.nd
theorem Rel.close (h : Rel A m) (id : Int) (hn : A.ns ≤ 1000) : ∃ m', ref21_Close m id = some (m', toE (closeP A id).2) ∧ Rel (closeP A id).1 m' ∧ m'.2.2 = m.2.2 := by
  have hns := h.ns
  unfold ref21_Close ref21_Close_t closeP
  rcases h.live id with ⟨h1, h2⟩ | ⟨j, hj, h1, h2, h3, h4, h5, h6, h7⟩
  · rw [h1]
    refine ⟨m, (fn_o ((live_is m id (by omega)).trans (congrArg some h2))).trans ?_, h, rfl⟩
    exact (fn_t rfl).trans rfl
  · rw [h1]
    refine ⟨_, (fn_o ((live_is m id (by omega)).trans (congrArg some h2))).trans ?_, h.setS hj h6 h7 (m.2.1[j].1, m.2.1[j].2.1, m.2.1[j].2.2.1, true) h4 rfl rfl, rfl⟩
    refine (fn_f (decide_eq_false (by omega))).trans ((fn_t (appLim_ok (by omega))).trans ((fn_t dge0).trans ((fn_t (dlt hj)).trans ((fn_t dge0).trans ((fn_t (dlt hj)).trans ?_)))))
    rw [getI_lt hj]; rfl
end
end Go.Proofs.YtldkdhfcbopbhaaGreatDoor
