/- Chapter 21, plain: what is due and what may be given, both sides. -/
import Derived.Test.YtldkdhfcbopbhaaGreatDoorNd
set_option maxRecDepth 100000
namespace Go.Proofs.YtldkdhfcbopbhaaGreatDoor
open Go Go.Pev
/-- The places of what is meant. -/
def mi (f : Fil) : Nat → List Ev → List Int
  | _, [] => []
  | i, x :: l => if mnB f x = true then (i : Int) :: mi f (i + 1) l else mi f (i + 1) l
theorem mi_en (f : Fil) : ∀ (l : List Ev) (i : Nat), ((en i l).filter fun q => mnB f q.2).map (·.1) = mi f i l
  | [], _ => rfl
  | x :: l, i => by
    show List.map _ (List.filter _ (((i : Int), x) :: en (i + 1) l)) = _
    rw [List.filter_cons]
    unfold mi
    have ih := mi_en f l (i + 1)
    by_cases h : mnB f x = true
    · rw [if_pos h, if_pos h, List.map_cons, ih]
    · rw [if_neg h, if_neg h, ih]
theorem meaR_mi {A : PL} {m : RLed} (h : Rel A m) (f : Fil) (k : K21) : meaR f k m.1 = mi f 0 (A.ev k) := by
  rw [← mi_en, ← h.ev]
  unfold meaR facK
  generalize m.1 = l
  induction l with
  | nil => rfl
  | cons x l ih =>
    rw [List.filter_cons, List.filter_cons]
    cases hk : isK k x with
    | false => simpa using ih
    | true =>
      simp only [Bool.true_and, if_true, List.map_cons]
      rw [List.filter_cons]
      cases hm : mnB f x.2.2.2 with
      | false => simpa using ih
      | true => simpa using ih
theorem mi_mem (f : Fil) : ∀ (l : List Ev) (i : Nat) (n : Int), n ∈ mi f i l ↔ ∃ j, ∃ h : j < l.length, n = ((i + j : Nat) : Int) ∧ mnB f l[j] = true
  | [], i, n => by
    constructor
    · intro h; cases h
    · rintro ⟨j, h, _⟩; exact absurd h (by simp)
  | x :: l, i, n => by
    have ih := mi_mem f l (i + 1) n
    have key : (∃ j, ∃ h : j < (x :: l).length, n = ((i + j : Nat) : Int) ∧ mnB f (x :: l)[j] = true) ↔ (n = (i : Int) ∧ mnB f x = true) ∨ ∃ j, ∃ h : j < l.length, n = ((i + 1 + j : Nat) : Int) ∧ mnB f l[j] = true := by
      constructor
      · rintro ⟨j, hj, h1, h2⟩
        cases j with
        | zero => exact .inl ⟨h1, h2⟩
        | succ j => exact .inr ⟨j, by simpa using hj, by rw [h1]; congr 1; omega, h2⟩
      · rintro (⟨h1, h2⟩ | ⟨j, hj, h1, h2⟩)
        · exact ⟨0, by simp, h1, h2⟩
        · exact ⟨j + 1, by simpa using hj, by rw [h1]; congr 1; omega, h2⟩
    rw [key, ← ih]
    have e0 : mi f i (x :: l) = if mnB f x = true then (i : Int) :: mi f (i + 1) l else mi f (i + 1) l := rfl
    rw [e0]
    by_cases h : mnB f x = true
    · rw [if_pos h, List.mem_cons]
      constructor
      · rintro (h1 | h1)
        · exact .inl ⟨h1, h⟩
        · exact .inr h1
      · rintro (h1 | h1)
        · exact .inl h1.1
        · exact .inr h1
    · rw [if_neg h]
      exact ⟨.inr, fun c => c.elim (fun c => absurd c.2 h) id⟩
theorem mi_sorted (f : Fil) : ∀ (l : List Ev) (i : Nat), (mi f i l).Pairwise (· < ·)
  | [], _ => .nil
  | x :: l, i => by
    have ih := mi_sorted f l (i + 1)
    unfold mi
    split
    · refine List.pairwise_cons.2 ⟨fun n hn => ?_, ih⟩
      obtain ⟨j, _, h, _⟩ := (mi_mem f l (i + 1) n).1 hn
      omega
    · exact ih
theorem mtP_mi (f : Fil) (t : Int) : ∀ (l : List Ev) (i : Nat), (∀ x ∈ l, mB f x = mnB f x) → mtP f t i l = (mi f i l).filter fun n => decide (n ≥ t)
  | [], _, _ => rfl
  | x :: l, i, h => by
    have ih := mtP_mi f t l (i + 1) fun y hy => h y (List.mem_cons_of_mem _ hy)
    unfold mtP mi
    rw [h x List.mem_cons_self]
    by_cases hm : mnB f x = true
    · rw [if_pos hm, List.filter_cons]
      by_cases ht : t ≤ (i : Int)
      · rw [if_pos ⟨ht, hm⟩, if_pos (decide_eq_true ht), ih]
      · rw [if_neg fun c => ht c.1, if_neg (by simpa using ht), ih]
    · rw [if_neg fun c => hm c.2, if_neg hm, ih]
theorem firstP_iff : ∀ (l : List Int) (i : Int), l.Pairwise (· < ·) → (firstP l i = true ↔ i ∈ l ∧ ∀ n ∈ l, i ≤ n)
  | [], i, _ => by simp [firstP]
  | d :: l, i, h => by
    have h := List.pairwise_cons.1 h
    show (d == i) = true ↔ _
    rw [beq_iff_eq]
    constructor
    · rintro rfl
      exact ⟨List.mem_cons_self, fun n hn => by
        rcases List.mem_cons.1 hn with rfl | hn
        · exact Int.le_refl _
        · have := h.1 n hn; omega⟩
    · rintro ⟨h1, h2⟩
      rcases List.mem_cons.1 h1 with rfl | h1
      · rfl
      · have h3 := h.1 i h1
        have h4 := h2 d List.mem_cons_self
        omega
section
variable {A : PL} {m : RLed} {i : Nat}
theorem Good.mbs (hg : Good A i) {id : Int} {p : PSub} (hp : A.sub id = some p) (k : K21) : ∀ x ∈ A.ev k, mB p.f x = mnB p.f x := fun x hx => by
  have h1 := hg.evs k x hx
  have h2 := hg.subs id p hp
  have := filter_Means_is p.f x h1.2 (by omega) (by omega)
  unfold mB; rw [this]; rfl
theorem at_is (h : Rel A m) (s : RSub) (k : K21) : atP (mkP m s) k = if lasI s.1 k m.2.2 (-1) = -1 then (cntK k (m.1.take s.2.2.1.toNat) : Int) else lasI s.1 k m.2.2 (-1) + 1 := by
  show (nxI s.1 k m.2.2).getD _ = _
  unfold nxI
  split <;> rfl
theorem Rel.due (h : Rel A m) (hg : Good A i) (hi : i ≤ 1000) (hgl : m.2.2.length ≤ 1000) (id a b : Int) : ref21_Due m id a b = some ((dueP A id a b).1, toE (dueP A id a b).2) := by
  have hns := h.ns
  have hc := h.cnt
  have g1 := hg.cnt
  have g2 := hg.ns
  unfold ref21_Due ref21_Due_t dueP
  rcases h.live id with ⟨h1, h2⟩ | ⟨j, hj, h1, h2, h3, h4, h5, h6, h7⟩
  · rw [h1]
    refine (fn_o ((live_is m id (by omega)).trans (congrArg some h2))).trans ((fn_t rfl).trans rfl)
  · rw [h1]
    refine (fn_o ((live_is m id (by omega)).trans (congrArg some h2))).trans ((fn_f (decide_eq_false (by omega))).trans ((fn_o (rightR a b)).trans ?_))
    cases hr : rightB a b with
    | false => exact (fn_t rfl).trans rfl
    | true =>
      refine (fn_f rfl).trans ((fn_o (last_is m id a b (by omega))).trans ?_)
      have hla := h.las id (a, b)
      have hfl := hg.subs id _ h3
      have hfl : (m.2.1[j].2.1).2.length ≤ 16 := hfl
      have hmt : ∀ t, mtP (mkP m m.2.1[j]).f t 0 (A.ev (a, b)) = (meaR m.2.1[j].2.1 (a, b) m.1).filter fun n => decide (n ≥ t) := fun t => by
        rw [mtP_mi _ _ _ _ (hg.mbs h3 (a, b)), meaR_mi h]; rfl
      simp only [if_true]
      rw [hmt, at_is h, h4]
      have hml := meaR_len m.2.1[j].2.1 (a, b) m.1
      have hM := Meant_is m m.2.1[j].2.1 a b (by omega) (by omega) (h.evs hg)
      have hat := h.at_ _ (List.getElem_mem hj)
      by_cases hl : lasI id (a, b) m.2.2 (-1) = -1
      · rw [hl, if_pos rfl]
        refine (fn_t rfl).trans ((fn_t dge0).trans ((fn_t (dlt hj)).trans ?_))
        rw [getI_lt hj]
        refine (fn_t (decide_eq_true hat.1)).trans ((fn_t (decide_eq_true (by simpa using hat.2))).trans ?_)
        have hcc : List.take (m.2.1[j].2.2.1 - 0).toNat (List.drop (Int.toNat 0) m.1) = m.1.take m.2.1[j].2.2.1.toNat := by simp
        rw [hcc]
        refine (fn_o (Count_is _ a b (by rw [List.length_take]; omega))).trans ((fn_t dge0).trans ((fn_t (dlt hj)).trans ((fn_o hM).trans ((fn_o (dueL _ _ (by omega))).trans rfl))))
      · rw [if_neg hl]
        have hla := hla.resolve_left hl
        rw [i64_wrap _ (by omega) (by omega)]
        refine (fn_f (by simp; omega)).trans ((fn_t dge0).trans ((fn_t (dlt hj)).trans ?_))
        rw [getI_lt hj]
        exact (fn_o hM).trans ((fn_o (dueL _ _ (by omega))).trans rfl)
theorem may_eq (h : Rel A m) (hg : Good A i) {id : Int} {s : RSub} (hs : A.sub id = some (mkP m s)) (k : K21) (x : Int) (h0 : 0 ≤ x) (h1 : x < ((A.ev k).length : Int)) :
    mayB s.2.1 m k (lasI s.1 k m.2.2 (-1)) (cntK k (m.1.take s.2.2.1.toNat)) x = (earlyP (mkP m s) k (A.ev k) x || firstP (mtP (mkP m s).f (atP (mkP m s) k) 0 (A.ev k)) x) := by
  rw [mtP_mi _ _ _ _ (hg.mbs hs k), at_is h]
  have hmm : mB s.2.1 (getI (A.ev k) x []) = decide (x ∈ mi s.2.1 0 (A.ev k)) := by
    obtain ⟨j, rfl⟩ := Int.eq_ofNat_of_zero_le h0
    have hj : j < (A.ev k).length := by omega
    rw [getI_lt hj, show mB s.2.1 (A.ev k)[j] = mnB s.2.1 (A.ev k)[j] from hg.mbs hs k _ (List.getElem_mem hj)]
    have := mi_mem s.2.1 (A.ev k) 0 (j : Int)
    cases hb : mnB s.2.1 (A.ev k)[j] with
    | true => exact (decide_eq_true (this.2 ⟨j, hj, by simp, hb⟩)).symm
    | false =>
      refine (decide_eq_false fun c => ?_).symm
      obtain ⟨j', hj', e, hb'⟩ := this.1 c
      have : j' = j := by omega
      subst this
      rw [hb] at hb'; cases hb'
  have hsrt := mi_sorted s.2.1 (A.ev k) 0
  have hfi := fun t => firstP_iff ((mi s.2.1 0 (A.ev k)).filter fun n => decide (n ≥ t)) x (hsrt.filter _)
  have hla := h.las s.1 k
  unfold mayB earlyP
  rw [meaR_mi h]
  have hnx : (mkP m s).nx k = nxI s.1 k m.2.2 := rfl
  have hf : (mkP m s).f = s.2.1 := rfl
  have hbg : (mkP m s).bg k = (cntK k (m.1.take s.2.2.1.toNat) : Int) := rfl
  rw [hnx, hf, hbg, hmm]
  generalize hL : mi s.2.1 0 (A.ev k) = L at hfi ⊢
  generalize ((cntK k (m.1.take s.2.2.1.toNat) : Nat) : Int) = fst
  rw [Bool.eq_iff_iff, Bool.or_eq_true, hfi]
  unfold nxI ahead
  by_cases hl : lasI s.1 k m.2.2 (-1) = -1
  · rw [if_pos hl, if_pos hl, hl]
    simp only [List.mem_filter, Bool.and_eq_true, List.all_eq_true, Bool.not_eq_true', Bool.or_eq_false_iff, Bool.and_eq_false_iff, decide_eq_true_eq, decide_eq_false_iff_not, Option.isNone_none]
    constructor
    · rintro ⟨⟨q1, q2⟩, q3⟩
      by_cases hx : x < fst
      · exact .inl ⟨⟨trivial, hx⟩, q1⟩
      · refine .inr ⟨⟨q1, by omega⟩, fun n hn => ?_⟩
        have := (q2 n hn.1).2
        omega
    · rintro (⟨⟨_, q1⟩, q2⟩ | ⟨⟨q1, q2⟩, q3⟩)
      · refine ⟨⟨q2, fun n hn => ⟨by omega, by omega⟩⟩, by omega⟩
      · refine ⟨⟨q1, fun n hn => ⟨by omega, ?_⟩⟩, by omega⟩
        by_cases hn2 : n ≥ fst
        · have := q3 n ⟨hn, hn2⟩
          omega
        · omega
  · rw [if_neg hl, if_neg hl]
    have hla := hla.resolve_left hl
    generalize lasI s.1 k m.2.2 (-1) = was at hl hla ⊢
    simp only [List.mem_filter, Bool.and_eq_true, List.all_eq_true, Bool.not_eq_true', Bool.or_eq_false_iff, Bool.and_eq_false_iff, decide_eq_true_eq, decide_eq_false_iff_not, Option.isNone_some, Bool.false_eq_true, false_and, false_or]
    constructor
    · rintro ⟨⟨q1, q2⟩, q3⟩
      refine ⟨⟨q1, by omega⟩, fun n hn => ?_⟩
      have := (q2 n hn.1).1
      omega
    · rintro ⟨⟨q1, q2⟩, q3⟩
      refine ⟨⟨q1, fun n hn => ⟨?_, by omega⟩⟩, by omega⟩
      by_cases hn2 : n ≥ was + 1
      · have := q3 n ⟨hn, hn2⟩
        omega
      · omega
theorem Rel.gift {m' : RLed} (h : Rel A m) {id a b x : Int} {s : RSub} (hf : m.2.1.find? (isS id) = some s) (h0 : 0 ≤ x) (h1 : x ≤ 1000000) (hm : m' = (m.1, m.2.1, m.2.2 ++ [(id, a, b, x)])) : Rel (upS A id (nxP (mkP m s) (a, b) (IntKind.i64.wrap (x + 1)))) m' := by
  subst hm
  have hs1 : s.1 = id := of_decide_eq_true (show isS id s = true from List.find?_some hf)
  rw [i64_wrap _ (by omega) (by omega)]
  have hk : ∀ (z : Int) (k : K21), nxI z k (m.2.2 ++ [(id, a, b, x)]) = if z = id ∧ k = (a, b) then some (x + 1) else nxI z k m.2.2 := fun z k => by
    have e0 : nxI z k (m.2.2 ++ [(id, a, b, x)]) = if (if isG z k (id, a, b, x) = true then x else lasI z k m.2.2 (-1)) = -1 then none else some ((if isG z k (id, a, b, x) = true then x else lasI z k m.2.2 (-1)) + 1) := by
      unfold nxI; rw [lasI_snoc]
    rw [e0]
    by_cases hz : z = id ∧ k = (a, b)
    · obtain ⟨rfl, rfl⟩ := hz
      have : isG z (a, b) (z, a, b, x) = true := by simp [isG]
      rw [this, if_pos rfl, if_neg (by omega), if_pos ⟨rfl, rfl⟩]
    · rw [if_neg hz]
      have : isG z k (id, a, b, x) = false := by
        cases hg : isG z k (id, a, b, x) with
        | false => rfl
        | true =>
          exfalso
          unfold isG at hg
          simp only [Bool.and_eq_true, decide_eq_true_eq] at hg
          exact hz ⟨hg.1.1.symm, Prod.ext hg.1.2.symm hg.2.symm⟩
      rw [this]; rfl
  refine ⟨h.cnt, h.ev, fun z => ?_, h.ns, h.at_, fun g hg => ?_, h.rt, h.nd⟩
  · show (if z = id then some (nxP (mkP m s) (a, b) (x + 1)) else A.sub z) = (m.2.1.find? (isS z)).map _
    by_cases hz : z = id
    · subst hz
      rw [if_pos rfl, hf]
      show some _ = some (mkP _ s)
      unfold nxP mkP
      simp only
      congr 2
      funext k
      rw [hk, hs1]
      by_cases hkk : k = (a, b)
      · rw [if_pos hkk, if_pos ⟨rfl, hkk⟩]
      · rw [if_neg hkk, if_neg fun c => hkk c.2]
    · rw [if_neg hz, h.sub]
      cases hfz : m.2.1.find? (isS z) with
      | none => rfl
      | some t =>
        have ht : t.1 = z := of_decide_eq_true (show isS z t = true from List.find?_some hfz)
        show some _ = some (mkP _ t)
        unfold mkP
        simp only
        congr 2
        funext k
        rw [hk, if_neg fun c => hz (ht.symm.trans c.1)]
  · rcases List.mem_append.1 hg with hg | hg
    · exact h.gv g hg
    · rw [List.mem_singleton.1 hg]
      exact ⟨h0, h1, by show (m.2.1.find? (isS id)).isSome = true; rw [hf]; rfl⟩
theorem Rel.give (h : Rel A m) (hg : Good A i) (hi : i ≤ 1000) (hgl : m.2.2.length ≤ 1000) (id a b x : Int) : ∃ m', ref21_Give m id a b x = some (m', toE (giveP A id a b x).2) ∧ Rel (giveP A id a b x).1 m' ∧ m'.2.2.length ≤ m.2.2.length + 1 := by
  have hns := h.ns
  have hc := h.cnt
  have g1 := hg.cnt
  have g2 := hg.ns
  have gev := hg.small.ev (a, b)
  unfold ref21_Give ref21_Give_t giveP
  rcases h.live id with ⟨h1, h2⟩ | ⟨j, hj, h1, h2, h3, h4, h5, h6, h7⟩
  · rw [h1]
    refine ⟨m, (fn_o ((live_is m id (by omega)).trans (congrArg some h2))).trans ((fn_t rfl).trans rfl), h, by omega⟩
  · rw [h1]
    cases hr : rightB a b with
    | false =>
      refine ⟨m, (fn_o ((live_is m id (by omega)).trans (congrArg some h2))).trans ((fn_f (decide_eq_false (by omega))).trans ((fn_o ((rightR a b).trans (congrArg some hr))).trans ?_)), h, by omega⟩
      exact (fn_t rfl).trans rfl
    | true =>
      simp only [if_true]
      by_cases hx : 0 ≤ x ∧ x < ((A.ev (a, b)).length : Int)
      · rw [if_pos hx]
        have hfl := hg.subs id _ h3
        have hfl : (m.2.1[j].2.1).2.length ≤ 16 := hfl
        have hat := h.at_ _ (List.getElem_mem hj)
        have hfnd : m.2.1.find? (isS id) = some m.2.1[j] := by
          rcases h.fnd id with ⟨c, _⟩ | ⟨j', hj', q1, q2, q3, _, q5, q6⟩
          · rw [h3] at c; cases c
          · have : j' = j := by
              rcases Nat.lt_trichotomy j' j with c | c | c
              · have := h7 j' c; rw [q5] at this; cases this
              · exact c
              · have := q6 j c; rw [h6] at this; cases this
            subst this; exact q3
        have hmay := may_is m m.2.1[j] a b x (by omega) (by omega) (by omega) (h.evs hg) hat.1 hat.2
        rw [may_eq h hg h3 (a, b) x hx.1 hx.2] at hmay
        have walk : ∀ Y, (LT.fin (.opt (ref21_may m (getI m.2.1 (j : Int) (0, (false, []), 0, false)) a b x) Y) : Option (RLed × (Bool × List (Int × Int) × Int))) = (Y (earlyP (mkP m m.2.1[j]) (a, b) (A.ev (a, b)) x || firstP (mtP (mkP m m.2.1[j]).f (atP (mkP m m.2.1[j]) (a, b)) 0 (A.ev (a, b))) x)).fin := fun Y => by
          rw [getI_lt hj]; exact fn_o hmay
        cases hb : (earlyP (mkP m m.2.1[j]) (a, b) (A.ev (a, b)) x || firstP (mtP (mkP m m.2.1[j]).f (atP (mkP m m.2.1[j]) (a, b)) 0 (A.ev (a, b))) x) with
        | false =>
          rw [hb] at walk
          refine ⟨m, (fn_o ((live_is m id (by omega)).trans (congrArg some h2))).trans ((fn_f (decide_eq_false (by omega))).trans ((fn_o ((rightR a b).trans (congrArg some hr))).trans ((fn_f rfl).trans ((fn_f (decide_eq_false (by omega))).trans ((fn_o (Count_is m.1 a b (by omega))).trans ((fn_f (decide_eq_false (by rw [h.len]; omega))).trans ((fn_t dge0).trans ((fn_t (dlt hj)).trans ((walk _).trans ?_))))))))), h, by omega⟩
          exact (fn_t rfl).trans rfl
        | true =>
          rw [hb] at walk
          refine ⟨_, (fn_o ((live_is m id (by omega)).trans (congrArg some h2))).trans ((fn_f (decide_eq_false (by omega))).trans ((fn_o ((rightR a b).trans (congrArg some hr))).trans ((fn_f rfl).trans ((fn_f (decide_eq_false (by omega))).trans ((fn_o (Count_is m.1 a b (by omega))).trans ((fn_f (decide_eq_false (by rw [h.len]; omega))).trans ((fn_t dge0).trans ((fn_t (dlt hj)).trans ((walk _).trans ?_))))))))), h.gift hfnd hx.1 (by omega) rfl, by simp⟩
          exact (fn_f rfl).trans ((fn_t (appLim_ok (by omega))).trans ((fn_t (appLim_ok (by omega))).trans rfl))
      · rw [if_neg hx]
        refine ⟨m, (fn_o ((live_is m id (by omega)).trans (congrArg some h2))).trans ((fn_f (decide_eq_false (by omega))).trans ((fn_o ((rightR a b).trans (congrArg some hr))).trans ((fn_f rfl).trans ?_))), h, by omega⟩
        by_cases h0 : x < 0
        · exact (fn_t (decide_eq_true h0)).trans rfl
        · refine (fn_f (decide_eq_false h0)).trans ((fn_o (Count_is m.1 a b (by omega))).trans ((fn_t (decide_eq_true ?_)).trans rfl))
          have := h.len (a, b)
          omega
end
end Go.Proofs.YtldkdhfcbopbhaaGreatDoor
