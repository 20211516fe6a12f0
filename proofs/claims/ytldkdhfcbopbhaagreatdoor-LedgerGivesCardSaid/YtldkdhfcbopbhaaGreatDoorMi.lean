/- Chapter 21, plain: what Open leaves. -/
import Derived.Test.YtldkdhfcbopbhaaGreatDoorMh
set_option maxRecDepth 100000
namespace Go.Proofs.YtldkdhfcbopbhaaGreatDoor
open Go Go.Pev
def newS (A : PL) (f : Fil) : PSub := ⟨f, fun k => ((A.ev k).length : Int), fun _ => none, false⟩
def upO (A : PL) (id : Int) (f : Fil) : PL := { A with sub := fun z => if z = id then some (newS A f) else A.sub z, ns := A.ns + 1 }
theorem idk_is {α : Type} {a b : α} {k z : Int} : (if eqB (.int .i64) k z = true then a else b) = if z = k then a else b := by
  by_cases h : z = k
  · subst h; rw [if_pos rfl, if_pos (eqB_self (.int .i64) _ rfl)]
  · rw [if_neg h, if_neg fun h' => h (eqB_eq (.int .i64) _ _ rfl h').symm]
section
variable {H : List Pev.Node} {n e s : Nat} {E : List (K21 × Option Nat)} {S : List (Int × Option Nat)} {own : Nat → Option Rl} {A : PL}
theorem RepX.opened (h : RepX H n e s E S own A) {id : Int} {f : Fil} {K : List Pev.Node} {S' : List (Int × Option Nat)} {B : List (K21 × Int)} (hno : lkS id S = none) (hlen : K.length = H.length + 3)
    (hs : K[s]? = some (ndSub S')) (hb : K[H.length]? = some (ndNum B)) (hx : K[H.length + 1]? = some (ndNum [])) (hq : K[H.length + 2]? = some (ndS f H.length (H.length + 1) false)) (hf : ∀ i, i < H.length → i ≠ s → K[i]? = H[i]?)
    (kS : Keys (.int .i64) (.rf .ptr) S') (lS : ∀ z, lkS z S' = if z = id then some (some (H.length + 2)) else lkS z S) (nS : S'.length = S.length + 1) (lB : ∀ k, (lkN k B).getD 0 = ((A.ev k).length : Int)) :
    ∃ own', Led K n (upO A id f) own' ∧ Ext H own K own' := by
  obtain ⟨n1, n2, n3⟩ := h.ne
  let own' : Nat → Option Rl := fun i => if i = H.length then some (.bg id) else if i = H.length + 1 then some (.nx id) else if i = H.length + 2 then some (.box id) else own i
  have old : ∀ i, i < H.length → own' i = own i := fun i hi => by
    show (if i = H.length then _ else if i = H.length + 1 then _ else if i = H.length + 2 then _ else _) = _
    rw [if_neg (by omega), if_neg (by omega), if_neg (by omega)]
  have oold : ∀ i, own i ≠ none → own' i = own i := fun i hi => old i (h.lt i hi)
  have ob : own' H.length = some (.bg id) := if_pos rfl
  have ox : own' (H.length + 1) = some (.nx id) := by
    show (if H.length + 1 = H.length then _ else if H.length + 1 = H.length + 1 then _ else _) = _
    rw [if_neg (by omega), if_pos rfl]
  have oq : own' (H.length + 2) = some (.box id) := by
    show (if H.length + 2 = H.length then _ else if H.length + 2 = H.length + 1 then _ else if H.length + 2 = H.length + 2 then _ else _) = _
    rw [if_neg (by omega), if_neg (by omega), if_pos rfl]
  have go : ∀ i, own i ≠ none → own i ≠ some .sb → K[i]? = H[i]? := fun i a1 a2 => hf i (h.lt i a1) (fun c => a2 (by rw [c, h.os]))
  refine ⟨own', ⟨e, s, E, S', (go n (by rw [h.on]; simp) (by rw [h.on]; simp)).trans h.hl, (go e (by rw [h.oe]; simp) (by rw [h.oe]; simp)).trans h.he, hs, h.ke, kS, (oold n (by rw [h.on]; simp)).trans h.on, (oold e (by rw [h.oe]; simp)).trans h.oe, (oold s (by rw [h.os]; simp)).trans h.os, ?_, h.norow, ?_, ?_, (by show S'.length = A.ns + 1; rw [nS, h.ns]), ?_, h.le⟩, ⟨by omega, ?_, ?_⟩⟩
  · intro k r hr
    obtain ⟨m, h1, h2, h3⟩ := h.row k r hr
    exact ⟨m, h1, (oold m (by rw [h2]; simp)).trans h2, (go m (by rw [h2]; simp) (by rw [h2]; simp)).trans h3⟩
  · intro id' r hr
    rw [lS] at hr
    by_cases hi : id' = id
    · rw [if_pos hi] at hr
      obtain rfl := Option.some.inj hr
      subst hi
      exact ⟨newS A f, H.length + 2, H.length, H.length + 1, B, [], if_pos rfl, rfl, oq, ob, ox, hq, hb, hx, keys_nil, lB, fun _ => rfl⟩
    · rw [if_neg hi] at hr
      obtain ⟨p1, q1, b1, x1, B1, X1, h1, h2, h3⟩ := h.sub id' r hr
      have a1 : own q1 ≠ none := by rw [h3.oq]; simp
      have a2 : own b1 ≠ none := by rw [h3.ob]; simp
      have a3 : own x1 ≠ none := by rw [h3.ox]; simp
      exact ⟨p1, q1, b1, x1, B1, X1, (if_neg hi).trans h1, h2, (oold q1 a1).trans h3.oq, (oold b1 a2).trans h3.ob, (oold x1 a3).trans h3.ox, (go q1 a1 (by rw [h3.oq]; simp)).trans h3.hq, (go b1 a2 (by rw [h3.ob]; simp)).trans h3.hb, (go x1 a3 (by rw [h3.ox]; simp)).trans h3.hx, h3.kx, h3.bg, h3.nx⟩
  · intro id' hr
    rw [lS] at hr
    by_cases hi : id' = id
    · rw [if_pos hi] at hr; cases hr
    · rw [if_neg hi] at hr
      exact (if_neg hi).trans (h.nosub id' hr)
  · intro i hi
    rcases Nat.lt_or_ge i (H.length + 3) with c | c
    · omega
    · exfalso
      refine hi ?_
      show (if i = H.length then _ else if i = H.length + 1 then _ else if i = H.length + 2 then _ else _) = _
      rw [if_neg (by omega), if_neg (by omega), if_neg (by omega)]
      cases ho : own i with
      | none => rfl
      | some r => have := h.lt i (by rw [ho]; simp); omega
  · intro i hi ho
    exact hf i hi (fun c => by rw [c, h.os] at ho; cases ho)
  · intro i ho hi
    rcases Nat.lt_or_ge i H.length with c | c
    · rw [old i c] at hi; exact absurd ho hi
    · exact c
theorem copy_is (f : Fil) (hl : f.2.length ≤ 16) : filter_Copy f = some f := by
  unfold filter_Copy filter_Copy_t
  rw [slices_Clone_39_eq]
  refine (fin_eq (show cloneC 72 f.2 = some f.2 from ?_)).trans rfl
  unfold cloneC
  rw [show appLim 72 0 f.2.length = true from by simp only [appLim, decide_eq_true_eq]; omega]
  rfl
theorem open_new (h : RepX H n e s E S own A) (id : Int) (f : Fil) (h0 : 0 ≤ id) (hc : filter_Check f = some none) (hl : f.2.length ≤ 16) (hno : lkS id S = none) (hns : A.ns < 512) (hcnt : A.cnt < 4096) :
    ∃ K own', ledger_Ledger_Open (some n) id f [] H = some (none, K) ∧ Led K n (upO A id f) own' ∧ Ext H own K own' := by
  have hE : E.length ≤ 1000000 := by have := h.le; omega
  have l1 : (H ++ [ndNum []]).length = H.length + 1 := by simp
  have l2 : (H ++ [ndNum []] ++ [ndNum []]).length = H.length + 2 := by simp
  have bl : ∀ {i : Nat} {x : Pev.Node}, H[i]? = some x → i < H.length := fun {i x} hh => at_lt hh
  have hs0 := bl h.hs
  have he0 := bl h.he
  have hn0 := bl h.hl
  have kS := keys_put (k := .int .i64) (v := .rf .ptr) (x := id) (y := some (H.length + 2)) rfl h.ks
  have lS : ∀ z, lkS z (putL (.int .i64) (.rf .ptr) id (some (H.length + 2)) S) = if z = id then some (some (H.length + 2)) else lkS z S := fun z => (look_put (k := .int .i64) (v := .rf .ptr) rfl h.ks).trans idk_is
  have nS : (putL (.int .i64) (.rf .ptr) id (some (H.length + 2)) S).length = S.length + 1 := by
    rw [len_put (k := .int .i64) (v := .rf .ptr) rfl h.ks, show lookL (.int .i64) (.rf .ptr) id S = none from hno]; simp
  have lB : ∀ k, (lkN k (finB A E [])).getD 0 = ((A.ev k).length : Int) := fun k => by
    rw [finB_look A k E [] sorted_nil]
    by_cases hk : k ∈ E.map (·.1)
    · rw [if_pos hk]; rfl
    · rw [if_neg hk]
      have : lkE k E = none := by
        cases hr : lkE k E with
        | none => rfl
        | some r =>
          have := (lookL_some (k := shFrom) (v := .rf .sli) rfl h.ke).1 hr
          exact absurd (List.mem_map_of_mem (f := (·.1)) this) hk
      rw [h.norow k this]; rfl
  have g : ∀ (H0 : List Pev.Node), H0 = H ++ [ndNum []] ++ [ndNum []] ++ [ndS f H.length (H.length + 1) false] → (∀ (i : Nat) (x : Pev.Node), H[i]? = some x → H0[i]? = some x) ∧ H0[H.length]? = some (ndNum []) ∧ H0[H.length + 1]? = some (ndNum []) ∧ H0[H.length + 2]? = some (ndS f H.length (H.length + 1) false) ∧ H0.length = H.length + 3 := by
    intro H0 e0
    subst e0
    refine ⟨fun i x hx => app_lt (app_lt (app_lt hx)), app_lt (app_lt app_new), ?_, ?_, by simp⟩
    · have := app_new (H := H ++ [ndNum []]) (x := ndNum [])
      rw [l1] at this
      exact app_lt this
    · have := app_new (H := H ++ [ndNum []] ++ [ndNum []]) (x := ndS f H.length (H.length + 1) false)
      rw [l2] at this
      exact this
  obtain ⟨g1, g2, g3, g4, g5⟩ := g _ rfl
  have hrows : ∀ p ∈ E, ∃ j, p.2 = some j ∧ j ≠ H.length ∧ (H ++ [ndNum []] ++ [ndNum []] ++ [ndS f H.length (H.length + 1) false])[j]? = some (ndRow (A.ev p.1)) := fun p hp => by
    have := (lookL_some (k := shFrom) (v := .rf .sli) (x := p.1) (y := p.2) rfl h.ke).2 hp
    obtain ⟨m, h1, h2, h3⟩ := h.row p.1 p.2 this
    have := bl h3
    exact ⟨m, h1, by omega, g1 _ _ h3⟩
  have lp := open_loop A (n := n) (id := id) (e := e) (b := H.length) (q := H.length + 2) (by omega) (by omega) FUEL E [] _ (by rw [fuel_is]; omega) h.ke sorted_nil g4 g2 hrows
  obtain ⟨own', w1, w2⟩ := h.opened (K := ((H ++ [ndNum []] ++ [ndNum []] ++ [ndS f H.length (H.length + 1) false]).set H.length (ndNum (finB A E []))).set s (ndSub (putL (.int .i64) (.rf .ptr) id (some (H.length + 2)) S))) (id := id) (f := f) hno (by simp)
    (set_at ((set_ne (by omega)).trans (g1 _ _ h.hs))) ((set_ne (by omega)).trans (set_at g2)) ((set_ne (by omega)).trans ((set_ne (by omega)).trans g3)) ((set_ne (by omega)).trans ((set_ne (by omega)).trans g4))
    (fun i hi hs => (set_ne (Ne.symm hs)).trans ((set_ne (by omega)).trans (by
      obtain ⟨x, hx⟩ : ∃ x, H[i]? = some x := ⟨_, List.getElem?_eq_getElem hi⟩
      rw [g1 _ _ hx, hx]))) kS lS nS lB
  refine ⟨_, own', ?_, w1, w2⟩
  unfold ledger_Ledger_Open ledger_Ledger_Open_t
  refine (fin_br_f rfl).trans ((fin_br_f (decide_eq_false (by omega))).trans ((fin_eq hc).trans ((fin_br_f rfl).trans ((fin_br_t rfl).trans ((fin_br_t rfl).trans ((fin_eq (getBox_at h.hl)).trans ((fin_eq (getBox_at h.hl)).trans ((fin_br_t rfl).trans ((fin_eq (getMap_at h.hs)).trans ?_)))))))))
  rw [show lookL (.int .i64) (.rf .ptr) id S = none from hno]
  refine (fin_br_f rfl).trans ((fin_br_t rfl).trans ((fin_br_t rfl).trans ((fin_eq (getBox_at h.hl)).trans ((fin_eq (getBox_at h.hl)).trans ((fin_br_t rfl).trans ((fin_eq (getMap_at h.hs)).trans ((fin_br_f (decide_eq_false (by have := h.ns; simp only [Int.ofNat_eq_natCast]; omega))).trans ((fin_eq (copy_is f hl)).trans ?_))))))))
  rw [l1, l2]
  have k1 := g1 _ _ h.hl
  have k2 := g1 _ _ h.he
  refine (fin_br_t rfl).trans ((fin_br_t rfl).trans ((fin_eq (getBox_at k1)).trans ((fin_eq (getBox_at k1)).trans ((fin_br_t rfl).trans ((fin_eq (getMap_at k2)).trans ((fin_eq lp).trans ?_))))))
  have k3 : ((H ++ [ndNum []] ++ [ndNum []] ++ [ndS f H.length (H.length + 1) false]).set H.length (ndNum (finB A E [])))[n]? = some (ndL e A.cnt s) := (set_ne (by omega)).trans k1
  have k4 : ((H ++ [ndNum []] ++ [ndNum []] ++ [ndS f H.length (H.length + 1) false]).set H.length (ndNum (finB A E [])))[s]? = some (ndSub S) := (set_ne (by omega)).trans (g1 _ _ h.hs)
  exact (fin_br_t rfl).trans ((fin_br_t rfl).trans ((fin_eq (getBox_at k3)).trans ((fin_eq (getBox_at k3)).trans ((fin_br_t rfl).trans ((fin_br_t wrOk_nil).trans ((fin_eq (getMap_at k4)).trans rfl))))))
end
end Go.Proofs.YtldkdhfcbopbhaaGreatDoor
