/- Chapter 21, plain: what a call leaves on the heap; Accept. -/
import Derived.Test.YtldkdhfcbopbhaaGreatDoorMc
set_option maxRecDepth 100000
namespace Go.Proofs.YtldkdhfcbopbhaaGreatDoor
open Go Go.Pev
/-- What a ledger's call leaves: nothing that isn't its own has changed. -/
structure Ext (H : List Pev.Node) (own : Nat → Option Rl) (H' : List Pev.Node) (own' : Nat → Option Rl) : Prop where
  len : H.length ≤ H'.length
  keep : ∀ i, i < H.length → own i = none → H'[i]? = H[i]?
  new : ∀ i, own i = none → own' i ≠ none → H.length ≤ i
theorem Ext.refl (H : List Pev.Node) (own : Nat → Option Rl) : Ext H own H own := ⟨Nat.le_refl _, fun _ _ _ => rfl, fun _ h h' => absurd h h'⟩
def Led (H : List Pev.Node) (n : Nat) (A : PL) (own : Nat → Option Rl) : Prop := ∃ e s E S, RepX H n e s E S own A
/-- Another ledger beside it. -/
theorem Led.beside {H H' : List Pev.Node} {own own' ow : Nat → Option Rl} {n : Nat} {B : PL} (h : Led H n B ow) (hx : Ext H own H' own') (hd : ∀ i, ow i ≠ none → own i = none) : Led H' n B ow ∧ ∀ i, ow i ≠ none → own' i = none := by
  obtain ⟨e, s, E, S, h⟩ := h
  refine ⟨⟨e, s, E, S, h.frame (fun i hi => hx.keep i (h.lt i hi) (hd i hi)) hx.len⟩, fun i hi => ?_⟩
  cases ho : own' i with
  | none => rfl
  | some r =>
    have := hx.new i (hd i hi) (by rw [ho]; simp)
    have := h.lt i hi
    omega
/-- The other way about. -/
theorem Ext.apart {H H' : List Pev.Node} {own own' ow : Nat → Option Rl} (hx : Ext H own H' own') (hd : ∀ i, ow i ≠ none → own i = none) (hl : ∀ i, ow i ≠ none → i < H.length) : ∀ i, own' i ≠ none → ow i = none := by
  intro i hi
  cases ho : ow i with
  | none => rfl
  | some r =>
    have h1 : ow i ≠ none := by rw [ho]; simp
    have := hx.new i (hd i h1) hi
    have := hl i h1
    omega
theorem Led.lt {H : List Pev.Node} {n : Nat} {A : PL} {own : Nat → Option Rl} (h : Led H n A own) : ∀ i, own i ≠ none → i < H.length := by
  obtain ⟨_, _, _, _, h⟩ := h; exact h.lt
/-! ### Accept -/
def upE (A : PL) (k : K21) (x : Ev) : PL := { A with ev := fun z => if z = k then A.ev k ++ [x] else A.ev z, cnt := A.cnt + 1 }
theorem key_is {α : Type} {a b : α} {k z : K21} : (if eqB shFrom k z = true then (a : α) else b) = if z = k then a else b := by
  by_cases h : z = k
  · subst h; rw [if_pos rfl, if_pos (eqB_self shFrom _ rfl)]
  · rw [if_neg h, if_neg fun h' => h (eqB_eq shFrom _ _ rfl h').symm]
theorem RepX.ne {H : List Pev.Node} {n e s : Nat} {E : List (K21 × Option Nat)} {S : List (Int × Option Nat)} {own : Nat → Option Rl} {A : PL} (h : RepX H n e s E S own A) : n ≠ e ∧ n ≠ s ∧ e ≠ s := by
  refine ⟨fun c => ?_, fun c => ?_, fun c => ?_⟩
  · have := h.on; rw [c, h.oe] at this; cases this
  · have := h.on; rw [c, h.os] at this; cases this
  · have := h.oe; rw [c, h.os] at this; cases this
theorem RepX.accept {H K : List Pev.Node} {n e s : Nat} {E E' : List (K21 × Option Nat)} {S : List (Int × Option Nat)} {own : Nat → Option Rl} {A : PL} (h : RepX H n e s E S own A) (k : K21) (x : Ev)
    (hn : K[n]? = some (ndL e (A.cnt + 1) s)) (he : K[e]? = some (ndEv E')) (hj : K[H.length]? = some (ndRow (A.ev k ++ [x]))) (hlen : K.length = H.length + 1)
    (hf : ∀ i, i < H.length → i ≠ n → i ≠ e → own i ≠ some (.row k) → K[i]? = H[i]?) (ke : Keys shFrom (.rf .sli) E') (hk : ∀ z, lkE z E' = if z = k then some (some H.length) else lkE z E) (hle : (E'.length : Int) ≤ A.cnt + 1) :
    ∃ own', Led K n (upE A k x) own' ∧ Ext H own K own' := by
  obtain ⟨n1, n2, n3⟩ := h.ne
  have out : ∀ i, own i ≠ none → i ≠ H.length := fun i hi c => by have := h.lt i hi; omega
  have hself : ∀ i, own i ≠ none → (if i = H.length then some (Rl.row k) else own i) = own i := fun i hi => if_neg (out i hi)
  refine ⟨fun i => if i = H.length then some (.row k) else own i, ⟨e, s, E', S, hn, he, ?_, ke, h.ks, ?_, ?_, ?_, ?_, ?_, ?_, h.nosub, h.ns, ?_, hle⟩, ?_, ?_, ?_⟩
  · exact (hf s (h.lt s (by rw [h.os]; simp)) (Ne.symm n2) (Ne.symm n3) (by rw [h.os]; simp)).trans h.hs
  · show (if n = H.length then _ else _) = _
    rw [hself n (by rw [h.on]; simp), h.on]
  · show (if e = H.length then _ else _) = _
    rw [hself e (by rw [h.oe]; simp), h.oe]
  · show (if s = H.length then _ else _) = _
    rw [hself s (by rw [h.os]; simp), h.os]
  · intro z r hz
    rw [hk] at hz
    by_cases hzk : z = k
    · rw [if_pos hzk] at hz
      obtain rfl := Option.some.inj hz
      subst hzk
      refine ⟨H.length, rfl, if_pos rfl, ?_⟩
      show _ = some (ndRow (if z = z then _ else _))
      rw [if_pos rfl]; exact hj
    · rw [if_neg hzk] at hz
      obtain ⟨m, h1, h2, h3⟩ := h.row z r hz
      refine ⟨m, h1, ?_, ?_⟩
      · show (if m = H.length then _ else _) = _
        rw [hself m (by rw [h2]; simp), h2]
      · show _ = some (ndRow (if z = k then _ else _))
        rw [if_neg hzk]
        refine (hf m (h.lt m (by rw [h2]; simp)) (fun c => ?_) (fun c => ?_) (fun c => ?_)).trans h3
        · rw [c, h.on] at h2; cases h2
        · rw [c, h.oe] at h2; cases h2
        · rw [h2] at c; cases c; exact hzk rfl
  · intro z hz
    rw [hk] at hz
    by_cases hzk : z = k
    · rw [if_pos hzk] at hz; cases hz
    · rw [if_neg hzk] at hz
      show (if z = k then _ else _) = _
      rw [if_neg hzk]; exact h.norow z hz
  · intro id r hr
    obtain ⟨p, q, b, y, B, X, h1, h2, h3⟩ := h.sub id r hr
    have go : ∀ i, own i ≠ none → own i ≠ some .top → own i ≠ some .ev → own i ≠ some (.row k) → K[i]? = H[i]? := fun i a1 a2 a3 a4 => hf i (h.lt i a1) (fun c => a2 (by rw [c, h.on])) (fun c => a3 (by rw [c, h.oe])) a4
    refine ⟨p, q, b, y, B, X, h1, h2, ?_, ?_, ?_, ?_, ?_, ?_, h3.kx, h3.bg, h3.nx⟩
    · show (if q = H.length then _ else _) = _
      rw [hself q (by rw [h3.oq]; simp), h3.oq]
    · show (if b = H.length then _ else _) = _
      rw [hself b (by rw [h3.ob]; simp), h3.ob]
    · show (if y = H.length then _ else _) = _
      rw [hself y (by rw [h3.ox]; simp), h3.ox]
    · exact (go q (by rw [h3.oq]; simp) (by rw [h3.oq]; simp) (by rw [h3.oq]; simp) (by rw [h3.oq]; simp)).trans h3.hq
    · exact (go b (by rw [h3.ob]; simp) (by rw [h3.ob]; simp) (by rw [h3.ob]; simp) (by rw [h3.ob]; simp)).trans h3.hb
    · exact (go y (by rw [h3.ox]; simp) (by rw [h3.ox]; simp) (by rw [h3.ox]; simp) (by rw [h3.ox]; simp)).trans h3.hx
  · intro i hi
    show i < K.length
    by_cases hc : i = H.length
    · omega
    · rw [show (if i = H.length then some (Rl.row k) else own i) = own i from if_neg hc] at hi
      have := h.lt i hi
      omega
  · omega
  · intro i hi ho
    exact hf i hi (fun c => by rw [c, h.on] at ho; cases ho) (fun c => by rw [c, h.oe] at ho; cases ho) (by rw [ho]; simp)
  · intro i ho hi
    by_cases hc : i = H.length
    · omega
    · rw [show (if i = H.length then some (Rl.row k) else own i) = own i from if_neg hc] at hi
      exact absurd ho hi
theorem clone_is (l : Ev) (h : l.length ≤ 16) : slices_Clone l = some l := by
  rw [slices_Clone_eq]
  unfold cloneC
  rw [show appLim 56 0 l.length = true from by simp only [appLim, decide_eq_true_eq]; omega]
  rfl
theorem lk_put (k z : K21) (r : Option Nat) {E : List (K21 × Option Nat)} (hE : Keys shFrom (.rf .sli) E) : lkE z (putL shFrom (.rf .sli) k r E) = if z = k then some r else lkE z E :=
  (look_put (k := shFrom) (v := .rf .sli) rfl hE).trans key_is
theorem accept_is {H : List Pev.Node} {n : Nat} {own : Nat → Option Rl} {A : PL} (h : Led H n A own) (a b : Int) (x : Ev) (hr : ledger_right a b = some true) (hc : event_Check x = some none) (hl : x.length ≤ 16) (h0 : 0 ≤ A.cnt) (hcnt : A.cnt < 4096) (hev : (A.ev (a, b)).length < 4096) :
    ∃ K own', ledger_Ledger_Accept (some n) a b x [] H = some (((A.ev (a, b)).length : Int), none, K) ∧ Led K n (upE A (a, b) x) own' ∧ Ext H own K own' := by
  obtain ⟨e, s, E, S, h⟩ := h
  obtain ⟨n1, n2, n3⟩ := h.ne
  have hw : IntKind.i64.wrap (A.cnt + 1) = A.cnt + 1 := i64_wrap _ (by omega) (by omega)
  have hge : decide (A.cnt ≥ 4096) = false := decide_eq_false (by omega)
  have len2 : ∀ r r', (((putL shFrom (.rf .sli) (a, b) r (putL shFrom (.rf .sli) (a, b) r' E)).length : Nat) : Int) ≤ A.cnt + 1 := fun r r' => by
    have k1 := keys_put (k := shFrom) (v := .rf .sli) (x := (a, b)) (y := r') rfl h.ke
    have hi : (lookL shFrom (.rf .sli) (a, b) (putL shFrom (.rf .sli) (a, b) r' E)).isSome = true := by rw [look_put (k := shFrom) (v := .rf .sli) rfl h.ke, if_pos (eqB_self shFrom _ rfl)]; rfl
    rw [len_put (k := shFrom) (v := .rf .sli) rfl k1, if_pos hi, len_put (k := shFrom) (v := .rf .sli) rfl h.ke]
    have := h.le
    split <;> omega
  have hen := h.hl
  have hee := h.he
  rcases row_of h (a, b) with ⟨h1, h2⟩ | ⟨m, h1, hm, h3⟩
  · have g2 : (H.set e (ndEv (putL shFrom (.rf .sli) (a, b) none E)) ++ [ndRow [x]])[e]? = some (ndEv (putL shFrom (.rf .sli) (a, b) none E)) := app_lt (set_at hee)
    have g0 : (H.set e (ndEv (putL shFrom (.rf .sli) (a, b) none E)) ++ [ndRow [x]])[n]? = some (ndL e A.cnt s) := app_lt ((set_ne (Ne.symm n1)).trans hen)
    have gr : (H.set e (ndEv (putL shFrom (.rf .sli) (a, b) none E)) ++ [ndRow [x]])[(H.set e (ndEv (putL shFrom (.rf .sli) (a, b) none E))).length]? = some (ndRow (A.ev (a, b) ++ [x])) := by rw [h2]; exact app_new
    have gl : (H.set e (ndEv (putL shFrom (.rf .sli) (a, b) none E)) ++ [ndRow [x]]).length = H.length + 1 := by simp
    have gf : ∀ i, i < H.length → i ≠ e → (H.set e (ndEv (putL shFrom (.rf .sli) (a, b) none E)) ++ [ndRow [x]])[i]? = H[i]? := fun i hi he => by
      rw [List.getElem?_append_left (by simpa using hi)]; exact set_ne (Ne.symm he)
    have k1 := keys_put (k := shFrom) (v := .rf .sli) (x := (a, b)) (y := none) rfl h.ke
    have hj : (H.set e (ndEv (putL shFrom (.rf .sli) (a, b) none E))).length = H.length := by simp
    have walk : ∀ (E1 : List (K21 × Option Nat)) (H1 H2 : List Pev.Node) (j : Nat), E1 = putL shFrom (.rf .sli) (a, b) none E → H1 = H.set e (ndEv E1) → H2 = H1 ++ [ndRow [x]] → j = H1.length → 
        H2[e]? = some (ndEv E1) → H2[n]? = some (ndL e A.cnt s) → H2[j]? = some (ndRow [x]) → lkE (a, b) (putL shFrom (.rf .sli) (a, b) (some j) E1) = some (some j) → j ≠ n → j ≠ e →
        ledger_Ledger_Accept (some n) a b x [] H = some (0, none, (H2.set e (ndEv (putL shFrom (.rf .sli) (a, b) (some j) E1))).set n (ndL e (IntKind.i64.wrap (A.cnt + 1)) s)) := by
      intro E1 H1 H2 j e1 e2 e3 e4 q1 q2 q3 q4 q5 q6
      unfold ledger_Ledger_Accept ledger_Ledger_Accept_t
      refine (fin_br_f rfl).trans ((fin_eq hr).trans ((fin_br_f rfl).trans ((fin_eq hc).trans ((fin_br_f rfl).trans ((fin_br_t rfl).trans ((fin_br_t rfl).trans ((fin_eq (getBox_at hen)).trans ((fin_eq (getBox_at hen)).trans ((fin_br_f hge).trans ?_)))))))))
      refine (fin_br_t rfl).trans ((fin_br_t rfl).trans ((fin_eq (getBox_at hen)).trans ((fin_eq (getBox_at hen)).trans ((fin_eq (clone_is x hl)).trans ((fin_br_t rfl).trans ((fin_br_t wrOk_nil).trans ((fin_eq (getMap_at hee)).trans ?_)))))))
      rw [show lookL shFrom (Sh.rf RK.sli) (a, b) E = none from h1]
      refine (fin_br_f rfl).trans ?_
      have s3 : (H2.set e (ndEv (putL shFrom (.rf .sli) (a, b) (some j) E1)))[n]? = some (ndL e A.cnt s) := (set_ne (Ne.symm n1)).trans q2
      refine (fin_br_t rfl).trans ((fin_br_t (Nat.beq_refl _)).trans ((fin_br_t wrOk_mark).trans ((fin_eq (getMap_at (k := shFrom) (v := .rf .sli) (l := E1) (by subst e4 e3 e2 e1; exact q1))).trans ?_)))
      have s4 := set_at (x := ndL e (IntKind.i64.wrap (A.cnt + 1)) s) s3
      have s5 : ((H2.set e (ndEv (putL shFrom (.rf .sli) (a, b) (some j) E1))).set n (ndL e (IntKind.i64.wrap (A.cnt + 1)) s))[e]? = _ := (set_ne n1).trans (set_at q1)
      have s6 : ((H2.set e (ndEv (putL shFrom (.rf .sli) (a, b) (some j) E1))).set n (ndL e (IntKind.i64.wrap (A.cnt + 1)) s))[j]? = _ := (set_ne (Ne.symm q5)).trans ((set_ne (Ne.symm q6)).trans q3)
      subst e4 e3 e2 e1
      refine (fin_br_t rfl).trans ((fin_br_t rfl).trans ((fin_eq (getBox_at s3)).trans ((fin_eq (getBox_at s3)).trans ((fin_br_t rfl).trans ((fin_br_t rfl).trans ((fin_eq (getBox_at s3)).trans ((fin_br_t wrOk_nil).trans ((fin_eq (getBox_at s3)).trans ?_))))))))
      refine (fin_br_t rfl).trans ((fin_br_t rfl).trans ((fin_eq (getBox_at s4)).trans ((fin_eq (getBox_at s4)).trans ((fin_br_t rfl).trans ((fin_eq (getMap_at s5)).trans ?_)))))
      rw [show lookL shFrom (Sh.rf RK.sli) (a, b) _ = some (some _) from q4]
      exact (fin_br_t rfl).trans ((fin_eq (getRow_at s6)).trans rfl)
    have jn : H.length ≠ n := fun c => by have := at_lt hen; omega
    have je : H.length ≠ e := fun c => by have := at_lt hee; omega
    have hlk : lkE (a, b) (putL shFrom (.rf .sli) (a, b) (some H.length) (putL shFrom (.rf .sli) (a, b) none E)) = some (some H.length) := by
      rw [lk_put _ _ _ k1, if_pos rfl]
    rw [hj] at gr
    obtain ⟨own', w1, w2⟩ := h.accept (K := (((H.set e (ndEv (putL shFrom (.rf .sli) (a, b) none E)) ++ [ndRow [x]]).set e (ndEv (putL shFrom (.rf .sli) (a, b) (some H.length) (putL shFrom (.rf .sli) (a, b) none E)))).set n (ndL e (IntKind.i64.wrap (A.cnt + 1)) s))) (a, b) x (E' := putL shFrom (.rf .sli) (a, b) (some H.length) (putL shFrom (.rf .sli) (a, b) none E))
      (by rw [hw]; exact set_at ((set_ne (Ne.symm n1)).trans g0)) ((set_ne n1).trans (set_at g2)) ((set_ne (Ne.symm jn)).trans ((set_ne (Ne.symm je)).trans gr)) (by simp) 
      (fun i hi q1 q2 _ => (set_ne (Ne.symm q1)).trans ((set_ne (Ne.symm q2)).trans (gf i hi q2)))
      (keys_put (k := shFrom) (v := .rf .sli) rfl k1) (fun z => by
        rw [lk_put _ _ _ k1, lk_put _ _ _ h.ke]
        by_cases hz : z = (a, b)
        · rw [if_pos hz, if_pos hz]
        · rw [if_neg hz, if_neg hz, if_neg hz])
      (len2 _ _)
    refine ⟨_, own', ?_, w1, w2⟩
    rw [h2]
    rw [h2] at gr
    exact walk _ _ _ _ rfl rfl rfl hj.symm g2 g0 gr hlk jn je
  · have hem : e ≠ m := fun c => by have := h.oe; rw [c, hm] at this; cases this
    have hnm : n ≠ m := fun c => by have := h.on; rw [c, hm] at this; cases this
    have hmm : H[m]? = some (ndRow (A.ev (a, b))) := h3
    have k1 := keys_put (k := shFrom) (v := .rf .sli) (x := (a, b)) (y := some m) rfl h.ke
    have g2 : ((H.set e (ndEv (putL shFrom (.rf .sli) (a, b) (some m) E))).set m .gone ++ [ndRow (A.ev (a, b) ++ [x])])[e]? = some (ndEv (putL shFrom (.rf .sli) (a, b) (some m) E)) := app_lt ((set_ne (Ne.symm hem)).trans (set_at hee))
    have g0 : ((H.set e (ndEv (putL shFrom (.rf .sli) (a, b) (some m) E))).set m .gone ++ [ndRow (A.ev (a, b) ++ [x])])[n]? = some (ndL e A.cnt s) := app_lt ((set_ne (Ne.symm hnm)).trans ((set_ne (Ne.symm n1)).trans hen))
    have gr : ((H.set e (ndEv (putL shFrom (.rf .sli) (a, b) (some m) E))).set m .gone ++ [ndRow (A.ev (a, b) ++ [x])])[H.length]? = some (ndRow (A.ev (a, b) ++ [x])) := by
      simp
    have gl : ((H.set e (ndEv (putL shFrom (.rf .sli) (a, b) (some m) E))).set m .gone ++ [ndRow (A.ev (a, b) ++ [x])]).length = H.length + 1 := by simp
    have gf : ∀ i, i < H.length → i ≠ e → i ≠ m → ((H.set e (ndEv (putL shFrom (.rf .sli) (a, b) (some m) E))).set m .gone ++ [ndRow (A.ev (a, b) ++ [x])])[i]? = H[i]? := fun i hi he hm => by
      rw [List.getElem?_append_left (by simpa using hi)]; exact (set_ne (Ne.symm hm)).trans (set_ne (Ne.symm he))
    have hj : (H.set e (ndEv (putL shFrom (.rf .sli) (a, b) (some m) E))).length = H.length := by simp
    have walk : ∀ (E1 : List (K21 × Option Nat)) (H1 H2 : List Pev.Node) (j : Nat), E1 = putL shFrom (.rf .sli) (a, b) (some m) E → H1 = H.set e (ndEv E1) → H2 = H1.set m .gone ++ [ndRow (A.ev (a, b) ++ [x])] → j = H1.length → 
        H2[e]? = some (ndEv E1) → H2[n]? = some (ndL e A.cnt s) → H2[j]? = some (ndRow (A.ev (a, b) ++ [x])) → lkE (a, b) (putL shFrom (.rf .sli) (a, b) (some j) E1) = some (some j) → j ≠ n → j ≠ e →
        ledger_Ledger_Accept (some n) a b x [] H = some (((A.ev (a, b)).length : Int), none, (H2.set e (ndEv (putL shFrom (.rf .sli) (a, b) (some j) E1))).set n (ndL e (IntKind.i64.wrap (A.cnt + 1)) s)) := by
      intro E1 H1 H2 j e1 e2 e3 e4 q1 q2 q3 q4 q5 q6
      unfold ledger_Ledger_Accept ledger_Ledger_Accept_t
      refine (fin_br_f rfl).trans ((fin_eq hr).trans ((fin_br_f rfl).trans ((fin_eq hc).trans ((fin_br_f rfl).trans ((fin_br_t rfl).trans ((fin_br_t rfl).trans ((fin_eq (getBox_at hen)).trans ((fin_eq (getBox_at hen)).trans ((fin_br_f hge).trans ?_)))))))))
      refine (fin_br_t rfl).trans ((fin_br_t rfl).trans ((fin_eq (getBox_at hen)).trans ((fin_eq (getBox_at hen)).trans ((fin_eq (clone_is x hl)).trans ((fin_br_t rfl).trans ((fin_br_t wrOk_nil).trans ((fin_eq (getMap_at hee)).trans ?_)))))))
      rw [show lookL shFrom (Sh.rf RK.sli) (a, b) E = some (some m) from h1]
      refine (fin_br_t rfl).trans ((fin_br_t wrOk_mark).trans ((fin_eq (getRow_at ((set_ne hem).trans hmm))).trans ((fin_br_t (by simp only [appLim, decide_eq_true_eq]; omega)).trans ?_)))
      have s3 : (H2.set e (ndEv (putL shFrom (.rf .sli) (a, b) (some j) E1)))[n]? = some (ndL e A.cnt s) := (set_ne (Ne.symm n1)).trans q2
      refine (fin_br_t rfl).trans ((fin_br_t (Nat.beq_refl _)).trans ((fin_br_t wrOk_mark).trans ((fin_eq (getMap_at (k := shFrom) (v := .rf .sli) (l := E1) (by subst e4 e3 e2 e1; exact q1))).trans ?_)))
      show LT.fin (LT.br _ _ _) = _
      have s4 := set_at (x := ndL e (IntKind.i64.wrap (A.cnt + 1)) s) s3
      have s5 : ((H2.set e (ndEv (putL shFrom (.rf .sli) (a, b) (some j) E1))).set n (ndL e (IntKind.i64.wrap (A.cnt + 1)) s))[e]? = _ := (set_ne n1).trans (set_at q1)
      have s6 : ((H2.set e (ndEv (putL shFrom (.rf .sli) (a, b) (some j) E1))).set n (ndL e (IntKind.i64.wrap (A.cnt + 1)) s))[j]? = _ := (set_ne (Ne.symm q5)).trans ((set_ne (Ne.symm q6)).trans q3)
      subst e4 e3 e2 e1
      refine (fin_br_t rfl).trans ((fin_br_t rfl).trans ((fin_eq (getBox_at s3)).trans ((fin_eq (getBox_at s3)).trans ((fin_br_t rfl).trans ((fin_br_t rfl).trans ((fin_eq (getBox_at s3)).trans ((fin_br_t wrOk_nil).trans ((fin_eq (getBox_at s3)).trans ?_))))))))
      refine (fin_br_t rfl).trans ((fin_br_t rfl).trans ((fin_eq (getBox_at s4)).trans ((fin_eq (getBox_at s4)).trans ((fin_br_t rfl).trans ((fin_eq (getMap_at s5)).trans ?_)))))
      rw [show lookL shFrom (Sh.rf RK.sli) (a, b) _ = some (some _) from q4]
      refine (fin_br_t rfl).trans ((fin_eq (getRow_at s6)).trans ?_)
      have hlen : IntKind.i64.wrap (Int.ofNat (A.ev (a, b) ++ [x]).length - 1) = ((A.ev (a, b)).length : Int) := by
        rw [List.length_append, List.length_singleton]
        have : Int.ofNat ((A.ev (a, b)).length + 1) - 1 = ((A.ev (a, b)).length : Int) := by simp
        rw [this]
        exact i64_wrap _ (by omega) (by omega)
      exact congrArg (fun l => some (l, none, ((((H.set e (ndEv (putL shFrom (.rf .sli) (a, b) (some m) E))).set m .gone ++ [ndRow (A.ev (a, b) ++ [x])]).set e (ndEv (putL shFrom (.rf .sli) (a, b) (some (H.set e (ndEv (putL shFrom (.rf .sli) (a, b) (some m) E))).length) (putL shFrom (.rf .sli) (a, b) (some m) E)))).set n (ndL e (IntKind.i64.wrap (A.cnt + 1)) s)))) hlen
    have jn : H.length ≠ n := fun c => by have := at_lt hen; omega
    have je : H.length ≠ e := fun c => by have := at_lt hee; omega
    have hlk : lkE (a, b) (putL shFrom (.rf .sli) (a, b) (some H.length) (putL shFrom (.rf .sli) (a, b) (some m) E)) = some (some H.length) := by
      rw [lk_put _ _ _ k1, if_pos rfl]
    obtain ⟨own', w1, w2⟩ := h.accept (K := ((((H.set e (ndEv (putL shFrom (.rf .sli) (a, b) (some m) E))).set m .gone ++ [ndRow (A.ev (a, b) ++ [x])]).set e (ndEv (putL shFrom (.rf .sli) (a, b) (some H.length) (putL shFrom (.rf .sli) (a, b) (some m) E)))).set n (ndL e (IntKind.i64.wrap (A.cnt + 1)) s))) (a, b) x (E' := putL shFrom (.rf .sli) (a, b) (some H.length) (putL shFrom (.rf .sli) (a, b) (some m) E))
      (by rw [hw]; exact set_at ((set_ne (Ne.symm n1)).trans g0)) ((set_ne n1).trans (set_at g2)) ((set_ne (Ne.symm jn)).trans ((set_ne (Ne.symm je)).trans gr)) (by simp) 
      (fun i hi q1 q2 q3 => (set_ne (Ne.symm q1)).trans ((set_ne (Ne.symm q2)).trans (gf i hi q2 fun c => q3 (by rw [c, hm]))))
      (keys_put (k := shFrom) (v := .rf .sli) rfl k1) (fun z => by
        rw [lk_put _ _ _ k1, lk_put _ _ _ h.ke]
        by_cases hz : z = (a, b)
        · rw [if_pos hz, if_pos hz]
        · rw [if_neg hz, if_neg hz, if_neg hz])
      (len2 _ _)
    exact ⟨_, own', walk _ _ _ _ rfl rfl rfl hj.symm g2 g0 gr hlk jn je, w1, w2⟩
end Go.Proofs.YtldkdhfcbopbhaaGreatDoor
