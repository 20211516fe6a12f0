/- Chapter 8, plain: Match. -/
import Derived.Test.YtdiomgmckidccaaGreatDoorKd
set_option maxRecDepth 100000
namespace Go.Proofs.YtdiomgmckidccaaGreatDoor
open Go Go.Pev
section
variable {S Q α : Type} {p : Q → Prop} {g : S → Prop}
theorem wp_t {b : Bool} {x y : LT S Q} (h : b = true) : (LT.br b x y).wp p g = x.wp p g := by subst h; rfl
theorem wp_f {b : Bool} {x y : LT S Q} (h : b = false) : (LT.br b x y).wp p g = y.wp p g := by subst h; rfl
theorem wp_o {o : Option α} {a : α} {k : α → LT S Q} (h : o = some a) : (LT.opt o k).wp p g = (k a).wp p g := by subst h; rfl
end
theorem del_perm {k v : Sh} (hf : k.flat = true) {p : k.T × v.T} : ∀ {l : List (k.T × v.T)}, Keys k v l → p ∈ l → l.Perm (p :: delL k v p.1 l)
  | q :: l, hk, hp => by
    have hk' := List.pairwise_cons.1 hk
    by_cases he : eqB k q.1 p.1 = true
    · have hq : q = p := by
        rcases List.mem_cons.1 hp with h | h
        · exact h.symm
        · have := hk'.1 p h
          rw [he] at this; cases this
      subst hq
      have : delL k v q.1 (q :: l) = l := by
        show (match eqB k q.1 q.1 with | true => l | false => q :: delL k v q.1 l) = l
        rw [he]
      rw [this]
    · have he : eqB k q.1 p.1 = false := by simpa using he
      have hpl : p ∈ l := by
        rcases List.mem_cons.1 hp with h | h
        · rw [h, eqB_self k _ hf] at he; cases he
        · exact h
      have : delL k v p.1 (q :: l) = q :: delL k v p.1 l := by
        show (match eqB k q.1 p.1 with | true => l | false => q :: delL k v p.1 l) = _
        rw [he]
      rw [this]
      exact ((del_perm hf hk'.2 hpl).cons q).trans (.swap p q _)
theorem del_lt {k v : Sh} (hf : k.flat = true) {p : k.T × v.T} {l : List (k.T × v.T)} (hk : Keys k v l) (hp : p ∈ l) : (delL k v p.1 l).length + 1 = l.length := ((del_perm hf hk hp).length_eq).symm
theorem keys_sub {k v : Sh} {x : k.T} {l : List (k.T × v.T)} (hk : Keys k v l) : Keys k v (delL k v x l) := hk.sublist (delL_sub x l)
/-- The walk over a name's bounds. -/
theorem match_inner {n h : Nat} {e : Ev} {u1 u2 : Int} {nm : ByteArray} {v : V} {q : Nat} (hq : q ≠ h) (B : Int) (hB : B ≤ 1000000) : ∀ (fu : Nat) (lf : Ents) (H : List Pev.Node) (hl : Holds8), lf.length < fu → Keys (.int .i64) shBound lf → SoH hl → H[h]? = some (ndH hl) → (∀ p ∈ lf, 0 ≤ (lkH p.1 hl).getD 0 ∧ (lkH p.1 hl).getD 0 ≤ B) →
    LT.loop index_Index_Match_b1 fu (some n, some h, e, u1, u2, nm, v.1, v.2.1, v.2.2.1, v.2.2.2, [], some q, lf, H, ()) = some (some n, some h, e, u1, u2, [], H.set h (ndH (incE v lf hl)), ())
  | 0, _, _, _, hf, _, _, _, _ => by omega
  | fu + 1, [], H, hl, _, _, _, hh, _ => by
    rw [LT.loop_succ]
    refine (rn_t rfl).trans ?_
    have : H.set h (ndH hl) = H := by
      obtain ⟨h1, h2⟩ := List.getElem?_eq_some_iff.1 hh
      rw [← h2]; exact List.set_getElem_self h1
    show some _ = some _
    rw [show incE v [] hl = hl from rfl, this]
  | fu + 1, x :: lf, H, hl, hf, hk, hs, hh, hb => by
    rw [LT.loop_succ]
    refine (rn_f rfl).trans ?_
    refine LT.run_any (x :: lf) _ _ _ (by simp) fun p hp => ?_
    have hbp := hb p hp
    have hlen := del_lt (k := .int .i64) (v := shBound) rfl hk hp
    have hk2 := keys_sub (x := p.1) hk
    have hnext : ∀ r ∈ delL (.int .i64) shBound p.1 (x :: lf), r ∈ x :: lf ∧ r.1 ≠ p.1 := fun r hr => by
      refine ⟨(delL_sub (k := .int .i64) (v := shBound) p.1 (x :: lf)).subset hr, fun c => ?_⟩
      have hpm := del_perm (k := .int .i64) (v := shBound) rfl hk hp
      rw [delL_filter (k := .int .i64) (v := shBound) rfl _ _ hk] at hr
      have := (List.mem_filter.1 hr).2
      rw [c, eqZ] at this; simp at this
    have hany := incE_any (v := v) hk hp hs
    cases hhold : holdB p.2 v with
    | true =>
      have hinc : incH v hl p = putL (.int .i64) (.int .i64) p.1 ((lkH p.1 hl).getD 0 + 1) hl := if_pos hhold
      have ih := match_inner (n := n) (e := e) (u1 := u1) (u2 := u2) (nm := nm) (v := v) hq B hB fu (delL (.int .i64) shBound p.1 (x :: lf)) (H.set h (ndH (incH v hl p))) (incH v hl p) (by simp only [List.length_cons] at hf hlen; omega) hk2 (incH_so hs) (set_at hh) (fun r hr => by
        obtain ⟨h1, h2⟩ := hnext r hr
        rw [incH_look hs, if_neg fun c => h2 c.1]
        exact hb r h1)
      rw [hany, List.set_set] at ih
      refine Eq.trans ?_ ih
      refine (rn_o (filter_Holds_is p.2 v)).trans ?_
      rw [hhold]
      refine (rn_t rfl).trans ((rn_t rfl).trans ((rn_o (getMap_at hh)).trans ((rn_t rfl).trans ((rn_t (wrOk_it hq)).trans ((rn_o (getMap_at hh)).trans ?_)))))
      have hw : IntKind.i64.wrap ((lkH p.1 hl).getD 0 + 1) = (lkH p.1 hl).getD 0 + 1 := i64_wrap _ (by have := hbp.1; omega) (by have := hbp.2; omega)
      rw [show IntKind.i64.wrap ((lookL (.int .i64) (.int .i64) p.1 hl).getD 0 + 1) = (lkH p.1 hl).getD 0 + 1 from hw, hinc]; rfl
    | false =>
      have hinc : incH v hl p = hl := if_neg (by rw [hhold]; simp)
      have ih := match_inner (n := n) (e := e) (u1 := u1) (u2 := u2) (nm := nm) (v := v) hq B hB fu (delL (.int .i64) shBound p.1 (x :: lf)) H hl (by simp only [List.length_cons] at hf hlen; omega) hk2 hs hh (fun r hr => hb r (hnext r hr).1)
      rw [hinc] at hany
      rw [hany] at ih
      refine Eq.trans ?_ ih
      refine (rn_o (filter_Holds_is p.2 v)).trans ?_
      rw [hhold]
      exact (rn_f rfl).trans rfl
theorem lkH_bound {v : V} {E : Ents} {hl : Holds8} (hk : Keys (.int .i64) shBound E) (hs : SoH hl) {B : Int} (hB : ∀ z, 0 ≤ (lkH z hl).getD 0 ∧ (lkH z hl).getD 0 ≤ B) (z : Int) : 0 ≤ (lkH z (incE v E hl)).getD 0 ∧ (lkH z (incE v E hl)).getD 0 ≤ B + 1 := by
  rw [incE_look z hk hs]
  have := hB z
  cases lkE z E with
  | none => simp only; omega
  | some b =>
    simp only
    split
    · simp only [Option.getD_some]; omega
    · omega
/-- The walk over the attributes. -/
theorem match_outer {n a m h : Nat} {L : Items} {N : NmL} {M : NMs} {own : Nat → Option Ro} (e : Ev) (he : e.length ≤ 1000) (hM : ∀ s, SoE (M s)) (hLn : ∀ s, (M s).length ≤ 1000000) : ∀ (fu i : Nat) (H : List Pev.Node) (hl : Holds8), i ≤ e.length → e.length - i < fu → RepI H n a m L N M own → own h = none → SoH hl → H[h]? = some (ndH hl) → (∀ z, 0 ≤ (lkH z hl).getD 0 ∧ (lkH z hl).getD 0 ≤ (i : Int)) →
    LT.loop index_Index_Match_b0 fu (some n, some h, e, Int.ofNat e.length, (i : Int), [], H, ()) = some (some n, some h, [], H.set h (ndH (holdA M (e.drop i) hl)), ())
  | 0, _, _, _, _, hf, _, _, _, _, _ => by omega
  | fu + 1, i, H, hl, h1, h2, h3, ho, hs, hh, hb => by
    rw [LT.loop_succ]
    by_cases hi : i < e.length
    · have hd : e.drop i = e[i] :: e.drop (i + 1) := List.drop_eq_getElem_cons hi
      have hw : IntKind.i64.wrap ((i : Int) + 1) = ((i + 1 : Nat) : Int) := wsucc (by omega)
      refine (rn_in hi).trans ?_
      rw [getI_lt hi, hw, hd]
      refine (rn_t rfl).trans ((rn_t rfl).trans ((rn_o (getBox_at h3.hn)).trans ((rn_o (getBox_at h3.hn)).trans ((rn_t rfl).trans ((rn_o (getMap_at h3.hm)).trans ?_)))))
      have hhold : holdA M (e[i] :: e.drop (i + 1)) hl = holdA M (e.drop (i + 1)) (incE e[i].2 (M e[i].1) hl) := rfl
      rw [hhold]
      cases hl0 : lkM e[i].1 N with
      | none =>
        rw [show lookL Sh.str (Sh.rf RK.map) e[i].1 N = none from hl0, h3.no _ hl0]
        refine (rn_f rfl).trans ?_
        exact match_outer e he hM hLn fu (i + 1) H hl (by omega) (by omega) h3 ho hs hh (fun z => by have := hb z; omega)
      | some r =>
        obtain ⟨q, rfl, hoq, hhq, _⟩ := h3.sub _ _ hl0
        have hqh : q ≠ h := fun c => by rw [c, ho] at hoq; cases hoq
        rw [show lookL Sh.str (Sh.rf RK.map) e[i].1 N = some (some q) from hl0]
        have hk := (hM e[i].1).keys rfl
        have lp := match_inner (n := n) (e := e) (u1 := Int.ofNat e.length) (u2 := (i : Int)) (nm := e[i].1) (v := e[i].2) hqh (i : Int) (by omega) FUEL (M e[i].1) H hl (by rw [fuel_is]; have := hLn e[i].1; omega) hk hs hh (fun p _ => hb p.1)
        refine (rn_t rfl).trans ((rn_o (getMap_at hhq)).trans ((rn_o lp).trans ?_))
        have hfr : RepI (H.set h (ndH (incE e[i].2 (M e[i].1) hl))) n a m L N M own := h3.frame (fun j hj => set_ne fun c => hj (by rw [← c]; exact ho)) (by simp)
        have ih := match_outer e he hM hLn fu (i + 1) (H.set h (ndH (incE e[i].2 (M e[i].1) hl))) (incE e[i].2 (M e[i].1) hl) (by omega) (by omega) hfr ho (incE_so hs) (set_at hh) (fun z => by
          have := lkH_bound (v := e[i].2) hk hs hb z
          omega)
        rw [List.set_set] at ih
        refine Eq.trans ?_ ih
        show LT.loop index_Index_Match_b0 fu (some n, some h, e, Int.ofNat e.length, IntKind.i64.wrap ((i : Int) + 1), [], _, ()) = _
        rw [hw]
    · have : i = e.length := by omega
      subst this
      refine rn_out.trans ?_
      rw [List.drop_length]
      have : H.set h (ndH hl) = H := by
        obtain ⟨h1, h2⟩ := List.getElem?_eq_some_iff.1 hh
        rw [← h2]; exact List.set_getElem_self h1
      show some _ = some _
      rw [show holdA M [] hl = hl from rfl, this]
/-- Is a filter found? -/
def sel8 (hl : Holds8) (p : Item) : Bool := !p.2.1 && decide ((lkH p.1 hl).getD 0 = (p.2.2.length : Int))
theorem match_found {h : Nat} {n0 : Option Nat} {hl : Holds8} : ∀ (fu : Nat) (lf : Items) (acc : List Int) (H : List Pev.Node), lf.length < fu → Keys (.int .i64) shFil lf → H[h]? = some (ndH hl) → acc.length + lf.length ≤ 1000000 →
    LT.loopW index_Index_Match_b2 fu (some h, acc, [], n0, lf, H, ()) (fun q => ∃ r : List Int, r.Perm ((lf.filter (sel8 hl)).map (·.1)) ∧ q = (acc ++ r, [], H, ()))
  | 0, _, _, _, hf, _, _, _ => by omega
  | fu + 1, [], acc, H, _, _, _, _ => by
    show LT.wp _ _ _
    refine (wp_t rfl).mpr ?_
    exact ⟨[], .refl _, by rw [List.append_nil]⟩
  | fu + 1, x :: lf, acc, H, hf, hk, hh, hb => by
    show LT.wp _ _ _
    refine (wp_f rfl).mpr ⟨by simp, fun p hp => ?_⟩
    have hlen := del_lt (k := .int .i64) (v := shFil) rfl hk hp
    have hk2 := keys_sub (x := p.1) hk
    have hpm := del_perm (k := .int .i64) (v := shFil) rfl hk hp
    simp only [List.length_cons] at hf hlen hb
    have yes : sel8 hl p = true → LT.loopW index_Index_Match_b2 fu (some h, acc ++ [p.1], [], n0, delL (.int .i64) shFil p.1 (x :: lf), H, ()) (fun q => ∃ r : List Int, r.Perm (((x :: lf).filter (sel8 hl)).map (·.1)) ∧ q = (acc ++ r, [], H, ())) := fun hs => by
      have ih := match_found (h := h) (n0 := n0) (hl := hl) fu (delL (.int .i64) shFil p.1 (x :: lf)) (acc ++ [p.1]) H (by omega) hk2 hh (by simp; omega)
      refine (LT.loopW_good index_Index_Match_b2 fu _).2.1 _ _ (fun q ⟨r, h1, h2⟩ => ⟨p.1 :: r, ?_, by rw [h2]; simp⟩) ih
      refine (h1.cons p.1).trans ?_
      refine List.Perm.trans ?_ ((hpm.filter (sel8 hl)).map (·.1)).symm
      rw [List.filter_cons, if_pos hs]
      exact .refl _
    have no : sel8 hl p = false → LT.loopW index_Index_Match_b2 fu (some h, acc, [], n0, delL (.int .i64) shFil p.1 (x :: lf), H, ()) (fun q => ∃ r : List Int, r.Perm (((x :: lf).filter (sel8 hl)).map (·.1)) ∧ q = (acc ++ r, [], H, ())) := fun hs => by
      have ih := match_found (h := h) (n0 := n0) (hl := hl) fu (delL (.int .i64) shFil p.1 (x :: lf)) acc H (by omega) hk2 hh (by omega)
      refine (LT.loopW_good index_Index_Match_b2 fu _).2.1 _ _ (fun q ⟨r, h1, h2⟩ => ⟨r, ?_, h2⟩) ih
      refine h1.trans ?_
      refine List.Perm.trans ?_ ((hpm.filter (sel8 hl)).map (·.1)).symm
      rw [List.filter_cons, if_neg (by rw [hs]; simp)]
    unfold sel8 at yes no
    cases hd : p.2.1 with
    | true =>
      rw [hd] at no
      refine (wp_f (by simp [hd])).mpr ?_
      exact no rfl
    | false =>
      rw [hd] at yes no
      refine (wp_t (by simp [hd])).mpr ((wp_t rfl).mpr ((wp_o (getMap_at hh)).mpr ?_))
      by_cases hc : (lkH p.1 hl).getD 0 = (p.2.2.length : Int)
      · refine (wp_t (by simpa using hc)).mpr ((wp_t (appLim_ok (by omega))).mpr ?_)
        exact yes (by rw [decide_eq_true hc]; rfl)
      · refine (wp_f (by simpa using hc)).mpr ?_
        exact no (by rw [decide_eq_false hc]; rfl)
theorem sortZ_of {r l : List Int} (h : r.Perm l) (hl : l.Pairwise (· ≤ ·)) : sortZ r = l := by
  unfold sortZ
  refine List.Perm.eq_of_pairwise (le := fun a b => decide (a ≤ b) = true) (fun a b _ _ h1 h2 => ?_) (List.pairwise_mergeSort (fun a b c h1 h2 => ?_) (fun a b => ?_) r) (hl.imp fun {a b} h => decide_eq_true h) ((List.mergeSort_perm r _).trans h)
  · have h1 := of_decide_eq_true h1
    have h2 := of_decide_eq_true h2
    omega
  · have h1 := of_decide_eq_true h1
    have h2 := of_decide_eq_true h2
    exact decide_eq_true (by omega)
  · rw [Bool.or_eq_true, decide_eq_true_eq, decide_eq_true_eq]; omega
/-- All filters are of the form. -/
def okF (L : Items) : Prop := ∀ p ∈ L, ckF p.2 = none
def matchP (L : Items) (e : Ev) : List Int × Err := match ckEv e with
  | some x => ([], some x)
  | none => ((L.filter fun p => mnB p.2 e).map (·.1), none)
theorem sel_means {L : Items} (hs : SoF L) (hok : okF L) {e : Ev} (he : (nms e).Nodup) : ∀ p ∈ L, sel8 (holdA (ents L) e []) p = mnB p.2 e := by
  intro p hp
  have hlk : lkF p.1 L = some p.2 := (lk_mem (β := shFil) hs).2 hp
  have hn := rise_nodup (ckF_rise (hok p hp)).1
  rw [means_count p.2 e hn he]
  unfold sel8
  congr 1
  have hc := (holdA_count (fun s => ents_so s hs) p.1 e (hl := []) .nil).2
  have e0 : (lkH p.1 []).getD 0 = 0 := rfl
  have hh : (e.filter fun a => match lkE p.1 (ents L a.1) with | some b => holdB b a.2 | none => false) = e.filter (hitA p.2.2) := by
    refine List.filter_congr fun a _ => ?_
    rw [show lkE p.1 (ents L a.1) = _ from ents_lk p.1 a.1 hs, hlk]
    rfl
  have hc2 : (lkH p.1 (holdA (ents L) e [])).getD 0 = ((e.filter (hitA p.2.2)).length : Int) := by
    refine hc.trans ?_
    rw [e0, Int.zero_add]
    exact congrArg (fun l : Ev => (l.length : Int)) hh
  rw [hc2]
  by_cases h : (e.filter (hitA p.2.2)).length = p.2.2.length
  · rw [decide_eq_true h, decide_eq_true (by omega)]
  · rw [decide_eq_false h, decide_eq_false (by omega)]
theorem ents_len (L : Items) (s : ByteArray) : (ents L s).length ≤ L.length := List.length_filterMap_le _ _
theorem eck (l : Ev) : event_Check l = some (ckEv l) := by
  by_cases h : l.length ≤ 1000000
  · exact event_Check_is l h
  · unfold event_Check event_Check_t ckEv
    rw [if_pos (by omega)]
    exact (fn_t (decide_eq_true (by simp only [Int.ofNat_eq_natCast]; omega))).trans rfl
theorem match_is {H : List Pev.Node} {n a m : Nat} {L : Items} {N : NmL} {own : Nat → Option Ro} (h : RepI H n a m L N (ents L) own) (hs : SoF L) (hok : okF L) (hL : L.length ≤ 1000) (e : Ev) (hnd : ckEv e = none → (nms e).Nodup ∧ e.length ≤ 16) :
    ∃ K, index_Index_Match (some n) e [] H = some ((matchP L e).1, (matchP L e).2, K) ∧ RepI K n a m L N (ents L) own ∧ Ext8 H own K own := by
  unfold index_Index_Match index_Index_Match_t matchP
  cases hc : ckEv e with
  | some x =>
    refine ⟨H, ?_, h, Ext8.refl _ _⟩
    exact (fn_f rfl).trans ((fn_o ((eck e).trans (congrArg some hc))).trans ((fn_t rfl).trans rfl))
  | none =>
    obtain ⟨hn1, hn2⟩ := hnd hc
    have hout : own H.length = none := by
      cases ho : own H.length with
      | none => rfl
      | some r => have := h.lt H.length (by rw [ho]; simp); omega
    have hr0 : RepI (H ++ [ndH []]) n a m L N (ents L) own := h.frame (fun i hi => by rw [List.getElem?_append_left (h.lt i hi)]) (by simp)
    have lp := match_outer (h := H.length) e (by omega) (fun s => ents_so s hs) (fun s => by have := ents_len L s; omega) FUEL 0 (H ++ [ndH []]) [] (Nat.zero_le _) (by rw [fuel_is]; omega) hr0 hout .nil app_new (fun z => ⟨Int.le_refl _, Int.le_refl _⟩)
    rw [List.drop_zero] at lp
    have hK : RepI ((H ++ [ndH []]).set H.length (ndH (holdA (ents L) e []))) n a m L N (ents L) own := hr0.frame (fun i hi => set_ne fun c => hi (by rw [← c]; exact hout)) (by simp)
    refine ⟨(H ++ [ndH []]).set H.length (ndH (holdA (ents L) e [])), ?_, hK, ⟨by simp, fun i hi ho => ?_, fun i h1 h2 => absurd h1 h2⟩⟩
    · refine (fn_f rfl).trans ((fn_o ((eck e).trans (congrArg some hc))).trans ((fn_f rfl).trans ((fn_o lp).trans ?_)))
      refine (fn_t rfl).trans ((fn_t rfl).trans ((fn_o (getBox_at hK.hn)).trans ((fn_o (getBox_at hK.hn)).trans ((fn_t rfl).trans ((fn_o (getMap_at hK.ha)).trans ?_)))))
      refine LT.fin_rel _ _ _ ?_
      refine (LT.good index_Index_Match_b2 FUEL _).mono _ _ (fun q ⟨r, h1, h2⟩ => ?_) (match_found (h := H.length) (n0 := some a) (hl := holdA (ents L) e []) FUEL L [] _ (by rw [fuel_is]; omega) (hs.keys rfl) (set_at (y := ndH []) app_new) (by simp; omega))
      subst h2
      have hsel : (L.filter (sel8 (holdA (ents L) e []))).map (·.1) = (L.filter fun p => mnB p.2 e).map (·.1) := by
        rw [List.filter_congr (sel_means hs hok hn1)]
      rw [hsel] at h1
      have hpw : ((L.filter fun p => mnB p.2 e).map (·.1)).Pairwise (· ≤ ·) := by
        refine List.pairwise_map.2 ((List.Pairwise.imp (fun {p q} h => ?_) hs).filter _)
        exact Int.le_of_lt (of_decide_eq_true (show decide ((p.1 : Int) < (q.1 : Int)) = true from h))
      have hlen : r.length ≤ 1000 := by
        rw [h1.length_eq, List.length_map]
        exact Nat.le_trans (List.length_filter_le _ _) hL
      have hsort : sortC ([] ++ r) = some ((L.filter fun p => mnB p.2 e).map (·.1)) := by
        unfold sortC
        rw [List.nil_append, decide_eq_true (by omega), sortZ_of h1 hpw]; rfl
      exact (fn_o hsort).trans rfl
    · have : i ≠ H.length := by omega
      rw [set_ne (Ne.symm this), List.getElem?_append_left hi]
end Go.Proofs.YtdiomgmckidccaaGreatDoor
