/- Chapter 8, plain: an index on the heap; New, Len, Add. -/
import Derived.Test.YtdiomgmckidccaaGreatDoorKc
import Derived.Test.YtdiomgmckidccaaGreatDoorGc
set_option maxRecDepth 100000
namespace Go.Proofs.YtdiomgmckidccaaGreatDoor
open Go Go.Pev
abbrev eN (n : Int) : Err := some ([], n)
theorem relR_one {α ρ : Type} (a : α) (f : α → Option ρ) : relR (anyW [a]) f = f a := by
  cases h : f a with
  | none => exact relR_none (anyW_good _) ⟨by simp, fun b hb => by rw [List.mem_singleton.1 hb]; exact h⟩
  | some r => exact relR_is (anyW_good _) ⟨by simp, fun b hb => by rw [List.mem_singleton.1 hb]; exact h⟩
def cloneC {α : Type} (n : Nat) (l : List α) : Option (List α) := cond (appLim n 0 l.length) (some l) none
theorem appLim_zero (b : Nat) : appLim b 0 0 = true := by simp [appLim]
theorem slices_Clone_39_eq : slices_Clone_39 = cloneC 72 := by
  funext l
  unfold slices_Clone_39 slices_Clone_39_t cloneC
  cases l with
  | nil =>
    rw [List.length_nil, appLim_zero]
    exact LT.fin_rel _ _ _ ⟨by simp, fun b _ => by cases b <;> rfl⟩
  | cons a l =>
    show relR (anyW [false]) _ = _
    rw [relR_one]
    cases appLim 72 0 (a :: l).length <;> rfl
theorem copy_is (f : Fil) (hl : f.2.length ≤ 1000) : filter_Copy f = some f := by
  unfold filter_Copy filter_Copy_t
  rw [slices_Clone_39_eq]
  refine (fn_o (show cloneC 72 f.2 = some f.2 from ?_)).trans rfl
  unfold cloneC
  rw [appLim_ok (by omega)]
  rfl
abbrev NmL := List (ByteArray × Option Nat)
abbrev lkM (s : ByteArray) (l : NmL) : Option (Option Nat) := lookL .str (.rf .map) s l
abbrev SoM (l : NmL) : Prop := Go.Pev.Sorted .str (.rf .map) l
abbrev ndI (a m : Nat) : Pev.Node := .box 86 shIdx (some a, some m)
abbrev ndAt (l : Items) : Pev.Node := .map false true (.int .i64) shFil l
abbrev ndNm (l : NmL) : Pev.Node := .map false false .str (.rf .map) l
abbrev ndE (l : Ents) : Pev.Node := .map false true (.int .i64) shBound l
abbrev ndH (l : Holds8) : Pev.Node := .map false false (.int .i64) (.int .i64) l
theorem eqS (x y : ByteArray) : eqB .str x y = decide (x = y) := bytes_beq x y
theorem sdk {α : Type} {a b : α} {k z : ByteArray} : (if eqB .str k z = true then a else b) = if z = k then a else b := by
  rw [eqS]
  by_cases h : z = k
  · subst h; rw [if_pos rfl, if_pos (decide_eq_true rfl)]
  · rw [if_neg h, if_neg (by simp; exact fun c => h c.symm)]
theorem lkM_put {s z : ByteArray} {y : Option Nat} {l : NmL} (h : SoM l) : lkM z (putL .str (.rf .map) s y l) = if z = s then some y else lkM z l := (look_put (k := .str) (v := .rf .map) rfl (h.keys rfl)).trans sdk
theorem soM_put {s : ByteArray} {y : Option Nat} {l : NmL} (h : SoM l) : SoM (putL .str (.rf .map) s y l) := sorted_put (k := .str) (v := .rf .map) rfl h
theorem lkM_del {s z : ByteArray} {l : NmL} (h : SoM l) : lkM z (delL .str (.rf .map) s l) = if z = s then none else lkM z l := (look_del (k := .str) (v := .rf .map) rfl (h.keys rfl)).trans sdk
theorem soM_del {s : ByteArray} {l : NmL} (h : SoM l) : SoM (delL .str (.rf .map) s l) := h.sublist (delL_sub (k := .str) (v := .rf .map) s l)
/-- What a thing of the heap is in an index. -/
inductive Ro where
  | top | at | nm
  | sub (s : ByteArray)
structure RepI (H : List Pev.Node) (n a m : Nat) (L : Items) (N : NmL) (M : NMs) (own : Nat → Option Ro) : Prop where
  hn : H[n]? = some (ndI a m)
  ha : H[a]? = some (ndAt L)
  hm : H[m]? = some (ndNm N)
  on : own n = some .top
  oa : own a = some .at
  om : own m = some .nm
  so : SoM N
  sub : ∀ s r, lkM s N = some r → ∃ q, r = some q ∧ own q = some (.sub s) ∧ H[q]? = some (ndE (M s)) ∧ M s ≠ []
  no : ∀ s, lkM s N = none → M s = []
  lt : ∀ i, own i ≠ none → i < H.length
/-- What a call leaves: nothing that isn't its own has changed. -/
structure Ext8 (H : List Pev.Node) (own : Nat → Option Ro) (H' : List Pev.Node) (own' : Nat → Option Ro) : Prop where
  len : H.length ≤ H'.length
  keep : ∀ i, i < H.length → own i = none → H'[i]? = H[i]?
  new : ∀ i, own i = none → own' i ≠ none → H.length ≤ i
theorem Ext8.refl (H : List Pev.Node) (own : Nat → Option Ro) : Ext8 H own H own := ⟨Nat.le_refl _, fun _ _ _ => rfl, fun _ h h' => absurd h h'⟩
theorem Ext8.trans {H H' H'' : List Pev.Node} {o o' o'' : Nat → Option Ro} (h : Ext8 H o H' o') (k : Ext8 H' o' H'' o'') : Ext8 H o H'' o'' := by
  refine ⟨Nat.le_trans h.len k.len, fun i hi ho => ?_, fun i ho ho2 => ?_⟩
  · have h1 := h.keep i hi ho
    have h2 : o' i = none := by
      cases hc : o' i with
      | none => rfl
      | some r => have := h.new i ho (by rw [hc]; simp); omega
    exact (k.keep i (by have := h.len; omega) h2).trans h1
  · cases hc : o' i with
    | none => have := k.new i hc ho2; have := h.len; omega
    | some r => exact h.new i ho (by rw [hc]; simp)
theorem RepI.frame {H H' : List Pev.Node} {n a m : Nat} {L : Items} {N : NmL} {M : NMs} {own : Nat → Option Ro} (h : RepI H n a m L N M own) (hf : ∀ i, own i ≠ none → H'[i]? = H[i]?) (hl : H.length ≤ H'.length) : RepI H' n a m L N M own :=
  ⟨(hf n (by rw [h.on]; simp)).trans h.hn, (hf a (by rw [h.oa]; simp)).trans h.ha, (hf m (by rw [h.om]; simp)).trans h.hm, h.on, h.oa, h.om, h.so, fun s r hr => by
    obtain ⟨q, h1, h2, h3, h4⟩ := h.sub s r hr
    exact ⟨q, h1, h2, (hf q (by rw [h2]; simp)).trans h3, h4⟩, h.no, fun i hi => Nat.lt_of_lt_of_le (h.lt i hi) hl⟩
section
variable {H : List Pev.Node} {n a m : Nat} {L : Items} {N : NmL} {M : NMs} {own : Nat → Option Ro}
theorem RepI.ne (h : RepI H n a m L N M own) : n ≠ a ∧ n ≠ m ∧ a ≠ m := by
  refine ⟨fun c => ?_, fun c => ?_, fun c => ?_⟩
  · have := h.on; rw [c, h.oa] at this; cases this
  · have := h.on; rw [c, h.om] at this; cases this
  · have := h.oa; rw [c, h.om] at this; cases this
theorem RepI.len_is (h : RepI H n a m L N M own) : index_Index_Len (some n) [] H = some ((L.length : Int), H) := by
  unfold index_Index_Len index_Index_Len_t
  exact (fn_f rfl).trans ((fn_t rfl).trans ((fn_t rfl).trans ((fn_o (getBox_at h.hn)).trans ((fn_o (getBox_at h.hn)).trans ((fn_t rfl).trans ((fn_o (getMap_at h.ha)).trans rfl))))))
/-- The filters are other ones. -/
theorem RepI.setL (h : RepI H n a m L N M own) (L' : Items) : RepI (H.set a (ndAt L')) n a m L' N M own ∧ Ext8 H own (H.set a (ndAt L')) own := by
  obtain ⟨n1, n2, n3⟩ := h.ne
  have go : ∀ i, own i ≠ some .at → (H.set a (ndAt L'))[i]? = H[i]? := fun i hi => set_ne fun c => hi (by rw [← c]; exact h.oa)
  refine ⟨⟨(go n (by rw [h.on]; simp)).trans h.hn, set_at h.ha, (go m (by rw [h.om]; simp)).trans h.hm, h.on, h.oa, h.om, h.so, fun s r hr => ?_, h.no, fun i hi => by simpa using h.lt i hi⟩, ⟨by simp, fun i _ ho => go i (by rw [ho]; simp), fun _ h1 h2 => absurd h1 h2⟩⟩
  obtain ⟨q, h1, h2, h3, h4⟩ := h.sub s r hr
  exact ⟨q, h1, h2, (go q (by rw [h2]; simp)).trans h3, h4⟩
/-- A name that is there gets other bounds. -/
theorem RepI.setE (h : RepI H n a m L N M own) {s : ByteArray} {q : Nat} (hq : lkM s N = some (some q)) (E : Ents) (hE : E ≠ []) : RepI (H.set q (ndE E)) n a m L N (setN M s E) own ∧ Ext8 H own (H.set q (ndE E)) own := by
  obtain ⟨q', e, hoq, hhq, _⟩ := h.sub s _ hq
  obtain rfl := Option.some.inj e
  have go : ∀ i, own i ≠ some (.sub s) → (H.set q (ndE E))[i]? = H[i]? := fun i hi => set_ne fun c => hi (by rw [← c]; exact hoq)
  refine ⟨⟨(go n (by rw [h.on]; simp)).trans h.hn, (go a (by rw [h.oa]; simp)).trans h.ha, (go m (by rw [h.om]; simp)).trans h.hm, h.on, h.oa, h.om, h.so, fun z r hr => ?_, fun z hz => ?_, fun i hi => by simpa using h.lt i hi⟩, ⟨by simp, fun i _ ho => go i (by rw [ho]; simp), fun _ h1 h2 => absurd h1 h2⟩⟩
  · by_cases hzs : z = s
    · subst hzs
      rw [hq] at hr
      obtain rfl := Option.some.inj hr
      refine ⟨q, rfl, hoq, ?_, ?_⟩
      · rw [show setN M z E z = E from if_pos rfl]; exact set_at hhq
      · rw [show setN M z E z = E from if_pos rfl]; exact hE
    · obtain ⟨p, h1, h2, h3, h4⟩ := h.sub z r hr
      rw [show setN M s E z = M z from if_neg hzs]
      exact ⟨p, h1, h2, (go p (by rw [h2]; simp [hzs])).trans h3, h4⟩
  · have hzs : z ≠ s := fun c => by rw [c, hq] at hz; cases hz
    rw [show setN M s E z = M z from if_neg hzs]
    exact h.no z hz
/-- A new name. -/
theorem RepI.newE (h : RepI H n a m L N M own) {s : ByteArray} (hno : lkM s N = none) (E : Ents) (hE : E ≠ []) :
    RepI (((H ++ [ndE []]).set m (ndNm (putL .str (.rf .map) s (some H.length) N))).set H.length (ndE E)) n a m L (putL .str (.rf .map) s (some H.length) N) (setN M s E) (fun i => if i = H.length then some (.sub s) else own i) ∧
      Ext8 H own (((H ++ [ndE []]).set m (ndNm (putL .str (.rf .map) s (some H.length) N))).set H.length (ndE E)) (fun i => if i = H.length then some (.sub s) else own i) := by
  have out : ∀ i, own i ≠ none → i ≠ H.length := fun i hi c => by have := h.lt i hi; omega
  have hmlt : m < H.length := h.lt m (by rw [h.om]; simp)
  have go : ∀ i, i < H.length → i ≠ m → (((H ++ [ndE []]).set m (ndNm (putL .str (.rf .map) s (some H.length) N))).set H.length (ndE E))[i]? = H[i]? := fun i hi hm => by
    rw [set_ne (by omega), set_ne (Ne.symm hm), List.getElem?_append_left hi]
  have gl : (((H ++ [ndE []]).set m (ndNm (putL .str (.rf .map) s (some H.length) N))).set H.length (ndE E)).length = H.length + 1 := by simp
  have goo : ∀ i, own i ≠ none → own i ≠ some .nm → (((H ++ [ndE []]).set m (ndNm (putL .str (.rf .map) s (some H.length) N))).set H.length (ndE E))[i]? = H[i]? := fun i h1 h2 => go i (h.lt i h1) fun c => h2 (by rw [c, h.om])
  have hlast : (H ++ [ndE []])[H.length]? = some (ndE []) := app_new
  have hnew : (((H ++ [ndE []]).set m (ndNm (putL .str (.rf .map) s (some H.length) N))).set H.length (ndE E))[H.length]? = some (ndE E) := set_at (y := ndE []) ((set_ne (by omega)).trans hlast)
  have hmm : (((H ++ [ndE []]).set m (ndNm (putL .str (.rf .map) s (some H.length) N))).set H.length (ndE E))[m]? = some (ndNm (putL .str (.rf .map) s (some H.length) N)) := (set_ne (by omega)).trans (set_at (y := ndNm N) (app_lt h.hm))
  have ow : ∀ i, own i ≠ none → (if i = H.length then some (Ro.sub s) else own i) = own i := fun i hi => if_neg (out i hi)
  refine ⟨⟨(goo n (by rw [h.on]; simp) (by rw [h.on]; simp)).trans h.hn, (goo a (by rw [h.oa]; simp) (by rw [h.oa]; simp)).trans h.ha, hmm, (ow n (by rw [h.on]; simp)).trans h.on, (ow a (by rw [h.oa]; simp)).trans h.oa, (ow m (by rw [h.om]; simp)).trans h.om, soM_put h.so, fun z r hr => ?_, fun z hz => ?_, fun i hi => ?_⟩, ⟨by omega, fun i hi ho => go i hi (fun c => by rw [c, h.om] at ho; cases ho), fun i h1 h2 => ?_⟩⟩
  · rw [lkM_put h.so] at hr
    by_cases hzs : z = s
    · rw [if_pos hzs] at hr
      obtain rfl := Option.some.inj hr
      subst hzs
      rw [show setN M z E z = E from if_pos rfl]
      exact ⟨H.length, rfl, if_pos rfl, hnew, hE⟩
    · rw [if_neg hzs] at hr
      obtain ⟨p, h1, h2, h3, h4⟩ := h.sub z r hr
      rw [show setN M s E z = M z from if_neg hzs]
      exact ⟨p, h1, (ow p (by rw [h2]; simp)).trans h2, (goo p (by rw [h2]; simp) (by rw [h2]; simp)).trans h3, h4⟩
  · rw [lkM_put h.so] at hz
    by_cases hzs : z = s
    · rw [if_pos hzs] at hz; cases hz
    · rw [if_neg hzs] at hz
      rw [show setN M s E z = M z from if_neg hzs]
      exact h.no z hz
  · rw [gl]
    by_cases hc : i = H.length
    · omega
    · have : own i ≠ none := fun c => hi (by show (if i = H.length then some (Ro.sub s) else own i) = none; rw [if_neg hc]; exact c)
      have := h.lt i this
      omega
  · by_cases hc : i = H.length
    · omega
    · exact absurd h1 (fun c => h2 (by show (if i = H.length then some (Ro.sub s) else own i) = none; rw [if_neg hc]; exact h1))
theorem put_ne {id : Int} {b : Bd} {E : Ents} (h : SoE E) : putL (.int .i64) shBound id b E ≠ [] := fun c => by
  have e : lkE id (putL (.int .i64) shBound id b E) = if id = id then some b else lkE id E := lk_put h
  rw [c, if_pos rfl] at e; cases e
end
theorem add_loop {n a m : Nat} {L : Items} (id : Int) (bs : List Bd) (hb : bs.length ≤ 1000) : ∀ (fu i : Nat) (H : List Pev.Node) (N : NmL) (M : NMs) (own : Nat → Option Ro), i ≤ bs.length → bs.length - i < fu → RepI H n a m L N M own → (∀ s, SoE (M s)) →
    ∃ K N' own', LT.loop index_Index_Add_b0 fu (some n, id, bs, Int.ofNat bs.length, (i : Int), [], H, ()) = some ([], K, ()) ∧ RepI K n a m L N' (addN id (bs.drop i) M) own' ∧ Ext8 H own K own'
  | 0, _, _, _, _, _, _, h, _, _ => by omega
  | fu + 1, i, H, N, M, own, h1, h2, h, hM => by
    rw [LT.loop_succ]
    by_cases hi : i < bs.length
    · obtain ⟨n1, n2, n3⟩ := h.ne
      have hd : bs.drop i = bs[i] :: bs.drop (i + 1) := List.drop_eq_getElem_cons hi
      have hw : IntKind.i64.wrap ((i : Int) + 1) = ((i + 1 : Nat) : Int) := wsucc (by omega)
      have hput := put_ne (id := id) (b := bs[i]) (hM bs[i].1)
      have hM' : ∀ s, SoE (setN M bs[i].1 (putL (.int .i64) shBound id bs[i] (M bs[i].1)) s) := setN_so hM (so_put (hM _))
      have hmlt : m < H.length := h.lt m (by rw [h.om]; simp)
      have hnlt : n < H.length := h.lt n (by rw [h.on]; simp)
      cases hl : lkM bs[i].1 N with
      | none =>
        have hM0 := h.no _ hl
        obtain ⟨r1, r2⟩ := h.newE hl _ hput
        obtain ⟨K, N', own', w1, w2, w3⟩ := add_loop id bs hb fu (i + 1) _ _ _ _ (by omega) (by omega) r1 hM'
        refine ⟨K, N', own', ?_, by rw [hd]; exact w2, r2.trans w3⟩
        refine (rn_in hi).trans ?_
        rw [getI_lt hi, hw]
        have e1 : (H ++ [ndE []])[n]? = some (ndI a m) := app_lt h.hn
        have e2 : (H ++ [ndE []])[m]? = some (ndNm N) := app_lt h.hm
        have e3 : ((H ++ [ndE []]).set m (ndNm (putL .str (.rf .map) bs[i].1 (some H.length) N)))[H.length]? = some (ndE []) := (set_ne (by omega)).trans app_new
        refine (rn_t rfl).trans ((rn_t rfl).trans ((rn_o (getBox_at h.hn)).trans ((rn_o (getBox_at h.hn)).trans ((rn_t rfl).trans ((rn_o (getMap_at h.hm)).trans ?_)))))
        rw [show lookL Sh.str (Sh.rf RK.map) bs[i].1 N = none from hl]
        refine (rn_t rfl).trans ((rn_t rfl).trans ((rn_t rfl).trans ((rn_o (getBox_at e1)).trans ((rn_o (getBox_at e1)).trans ((rn_t rfl).trans ((rn_t rfl).trans ((rn_o (getMap_at e2)).trans ((rn_t rfl).trans ((rn_o (getMap_at e3)).trans ?_)))))))))
        rw [hM0] at w1
        exact w1
      | some r =>
        obtain ⟨q, rfl, hoq, hhq, _⟩ := h.sub _ _ hl
        obtain ⟨r1, r2⟩ := h.setE hl _ hput
        obtain ⟨K, N', own', w1, w2, w3⟩ := add_loop id bs hb fu (i + 1) _ _ _ _ (by omega) (by omega) r1 hM'
        refine ⟨K, N', own', ?_, by rw [hd]; exact w2, r2.trans w3⟩
        refine (rn_in hi).trans ?_
        rw [getI_lt hi, hw]
        refine (rn_t rfl).trans ((rn_t rfl).trans ((rn_o (getBox_at h.hn)).trans ((rn_o (getBox_at h.hn)).trans ((rn_t rfl).trans ((rn_o (getMap_at h.hm)).trans ?_)))))
        rw [show lookL Sh.str (Sh.rf RK.map) bs[i].1 N = some (some q) from hl]
        exact (rn_f rfl).trans ((rn_t rfl).trans ((rn_t rfl).trans ((rn_o (getMap_at hhq)).trans w1)))
    · have : i = bs.length := by omega
      subst this
      refine ⟨H, N, own, rn_out.trans rfl, ?_, Ext8.refl H own⟩
      rw [List.drop_length]; exact h
/-- What Add leaves, and answers. -/
def addP (L : Items) (id : Int) (f : Fil) : Items × Err := match ckF f with
  | some e => (L, some e)
  | none => if (lkF id L).isSome = true then (L, eN 9) else if L.length ≥ 512 then (L, eN 11) else (putL (.int .i64) shFil id f L, none)
theorem add_is {H : List Pev.Node} {n a m : Nat} {L : Items} {N : NmL} {own : Nat → Option Ro} (h : RepI H n a m L N (ents L) own) (hs : SoF L) (id : Int) (f : Fil) :
    ∃ K N' own', index_Index_Add (some n) id f [] H = some ((addP L id f).2, K) ∧ RepI K n a m (addP L id f).1 N' (ents (addP L id f).1) own' ∧ Ext8 H own K own' := by
  unfold index_Index_Add index_Index_Add_t addP
  cases hc : ckF f with
  | some e =>
    refine ⟨H, N, own, ?_, h, Ext8.refl _ _⟩
    exact (fn_f rfl).trans ((fn_o ((filter_Check_is f).trans (congrArg some hc))).trans ((fn_t rfl).trans rfl))
  | none =>
    have hck := ckF_rise hc
    simp only
    by_cases hl : (lkF id L).isSome = true
    · rw [if_pos hl]
      refine ⟨H, N, own, ?_, h, Ext8.refl _ _⟩
      exact (fn_f rfl).trans ((fn_o ((filter_Check_is f).trans (congrArg some hc))).trans ((fn_f rfl).trans ((fn_t rfl).trans ((fn_t rfl).trans ((fn_o (getBox_at h.hn)).trans ((fn_o (getBox_at h.hn)).trans ((fn_t rfl).trans ((fn_o (getMap_at h.ha)).trans ((fn_t hl).trans rfl)))))))))
    · have hl0 : (lkF id L).isSome = false := by simpa using hl
      rw [if_neg hl]
      by_cases hn : L.length ≥ 512
      · rw [if_pos hn]
        refine ⟨H, N, own, ?_, h, Ext8.refl _ _⟩
        refine (fn_f rfl).trans ((fn_o ((filter_Check_is f).trans (congrArg some hc))).trans ((fn_f rfl).trans ((fn_t rfl).trans ((fn_t rfl).trans ((fn_o (getBox_at h.hn)).trans ((fn_o (getBox_at h.hn)).trans ((fn_t rfl).trans ((fn_o (getMap_at h.ha)).trans ((fn_f hl0).trans ?_)))))))))
        exact (fn_t rfl).trans ((fn_t rfl).trans ((fn_o (getBox_at h.hn)).trans ((fn_o (getBox_at h.hn)).trans ((fn_t rfl).trans ((fn_o (getMap_at h.ha)).trans ((fn_t (decide_eq_true (by simp only [Int.ofNat_eq_natCast]; omega))).trans rfl))))))
      · rw [if_neg hn]
        obtain ⟨r1, r2⟩ := h.setL (putL (.int .i64) shFil id f L)
        obtain ⟨K, N', own', w1, w2, w3⟩ := add_loop (n := n) (a := a) (m := m) id f.2 (by omega) FUEL 0 _ _ _ _ (Nat.zero_le _) (by rw [fuel_is]; omega) r1 (fun s => ents_so s hs)
        have hno : lkF id L = none := by
          cases hx : lkF id L with
          | none => rfl
          | some y => rw [hx] at hl; exact absurd rfl hl
        rw [List.drop_zero, add_ents hs hno (rise_nodup hck.1)] at w2
        refine ⟨K, N', own', ?_, w2, r2.trans w3⟩
        refine (fn_f rfl).trans ((fn_o ((filter_Check_is f).trans (congrArg some hc))).trans ((fn_f rfl).trans ((fn_t rfl).trans ((fn_t rfl).trans ((fn_o (getBox_at h.hn)).trans ((fn_o (getBox_at h.hn)).trans ((fn_t rfl).trans ((fn_o (getMap_at h.ha)).trans ((fn_f hl0).trans ?_)))))))))
        refine (fn_t rfl).trans ((fn_t rfl).trans ((fn_o (getBox_at h.hn)).trans ((fn_o (getBox_at h.hn)).trans ((fn_t rfl).trans ((fn_o (getMap_at h.ha)).trans ((fn_f (decide_eq_false (by simp only [Int.ofNat_eq_natCast]; omega))).trans ?_))))))
        refine (fn_t rfl).trans ((fn_t rfl).trans ((fn_o (getBox_at h.hn)).trans ((fn_o (getBox_at h.hn)).trans ((fn_o (copy_is f (by omega))).trans ((fn_t rfl).trans ((fn_t rfl).trans ((fn_o (getMap_at h.ha)).trans ((fn_o w1).trans rfl))))))))
theorem new_is (H : List Pev.Node) : ∃ own, index_New [] H = some (some (H.length + 2), H ++ [ndAt []] ++ [ndNm []] ++ [ndI H.length (H.length + 1)]) ∧ RepI (H ++ [ndAt []] ++ [ndNm []] ++ [ndI H.length (H.length + 1)]) (H.length + 2) H.length (H.length + 1) [] [] (ents []) own ∧ ∀ i, own i ≠ none → H.length ≤ i := by
  have l1 : (H ++ [ndAt []]).length = H.length + 1 := by simp
  have l2 : (H ++ [ndAt []] ++ [ndNm []]).length = H.length + 2 := by simp
  refine ⟨fun i => if i = H.length then some .at else if i = H.length + 1 then some .nm else if i = H.length + 2 then some .top else none, ?_, ⟨?_, app_lt (app_lt app_new), ?_, ?_, if_pos rfl, ?_, .nil, (fun _ _ hr => by cases hr), fun _ _ => rfl, fun i hi => ?_⟩, fun i hi => ?_⟩
  · unfold index_New index_New_t
    rw [l1, l2]; rfl
  · have := app_new (H := H ++ [ndAt []] ++ [ndNm []]) (x := ndI H.length (H.length + 1))
    rw [l2] at this; exact this
  · have := app_new (H := H ++ [ndAt []]) (x := ndNm [])
    rw [l1] at this; exact app_lt this
  · show (if H.length + 2 = H.length then some Ro.at else if H.length + 2 = H.length + 1 then some Ro.nm else if H.length + 2 = H.length + 2 then some Ro.top else none) = _
    rw [if_neg (by omega), if_neg (by omega), if_pos rfl]
  · show (if H.length + 1 = H.length then some Ro.at else if H.length + 1 = H.length + 1 then some Ro.nm else if H.length + 1 = H.length + 2 then some Ro.top else none) = _
    rw [if_neg (by omega), if_pos rfl]
  · simp only [List.length_append, List.length_singleton]
    rcases Nat.lt_or_ge i (H.length + 3) with c | c
    · omega
    · exfalso; apply hi
      show (if i = H.length then some Ro.at else if i = H.length + 1 then some Ro.nm else if i = H.length + 2 then some Ro.top else none) = _
      rw [if_neg (by omega), if_neg (by omega), if_neg (by omega)]
  · rcases Nat.lt_or_ge i H.length with c | c
    · exfalso; apply hi
      show (if i = H.length then some Ro.at else if i = H.length + 1 then some Ro.nm else if i = H.length + 2 then some Ro.top else none) = _
      rw [if_neg (by omega), if_neg (by omega), if_neg (by omega)]
    · exact c
end Go.Proofs.YtdiomgmckidccaaGreatDoor
