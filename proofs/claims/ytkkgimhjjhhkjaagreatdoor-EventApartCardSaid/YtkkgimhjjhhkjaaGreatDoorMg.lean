/- Chapter 3, plain: what stands in an event after Set and Drop; EventChanges. -/
import Derived.Test.YtkkgimhjjhhkjaaGreatDoorMf
import Derived.Test.YtkkgimhjjhhkjaaGreatDoorPewAh
set_option maxRecDepth 100000
namespace Go.Proofs.YtkkgimhjjhhkjaaGreatDoor
open Go Go.Pev
def okA (a : ByteArray × V) : Prop := nameB a.1 = true ∧ ckE a.2 = none
theorem chk_all : ∀ (p : ByteArray) (l : Ev) (i : Nat), chk p l i = none → ∀ a ∈ l, okA a
  | p, [], i, _ => fun a h => by cases h
  | p, (n, v) :: l, i, h => by
    unfold chk at h
    cases hn : nameB n with
    | false => rw [hn] at h; cases h
    | true =>
      rw [hn] at h
      cases hu : notUp n p with
      | true => rw [hu] at h; cases h
      | false =>
        rw [hu] at h
        cases hv : ckE v with
        | some x => rw [hv] at h; cases h
        | none =>
          rw [hv] at h
          intro a ha
          rcases List.mem_cons.1 ha with rfl | ha
          · exact ⟨hn, hv⟩
          · exact chk_all n l (i + 1) h a ha
theorem chk_of : ∀ (p : ByteArray) (l : Ev) (i : Nat), (∀ b ∈ nms l, ltN p b = true) → Rise (nms l) → (∀ a ∈ l, okA a) → chk p l i = none
  | p, [], i, _, _, _ => rfl
  | p, (n, v) :: l, i, h1, h2, h3 => by
    obtain ⟨hr1, hr2⟩ := rise_tail h2
    obtain ⟨hn, hv⟩ := h3 (n, v) List.mem_cons_self
    have hn : nameB n = true := hn
    have hv : ckE v = none := hv
    unfold chk
    rw [hn, (notUp_lt n p).2 (h1 n List.mem_cons_self), hv]
    exact chk_of n l (i + 1) hr1 hr2 fun a ha => h3 a (List.mem_cons_of_mem _ ha)
theorem ck_all {l : Ev} (h : ckEv l = none) : ∀ a ∈ l, okA a := by
  unfold ckEv at h
  by_cases hl : l.length > 16
  · rw [if_pos hl] at h; cases h
  · rw [if_neg hl] at h; exact chk_all _ _ _ h
theorem ck_of {l : Ev} (hl : l.length ≤ 16) (hr : Rise (nms l)) (h : ∀ a ∈ l, okA a) : ckEv l = none := by
  unfold ckEv
  rw [if_neg (by omega)]
  refine chk_of _ _ _ (fun b hb => ?_) hr h
  obtain ⟨a, ha, rfl⟩ := List.mem_map.1 hb
  exact (notUp_lt _ _).1 (up_none _ (h a ha).1)
theorem getA_mem : ∀ {l : Ev} {a : ByteArray × V}, Rise (nms l) → a ∈ l → getA l a.1 = some a.2
  | [], _, _, h => by cases h
  | b :: l, a, hr, h => by
    obtain ⟨hr1, hr2⟩ := rise_tail hr
    rw [getA_cons]
    rcases List.mem_cons.1 h with rfl | h
    · rw [if_pos rfl]
    · rw [if_neg, getA_mem hr2 h]
      intro e
      have := hr1 a.1 (List.mem_map_of_mem h)
      rw [e, ltN_irrefl] at this; cases this
theorem getE_is {l : Ev} {s : ByteArray} (ha : askE l s = none) : getE l s = (match getA l s with | some w => (w, none) | none => ((0, 0, ByteArray.mk #[], false), some ([], 10))) := by
  obtain ⟨hc, _⟩ := askE_none ha
  obtain ⟨hr, _⟩ := ck_rise hc
  obtain ⟨h1, h2⟩ := getA_pos l s hr
  unfold getE
  rw [ha]
  cases hi : inN (nms l) s with
  | true =>
    obtain ⟨a, k1, k2, k3⟩ := h1 hi
    rw [k1, k3]
    simp only [if_pos k2]
  | false =>
    rw [h2 hi]
    unfold inN at hi
    have hi := of_decide_eq_false hi
    cases hp : l[posN (nms l) s]? with
    | none => rfl
    | some a =>
      have : a.1 ≠ s := fun e => hi (by rw [List.getElem?_map, hp]; exact congrArg some e)
      simp only [if_neg this]
theorem ask_of {l : Ev} {s : ByteArray} (h : ckEv l = none) (hn : nameB s = true) : askE l s = none := by
  unfold askE
  rw [h, hn]; rfl
theorem inN_getA {l : Ev} {s : ByteArray} (hr : Rise (nms l)) : inN (nms l) s = (getA l s).isSome := by
  obtain ⟨h1, h2⟩ := getA_pos l s hr
  cases hi : inN (nms l) s with
  | true => obtain ⟨a, _, _, k3⟩ := h1 hi; rw [k3]; rfl
  | false => rw [h2 hi]; rfl
/-- What Set gives, where it gives something. -/
theorem setR_ok {l : Ev} {n : ByteArray} {v : V} (h : (setR l n v).2 = none) : ckEv l = none ∧ nameB n = true ∧ ckE v = none ∧ (setR l n v).1 = insE n v l ∧ ckEv (insE n v l) = none := by
  unfold setR at h ⊢
  cases hf : fstE (askE l n) (ckE v) with
  | some e => rw [hf] at h; cases h
  | none =>
    rw [hf] at h
    simp only at h ⊢
    have ha : askE l n = none := by
      cases h : askE l n with
      | none => rfl
      | some x => rw [h] at hf; cases hf
    rw [ha] at hf
    have hf : ckE v = none := hf
    obtain ⟨hc, hn⟩ := askE_none ha
    obtain ⟨hr, hl16⟩ := ck_rise hc
    by_cases hb : inN (nms l) n = false ∧ l.length = 16
    · rw [if_pos hb] at h; cases h
    · rw [if_neg hb]
      refine ⟨hc, hn, hf, rfl, ck_of ?_ (rise_ins n v l hr) fun a ha' => ?_⟩
      · cases hi : inN (nms l) n with
        | true => rw [insE_in n v l hi]; exact hl16
        | false =>
          have := (insE_len n v l).1
          have : l.length ≠ 16 := fun e => hb ⟨hi, e⟩
          omega
      · rcases mem_ins n v a l ha' with rfl | ha'
        · exact ⟨hn, hf⟩
        · exact ck_all hc a ha'
theorem setR_bad {l : Ev} {n : ByteArray} {v : V} {e : List (Int × Int) × Int} (h : (setR l n v).2 = some e) : (setR l n v).1 = [] := by
  unfold setR at h ⊢
  cases hf : fstE (askE l n) (ckE v) with
  | some e => rfl
  | none =>
    rw [hf] at h
    simp only at h ⊢
    by_cases hb : inN (nms l) n = false ∧ l.length = 16
    · rw [if_pos hb]
    · rw [if_neg hb] at h; cases h
theorem event_Check_long {l : Ev} (h : 16 < l.length) : event_Check l = some (some ([], 2)) := by
  unfold event_Check event_Check_t
  exact (fn_t (decide_eq_true (by simp only [Int.ofNat_eq_natCast]; omega))).trans rfl
theorem event_asked_long {l : Ev} (h : 16 < l.length) (s : ByteArray) : event_asked l s = some (some ([], 2)) := by
  unfold event_asked event_asked_t
  exact (fn_o (event_Check_long h)).trans rfl
theorem event_Set_long {l : Ev} (h : 16 < l.length) (n : ByteArray) (v : V) (H : List Pev.Node) : event_Set l n v [] H = some ([], some ([], 2), H) := by
  unfold event_Set event_Set_t
  exact (fn_o (event_asked_long h n)).trans ((fn_o (value_Check_is v)).trans ((fn_o (fault_First_is _ _)).trans rfl))
theorem changes_loop {l x y : Ev} {n : ByteArray} {H : List Pev.Node} (hl : l.length ≤ 16) (hr : Rise (nms l)) (hc : ckEv l = none) (hx : ckEv x = none) (hg : ∀ m, m ≠ n → getA x m = getA l m) :
    law03_EventChanges_l0 (l, n, x, y, l, Int.ofNat l.length, 0, [], H, ()) = some (.inr (l, n, y, [], H, ())) := by
  have := foldE_run (bd := law03_EventChanges_b0) l (by omega) (fun i (_ : Unit) => (l, n, x, y, l, Int.ofNat l.length, (i : Int), [], H, ())) (fun s _ => .inl s) (fun _ => .inr (l, n, y, [], H, ()))
    (fun i hi s g => by
      refine (rn_in hi).trans ?_
      rw [getI_lt hi, wsucc (by omega), bytes_beq]
      have hm : l[i] ∈ l := List.getElem_mem hi
      have hask := ask_of (l := x) (s := l[i].1) hx (ck_all hc _ hm).1
      have hxl : x.length ≤ 16 := (ck_rise hx).2
      refine (rn_o (event_Get_is x l[i].1 (by omega))).trans ?_
      by_cases hn : l[i].1 = n
      · exact (rn_f (by simp [hn])).trans rfl
      · rw [getE_is hask, hg _ hn, getA_mem hr hm]
        exact (rn_t (by simp [hn])).trans ((rn_f rfl).trans ((rn_f (by simp [eqB_V_self])).trans rfl)))
    (fun s g => rn_out.trans rfl) ()
  rw [show (foldE (fun s _ => Sum.inl s) (fun _ => (Sum.inr (l, n, y, [], H, ()) : law03_EventChanges_Q0)) () l) = .inr (l, n, y, [], H, ()) from foldE_inl (fun (s : Unit) (_ : ByteArray × V) => s) (fun _ => (Sum.inr (l, n, y, [], H, ()) : law03_EventChanges_Q0)) l ()] at this
  exact this
theorem fails_none : law03_fails (some ([], 10)) (true, [], 10) = some true := fails_self (some ([], 10)) (fun y hy => by obtain rfl := Option.some.inj hy; simp)
theorem twin_big (l : Ev) (h : l.length * 56 ≤ 140737488355328) : ref03_Twin l = some l := by
  unfold ref03_Twin ref03_Twin_t
  rw [LT.fin_br, appLim_ok (by omega)]; rfl
theorem eventChanges_true (l : Ev) (n : ByteArray) (v : V) (hz : l.length * 56 ≤ 140737488355328) (H : List Pev.Node) : law03_EventChanges l n v [] H = some (true, H) := by
  unfold law03_EventChanges law03_EventChanges_t
  refine (fn_o (twin_big l hz)).trans ?_
  by_cases hl : 16 < l.length
  · exact (fn_o (event_Set_long hl n v H)).trans ((fn_t rfl).trans rfl)
  · refine (fn_o (event_Set_is l n v (by omega) H)).trans ?_
    cases hs : (setR l n v).2 with
    | some e =>
      rw [setR_bad hs]
      exact (fn_t rfl).trans rfl
    | none =>
      obtain ⟨hc, hn, hv, he, hx⟩ := setR_ok hs
      rw [he]
      obtain ⟨hr, hl16⟩ := ck_rise hc
      obtain ⟨hxr, hxl⟩ := ck_rise hx
      have hask := ask_of hx hn
      have hgn : getA (insE n v l) n = some v := by rw [getA_ins n v n l hr, if_pos rfl]
      have hin : inN (nms (insE n v l)) n = true := by rw [inN_getA hxr, hgn]; rfl
      have hdrop : dropR (insE n v l) n = (delE n (insE n v l), none) := by
        unfold dropR
        rw [hask]
        exact if_pos hin
      have hdc : ckEv (delE n (insE n v l)) = none := ck_of (Nat.le_trans (List.length_filter_le _ _) hxl) (rise_del n hxr) fun a ha => ck_all hx a ((List.mem_filter.1 ha).1)
      have hdl : (delE n (insE n v l)).length ≤ 16 := (ck_rise hdc).2
      have hget : event_Get (insE n v l) n = some (v, none) := by rw [event_Get_is _ n (by omega), getE_is hask, hgn]
      have hget2 : event_Get (delE n (insE n v l)) n = some ((0, 0, ByteArray.mk #[], false), some ([], 10)) := by
        rw [event_Get_is _ n (by omega), getE_is (ask_of hdc hn), getA_del, if_pos rfl]
      refine (fn_f rfl).trans ((fn_o hget).trans ((fn_o (event_Drop_is _ n (by omega) H)).trans ?_))
      rw [hdrop]
      refine (fn_f rfl).trans ((fn_f rfl).trans ((fn_f (by rw [eqB_V_self]; rfl)).trans ?_))
      refine (fn_o (event_Check_is _ (by omega))).trans ?_
      rw [hx]
      refine (fn_f rfl).trans ((fn_o (event_Check_is _ (by show (delE n (insE n v l)).length ≤ _; omega))).trans ?_)
      rw [show ckEv (delE n (insE n v l), (none : Err), H).fst = none from hdc]
      refine (fn_f rfl).trans ((fn_o (changes_loop (by omega) hr hc hx fun m hm => by rw [getA_ins n v m l hr, if_neg (fun e => hm e.symm)])).trans ?_)
      refine (fn_o hget2).trans ((fn_o (event_Get_is l n (by omega))).trans ((fn_o fails_none).trans ((fn_t rfl).trans ?_)))
      rw [getE_is (ask_of hc hn)]
      cases hg : getA l n with
      | some w => exact (fn_t rfl).trans rfl
      | none =>
        refine (fn_f rfl).trans ?_
        have : delE n (insE n v l) = l := del_ins n v l hr (by rw [inN_getA hr, hg]; rfl)
        refine (fn_o (a := true) ?_).trans rfl
        show ref03_Same (delE n (insE n v l)) l = some true
        rw [this]
        exact ref03_Same_self l (by omega)
theorem ev_z (l : Ev) : wzS Tryz.prog 8 23 shEvent l = (l.length * 56 ≤ reachBytes ∧ ∀ x ∈ l, wzS Tryz.prog 7 50 shAttr x) := by kernel_rfl
theorem eventChanges_law (l : Ev) (z0 : wzS Tryz.prog 8 23 shEvent l) (n : ByteArray) (v : V) : ∃ H, law03_EventChanges l n v [] [] = some (true, H) := by
  rw [ev_z] at z0
  have hr : reachBytes ≤ 140737488355328 := by decide
  exact ⟨[], eventChanges_true l n v (Nat.le_trans z0.1 hr) []⟩
end Go.Proofs.YtkkgimhjjhhkjaaGreatDoor
