/- Chapter 3, plain: Get; the document's example; EventTexts, EventReads, EventBack are true. -/
import Derived.Test.YtkkgimhjjhhkjaaGreatDoorMm
namespace Go.Proofs.YtkkgimhjjhhkjaaGreatDoor
open Go Go.Pev

theorem notUp_lt (n p : ByteArray) : notUp n p = false ↔ ltB p n = true := by
  unfold ltB
  rw [← up_is]
  cases Op.bytesLess p.toList n.toList <;> simp
theorem chk_rise : ∀ (p : ByteArray) (l : Ev) (i : Nat), chk p l i = none → (∀ a ∈ nms l, ltB p a = true) ∧ Rise (nms l)
  | p, [], i, _ => ⟨fun a h => (by cases h), List.Pairwise.nil⟩
  | p, (n, v) :: l, i, h => by
    unfold chk at h
    cases hn : nameB n with
    | false => rw [hn] at h; cases h
    | true =>
      rw [hn] at h
      cases hu : notUp n p with
      | true => rw [hu] at h; cases h
      | false =>
        rw [hu] at h
        have hlt := (notUp_lt n p).1 hu
        cases hv : ckE v with
        | some x => rw [hv] at h; cases h
        | none =>
          rw [hv] at h
          obtain ⟨h1, h2⟩ := chk_rise n l (i + 1) h
          refine ⟨fun a ha => ?_, List.pairwise_cons.2 ⟨h1, h2⟩⟩
          rcases List.mem_cons.1 ha with rfl | ha
          · exact hlt
          · exact ltB_trans hlt (h1 a ha)
theorem ck_rise {l : Ev} (h : ckEv l = none) : Rise (nms l) ∧ l.length ≤ 16 := by
  unfold ckEv at h
  by_cases hl : l.length > 16
  · rw [if_pos hl] at h; cases h
  · rw [if_neg hl] at h; exact ⟨(chk_rise _ _ _ h).2, by omega⟩
/-- The errors of an event and a name. -/
def askE (l : Ev) (s : ByteArray) : Err := match ckEv l with
  | some e => some e
  | none => cond (nameB s) none (some ([], 3))
theorem event_asked_is (l : Ev) (s : ByteArray) (hl : l.length ≤ 1000000) : event_asked l s = some (askE l s) := by
  unfold event_asked event_asked_t
  rw [event_Check_is l hl, LT.fin_some]
  unfold askE
  cases ckEv l with
  | some e => rfl
  | none =>
    simp only [LT.fin_br, Option.isNone, Bool.not_true, Bool.false_eq_true, if_false, event_Name_is, LT.fin_some]
    cases nameB s <;> rfl
def getE (l : Ev) (s : ByteArray) : V × Err := match askE l s with
  | some e => ((0, 0, ByteArray.mk #[], false), some e)
  | none => match l[posN (nms l) s]? with
    | some a => if a.1 = s then (a.2, none) else ((0, 0, ByteArray.mk #[], false), some ([], 10))
    | none => ((0, 0, ByteArray.mk #[], false), some ([], 10))
theorem askE_none {l : Ev} {s : ByteArray} (h : askE l s = none) : ckEv l = none ∧ nameB s = true := by
  unfold askE at h
  cases hc : ckEv l with
  | some e => rw [hc] at h; cases h
  | none => rw [hc] at h; cases hn : nameB s with
    | true => exact ⟨rfl, rfl⟩
    | false => rw [hn] at h; cases h
theorem event_Get_is (l : Ev) (s : ByteArray) (hl : l.length ≤ 1000000) : event_Get l s = some (getE l s) := by
  unfold event_Get event_Get_t
  rw [event_asked_is l s hl, LT.fin_some]
  unfold getE
  cases ha : askE l s with
  | some e => rfl
  | none =>
    obtain ⟨hc, _⟩ := askE_none ha
    obtain ⟨hr, _⟩ := ck_rise hc
    simp only [LT.fin_br, Option.isNone, Bool.not_true, Bool.false_eq_true, if_false, event_Find_is l s hr hl, LT.fin_some]
    unfold inN
    by_cases hp : posN (nms l) s < l.length
    · have h1 : (nms l)[posN (nms l) s]? = some l[posN (nms l) s].1 := by rw [List.getElem?_eq_getElem (by simpa using hp)]; simp
      rw [h1, List.getElem?_eq_getElem hp]
      simp only [Option.some.injEq, decide_eq_true_eq]
      by_cases he : l[posN (nms l) s].1 = s
      · rw [if_pos he, if_pos he, if_pos (by omega), if_pos (by simp only [Int.ofNat_eq_natCast]; omega), getI_lt hp]
        rfl
      · rw [if_neg he, if_neg he]; rfl
    · rw [List.getElem?_eq_none (by simp; omega), List.getElem?_eq_none (by omega)]
      simp [LT.fin_ret]

/-! ### the document's example -/
def exL : Ev := [(ByteArray.mk #[97], (1, 1, ByteArray.mk #[], false)), (ByteArray.mk #[98], (2, 0, ByteArray.mk #[120, 44, 32, 121], false))]
theorem exL_tx : tx exL = ByteArray.mk #[97, 61, 49, 44, 32, 98, 61, 34, 120, 44, 32, 121, 34] := by
  kernel_rfl
theorem exL_ck : ckEv exL = none := by kernel_rfl
theorem exL_wf : wfE exL := by
  intro a ha
  rcases List.mem_cons.1 ha with rfl | ha
  · rfl
  · rcases List.mem_cons.1 ha with rfl | ha
    · rfl
    · cases ha
theorem exL_read : event_Read (ByteArray.mk #[97, 61, 49, 44, 32, 98, 61, 34, 120, 44, 32, 121, 34]) = some (exL, none) := by
  rw [event_Read_is, ← exL_tx, readE_text exL exL_wf exL_ck (by rw [exL_tx]; decide)]
theorem exL_get : event_Get exL (ByteArray.mk #[97]) = some ((1, 1, ByteArray.mk #[], false), none) := by
  rw [event_Get_is exL _ (by decide)]
  kernel_rfl
theorem awake_is : law03_awake = some true := by
  unfold law03_awake law03_awake_t
  rw [exL_read, LT.fin_some]
  simp only
  rw [event_Text_is exL exL_wf (by decide), LT.fin_some, exL_ck, exL_get, LT.fin_some, exL_tx]
  kernel_rfl

/-! ### the statements -/
theorem wfS_ev {l : Ev} (h : wfS (.sl shAttr) l) : wfE l := fun a ha => inI_wf (h a ha).2.2.1
theorem chk_short : ∀ (p : ByteArray) (l : Ev) (i : Nat) (e : List (Int × Int) × Int), chk p l i = some e → e.1.length ≤ 1
  | p, [], i, e, h => by cases h
  | p, (n, v) :: l, i, e, h => by
    unfold chk at h
    cases hn : nameB n with
    | false => rw [hn] at h; obtain rfl := Option.some.inj h; simp
    | true =>
      rw [hn] at h
      cases hu : notUp n p with
      | true => rw [hu] at h; obtain rfl := Option.some.inj h; simp
      | false =>
        rw [hu] at h
        cases hv : ckE v with
        | some x =>
          rw [hv] at h
          obtain rfl := Option.some.inj h
          rw [ckE_is] at hv
          cases hc : ckB v.1 v.2.1 v.2.2.1 v.2.2.2 with
          | false => rw [hc] at hv; cases hv
          | true => rw [hc] at hv; obtain rfl := Option.some.inj hv; simp
        | none => rw [hv] at h; exact chk_short n l (i + 1) e h
theorem ck_short {l : Ev} {e : List (Int × Int) × Int} (h : ckEv l = some e) : e.1.length ≤ 1 := by
  unfold ckEv at h
  split at h
  · obtain rfl := Option.some.inj h; simp
  · exact chk_short _ _ _ _ h
theorem fails_self (e : Err) (h : ∀ y, e = some y → y.1.length ≤ 1) : law03_fails e (toE e) = some true := by
  rw [law03_fails_is e _ (fun y hy => by have := h y hy; omega)]
  simp
theorem twin_is (l : Ev) (hl : l.length ≤ 1000000) : ref03_Twin l = some l := by
  unfold ref03_Twin ref03_Twin_t
  rw [LT.fin_br, appLim_ok (by omega)]; rfl
theorem eventTexts_true (l : Ev) (w : wfS (.sl shAttr) l) (s : ByteArray) : law03_EventTexts l s = some true := by
  have hw := wfS_ev w
  unfold law03_EventTexts law03_EventTexts_t
  rw [awake_is, LT.fin_some, LT.fin_br, if_neg (by simp), LT.fin_br]
  by_cases h : l.length > 100
  · rw [if_pos (decide_eq_true (by simp only [Int.ofNat_eq_natCast]; omega))]; rfl
  · have hl : l.length ≤ 1000000 := by omega
    rw [if_neg (by simp only [decide_eq_true_eq, Int.ofNat_eq_natCast]; omega), twin_is l hl, LT.fin_some, event_Text_is l hw hl, LT.fin_some, ref03_DocText_is l hw hl, LT.fin_some]
    cases hc : ckEv l with
    | some e =>
      have hs := ck_short hc
      have hf : law03_fails (some e) (true, e.1, e.2) = some true := fails_self (some e) (fun y hy => by obtain rfl := Option.some.inj hy; exact hs)
      simp only [LT.fin_br, beq_self_eq_true, if_true, hf, LT.fin_some, event_Check_is l hl, ref03_Check_is l hl, hc, toE]
      rw [event_Name_is, ref03_Name_is, LT.fin_some, LT.fin_some, LT.fin_ret]
      simp
    | none =>
      have hf : law03_fails none (false, [], 0) = some true := fails_self none (fun y hy => by cases hy)
      simp only [LT.fin_br, beq_self_eq_true, if_true, hf, LT.fin_some, event_Check_is l hl, ref03_Check_is l hl, hc, toE]
      rw [event_Name_is, ref03_Name_is, LT.fin_some, LT.fin_some, LT.fin_ret]
      simp
theorem reads_both (s : ByteArray) : (LT.opt (event_Read s) fun x11 => (LT.opt (ref03_Read s) fun x12 => (LT.opt (ref03_Same x11.fst x12.fst) fun x13 => (LT.br x13 (LT.opt (law03_fails x11.snd x12.snd) fun x14 => (LT.ret x14)) (LT.ret false)))) : FT Bool).fin = some true := by
  obtain ⟨h1, h2⟩ := readE_short s
  rw [event_Read_is, LT.fin_some, ref03_Read_is, LT.fin_some, ref03_Same_self _ (by omega), LT.fin_some, LT.fin_br, if_pos rfl, fails_self _ h2, LT.fin_some]
  rfl
theorem eventReads_true (s : ByteArray) : law03_EventReads s = some true := by
  unfold law03_EventReads law03_EventReads_t
  rw [awake_is, LT.fin_some, LT.fin_br, if_neg (by simp), LT.fin_br]
  split
  · rw [LT.fin_br]
    split
    · rfl
    · exact reads_both s
  · exact reads_both s
theorem back_read (s : ByteArray) : (LT.opt (event_Read s) fun x17 => (LT.br (!Option.isNone x17.snd) (LT.ret (Int.ofNat (List.length x17.fst) == 0)) (LT.opt (event_Text x17.fst) fun x18 => (LT.br (Option.isNone x18.snd) (LT.ret (ByteArray.toList x18.fst == s.toList)) (LT.ret false)))) : FT Bool).fin = some true := by
  obtain ⟨h1, _⟩ := readE_short s
  obtain ⟨h2, h3⟩ := readE_done s
  rw [event_Read_is, LT.fin_some, LT.fin_br]
  cases he : (readE s).2 with
  | some e =>
    rw [if_pos (by rfl), h3 (by rw [he]; simp)]; rfl
  | none =>
    have d := h2 he
    rw [if_neg (by simp), event_Text_is _ d.wf (by omega), d.ok, LT.fin_some, LT.fin_br]
    simp only [Option.isNone, if_true, LT.fin_ret, d.txt, beq_self_eq_true]
theorem eventBack_true (l : Ev) (w : wfS (.sl shAttr) l) (s : ByteArray) : law03_EventBack l s = some true := by
  have hw := wfS_ev w
  have hb := back_read s
  unfold law03_EventBack law03_EventBack_t
  rw [awake_is, LT.fin_some, LT.fin_br, if_neg (by simp), LT.fin_br]
  by_cases h : l.length > 100
  · rw [if_pos (decide_eq_true (by simp only [Int.ofNat_eq_natCast]; omega))]; rfl
  · have hl : l.length ≤ 1000000 := by omega
    rw [if_neg (by simp only [decide_eq_true_eq, Int.ofNat_eq_natCast]; omega), LT.fin_br]
    split
    · rfl
    · rw [event_Text_is l hw hl, LT.fin_some]
      cases hc : ckEv l with
      | some e =>
        simp only [LT.fin_br, Option.isNone, Bool.false_eq_true, if_false]
        exact hb
      | none =>
        simp only [LT.fin_br, Option.isNone, if_true]
        by_cases h8 : (tx l).size ≤ 8000
        · rw [if_pos (decide_eq_true (by simp only [Int.ofNat_eq_natCast]; omega)), event_Read_is, LT.fin_some, readE_text l hw hc h8]
          simp only [LT.fin_br, Bool.not_true, Bool.false_eq_true, if_false, ref03_Same_self l hl, LT.fin_some]
          exact hb
        · rw [if_neg (by simp only [decide_eq_true_eq, Int.ofNat_eq_natCast]; omega)]
          exact hb
end Go.Proofs.YtkkgimhjjhhkjaaGreatDoor
