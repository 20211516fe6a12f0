/- Chapter 3, plain: EventApart. -/
import Derived.Test.YtkkgimhjjhhkjaaGreatDoorMj
set_option maxRecDepth 100000
namespace Go.Proofs.YtkkgimhjjhhkjaaGreatDoor
open Go Go.Pev
theorem insE_snoc (n : ByteArray) (v : V) : ∀ l : Ev, (∀ b ∈ nms l, ltN b n = true) → insE n v l = l ++ [(n, v)]
  | [], _ => rfl
  | a :: l, h => by
    unfold insE
    rw [if_pos (h a.1 List.mem_cons_self), insE_snoc n v l fun b hb => h b (List.mem_cons_of_mem _ hb)]; rfl
theorem insE_front (n : ByteArray) (v : V) : ∀ l : Ev, (∀ b ∈ nms l, ltN n b = true) → insE n v l = (n, v) :: l
  | [], _ => rfl
  | a :: l, h => by
    have h1 := h a.1 List.mem_cons_self
    unfold insE
    rw [if_neg (by rw [ltN_asymm h1]; simp), if_neg (fun e => by rw [e, ltN_irrefl] at h1; cases h1)]
theorem setR_good {x : Ev} {n : ByteArray} {v : V} (hx : ckEv x = none) (hn : nameB n = true) (hv : ckE v = none) (hl : x.length < 16) : setR x n v = (insE n v x, none) := by
  unfold setR
  rw [ask_of hx hn, hv]
  exact if_neg (fun h => by omega)
theorem ck_sub {l x : Ev} (hc : ckEv l = none) (hs : x.Sublist l) : ckEv x = none := by
  obtain ⟨hr, hl⟩ := ck_rise hc
  exact ck_of (Nat.le_trans hs.length_le hl) (List.Pairwise.sublist (hs.map _) hr) fun a ha => ck_all hc a (hs.subset ha)
theorem rise_at {l : Ev} (hr : Rise (nms l)) {i j : Nat} (hi : i < l.length) (hj : j < l.length) (h : i < j) : ltN l[i].1 l[j].1 = true := by
  have := List.pairwise_iff_getElem.1 hr i j (by simpa using hi) (by simpa using hj) h
  simpa using this
theorem set_front {l : Ev} (hc : ckEv l = none) {i : Nat} (hi : i < l.length) : setR (l.take i) l[i].1 l[i].2 = (l.take (i + 1), none) := by
  obtain ⟨hr, hl⟩ := ck_rise hc
  obtain ⟨hn, hv⟩ := ck_all hc _ (List.getElem_mem hi)
  rw [setR_good (ck_sub hc (List.take_sublist _ _)) hn hv (by rw [List.length_take]; omega), insE_snoc, List.take_succ_eq_append_getElem hi]
  intro b hb
  obtain ⟨a, ha, rfl⟩ := List.mem_map.1 hb
  obtain ⟨j, hj, rfl⟩ := List.getElem_of_mem ha
  rw [List.length_take] at hj
  rw [List.getElem_take]
  exact rise_at hr (by omega) hi (by omega)
theorem set_back {l : Ev} (hc : ckEv l = none) {k : Nat} (hk : k < l.length) : setR (l.drop (k + 1)) l[k].1 l[k].2 = (l.drop k, none) := by
  obtain ⟨hr, hl⟩ := ck_rise hc
  obtain ⟨hn, hv⟩ := ck_all hc _ (List.getElem_mem hk)
  rw [setR_good (ck_sub hc (List.drop_sublist _ _)) hn hv (by rw [List.length_drop]; omega), insE_front, ← List.drop_eq_getElem_cons hk]
  intro b hb
  obtain ⟨a, ha, rfl⟩ := List.mem_map.1 hb
  obtain ⟨j, hj, rfl⟩ := List.getElem_of_mem ha
  rw [List.length_drop] at hj
  rw [List.getElem_drop]
  exact rise_at hr hk (by omega) (by omega)
theorem apart_loop {l m : Ev} (hc : ckEv l = none) (s t : ByteArray) (H : List Pev.Node) : law03_EventApart_l0 (l, m, s, t, [], [], Int.ofNat l.length, 0, [], H, ()) = some (.inr (l, m, s, t, l, l, [], H, ())) := by
  obtain ⟨hr, hl⟩ := ck_rise hc
  have := foldE_run (bd := law03_EventApart_b0) l (by omega) (fun i (_ : Unit) => (l, m, s, t, l.take i, l.drop (l.length - i), Int.ofNat l.length, (i : Int), [], H, ())) (fun s _ => .inl s) (fun _ => .inr (l, m, s, t, l, l, [], H, ()))
    (fun i hi u g => by
      have hk : l.length - 1 - i < l.length := by omega
      have hw : IntKind.i64.wrap (IntKind.i64.wrap (Int.ofNat l.length - 1) - (i : Int)) = ((l.length - 1 - i : Nat) : Int) := by
        rw [i64_wrap (Int.ofNat l.length - 1) (by simp only [Int.ofNat_eq_natCast]; omega) (by simp only [Int.ofNat_eq_natCast]; omega), i64_wrap _ (by simp only [Int.ofNat_eq_natCast]; omega) (by simp only [Int.ofNat_eq_natCast]; omega)]
        simp only [Int.ofNat_eq_natCast]; omega
      have e1 := event_Set_is (l.take i) l[i].1 l[i].2 (by rw [List.length_take]; omega) H
      rw [set_front hc hi] at e1
      have e2 := event_Set_is (l.drop (l.length - i)) l[l.length - 1 - i].1 l[l.length - 1 - i].2 (by rw [List.length_drop]; omega) H
      rw [show l.length - i = l.length - 1 - i + 1 by omega, set_back hc hk] at e2
      refine (rn_in hi).trans ((rn_t dge0).trans ((rn_t (dlt hi)).trans ?_))
      rw [hw, getI_lt hi, getI_lt hk, wsucc (by omega)]
      refine (rn_o e1).trans ((rn_t dge0).trans ((rn_t (dlt hk)).trans ((rn_t dge0).trans ((rn_t (dlt hk)).trans ?_))))
      rw [show l.length - i = l.length - 1 - i + 1 by omega]
      refine (rn_o e2).trans ((rn_f rfl).trans ((rn_f rfl).trans ?_))
      show g (l, m, s, t, l.take (i + 1), l.drop (l.length - 1 - i), Int.ofNat l.length, ((i + 1 : Nat) : Int), [], H, ()) = g (l, m, s, t, l.take (i + 1), l.drop (l.length - (i + 1)), Int.ofNat l.length, ((i + 1 : Nat) : Int), [], H, ())
      rw [show l.length - (i + 1) = l.length - 1 - i by omega])
    (fun u g => by
      refine rn_out.trans ?_
      rw [List.take_length, Nat.sub_self, List.drop_zero]
      rfl) ()
  rw [show (foldE (fun s _ => Sum.inl s) (fun _ => (Sum.inr (l, m, s, t, l, l, [], H, ()) : law03_EventApart_Q0)) () l) = .inr (l, m, s, t, l, l, [], H, ()) from foldE_inl (fun (s : Unit) (_ : ByteArray × V) => s) (fun _ => (Sum.inr (l, m, s, t, l, l, [], H, ()) : law03_EventApart_Q0)) l ()] at this
  rw [Nat.sub_zero, List.drop_length, List.take_zero] at this
  exact this
theorem same_is (a b : Ev) (ha : a.length ≤ 1000000) : ∃ r, ref03_Same a b = some r ∧ (r = true ↔ a = b) := by
  have h := ref03_Same_is a b ha
  unfold ref03_Same ref03_Same_t at h ⊢
  by_cases hl : a.length = b.length
  · have h1 := esame_loop a b hl ha a.length FUEL 0 (by omega) (by omega) (by rw [fuel_is]; omega)
    rw [show ((0 : Nat) : Int) = 0 from rfl, List.drop_zero, List.drop_zero] at h1
    have h2 : (Int.ofNat a.length != Int.ofNat b.length) = false := by simp [hl]
    by_cases he : a = b
    · rw [if_pos he] at h1
      exact ⟨true, (fn_f h2).trans ((fn_o h1).trans rfl), fun _ => he, fun _ => rfl⟩
    · rw [if_neg he] at h1
      exact ⟨false, (fn_f h2).trans ((fn_o h1).trans rfl), fun h => (by cases h), fun h => absurd h he⟩
  · exact ⟨false, (fn_t (by simp only [Int.ofNat_eq_natCast, bne_iff_ne, ne_eq]; omega)).trans rfl, fun h => (by cases h), fun h => absurd (by rw [h]) hl⟩
theorem eventApart_true (l m : Ev) (hi : ∀ a ∈ l, inI a.2.2.1) (hj : ∀ a ∈ m, inI a.2.2.1) (H : List Pev.Node) : law03_EventApart l m [] H = some (true, H) := by
  unfold law03_EventApart law03_EventApart_t
  rcases Nat.lt_or_ge 50 l.length with hl | hl
  · exact (fn_t (decide_eq_true (by simp only [Int.ofNat_eq_natCast]; omega))).trans rfl
  refine (fn_f (decide_eq_false (by simp only [Int.ofNat_eq_natCast]; omega))).trans ?_
  rcases Nat.lt_or_ge 50 m.length with hm | hm
  · exact (fn_t (decide_eq_true (by simp only [Int.ofNat_eq_natCast]; omega))).trans rfl
  refine (fn_f (decide_eq_false (by simp only [Int.ofNat_eq_natCast]; omega))).trans ?_
  cases hcl : ckEv l with
  | some e =>
    refine (fn_o (event_Text_bad l (by omega) hcl)).trans ?_
    cases hcm : ckEv m with
    | some e' => exact (fn_o (event_Text_bad m (by omega) hcm)).trans ((fn_t rfl).trans rfl)
    | none => exact (fn_o (event_Text_is m hcm hj)).trans ((fn_t rfl).trans rfl)
  | none =>
    refine (fn_o (event_Text_is l hcl hi)).trans ?_
    cases hcm : ckEv m with
    | some e' => exact (fn_o (event_Text_bad m (by omega) hcm)).trans ((fn_f rfl).trans ((fn_t rfl).trans rfl))
    | none =>
      refine (fn_o (event_Text_is m hcm hj)).trans ((fn_f rfl).trans ((fn_f rfl).trans ((fn_o (apart_loop hcl _ _ H)).trans ?_)))
      obtain ⟨r, hr1, hr2⟩ := same_is l m (by omega)
      refine (fn_o hr1).trans ((fn_t ?_).trans ((fn_o (ref03_Same_self l (by omega))).trans ((fn_t rfl).trans ((fn_o (ref03_Same_self l (by omega))).trans rfl))))
      show ((ByteArray.mk (tx l).toArray).toList == (ByteArray.mk (tx m).toArray).toList) == r
      rw [bytes_beq]
      by_cases he : l = m
      · rw [hr2.2 he, he]; simp
      · have hrf : r = false := Bool.eq_false_iff.2 fun h => he (hr2.1 h)
        have hne : (ByteArray.mk (tx l).toArray) ≠ (ByteArray.mk (tx m).toArray) := fun e => he (tx_inj (ck_all hcl) (ck_all hcm) (by
          have := congrArg (fun b : ByteArray => b.data.toList) e
          simpa using this))
        rw [hrf, decide_eq_false hne]; rfl
theorem wf_inI {l : Ev} (h : wfS (.sl shAttr) l) : ∀ a ∈ l, inI a.2.2.1 := fun a ha => by
  have h' : (decide (IntKind.i64.min ≤ a.2.2.1) && decide (a.2.2.1 ≤ IntKind.i64.max)) = true := (h.2 a ha).2.2.1
  rw [Bool.and_eq_true, decide_eq_true_eq, decide_eq_true_eq] at h'
  have h1 : IntKind.i64.min = -9223372036854775808 := by kernel_rfl
  have h2 : IntKind.i64.max = 9223372036854775807 := by kernel_rfl
  exact ⟨h1 ▸ h'.1, h2 ▸ h'.2⟩
theorem eventApart_law (l : Ev) (w0 : wfS (.sl shAttr) l) (m : Ev) (w1 : wfS (.sl shAttr) m) : ∃ H, law03_EventApart l m [] [] = some (true, H) := ⟨[], eventApart_true l m (wf_inI w0) (wf_inI w1) []⟩
end Go.Proofs.YtkkgimhjjhhkjaaGreatDoor
