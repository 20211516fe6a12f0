/- Chapter 8, plain: ask, play; IndexRuns and IndexMatches answer true. -/
import Derived.Test.YtdiomgmckidccaaGreatDoorKj
import Derived.Test.YtdiomgmckidccaaGreatDoorPewAg
set_option maxRecDepth 100000
namespace Go.Proofs.YtdiomgmckidccaaGreatDoor
open Go Go.Pev
abbrev shO8 : Sh := shOp8
abbrev O8 := Int × Int × Fil × Ev
/-- A call's lists lie in memory. -/
def sz8 (o : O8) : Prop := o.2.2.1.2.length * 72 ≤ 140737488355328 ∧ o.2.2.2.length * 56 ≤ 140737488355328
theorem wz1 (l : List O8) : wzS Tryz.prog 8 22 (.sl shOp8) l = (l.length * Tryz.prog.bytesOf 72 ≤ reachBytes ∧ ∀ x ∈ l, wzS Tryz.prog 7 72 shOp8 x) := by kernel_rfl
theorem wz2 (x : O8) : wzS Tryz.prog 7 72 shOp8 x = (wzS Tryz.prog 6 3 (.int .i64) x.1 ∧ wzS Tryz.prog 6 3 (.int .i64) x.2.1 ∧ wzS Tryz.prog 6 32 shFil x.2.2.1 ∧ wzS Tryz.prog 6 34 shEvent x.2.2.2) := by kernel_rfl
theorem wz3 (f : Fil) : wzS Tryz.prog 6 32 shFil f = (wzS Tryz.prog 5 4 .bool f.1 ∧ wzS Tryz.prog 5 30 (.sl shBound) f.2) := by kernel_rfl
theorem wz4 (l : List Bd) : wzS Tryz.prog 5 30 (.sl shBound) l = (l.length * 72 ≤ reachBytes ∧ ∀ x ∈ l, wzS Tryz.prog 4 58 shBound x) := by kernel_rfl
theorem wz5 (l : Ev) : wzS Tryz.prog 6 34 shEvent l = (l.length * 56 ≤ reachBytes ∧ ∀ x ∈ l, wzS Tryz.prog 5 70 shAttr x) := by kernel_rfl
theorem sz_ops {l : List O8} (h : wzS Tryz.prog 8 22 (.sl shOp8) l) : ∀ o ∈ l, sz8 o := fun o ho => by
  rw [wz1] at h
  have h1 := h.2 o ho
  rw [wz2, wz3, wz4, wz5] at h1
  have hr : reachBytes ≤ 140737488355328 := by decide
  exact ⟨Nat.le_trans h1.2.2.1.2.1 hr, Nat.le_trans h1.2.2.2.1 hr⟩
theorem few_match (L : Items) (e : Ev) : few8 (matchP L e).2 := by
  have := few_ckEv e
  unfold matchP
  cases h : ckEv e with
  | some x => rw [h] at this; exact this
  | none => exact few_none
theorem few_addP (L : Items) (id : Int) (f : Fil) : few8 (addP L id f).2 := by
  have := few_ckF f
  unfold addP
  cases h : ckF f with
  | some x => rw [h] at this; exact this
  | none =>
    simp only
    split
    · exact few_eN 9
    · split
      · exact few_eN 11
      · exact few_none
theorem few_remP (L : Items) (id : Int) : few8 (remP L id).2 := by
  unfold remP
  cases lkF id L with
  | none => exact few_eN 10
  | some f => exact few_none
theorem match_len (L : Items) (e : Ev) : (matchP L e).1.length ≤ L.length := by
  unfold matchP
  cases ckEv e with
  | some x => exact Nat.zero_le _
  | none => rw [List.length_map]; exact List.length_filter_le _ _
section
variable {H : List Pev.Node} {n a m : Nat} {L : Items} {N : NmL} {own : Nat → Option Ro}
theorem cntL_small (hf : Fine L) : (cntL L []).length ≤ 10000 := by
  have h1 := cntL_len L [] fun p hp => (ckF_rise (hf.ok p hp)).2.1
  have := hf.le
  simp only [List.length_nil] at h1
  omega
theorem ask_is (h : RepI H n a m L N (ents L) own) (hf : Fine L) (e : Ev) (he : e.length * 56 ≤ 140737488355328) :
    ∃ K, law08_ask (some n) L e [] H = some (true, K) ∧ RepI K n a m L N (ents L) own ∧ Ext8 H own K own := by
  have hle := hf.le
  have h16 : ∀ p ∈ L, p.2.2.length ≤ 16 := fun p hp => (ckF_rise (hf.ok p hp)).2.1
  obtain ⟨K1, w1, r1, x1⟩ := match_is h hf.so hf.ok (by omega) e (fun h => ev_nodup h)
  obtain ⟨K2, w2, r2, x2⟩ := names_is r1 hf
  have hm := match_len L e
  have hc := cntL_small hf
  refine ⟨K2, ?_, r2, x1.trans x2⟩
  unfold law08_ask law08_ask_t
  refine (fn_o (twin_is e he)).trans ((fn_o w1).trans ((fn_o (rmatch_is L e (by omega) (fun h => by have := (ev_nodup h).2; omega) (fun p hp => by have := h16 p hp; omega))).trans ((fn_o w2).trans ((fn_o (rnames_is L hle h16 _ _)).trans ((fn_o (ints_self (matchP L e).1 (by omega))).trans ((fn_t rfl).trans ((fn_o (fails_is (few_match L e))).trans ((fn_t rfl).trans ((fn_o r2.len_is).trans ?_)))))))))
  exact (fn_t (by simp)).trans ((fn_o (strs_self _ (by rw [List.length_map]; omega))).trans ((fn_t rfl).trans ((fn_o (ints_self _ (by rw [List.length_map]; omega))).trans rfl)))
end
theorem play_loop {n a m : Nat} (ops : List O8) (hops : ops.length ≤ 200) (hsz : ∀ o ∈ ops, sz8 o) : ∀ (fu i : Nat) (H : List Pev.Node) (L : Items) (N : NmL) (own : Nat → Option Ro), i ≤ ops.length → ops.length - i < fu → RepI H n a m L N (ents L) own → Fine L →
    ∃ K L' N' own', LT.loop law08_play_b0 fu (some n, L, ops, Int.ofNat ops.length, (i : Int), [], H, ()) = some (.inr (some n, L', [], K, ())) ∧ RepI K n a m L' N' (ents L') own' ∧ Fine L' ∧ Ext8 H own K own'
  | 0, _, _, _, _, _, _, hf, _, _ => by omega
  | fu + 1, i, H, L, N, own, h1, h2, h, hf => by
    rw [LT.loop_succ]
    by_cases hi : i < ops.length
    · have hw : IntKind.i64.wrap ((i : Int) + 1) = ((i + 1 : Nat) : Int) := wsucc (by omega)
      obtain ⟨s1, s2⟩ := hsz ops[i] (List.getElem_mem hi)
      have hle := hf.le
      by_cases k0 : ops[i].1 = 0
      · obtain ⟨K1, N1, o1, w1, r1, x1⟩ := add_is h hf.so ops[i].2.1 ops[i].2.2.1
        obtain ⟨K, L', N', own', v1, v2, v3, v4⟩ := play_loop ops hops hsz fu (i + 1) K1 _ N1 o1 (by omega) (by omega) r1 (hf.add _ _)
        refine ⟨K, L', N', own', ?_, v2, v3, x1.trans v4⟩
        refine (rn_in hi).trans ?_
        rw [getI_lt hi, hw]
        refine (rn_t (by rw [k0]; rfl)).trans ((rn_o (insert_is L _ _ (by omega))).trans ((rn_o (ftwin_is _ s1)).trans ((rn_o w1).trans ((rn_o (fails_is (few_addP L _ _))).trans ((rn_f rfl).trans v1)))))
      · by_cases k1 : ops[i].1 = 1
        · obtain ⟨K1, N1, o1, w1, r1, x1⟩ := rem_is h hf.so hf.ok ops[i].2.1
          obtain ⟨K, L', N', own', v1, v2, v3, v4⟩ := play_loop ops hops hsz fu (i + 1) K1 _ N1 o1 (by omega) (by omega) r1 (hf.rem _)
          refine ⟨K, L', N', own', ?_, v2, v3, x1.trans v4⟩
          refine (rn_in hi).trans ?_
          rw [getI_lt hi, hw]
          refine (rn_f (by rw [k1]; rfl)).trans ((rn_t (by rw [k1]; rfl)).trans ((rn_o (remove_is L _ hf.so (by omega))).trans ((rn_o w1).trans ((rn_o (fails_is (few_remP L _))).trans ((rn_f rfl).trans v1)))))
        · obtain ⟨K1, w1, r1, x1⟩ := ask_is h hf ops[i].2.2.2 s2
          obtain ⟨K, L', N', own', v1, v2, v3, v4⟩ := play_loop ops hops hsz fu (i + 1) K1 _ N own (by omega) (by omega) r1 hf
          refine ⟨K, L', N', own', ?_, v2, v3, x1.trans v4⟩
          refine (rn_in hi).trans ?_
          rw [getI_lt hi, hw]
          exact (rn_f (by simp [k0])).trans ((rn_f (by simp [k1])).trans ((rn_o w1).trans ((rn_f rfl).trans v1)))
    · have : i = ops.length := by omega
      subst this
      exact ⟨H, L, N, own, rn_out.trans rfl, h, hf, Ext8.refl _ _⟩
theorem play_is (H : List Pev.Node) (ops : List O8) (hops : ops.length ≤ 200) (hsz : ∀ o ∈ ops, sz8 o) :
    ∃ K n a m L N own, law08_play ops [] H = some (some n, L, true, K) ∧ RepI K n a m L N (ents L) own ∧ Fine L ∧ H.length ≤ K.length := by
  obtain ⟨own, n1, n2, n3⟩ := new_is H
  obtain ⟨K, L, N, own', w1, w2, w3, w4⟩ := play_loop ops hops hsz FUEL 0 _ [] [] own (Nat.zero_le _) (by rw [fuel_is]; omega) n2 .nil
  have hlen := w4.len
  simp only [List.length_append, List.length_singleton] at hlen
  refine ⟨K, _, _, _, L, N, own', ?_, w2, w3, by omega⟩
  have l1 : (H ++ [ndAt []]).length = H.length + 1 := by simp
  have l2 : (H ++ [ndAt []] ++ [ndNm []]).length = H.length + 2 := by simp
  unfold law08_play law08_play_t
  rw [show (H ++ [Node.map false true (Sh.int IntKind.i64) shFil []] ++ [Node.map false false Sh.str (Sh.rf RK.map) []]).length = H.length + 2 from l2, show (H ++ [Node.map false true (Sh.int IntKind.i64) shFil []]).length = H.length + 1 from l1]
  exact (fn_o w1).trans rfl
theorem indexRuns_law (x0 : List O8) (z0 : wzS Tryz.prog 8 22 (.sl shOp8) x0) : ∃ H, law08_IndexRuns x0 [] [] = some (true, H) := by
  obtain ⟨K, hA⟩ := awake_is
  unfold law08_IndexRuns law08_IndexRuns_t
  by_cases hl : x0.length > 200
  · exact ⟨K, (fn_o hA).trans ((fn_f rfl).trans ((fn_t (decide_eq_true (by simp only [Int.ofNat_eq_natCast]; omega))).trans rfl))⟩
  · obtain ⟨K1, n, a, m, L, N, own, w1, w2, w3, _⟩ := play_is K x0 (by omega) (sz_ops z0)
    obtain ⟨K2, v1, _, _⟩ := ask_is w2 w3 [] (by simp)
    exact ⟨K2, (fn_o hA).trans ((fn_f rfl).trans ((fn_f (decide_eq_false (by simp only [Int.ofNat_eq_natCast]; omega))).trans ((fn_o w1).trans ((fn_t rfl).trans ((fn_o v1).trans rfl)))))⟩
theorem has_is (l : List Int) (x : Int) (hl : l.length ≤ 1000000) : ref01_Has l x = some (decide (x ∈ l)) := by
  unfold ref01_Has ref01_Has_t
  have := foldE_run (bd := ref01_Has_b0) l (by omega) (fun i (_ : Unit) => (x, l, Int.ofNat l.length, (i : Int), ())) (fun _ y => if y = x then .inr (.inl (true, ())) else .inl ()) (fun _ => .inr ())
    (fun i hi p g => by
      refine (rn_in hi).trans ?_
      rw [getI_lt hi, beq_dec]
      by_cases h : l[i] = x
      · refine (rn_t (decide_eq_true h)).trans ?_
        rw [if_pos h]; rfl
      · refine (rn_f (decide_eq_false h)).trans ?_
        rw [if_neg h, wsucc (by omega)]; rfl)
    (fun s g => rn_out.trans rfl) ()
  refine (fn_o this).trans ?_
  have key : ∀ l : List Int, foldE (fun (_ : Unit) y => if y = x then (.inr (.inl (true, ())) : Unit ⊕ ((Bool × Unit) ⊕ Unit)) else .inl ()) (fun _ => .inr ()) () l = if x ∈ l then .inl (true, ()) else .inr () := by
    intro l
    induction l with
    | nil => rfl
    | cons y l ih =>
      rw [foldE_cons]
      by_cases h : y = x
      · rw [if_pos h, if_pos (by rw [h]; exact List.mem_cons_self)]
      · rw [if_neg h]
        refine ih.trans ?_
        by_cases hm : x ∈ l
        · rw [if_pos hm, if_pos (List.mem_cons_of_mem _ hm)]
        · rw [if_neg hm, if_neg (fun c => (List.mem_cons.1 c).elim (fun c => h c.symm) hm)]
  rw [key]
  by_cases hm : x ∈ l
  · rw [if_pos hm, decide_eq_true hm]; rfl
  · rw [if_neg hm, decide_eq_false hm]; rfl
theorem first_none : fault_First [none, none] = some none := by kernel_rfl
theorem fmatch_is {f : Fil} {e : Ev} (hf : ckF f = none) (he : ckEv e = none) : filter_Match f e = some (mnB f e, none) := by
  have h16 := (ckF_rise hf).2.1
  have hr := ckEv_rise e he
  unfold filter_Match filter_Match_t
  refine (fn_o ((filter_Check_is f).trans (congrArg some hf))).trans ((fn_o ((eck e).trans (congrArg some he))).trans ((fn_o first_none).trans ((fn_f rfl).trans ((fn_o (filter_Means_is f e hr.1 (by omega) (by omega))).trans rfl))))
theorem found_has {L : Items} (hs : SoF L) (e : Ev) (x : Item) (hx : x ∈ L) : decide (x.1 ∈ (L.filter fun p => mnB p.2 e).map (·.1)) = mnB x.2 e := by
  cases hm : mnB x.2 e with
  | true => exact decide_eq_true (List.mem_map.2 ⟨x, List.mem_filter.2 ⟨hx, hm⟩, rfl⟩)
  | false =>
    refine decide_eq_false fun c => ?_
    obtain ⟨y, hy, hyx⟩ := List.mem_map.1 c
    obtain ⟨hy1, hy2⟩ := List.mem_filter.1 hy
    have a1 : lkF y.1 L = some y.2 := (lk_mem (β := shFil) hs).2 hy1
    have a2 : lkF x.1 L = some x.2 := (lk_mem (β := shFil) hs).2 hx
    rw [hyx, a2] at a1
    rw [← Option.some.inj a1, hm] at hy2
    cases hy2
theorem matches_loop (L : Items) (hf : Fine L) (e : Ev) (he : ckEv e = none) (H : List Pev.Node) :
    law08_IndexMatches_l0 (e, (L.filter fun p => mnB p.2 e).map (·.1), 0, L, Int.ofNat L.length, 0, [], H, ()) = some (.inr ((L.filter fun p => mnB p.2 e).map (·.1), (((L.filter fun p => mnB p.2 e).map (·.1)).length : Int), [], H, ())) := by
  have hle := hf.le
  have hfl : ((L.filter fun p => mnB p.2 e).map (·.1)).length ≤ 1000000 := by
    rw [List.length_map]; exact Nat.le_trans (List.length_filter_le _ _) (by omega)
  have := foldE_runI (bd := law08_IndexMatches_b0) L (by omega) (fun i (k : Nat) => (e, (L.filter fun p => mnB p.2 e).map (·.1), (k : Int), L, Int.ofNat L.length, (i : Int), [], H, ())) (fun k x => .inl (if mnB x.2 e = true then k + 1 else k)) (fun k => .inr ((L.filter fun p => mnB p.2 e).map (·.1), (k : Int), [], H, ())) (fun i k => k ≤ i)
    (fun i hi k g hk => by
      have hmem := List.getElem_mem hi
      refine (rn_in hi).trans ?_
      rw [getI_lt hi, wsucc (i := i) (by omega)]
      refine (rn_o (fmatch_is (hf.ok _ hmem) he)).trans ((rn_f rfl).trans ((rn_o (has_is _ _ hfl)).trans ?_))
      rw [found_has hf.so e L[i] hmem]
      refine (rn_f (by simp)).trans ?_
      cases hm : mnB L[i].2 e with
      | true => refine (rn_t rfl).trans ?_; rw [wsucc (by omega)]; rfl
      | false => exact (rn_f rfl).trans rfl)
    (fun i hi s t hs h => by cases h; split <;> omega)
    (fun s g hs => rn_out.trans rfl) 0 (Nat.le_refl _)
  rw [foldE_fold (fun (k : Nat) (x : Item) => if mnB x.2 e = true then k + 1 else k) (fun _ _ => rfl)] at this
  have key : ∀ (l : Items) (k : Nat), l.foldl (fun (k : Nat) (x : Item) => if mnB x.2 e = true then k + 1 else k) k = k + (l.filter fun p => mnB p.2 e).length := by
    intro l
    induction l with
    | nil => intro k; rfl
    | cons x l ih =>
      intro k
      rw [List.foldl_cons, ih, List.filter_cons]
      split <;> simp only [List.length_cons] <;> omega
  rw [key, Nat.zero_add] at this
  rw [List.length_map]
  exact this
theorem indexMatches_law (x0 : List O8) (z0 : wzS Tryz.prog 8 22 (.sl shOp8) x0) (x1 : Ev) : ∃ H, law08_IndexMatches x0 x1 [] [] = some (true, H) := by
  obtain ⟨K, hA⟩ := awake_is
  unfold law08_IndexMatches law08_IndexMatches_t
  by_cases hl : x0.length > 200
  · exact ⟨K, (fn_o hA).trans ((fn_f rfl).trans ((fn_t (decide_eq_true (by simp only [Int.ofNat_eq_natCast]; omega))).trans rfl))⟩
  · cases hc : ckEv x1 with
    | some x => exact ⟨K, (fn_o hA).trans ((fn_f rfl).trans ((fn_f (decide_eq_false (by simp only [Int.ofNat_eq_natCast]; omega))).trans ((fn_o ((rck x1).trans (congrArg (fun e => some (toE e)) hc))).trans ((fn_t rfl).trans rfl))))⟩
    | none =>
      obtain ⟨K1, n, a, m, L, N, own, w1, w2, w3, _⟩ := play_is K x0 (by omega) (sz_ops z0)
      have hle := w3.le
      obtain ⟨K2, v1, _, _⟩ := match_is w2 w3.so w3.ok (by omega) x1 (fun h => ev_nodup h)
      have hmp : matchP L x1 = ((L.filter fun p => mnB p.2 x1).map (·.1), none) := by unfold matchP; rw [hc]
      rw [hmp] at v1
      refine ⟨K2, (fn_o hA).trans ((fn_f rfl).trans ((fn_f (decide_eq_false (by simp only [Int.ofNat_eq_natCast]; omega))).trans ((fn_o ((rck x1).trans (congrArg (fun e => some (toE e)) hc))).trans ((fn_f rfl).trans ((fn_o w1).trans ((fn_f rfl).trans ((fn_o v1).trans ((fn_f rfl).trans ((fn_o (matches_loop L w3 x1 hc K2)).trans ?_)))))))))⟩
      show some _ = some _
      simp
end Go.Proofs.YtdiomgmckidccaaGreatDoor
