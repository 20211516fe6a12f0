/- Chapter 7, plain: both sides' pairs are the same; ask, play, awake; PosetRuns and PosetNone. -/
import Derived.Test.YtmpgilieeegnhaaGreatDoorKd
import Derived.Test.YtmpgilieeegnhaaGreatDoorPewAh
set_option maxRecDepth 100000
namespace Go.Proofs.YtmpgilieeegnhaaGreatDoor
open Go Go.Pev
section
variable {L : Items}
theorem atF_mem (hf : F7 L) {x : Item} (hx : x ∈ L) : atF L x.1 = x.2 := by
  unfold atF
  rw [show lkF x.1 L = some x.2 from (lk_mem (β := shFil) hf.so).2 hx]; rfl
theorem abv_eq (hf : F7 L) {x y : Item} (hx : x ∈ L) (hy : y ∈ L) : abvZ L x.1 y.1 = abvN x y := by
  unfold abvZ abvN abvI
  rw [atF_mem hf hx, atF_mem hf hy]
  by_cases h : x.1 = y.1
  · rw [if_pos h, decide_eq_false (fun c => c h)]; rfl
  · rw [if_neg h, decide_eq_true h, Bool.true_and, Bool.or_comm]
theorem ksF_eq {p : Int → Bool} {q : Item → Bool} (h : ∀ x ∈ L, p x.1 = q x) : ksF L p = (L.filter q).map (·.1) := by
  unfold ksF
  rw [List.filter_map]
  exact congrArg _ (List.filter_congr fun x hx => h x hx)
theorem ksF_empty (L : Items) (p : Int → Bool) : (ksF L p).isEmpty = !(L.any fun x => p x.1) := by
  unfold ksF
  induction L with
  | nil => rfl
  | cons x L ih =>
    rw [List.map_cons, List.filter_cons, List.any_cons]
    cases p x.1 with
    | true => rfl
    | false => simpa using ih
theorem any_congr {α : Type} {l : List α} {p q : α → Bool} (h : ∀ x ∈ l, p x = q x) : l.any p = l.any q := by
  induction l with
  | nil => rfl
  | cons x l ih => rw [List.any_cons, List.any_cons, h x List.mem_cons_self, ih fun y hy => h y (List.mem_cons_of_mem _ hy)]
theorem rootZ_eq (hf : F7 L) {y : Item} (hy : y ∈ L) : rootZ L y.1 = topB L y := by
  unfold rootZ topB
  rw [ksF_empty]
  exact congrArg _ (any_congr fun x hx => abv_eq hf hx hy)
theorem roots_eq (hf : F7 L) : ksF L (rootZ L) = rootsL L := ksF_eq fun _ hy => rootZ_eq hf hy
theorem abvN_split (x z : Item) : abvN x z = (decide (z.1 ≠ x.1) && abvI x z) := by
  unfold abvN
  by_cases h : x.1 = z.1
  · simp [h]
  · have h2 : ¬ z.1 = x.1 := fun c => h c.symm
    simp [h, h2]
theorem justZ_eq (hf : F7 L) {x y : Item} (hx : x ∈ L) (hy : y ∈ L) : justZ L x.1 y.1 = (abvN x y && justB (upsL L y) x) := by
  unfold justZ justB upsL
  rw [abv_eq hf hx hy, ksF_empty, List.any_filter]
  congr 2
  exact any_congr fun z hz => by rw [abv_eq hf hx hz, abv_eq hf hz hy, abvN_split x z, Bool.and_comm]
theorem pars_eq (hf : F7 L) {y : Item} (hy : y ∈ L) : (ksF L fun x => justZ L x y.1) = parsL L y := by
  rw [ksF_eq (q := fun x => abvN x y && justB (upsL L y) x) fun x hx => justZ_eq hf hx hy]
  unfold parsL
  conv => rhs; unfold upsL
  rw [List.filter_filter]
  exact congrArg _ (List.filter_congr fun x _ => Bool.and_comm _ _)
theorem pars_has (hf : F7 L) {x y : Item} (hx : x ∈ L) (hy : y ∈ L) : (parsL L y).contains x.1 = justZ L x.1 y.1 := by
  rw [← pars_eq hf hy, Bool.eq_iff_iff, List.contains_iff_mem]
  unfold ksF
  rw [List.mem_filter]
  exact ⟨fun h => h.2, fun h => ⟨List.mem_map.2 ⟨x, hx, rfl⟩, h⟩⟩
theorem chl_eq (hf : F7 L) {x : Item} (hx : x ∈ L) : (ksF L fun y => justZ L x.1 y) = (L.filter fun y => (parsL L y).contains x.1).map (·.1) :=
  ksF_eq fun _ hy => (pars_has hf hx hy).symm
variable {H : List Pev.Node} {n m : Nat}
theorem rootsR_is (h : RepP H n m L) (hf : F7 L) : ∃ X, poset_Poset_Roots (some n) [] H = some (rootsL L, H ++ X) := by
  rw [← roots_eq hf]; exact rootsP_is h hf
theorem parentsR_is (h : RepP H n m L) (hf : F7 L) (id : Int) : ∃ X, poset_Poset_Parents (some n) id [] H = some ((parP L id).1, (parP L id).2, H ++ X) := by
  obtain ⟨X, hx⟩ := parentsP_is h hf id
  refine ⟨X, hx.trans ?_⟩
  unfold parP
  cases hk : lkF id L with
  | none => rfl
  | some f =>
    have hm : ((id, f) : Item) ∈ L := (lk_mem (β := shFil) hf.so).1 hk
    rw [show (ksF L fun x => justZ L x id) = parsL L (id, f) from pars_eq hf hm]; rfl
theorem childrenR_is (h : RepP H n m L) (hf : F7 L) (id : Int) : ∃ X, poset_Poset_Children (some n) id [] H = some ((chlP L id).1, (chlP L id).2, H ++ X) := by
  obtain ⟨X, hx⟩ := childrenP_is h hf id
  refine ⟨X, hx.trans ?_⟩
  unfold chlP
  cases hk : lkF id L with
  | none => rfl
  | some f =>
    have hm : ((id, f) : Item) ∈ L := (lk_mem (β := shFil) hf.so).1 hk
    rw [show (ksF L fun y => justZ L id y) = (L.filter fun y => (parsL L y).contains id).map (·.1) from chl_eq hf hm]; rfl
end
theorem fsame_self (f : Fil) (hl : f.2.length ≤ 1000000) : ref05_Same f f = some true := by
  unfold ref05_Same ref05_Same_t
  have := foldE_run (bd := ref05_Same_b0) f.2 (by omega) (fun i (_ : Unit) => (Int.ofNat f.2.length, (i : Int), f.1, f.2, f.1, f.2, ())) (fun _ _ => .inl ()) (fun _ => .inr ())
    (fun i hi p g => by
      refine (rn_in hi).trans ((rn_t dge0).trans ((rn_t (dlt hi)).trans ?_))
      rw [getI_lt hi, eqB_self shBound _ rfl]
      refine (rn_f rfl).trans ?_
      rw [wsucc (by omega)]; rfl)
    (fun s g => rn_out.trans rfl) ()
  rw [foldE_fold (fun _ _ => ()) (fun _ _ => rfl)] at this
  exact (fn_f (by cases f.1 <;> rfl)).trans ((fn_f (by simp)).trans ((fn_o this).trans rfl))
abbrev O7 := Int × Int × Fil
/-- A call's list lies in memory, its number is one of the machine's. -/
def sz7 (o : O7) : Prop := o.2.2.2.length * 72 ≤ 140737488355328 ∧ okZ o.2.1 = true
theorem few_addP (L : Items) (id : Int) (f : Fil) : few8 (addP L id f).2 := by
  have := few_ckF f
  unfold addP
  cases h : ckF f with
  | some x => rw [h] at this; exact this
  | none =>
    simp only
    split
    · exact few_eN 9
    · split
      · exact few_eN 11
      · exact few_none
theorem few_remP (L : Items) (id : Int) : few8 (remP L id).2 := by
  unfold remP
  cases lkF id L with
  | none => exact few_eN 10
  | some f => exact few_none
theorem few_getP (L : Items) (id : Int) : few8 (getP L id).2 := by
  unfold getP
  cases lkF id L with
  | none => exact few_eN 10
  | some f => exact few_none
theorem few_parP (L : Items) (id : Int) : few8 (parP L id).2 := by
  unfold parP
  cases lkF id L with
  | none => exact few_eN 10
  | some f => exact few_none
theorem few_chlP (L : Items) (id : Int) : few8 (chlP L id).2 := by
  unfold chlP
  cases lkF id L with
  | none => exact few_eN 10
  | some f => exact few_none
theorem few_covP (L : Items) (f : Fil) : few8 (covP L f).2 := by
  have := few_ckF f
  unfold covP
  cases h : ckF f with
  | some x => rw [h] at this; exact this
  | none => exact few_none
theorem parsL_len (L : Items) (y : Item) : (parsL L y).length ≤ L.length := by
  unfold parsL
  rw [List.length_map]
  exact Nat.le_trans (List.length_filter_le _ _) (List.length_filter_le _ _)
theorem parP_len (L : Items) (id : Int) : (parP L id).1.length ≤ L.length := by
  unfold parP
  cases lkF id L with
  | none => exact Nat.zero_le _
  | some f => exact parsL_len _ _
theorem chlP_len (L : Items) (id : Int) : (chlP L id).1.length ≤ L.length := by
  unfold chlP
  cases lkF id L with
  | none => exact Nat.zero_le _
  | some f =>
    show (List.map _ _).length ≤ _
    rw [List.length_map]; exact List.length_filter_le _ _
theorem rootsL_len (L : Items) : (rootsL L).length ≤ L.length := by
  unfold rootsL
  rw [List.length_map]; exact List.length_filter_le _ _
theorem getP_len {L : Items} (hf : F7 L) (id : Int) : (getP L id).1.2.length ≤ 1000000 := by
  unfold getP
  cases hk : lkF id L with
  | none => exact Nat.zero_le _
  | some f => exact hf.few _ ((lk_mem (β := shFil) hf.so).1 hk)
section
variable {H : List Pev.Node} {n m : Nat} {L : Items}
theorem ask_is (h : RepP H n m L) (hf : F7 L) (o : O7) (hsz : o.2.2.2.length * 72 ≤ 140737488355328) : ∃ X, law07_ask (some n) L o [] H = some (true, H ++ X) := by
  have hle := hf.le
  have h6 : L.length ≤ 1000000 := by omega
  obtain ⟨X1, w1⟩ := allR_is h hf
  have r1 := h.app X1
  obtain ⟨X2, w2⟩ := rootsR_is r1 hf
  have r2 := r1.app X2
  obtain ⟨X3, w3⟩ := parentsR_is r2 hf o.2.1
  have r3 := r2.app X3
  obtain ⟨X4, w4⟩ := childrenR_is r3 hf o.2.1
  have r4 := r3.app X4
  refine ⟨X1 ++ X2 ++ X3 ++ X4, ?_⟩
  unfold law07_ask law07_ask_t
  refine (fn_o (getP_is h hf o.2.1)).trans ((fn_o (rget_is L o.2.1 h6)).trans ((fn_o (fsame_self _ (getP_len hf _))).trans ((fn_f rfl).trans ((fn_o (fails_is (few_getP L _))).trans ((fn_f rfl).trans ?_)))))
  refine (fn_o w1).trans ((fn_o (rall_is L h6)).trans ((fn_o (ints_self _ (by rw [List.length_map]; omega))).trans ((fn_f rfl).trans ?_)))
  refine (fn_o w2).trans ((fn_o (roots_is L h6 hf.few)).trans ((fn_o (ints_self (rootsL L) (by have := rootsL_len L; omega))).trans ((fn_f rfl).trans ?_)))
  refine (fn_o w3).trans ((fn_o (rparents_is L o.2.1 h6 hf.few)).trans ((fn_o (ints_self (parP L o.2.1).1 (by have := parP_len L o.2.1; omega))).trans ((fn_f rfl).trans ((fn_o (fails_is (few_parP L _))).trans ((fn_f rfl).trans ?_)))))
  refine (fn_o w4).trans ((fn_o (rchildren_is L o.2.1 h6 hf.few)).trans ((fn_o (ints_self (chlP L o.2.1).1 (by have := chlP_len L o.2.1; omega))).trans ((fn_f rfl).trans ((fn_o (fails_is (few_chlP L _))).trans ((fn_f rfl).trans ?_)))))
  refine (fn_o (ftwin_is _ hsz)).trans ((fn_o (coveredP_is r4 hf o.2.2)).trans ((fn_o (rcovered_is L o.2.2 h6 hf.few)).trans ((fn_t (by simp)).trans ((fn_o (fails_is (few_covP L _))).trans ?_))))
  rw [List.append_assoc, List.append_assoc, List.append_assoc, List.append_assoc]
  simp only [List.append_assoc]
  rfl
end
theorem F7.add {L : Items} (h : F7 L) {id : Int} (f : Fil) (hid : okZ id = true) : F7 (addP L id f).1 := by
  refine ⟨h.toFine.add id f, fun p hp => ?_⟩
  have hso := h.so
  unfold addP at hp
  cases hc : ckF f with
  | some e => rw [hc] at hp; exact h.ids p hp
  | none =>
    rw [hc] at hp
    simp only at hp
    split at hp
    · exact h.ids p hp
    · split at hp
      · exact h.ids p hp
      · have h1 : lkF p.1 (putL (.int .i64) shFil id f L) = some p.2 := (lk_mem (β := shFil) (so_put hso)).2 hp
        rw [show lkF p.1 (putL (.int .i64) shFil id f L) = if p.1 = id then some f else lkF p.1 L from lk_put hso] at h1
        by_cases hpi : p.1 = id
        · rw [hpi]; exact hid
        · rw [if_neg hpi] at h1
          exact h.ids p ((lk_mem (β := shFil) hso).1 h1)
theorem F7.rem {L : Items} (h : F7 L) (id : Int) : F7 (remP L id).1 := by
  refine ⟨h.toFine.rem id, fun p hp => ?_⟩
  unfold remP at hp
  cases hk : lkF id L with
  | none => rw [hk] at hp; exact h.ids p hp
  | some f =>
    rw [hk] at hp
    exact h.ids p ((delL_sub (k := .int .i64) (v := shFil) id L).subset hp)
theorem play_loop {n m : Nat} (all : Bool) (ops : List O7) (hops : ops.length ≤ 200) (hsz : ∀ o ∈ ops, sz7 o) : ∀ (fu i : Nat) (H : List Pev.Node) (L : Items), i ≤ ops.length → ops.length - i < fu → RepP H n m L → F7 L →
    ∃ K L', LT.loop law07_play_b0 fu (all, some n, L, ops, Int.ofNat ops.length, (i : Int), [], H, ()) = some (.inr (some n, L', [], K, ())) ∧ RepP K n m L' ∧ F7 L' ∧ Ext7 H K m
  | 0, _, _, _, _, h, _, _ => by omega
  | fu + 1, i, H, L, h1, h2, h, hf => by
    rw [LT.loop_succ]
    by_cases hi : i < ops.length
    · have hw : IntKind.i64.wrap ((i : Int) + 1) = ((i + 1 : Nat) : Int) := wsucc (by omega)
      obtain ⟨s1, s2⟩ := hsz ops[i] (List.getElem_mem hi)
      have hle := hf.le
      by_cases k0 : ops[i].1 = 0
      · obtain ⟨K1, w1, r1, x1⟩ := insP_is h ops[i].2.1 ops[i].2.2
        obtain ⟨K, L', v1, v2, v3, v4⟩ := play_loop all ops hops hsz fu (i + 1) K1 _ (by omega) (by omega) r1 (hf.add _ s2)
        refine ⟨K, L', ?_, v2, v3, x1.trans v4⟩
        refine (rn_in hi).trans ?_
        rw [getI_lt hi, hw]
        exact (rn_t (by rw [k0]; rfl)).trans ((rn_o (insert_is L _ _ (by omega))).trans ((rn_o (ftwin_is _ s1)).trans ((rn_o w1).trans ((rn_o (fails_is (few_addP L _ _))).trans ((rn_f rfl).trans v1)))))
      · by_cases k1 : ops[i].1 = 1
        · obtain ⟨K1, w1, r1, x1⟩ := remP_is h ops[i].2.1
          obtain ⟨K, L', v1, v2, v3, v4⟩ := play_loop all ops hops hsz fu (i + 1) K1 _ (by omega) (by omega) r1 (hf.rem _)
          refine ⟨K, L', ?_, v2, v3, x1.trans v4⟩
          refine (rn_in hi).trans ?_
          rw [getI_lt hi, hw]
          exact (rn_f (by rw [k1]; rfl)).trans ((rn_t (by rw [k1]; rfl)).trans ((rn_o (remove_is L _ hf.so (by omega))).trans ((rn_o w1).trans ((rn_o (fails_is (few_remP L _))).trans ((rn_f rfl).trans v1)))))
        · cases all with
          | false =>
            obtain ⟨K, L', v1, v2, v3, v4⟩ := play_loop false ops hops hsz fu (i + 1) H L (by omega) (by omega) h hf
            refine ⟨K, L', ?_, v2, v3, v4⟩
            refine (rn_in hi).trans ?_
            rw [getI_lt hi, hw]
            exact (rn_f (by simp [k0])).trans ((rn_f (by simp [k1])).trans ((rn_f rfl).trans v1))
          | true =>
            obtain ⟨X, w1⟩ := ask_is h hf ops[i] s1
            obtain ⟨K, L', v1, v2, v3, v4⟩ := play_loop true ops hops hsz fu (i + 1) (H ++ X) L (by omega) (by omega) (h.app X) hf
            refine ⟨K, L', ?_, v2, v3, (Ext7.app H X m).trans v4⟩
            refine (rn_in hi).trans ?_
            rw [getI_lt hi, hw]
            exact (rn_f (by simp [k0])).trans ((rn_f (by simp [k1])).trans ((rn_t rfl).trans ((rn_o w1).trans ((rn_f rfl).trans v1))))
    · have : i = ops.length := by omega
      subst this
      exact ⟨H, L, rn_out.trans rfl, h, hf, Ext7.refl _ _⟩
theorem play_is (H : List Pev.Node) (all : Bool) (ops : List O7) (hops : ops.length ≤ 200) (hsz : ∀ o ∈ ops, sz7 o) :
    ∃ K n m L, law07_play ops all [] H = some (some n, L, true, K) ∧ RepP K n m L ∧ F7 L := by
  obtain ⟨_, r0⟩ := newP_is H
  obtain ⟨K, L, w1, w2, w3, w4⟩ := play_loop all ops hops hsz FUEL 0 _ [] (Nat.zero_le _) (by rw [fuel_is]; omega) r0 .nil
  refine ⟨K, H.length + 1, H.length, L, ?_, w2, w3⟩
  have l1 : (H ++ [ndM []]).length = H.length + 1 := by simp
  unfold law07_play law07_play_t
  rw [l1]
  exact (fn_o w1).trans rfl
/-! ### awake -/
def T5 : List ByteArray := [ByteArray.mk #[97, 32, 105, 115, 32, 105, 110, 116], ByteArray.mk #[97, 32, 62, 61, 32, 49], ByteArray.mk #[97, 32, 61, 32, 53], ByteArray.mk #[98, 32, 61, 32, 116, 114, 117, 101], ByteArray.mk #[97, 32, 61, 32, 53]]
noncomputable def fil5 (i : Nat) : Fil := (law07_read (getI T5 (i : Int) (ByteArray.mk #[]))).getD (false, [])
theorem read0 : law07_read (getI T5 ((0 : Nat) : Int) (ByteArray.mk #[])) = some (fil5 0) := by kernel_rfl
theorem read1 : law07_read (getI T5 ((1 : Nat) : Int) (ByteArray.mk #[])) = some (fil5 1) := by kernel_rfl
theorem read2 : law07_read (getI T5 ((2 : Nat) : Int) (ByteArray.mk #[])) = some (fil5 2) := by kernel_rfl
theorem read3 : law07_read (getI T5 ((3 : Nat) : Int) (ByteArray.mk #[])) = some (fil5 3) := by kernel_rfl
theorem read4 : law07_read (getI T5 ((4 : Nat) : Int) (ByteArray.mk #[])) = some (fil5 4) := by kernel_rfl
noncomputable def its5 (k : Nat) : Items := (List.range k).map fun (i : Nat) => (((i + 1 : Nat) : Int), fil5 i)
theorem addp0 : addP [] ((0 + 1 : Nat) : Int) (fil5 0) = (its5 1, none) := by kernel_rfl
theorem addp1 : addP (its5 1) ((1 + 1 : Nat) : Int) (fil5 1) = (its5 2, none) := by kernel_rfl
theorem addp2 : addP (its5 2) ((2 + 1 : Nat) : Int) (fil5 2) = (its5 3, none) := by kernel_rfl
theorem addp3 : addP (its5 3) ((3 + 1 : Nat) : Int) (fil5 3) = (its5 4, none) := by kernel_rfl
theorem addp4 : addP (its5 4) ((4 + 1 : Nat) : Int) (fil5 4) = (its5 5, none) := by kernel_rfl
theorem roots5 : rootsL (its5 5) = [1, 4] := by kernel_rfl
theorem par5 : parP (its5 5) 5 = ([3], none) := by kernel_rfl
theorem awake_step {fu i : Nat} {H : List Pev.Node} {n m : Nat} {L : Items} (h : RepP H n m L) (hf : F7 L) (hi : i < 5) {L' : Items} (hr : law07_read (getI T5 (i : Int) (ByteArray.mk #[])) = some (fil5 i)) (ha : addP L ((i + 1 : Nat) : Int) (fil5 i) = (L', none)) :
    ∃ K, LT.loop law07_awake_b0 (fu + 1) (some n, 5, (i : Int), T5, [], H, ()) = LT.loop law07_awake_b0 fu (some n, 5, ((i + 1 : Nat) : Int), T5, [], K, ()) ∧ RepP K n m L' ∧ F7 L' := by
  obtain ⟨K, w1, w2, _⟩ := insP_is h ((i + 1 : Nat) : Int) (fil5 i)
  have hf2 := hf.add (id := ((i + 1 : Nat) : Int)) (fil5 i) (by
    unfold okZ
    rw [Bool.and_eq_true]
    exact ⟨decide_eq_true (by omega), decide_eq_true (by omega)⟩)
  rw [ha] at w1 w2 hf2
  refine ⟨K, ?_, w2, hf2⟩
  have hl : T5.length = 5 := rfl
  rw [LT.loop_succ]
  refine (rn_t (decide_eq_true (by omega))).trans ((rn_t dge0).trans ((rn_t (decide_eq_true (by rw [hl]; simp only [Int.ofNat_eq_natCast]; omega))).trans ((rn_t dge0).trans ((rn_t (decide_eq_true (by rw [hl]; simp only [Int.ofNat_eq_natCast]; omega))).trans ((rn_o hr).trans ?_)))))
  rw [wsucc (by omega)]
  exact (rn_o w1).trans ((rn_f rfl).trans rfl)
theorem awake_is : ∃ K, law07_awake [] [] = some (true, K) := by
  obtain ⟨_, r0⟩ := newP_is []
  obtain ⟨K1, a1, b1, c1⟩ := awake_step (fu := FUEL - 1) r0 .nil (i := 0) (by omega) read0 addp0
  obtain ⟨K2, a2, b2, c2⟩ := awake_step (fu := FUEL - 2) b1 c1 (i := 1) (by omega) read1 addp1
  obtain ⟨K3, a3, b3, c3⟩ := awake_step (fu := FUEL - 3) b2 c2 (i := 2) (by omega) read2 addp2
  obtain ⟨K4, a4, b4, c4⟩ := awake_step (fu := FUEL - 4) b3 c3 (i := 3) (by omega) read3 addp3
  obtain ⟨K5, a5, b5, c5⟩ := awake_step (fu := FUEL - 5) b4 c4 (i := 4) (by omega) read4 addp4
  have f1 : FUEL - 1 + 1 = FUEL := by rw [fuel_is]
  have f2 : FUEL - 2 + 1 = FUEL - 1 := by rw [fuel_is]
  have f3 : FUEL - 3 + 1 = FUEL - 2 := by rw [fuel_is]
  have f4 : FUEL - 4 + 1 = FUEL - 3 := by rw [fuel_is]
  have f5 : FUEL - 5 + 1 = FUEL - 4 := by rw [fuel_is]
  have f6 : FUEL - 5 = (FUEL - 6) + 1 := by rw [fuel_is]
  rw [f1] at a1
  rw [f2] at a2
  rw [f3] at a3
  rw [f4] at a4
  rw [f5] at a5
  obtain ⟨X1, w1⟩ := parentsR_is b5 c5 5
  obtain ⟨X2, w2⟩ := rootsR_is (b5.app X1) c5
  rw [par5] at w1
  rw [roots5] at w2
  refine ⟨K5 ++ X1 ++ X2, ?_⟩
  have last : LT.loop law07_awake_b0 (FUEL - 5) (some (([] : List Pev.Node).length + 1), 5, ((4 + 1 : Nat) : Int), T5, [], K5, ()) = some (.inr (some (([] : List Pev.Node).length + 1), [], K5, ())) := by
    rw [f6, LT.loop_succ]
    exact (rn_f rfl).trans rfl
  have lp : law07_awake_l0 (some (([] : List Pev.Node).length + 1), 5, ((0 : Nat) : Int), T5, [], ([] : List Pev.Node) ++ [ndM []] ++ [ndP ([] : List Pev.Node).length], ()) = some (.inr (some (([] : List Pev.Node).length + 1), [], K5, ())) := by
    unfold law07_awake_l0
    exact a1.trans (a2.trans (a3.trans (a4.trans (a5.trans last))))
  unfold law07_awake law07_awake_t
  refine (fn_o lp).trans ?_
  exact (fn_o w1).trans ((fn_o w2).trans ((fn_o (ints_self [1, 4] (by decide))).trans ((fn_t rfl).trans ((fn_o (ints_self [3] (by decide))).trans ((fn_t rfl).trans rfl)))))
theorem posetNone_law (x0 : Int) (x1 : Fil) : ∃ H, law07_PosetNone x0 x1 [] [] = some (true, H) := by
  obtain ⟨K, h⟩ := awake_is
  refine ⟨K, ?_⟩
  unfold law07_PosetNone law07_PosetNone_t
  exact (fn_o h).trans ((fn_f rfl).trans rfl)
theorem wz1 (l : List O7) : wzS Tryz.prog 8 22 (.sl shOp7) l = (l.length * Tryz.prog.bytesOf 33 ≤ reachBytes ∧ ∀ x ∈ l, wzS Tryz.prog 7 33 shOp7 x) := by kernel_rfl
theorem wz2 (x : O7) : wzS Tryz.prog 7 33 shOp7 x = (wzS Tryz.prog 6 3 (.int .i64) x.1 ∧ wzS Tryz.prog 6 3 (.int .i64) x.2.1 ∧ wzS Tryz.prog 6 31 shFil x.2.2) := by kernel_rfl
theorem wz3 (f : Fil) : wzS Tryz.prog 6 31 shFil f = (wzS Tryz.prog 5 4 .bool f.1 ∧ wzS Tryz.prog 5 29 (.sl shBound) f.2) := by kernel_rfl
theorem wz4 (l : List Bd) : wzS Tryz.prog 5 29 (.sl shBound) l = (l.length * 72 ≤ reachBytes ∧ ∀ x ∈ l, wzS Tryz.prog 4 64 shBound x) := by kernel_rfl
theorem sz_ops {l : List O7} (h : wzS Tryz.prog 8 22 (.sl shOp7) l) (hw : wfS (.sl shOp7) l) : ∀ o ∈ l, sz7 o := fun o ho => by
  rw [wz1] at h
  have h1 := h.2 o ho
  rw [wz2, wz3, wz4] at h1
  have hr : reachBytes ≤ 140737488355328 := by decide
  have h2 : (Lit.int .i64 o.2.1).wf = true := (hw.2 o ho).2.1
  have h3 : (decide (IntKind.i64.min ≤ o.2.1) && decide (o.2.1 ≤ IntKind.i64.max)) = true := h2
  exact ⟨Nat.le_trans h1.2.2.2.1 hr, h3⟩
theorem posetRuns_law (x0 : List O7) (w0 : wfS (.sl shOp7) x0) (z0 : wzS Tryz.prog 8 22 (.sl shOp7) x0) : ∃ H, law07_PosetRuns x0 [] [] = some (true, H) := by
  obtain ⟨K, h⟩ := awake_is
  unfold law07_PosetRuns law07_PosetRuns_t
  by_cases hl : x0.length > 40
  · exact ⟨K, (fn_o h).trans ((fn_f rfl).trans ((fn_t (decide_eq_true (by simp only [Int.ofNat_eq_natCast]; omega))).trans rfl))⟩
  · obtain ⟨K1, n, m, L, w1, w2, w3⟩ := play_is K true x0 (by omega) (sz_ops z0 w0)
    obtain ⟨X, w4⟩ := ask_is w2 w3 (0, 0, false, []) (Nat.zero_le _)
    exact ⟨K1 ++ X, (fn_o h).trans ((fn_f rfl).trans ((fn_f (decide_eq_false (by simp only [Int.ofNat_eq_natCast]; omega))).trans ((fn_o w1).trans ((fn_t rfl).trans ((fn_o w4).trans rfl)))))⟩
end Go.Proofs.YtmpgilieeegnhaaGreatDoor
