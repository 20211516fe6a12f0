/- Chapter 7, plain: PosetKeeps. -/
import Derived.Test.YtmpgilieeegnhaaGreatDoorKi
import Derived.Test.YtmpgilieeegnhaaGreatDoorGg
set_option maxRecDepth 100000
namespace Go.Proofs.YtmpgilieeegnhaaGreatDoor
open Go Go.Pev
theorem cloneR_eq (l : List Bd) (hl : l.length ≤ 1000) : cloneR l = some (l, l) := by
  unfold cloneR cloneR_t
  cases l with
  | nil => exact LT.fin_rel _ _ _ ⟨by simp, fun b _ => by cases b <;> rfl⟩
  | cons a l =>
    show relR (anyW [false]) _ = _
    rw [relR_one]
    exact (fn_f rfl).trans ((fn_t (appLim_ok (by simp at hl ⊢; omega))).trans rfl)
theorem copyR_is (f : Fil) (hl : f.2.length ≤ 1000) : copyR f = some (f, f.2) := by
  unfold copyR copyR_t
  exact (fn_o (cloneR_eq f.2 hl)).trans rfl
theorem cloneN_is (l : List Bd) (hl : l.length ≤ 1000) (H : List Pev.Node) : cloneN l [] H = some (l, H) := by
  unfold cloneN cloneN_t
  cases l with
  | nil => exact LT.fin_rel _ _ _ ⟨by simp, fun b _ => by cases b <;> rfl⟩
  | cons a l =>
    show relR (anyW [false]) _ = _
    rw [relR_one]
    exact (fn_f rfl).trans ((fn_t (appLim_ok (by simp at hl ⊢; omega))).trans rfl)
theorem copyN_is (f : Fil) (hl : f.2.length ≤ 1000) (H : List Pev.Node) : copyN f [] H = some (f, H) := by
  unfold copyN copyN_t
  exact (fn_o (cloneN_is f.2 hl H)).trans rfl
theorem checkR_is (f : Fil) : checkR f = some (ckF f, f.2) := by
  unfold checkR checkR_t ckF
  by_cases h : f.2.length > 16
  · rw [if_pos h]
    exact (fn_t (decide_eq_true (by simp only [Int.ofNat_eq_natCast]; omega))).trans rfl
  · rw [if_neg h]
    refine (fn_f (decide_eq_false (by simp only [Int.ofNat_eq_natCast]; omega))).trans ?_
    have := foldE_run (bd := checkR_b0) f.2 (by omega) (fun i p => (p, Int.ofNat f.2.length, (i : Int), f.1, f.2, ())) (ckStep f.1 (Sum.inl (some ([], 3), f.2, ()))) (fun _ => .inr (f.2, ()))
      (fun i hi p g => by
        refine (rn_in hi).trans ((rn_t dge0).trans ((rn_t (dlt hi)).trans ?_))
        rw [getI_lt hi]
        unfold ckStep
        cases f.1 with
        | true => exact rn_t rfl
        | false =>
          refine (rn_f rfl).trans ((rn_o (Right_is _ _)).trans ?_)
          cases rgtB f.2[i] p with
          | true => rw [wsucc (by omega)]; exact (rn_f rfl).trans rfl
          | false => exact (rn_t rfl).trans rfl)
      (fun p g => rn_out.trans rfl) (ByteArray.mk #[])
    rw [ckStep_all] at this
    refine (fn_o this).trans ?_
    split <;> rfl
section
variable {H : List Pev.Node} {n m : Nat} {L : Items}
theorem insR_is (h : RepP H n m L) (id : Int) (f : Fil) : ∃ K, insertR (some n) id f [] H = some ((addP L id f).2, f.2, K) ∧ RepP K n m (addP L id f).1 ∧ Ext7 H K m := by
  unfold insertR insertR_t addP
  have hck := checkR_is f
  cases hc : ckF f with
  | some e =>
    rw [hc] at hck
    exact ⟨H, (fn_f rfl).trans ((fn_o hck).trans ((fn_t rfl).trans rfl)), h, Ext7.refl _ _⟩
  | none =>
    rw [hc] at hck
    simp only
    by_cases hl : (lkF id L).isSome = true
    · rw [if_pos hl]
      refine ⟨H, ?_, h, Ext7.refl _ _⟩
      exact (fn_f rfl).trans ((fn_o hck).trans ((fn_f rfl).trans ((fn_t rfl).trans ((fn_t rfl).trans ((fn_o (getBox_at h.hn)).trans ((fn_o (getBox_at h.hn)).trans ((fn_t rfl).trans ((fn_o (getMap_at h.hm)).trans ((fn_t hl).trans rfl)))))))))
    · have hl0 : (lkF id L).isSome = false := by simpa using hl
      rw [if_neg hl]
      by_cases hn : L.length ≥ 512
      · rw [if_pos hn]
        refine ⟨H, ?_, h, Ext7.refl _ _⟩
        refine (fn_f rfl).trans ((fn_o hck).trans ((fn_f rfl).trans ((fn_t rfl).trans ((fn_t rfl).trans ((fn_o (getBox_at h.hn)).trans ((fn_o (getBox_at h.hn)).trans ((fn_t rfl).trans ((fn_o (getMap_at h.hm)).trans ((fn_f hl0).trans ?_)))))))))
        exact (fn_t rfl).trans ((fn_t rfl).trans ((fn_o (getBox_at h.hn)).trans ((fn_o (getBox_at h.hn)).trans ((fn_t rfl).trans ((fn_o (getMap_at h.hm)).trans ((fn_t (decide_eq_true (by simp only [Int.ofNat_eq_natCast]; omega))).trans rfl))))))
      · rw [if_neg hn]
        refine ⟨_, ?_, h.set _, Ext7.set _ _ _⟩
        have hf := (ckF_rise hc).2.1
        refine (fn_f rfl).trans ((fn_o hck).trans ((fn_f rfl).trans ((fn_t rfl).trans ((fn_t rfl).trans ((fn_o (getBox_at h.hn)).trans ((fn_o (getBox_at h.hn)).trans ((fn_t rfl).trans ((fn_o (getMap_at h.hm)).trans ((fn_f hl0).trans ?_)))))))))
        refine (fn_t rfl).trans ((fn_t rfl).trans ((fn_o (getBox_at h.hn)).trans ((fn_o (getBox_at h.hn)).trans ((fn_t rfl).trans ((fn_o (getMap_at h.hm)).trans ((fn_f (decide_eq_false (by simp only [Int.ofNat_eq_natCast]; omega))).trans ?_))))))
        exact (fn_t rfl).trans ((fn_t rfl).trans ((fn_o (getBox_at h.hn)).trans ((fn_o (getBox_at h.hn)).trans ((fn_o (copyR_is f (by omega))).trans ((fn_t rfl).trans ((fn_t rfl).trans ((fn_o (getMap_at h.hm)).trans rfl)))))))
theorem getR_is (h : RepP H n m L) (hf : F7 L) (id : Int) : getR (some n) id [] H = some ((getP L id).1, (getP L id).2, H) := by
  unfold getR getR_t getP
  cases hk : lkF id L with
  | none => exact (fn_o (there_none h hk)).trans ((fn_t rfl).trans rfl)
  | some f =>
    have hc : ckF f = none := hf.ok (id, f) ((lk_mem (β := shFil) hf.so).1 hk)
    have h16 := (ckF_rise hc).2.1
    refine (fn_o (there_some h hk)).trans ((fn_f rfl).trans ((fn_t rfl).trans ((fn_t rfl).trans ((fn_o (getBox_at h.hn)).trans ((fn_o (getBox_at h.hn)).trans ((fn_t rfl).trans ((fn_o (getMap_at h.hm)).trans ?_)))))))
    rw [show (lookL (Sh.int IntKind.i64) shFil id L).getD (false, []) = f from by rw [show lookL (Sh.int IntKind.i64) shFil id L = some f from hk]; rfl]
    exact (fn_o (copyN_is f (by omega) H)).trans rfl
theorem twinL_is (f : Fil) (hl : f.2.length ≤ 1000) (H : List Pev.Node) : twinL f [] H = some (f, f.2, H) := by
  unfold twinL twinL_t
  exact (fn_t (appLim_ok (by omega))).trans rfl
theorem spoil0 (p : Option Nat) (l : Items) (e : Err) (b : Bool) (q : List Bd) (k : Bool) (r : List Bd) (rt w1 w2 : List Int) (len : Nat) (hl : len ≤ 100000) : ∀ (fu i : Nat) (all : List Int), all.length = len → i ≤ len → len - i < fu →
    LT.loop keepsR_b0 fu (p, l, e, Int.ofNat len, (i : Int), b, q, k, r, all, rt, w1, w2, [], H, ()) = some (p, l, e, b, q, k, r, rt, w1, w2, [], H, ())
  | 0, _, _, _, _, h => by omega
  | fu + 1, i, all, ha, h1, h2 => by
    rw [LT.loop_succ]
    by_cases hi : i < len
    · refine (rn_t (decide_eq_true (by simp only [Int.ofNat_eq_natCast]; omega))).trans ((rn_t dge0).trans ((rn_t (dlt (by omega))).trans ((rn_t dge0).trans ((rn_t (dlt (by omega))).trans ?_))))
      rw [wsucc (by omega)]
      exact spoil0 p l e b q k r rt w1 w2 len hl fu (i + 1) _ (by rw [List.length_set]; exact ha) (by omega) (by omega)
    · have : i = len := by omega
      subst this
      exact (rn_f (decide_eq_false (by simp only [Int.ofNat_eq_natCast]; omega))).trans rfl
theorem spoil1 (p : Option Nat) (l : Items) (e : Err) (b : Bool) (q : List Bd) (k : Bool) (r : List Bd) (w1 w2 : List Int) (len : Nat) (hl : len ≤ 100000) : ∀ (fu i : Nat) (rt : List Int), rt.length = len → i ≤ len → len - i < fu →
    LT.loop keepsR_b1 fu (p, l, e, Int.ofNat len, (i : Int), b, q, k, r, rt, w1, w2, [], H, ()) = some (p, l, e, b, q, k, r, w1, w2, [], H, ())
  | 0, _, _, _, _, h => by omega
  | fu + 1, i, rt, ha, h1, h2 => by
    rw [LT.loop_succ]
    by_cases hi : i < len
    · refine (rn_t (decide_eq_true (by simp only [Int.ofNat_eq_natCast]; omega))).trans ((rn_t dge0).trans ((rn_t (dlt (by omega))).trans ((rn_t dge0).trans ((rn_t (dlt (by omega))).trans ?_))))
      rw [wsucc (by omega)]
      exact spoil1 p l e b q k r w1 w2 len hl fu (i + 1) _ (by rw [List.length_set]; exact ha) (by omega) (by omega)
    · have : i = len := by omega
      subst this
      exact (rn_f (decide_eq_false (by simp only [Int.ofNat_eq_natCast]; omega))).trans rfl
end
theorem addP_ok {L : Items} {id : Int} {f : Fil} (h : (addP L id f).2 = none) : (addP L id f).1 = putL (.int .i64) shFil id f L ∧ lkF id L = none ∧ L.length < 512 := by
  unfold addP at h ⊢
  cases hc : ckF f with
  | some e => rw [hc] at h; cases h
  | none =>
    rw [hc] at h
    simp only at h ⊢
    by_cases hl : (lkF id L).isSome = true
    · rw [if_pos hl] at h; cases h
    · rw [if_neg hl] at h ⊢
      by_cases hn : L.length ≥ 512
      · rw [if_pos hn] at h; cases h
      · rw [if_neg hn] at h ⊢
        refine ⟨rfl, ?_, by omega⟩
        cases hx : lkF id L with
        | none => rfl
        | some y => rw [hx] at hl; exact absurd rfl hl
theorem addP_no {L : Items} {id : Int} {f : Fil} (hc : ckF f = none) (h : (addP L id f).2.isNone = false) : ¬ L.length ≥ 512 → (L.map (·.1)).contains id = true := by
  intro hn
  unfold addP at h
  rw [hc] at h
  simp only at h
  by_cases hl : (lkF id L).isSome = true
  · rw [List.contains_iff_mem, List.mem_map]
    obtain ⟨f', hf'⟩ := Option.isSome_iff_exists.1 hl
    rw [lkF_find] at hf'
    obtain ⟨p, hp, _⟩ := Option.map_eq_some_iff.1 hf'
    exact ⟨p, List.mem_of_find?_eq_some hp, of_decide_eq_true (List.find?_some (p := fun p : Item => decide (p.1 = id)) hp)⟩
  · rw [if_neg hl, if_neg hn] at h
    cases h
theorem okBig : okZ 1099511627776 = true := by decide
/-- The tree, with the filter that is handed in left open. -/
noncomputable def keepsT (zf : Fil) (p0 : (List Op7)) (lk : (List Nat)) (H : (List Pev.Node)) : FT (Bool × (List Pev.Node)) := (.opt (law07_awake (itLocks [] ++ lk) H) fun x40 => (.br (!x40.fst) (.ret ((false, x40.snd))) (.br (decide (Int.ofNat p0.length > 40)) (.ret ((true, x40.snd))) (.opt (law07_play p0 false (itLocks [] ++ lk) x40.snd) fun x41 => (.br (!x41.snd.snd.fst) (.ret ((false, x41.snd.snd.snd))) (.opt (insertR x41.fst 1099511627776 zf (itLocks [] ++ lk) x41.snd.snd.snd) fun x42 => (.br (!Option.isNone x42.fst) (.br (decide (Int.ofNat (List.length x41.snd.fst) ≥ 512)) (.ret ((true, x42.snd.snd))) (.opt (ref07_All x41.snd.fst) fun x43 => (.opt (ref01_Has x43 1099511627776) fun x44 => (.ret ((x44, x42.snd.snd)))))) (.br (decide (0 < Int.ofNat (List.length x42.snd.fst))) (.br (decide (0 < Int.ofNat (List.length x42.snd.fst))) (.opt (getR x41.fst 1099511627776 (itLocks [] ++ lk) x42.snd.snd) fun x45 => (.opt (twinL x45.fst (itLocks [] ++ lk) x45.snd.snd) fun x46 => (.br (decide (0 < Int.ofNat (List.length x46.snd.fst))) (.br (decide (0 < Int.ofNat (List.length x46.snd.fst))) (.opt (getR x41.fst 1099511627776 (itLocks [] ++ lk) x46.snd.snd) fun x47 => (.opt (allR x41.fst (itLocks [] ++ lk) x47.snd.snd) fun x48 => (.opt (poset_Poset_Roots x41.fst (itLocks [] ++ lk) x48.snd) fun x49 => (.br (appLim 8 0 (List.length x48.fst)) (.br (appLim 8 0 (List.length x49.fst)) (.opt (keepsR_l0 (x41.fst, x41.snd.fst, x45.snd.fst, Int.ofNat (List.length x48.fst), 0, x46.fst.fst, x46.fst.snd, x47.fst.fst, x47.fst.snd, x48.fst, x49.fst, [] ++ x48.fst, [] ++ x49.fst, lk, x49.snd, ())) fun x50 => (.opt (keepsR_l1 (x50.fst, x50.snd.fst, x50.snd.snd.fst, Int.ofNat x50.snd.snd.snd.snd.snd.snd.snd.fst.length, 0, x50.snd.snd.snd.fst, x50.snd.snd.snd.snd.fst, x50.snd.snd.snd.snd.snd.fst, x50.snd.snd.snd.snd.snd.snd.fst, x50.snd.snd.snd.snd.snd.snd.snd.fst, x50.snd.snd.snd.snd.snd.snd.snd.snd.fst, x50.snd.snd.snd.snd.snd.snd.snd.snd.snd.fst, x50.snd.snd.snd.snd.snd.snd.snd.snd.snd.snd.fst, x50.snd.snd.snd.snd.snd.snd.snd.snd.snd.snd.snd.fst, ())) fun x51 => (.br (Option.isNone x51.snd.snd.fst) (.opt (ref05_Same (x51.snd.snd.snd.fst, x51.snd.snd.snd.snd.fst) zf) fun x52 => (.br x52 (.opt (ref05_Same (x51.snd.snd.snd.snd.snd.fst, x51.snd.snd.snd.snd.snd.snd.fst) (x51.snd.snd.snd.fst, x51.snd.snd.snd.snd.fst)) fun x53 => (.br x53 (.br (Int.ofNat x51.snd.snd.snd.snd.snd.snd.snd.fst.length == IntKind.i64.wrap (Int.ofNat (List.length x51.snd.fst) + 1)) (.opt (allR x51.fst (itLocks [] ++ x51.snd.snd.snd.snd.snd.snd.snd.snd.snd.fst) x51.snd.snd.snd.snd.snd.snd.snd.snd.snd.snd.fst) fun x54 => (.opt (ref01_Ints x54.fst x51.snd.snd.snd.snd.snd.snd.snd.fst) fun x55 => (.br x55 (.opt (poset_Poset_Roots x51.fst (itLocks [] ++ x51.snd.snd.snd.snd.snd.snd.snd.snd.snd.fst) x54.snd) fun x56 => (.opt (ref01_Ints x56.fst x51.snd.snd.snd.snd.snd.snd.snd.snd.fst) fun x57 => (.ret ((x57, x56.snd))))) (.ret ((false, x54.snd)))))) (.ret ((false, x51.snd.snd.snd.snd.snd.snd.snd.snd.snd.snd.fst)))) (.ret ((false, x51.snd.snd.snd.snd.snd.snd.snd.snd.snd.snd.fst))))) (.ret ((false, x51.snd.snd.snd.snd.snd.snd.snd.snd.snd.snd.fst))))) (.ret ((false, x51.snd.snd.snd.snd.snd.snd.snd.snd.snd.snd.fst)))))) .fail) .fail)))) .fail) .fail))) .fail) .fail))))))))
def zF : Fil := (false, [(ByteArray.mk #[122], 1, 1, 1, false, ByteArray.mk #[], false, false)])
theorem keepsT_eq (x0 : List O7) : keepsR_t x0 [] [] = keepsT zF x0 [] [] := by kernel_rfl
theorem zF_ok : ckF zF = none := by kernel_rfl
theorem posetKeeps_law (x0 : List O7) (w0 : wfS (.sl shOp7) x0) (z0 : wzS Tryz.prog 8 22 (.sl shOp7) x0) : ∃ H, keepsR x0 [] [] = some (true, H) := by
  obtain ⟨K, h⟩ := awake_is
  unfold keepsR
  rw [keepsT_eq]
  unfold keepsT
  by_cases hl : x0.length > 40
  · exact ⟨K, (fn_o h).trans ((fn_f rfl).trans ((fn_t (decide_eq_true (by simp only [Int.ofNat_eq_natCast]; omega))).trans rfl))⟩
  · obtain ⟨K1, n, m, L, w1, w2, w3⟩ := play_is K false x0 (by omega) (sz_ops z0 w0)
    have hle := w3.le
    have head : ∀ {k : FT (Bool × List Pev.Node)} {H : List Pev.Node}, k.fin = some (true, H) → k.fin = some (true, H) := fun h => h
    obtain ⟨K2, v1, v2, _⟩ := insR_is w2 1099511627776 zF
    have hf2 : F7 (addP L 1099511627776 zF).1 := w3.add zF okBig
    cases he : (addP L 1099511627776 zF).2.isNone with
    | false =>
      have hno := addP_no zF_ok he
      refine ⟨K2, (fn_o h).trans ((fn_f rfl).trans ((fn_f (decide_eq_false (by simp only [Int.ofNat_eq_natCast]; omega))).trans ((fn_o w1).trans ((fn_f rfl).trans ((fn_o v1).trans ((fn_t (by show (!(addP L 1099511627776 zF).2.isNone) = true; rw [he]; rfl)).trans ?_))))))⟩
      by_cases hn : L.length ≥ 512
      · exact (fn_t (decide_eq_true (by simp only [Int.ofNat_eq_natCast]; omega))).trans rfl
      · refine (fn_f (decide_eq_false (by simp only [Int.ofNat_eq_natCast]; omega))).trans ((fn_o (rall_is L (by omega))).trans ((fn_o (hasZ_is _ 1099511627776 (by rw [List.length_map]; omega))).trans ?_))
        rw [hno hn]; rfl
    | true =>
      have he' : (addP L 1099511627776 zF).2 = none := Option.isNone_iff_eq_none.1 he
      obtain ⟨q1, q2, q3⟩ := addP_ok he'
      have hl2 : (addP L 1099511627776 zF).1.length = L.length + 1 := by rw [q1]; exact put_len w3.so q2
      have hlk : lkF 1099511627776 (addP L 1099511627776 zF).1 = some zF := by
        rw [q1]
        have e : lkF 1099511627776 (putL (.int .i64) shFil 1099511627776 zF L) = if (1099511627776 : Int) = 1099511627776 then some zF else lkF 1099511627776 L := lk_put w3.so
        rw [e, if_pos rfl]
      generalize (addP L 1099511627776 zF).1 = L' at v2 hf2 hl2 hlk
      have hget : getP L' 1099511627776 = (zF, none) := by unfold getP; rw [hlk]
      have g1 := getR_is v2 hf2 1099511627776
      rw [hget] at g1
      have hle2 := hf2.le
      obtain ⟨X1, a1⟩ := allR_is v2 hf2
      obtain ⟨X2, a2⟩ := rootsR_is (v2.app X1) hf2
      have v3 := (v2.app X1).app X2
      obtain ⟨X3, a3⟩ := allR_is v3 hf2
      obtain ⟨X4, a4⟩ := rootsR_is (v3.app X3) hf2
      have hml : (L'.map (·.1)).length ≤ 1000 := by rw [List.length_map]; omega
      have hrl : (rootsL L').length ≤ 1000 := by have := rootsL_len L'; omega
      have s0 := spoil0 (H := K2 ++ X1 ++ X2) (some n) L none zF.1 zF.2 zF.1 zF.2 (rootsL L') ([] ++ L'.map (·.1)) ([] ++ rootsL L') (L'.map (·.1)).length (by omega) FUEL 0 (L'.map (·.1)) rfl (Nat.zero_le _) (by rw [fuel_is]; omega)
      have s1 := spoil1 (H := K2 ++ X1 ++ X2) (some n) L none zF.1 zF.2 zF.1 zF.2 ([] ++ L'.map (·.1)) ([] ++ rootsL L') (rootsL L').length (by omega) FUEL 0 (rootsL L') rfl (Nat.zero_le _) (by rw [fuel_is]; omega)
      refine ⟨K2 ++ X1 ++ X2 ++ X3 ++ X4, (fn_o h).trans ((fn_f rfl).trans ((fn_f (decide_eq_false (by simp only [Int.ofNat_eq_natCast]; omega))).trans ((fn_o w1).trans ((fn_f rfl).trans ((fn_o v1).trans ((fn_f (by show (!(addP L 1099511627776 zF).2.isNone) = false; rw [he]; rfl)).trans ?_))))))⟩
      refine (fn_t rfl).trans ((fn_t rfl).trans ((fn_o g1).trans ((fn_o (twinL_is zF (by decide) K2)).trans ((fn_t rfl).trans ((fn_t rfl).trans ((fn_o g1).trans ((fn_o a1).trans ((fn_o a2).trans ?_))))))))
      refine (fn_t (appLim_ok (by dsimp only; omega))).trans ((fn_t (appLim_ok (by dsimp only; omega))).trans ((fn_o (show keepsR_l0 _ = _ from s0)).trans ((fn_o (show keepsR_l1 _ = _ from s1)).trans ((fn_t rfl).trans ?_))))
      refine (fn_o (fsame_self zF (by decide))).trans ((fn_t rfl).trans ((fn_o (fsame_self zF (by decide))).trans ((fn_t rfl).trans ((fn_t ?_).trans ?_))))
      · dsimp only
        simp only [Int.ofNat_eq_natCast, List.nil_append, List.length_map]
        rw [i64_wrap _ (by omega) (by omega), hl2]
        simp
      · refine (fn_o a3).trans ?_
        refine (fn_o (ints_self (L'.map (·.1)) (by omega))).trans ?_
        refine (fn_t rfl).trans ?_
        refine (fn_o a4).trans ?_
        exact (fn_o (ints_self (rootsL L') (by omega))).trans rfl
end Go.Proofs.YtmpgilieeegnhaaGreatDoor
