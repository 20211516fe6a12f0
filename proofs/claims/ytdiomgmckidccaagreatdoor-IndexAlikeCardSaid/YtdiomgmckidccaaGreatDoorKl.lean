/- Chapter 8, plain: Add of a filter whose bounds are lent. -/
import Derived.Test.YtdiomgmckidccaaGreatDoorKk
import Derived.Test.YtdiomgmckidccaaGreatDoorGx
set_option maxRecDepth 100000
namespace Go.Proofs.YtdiomgmckidccaaGreatDoor
open Go Go.Pev
theorem cloneR_is (l : List Bd) (hl : l.length ≤ 1000) : cloneR l = some (l, l) := by
  unfold cloneR cloneR_t
  cases l with
  | nil => exact LT.fin_rel _ _ _ ⟨by simp, fun b _ => by cases b <;> rfl⟩
  | cons a l =>
    show relR (anyW [false]) _ = _
    rw [relR_one]
    exact (fn_f rfl).trans ((fn_t (appLim_ok (by omega))).trans rfl)
theorem copyR_is (f : Fil) (hl : f.2.length ≤ 1000) : copyR f = some (f, f.2) := by
  unfold copyR copyR_t
  exact (fn_o (cloneR_is f.2 hl)).trans rfl
theorem twinR_is (f : Fil) (hl : f.2.length ≤ 1000) (H : List Pev.Node) : twinR f [] H = some (f, H) := by
  unfold twinR twinR_t
  exact (fn_t (appLim_ok (by omega))).trans rfl
theorem checkR_is (f : Fil) : checkR f = some (ckF f, f.2) := by
  unfold checkR checkR_t ckF
  by_cases h : f.2.length > 16
  · rw [if_pos h]
    exact (fn_t (decide_eq_true (by simp only [Int.ofNat_eq_natCast]; omega))).trans rfl
  · rw [if_neg h]
    refine (fn_f (decide_eq_false (by simp only [Int.ofNat_eq_natCast]; omega))).trans ?_
    have := foldE_run (bd := checkR_b0) f.2 (by omega) (fun i p => (p, Int.ofNat f.2.length, (i : Int), f.1, f.2, ())) (ckStep f.1 (Sum.inl (some ([], 3), f.2, ()))) (fun _ => .inr (f.2, ()))
      (fun i hi p g => by
        refine (rn_in hi).trans ((rn_t dge0).trans ((rn_t (dlt hi)).trans ?_))
        rw [getI_lt hi]
        unfold ckStep
        cases f.1 with
        | true => exact rn_t rfl
        | false =>
          refine (rn_f rfl).trans ((rn_o (Right_is _ _)).trans ?_)
          cases rgtB f.2[i] p with
          | true => rw [wsucc (by omega)]; exact (rn_f rfl).trans rfl
          | false => exact (rn_t rfl).trans rfl)
      (fun p g => rn_out.trans rfl) (ByteArray.mk #[])
    rw [ckStep_all] at this
    refine (fn_o this).trans ?_
    split <;> rfl
theorem addR_loop {n a m : Nat} {L : Items} (id : Int) (bs : List Bd) (hb : bs.length ≤ 1000) : ∀ (fu i : Nat) (H : List Pev.Node) (N : NmL) (M : NMs) (own : Nat → Option Ro), i ≤ bs.length → bs.length - i < fu → RepI H n a m L N M own → (∀ s, SoE (M s)) →
    ∃ K N' own', LT.loop addR_b0 fu (some n, id, Int.ofNat bs.length, (i : Int), bs, [], H, ()) = some (bs, [], K, ()) ∧ RepI K n a m L N' (addN id (bs.drop i) M) own' ∧ Ext8 H own K own'
  | 0, _, _, _, _, _, _, h, _, _ => by omega
  | fu + 1, i, H, N, M, own, h1, h2, h, hM => by
    rw [LT.loop_succ]
    by_cases hi : i < bs.length
    · obtain ⟨n1, n2, n3⟩ := h.ne
      have hd : bs.drop i = bs[i] :: bs.drop (i + 1) := List.drop_eq_getElem_cons hi
      have hw : IntKind.i64.wrap ((i : Int) + 1) = ((i + 1 : Nat) : Int) := wsucc (by omega)
      have hput := put_ne (id := id) (b := bs[i]) (hM bs[i].1)
      have hM' : ∀ s, SoE (setN M bs[i].1 (putL (.int .i64) shBound id bs[i] (M bs[i].1)) s) := setN_so hM (so_put (hM _))
      have hmlt : m < H.length := h.lt m (by rw [h.om]; simp)
      have hnlt : n < H.length := h.lt n (by rw [h.on]; simp)
      cases hl : lkM bs[i].1 N with
      | none =>
        have hM0 := h.no _ hl
        obtain ⟨r1, r2⟩ := h.newE hl _ hput
        obtain ⟨K, N', own', w1, w2, w3⟩ := addR_loop id bs hb fu (i + 1) _ _ _ _ (by omega) (by omega) r1 hM'
        refine ⟨K, N', own', ?_, by rw [hd]; exact w2, r2.trans w3⟩
        refine (rn_in hi).trans ((rn_t dge0).trans ((rn_t (dlt hi)).trans ?_))
        rw [getI_lt hi, hw]
        have e1 : (H ++ [ndE []])[n]? = some (ndI a m) := app_lt h.hn
        have e2 : (H ++ [ndE []])[m]? = some (ndNm N) := app_lt h.hm
        have e3 : ((H ++ [ndE []]).set m (ndNm (putL .str (.rf .map) bs[i].1 (some H.length) N)))[H.length]? = some (ndE []) := (set_ne (by omega)).trans app_new
        refine (rn_t rfl).trans ((rn_t rfl).trans ((rn_o (getBox_at h.hn)).trans ((rn_o (getBox_at h.hn)).trans ((rn_t rfl).trans ((rn_o (getMap_at h.hm)).trans ?_)))))
        rw [show lookL Sh.str (Sh.rf RK.map) bs[i].1 N = none from hl]
        refine (rn_t rfl).trans ((rn_t rfl).trans ((rn_t rfl).trans ((rn_o (getBox_at e1)).trans ((rn_o (getBox_at e1)).trans ((rn_t rfl).trans ((rn_t rfl).trans ((rn_o (getMap_at e2)).trans ((rn_t rfl).trans ((rn_o (getMap_at e3)).trans ?_)))))))))
        rw [hM0] at w1
        exact w1
      | some r =>
        obtain ⟨q, rfl, hoq, hhq, _⟩ := h.sub _ _ hl
        obtain ⟨r1, r2⟩ := h.setE hl _ hput
        obtain ⟨K, N', own', w1, w2, w3⟩ := addR_loop id bs hb fu (i + 1) _ _ _ _ (by omega) (by omega) r1 hM'
        refine ⟨K, N', own', ?_, by rw [hd]; exact w2, r2.trans w3⟩
        refine (rn_in hi).trans ((rn_t dge0).trans ((rn_t (dlt hi)).trans ?_))
        rw [getI_lt hi, hw]
        refine (rn_t rfl).trans ((rn_t rfl).trans ((rn_o (getBox_at h.hn)).trans ((rn_o (getBox_at h.hn)).trans ((rn_t rfl).trans ((rn_o (getMap_at h.hm)).trans ?_)))))
        rw [show lookL Sh.str (Sh.rf RK.map) bs[i].1 N = some (some q) from hl]
        exact (rn_f rfl).trans ((rn_t rfl).trans ((rn_t rfl).trans ((rn_o (getMap_at hhq)).trans w1)))
    · have : i = bs.length := by omega
      subst this
      refine ⟨H, N, own, rn_out.trans rfl, ?_, Ext8.refl H own⟩
      rw [List.drop_length]; exact h
theorem addR_is {H : List Pev.Node} {n a m : Nat} {L : Items} {N : NmL} {own : Nat → Option Ro} (h : RepI H n a m L N (ents L) own) (hs : SoF L) (id : Int) (f : Fil) :
    ∃ K N' own', addR (some n) id f [] H = some ((addP L id f).2, f.2, K) ∧ RepI K n a m (addP L id f).1 N' (ents (addP L id f).1) own' ∧ Ext8 H own K own' := by
  unfold addR addR_t addP
  cases hc : ckF f with
  | some e =>
    refine ⟨H, N, own, ?_, h, Ext8.refl _ _⟩
    exact (fn_f rfl).trans ((fn_o ((checkR_is f).trans (congrArg (fun e => some (e, f.2)) hc))).trans ((fn_t rfl).trans rfl))
  | none =>
    have hck := ckF_rise hc
    simp only
    by_cases hl : (lkF id L).isSome = true
    · rw [if_pos hl]
      refine ⟨H, N, own, ?_, h, Ext8.refl _ _⟩
      exact (fn_f rfl).trans ((fn_o ((checkR_is f).trans (congrArg (fun e => some (e, f.2)) hc))).trans ((fn_f rfl).trans ((fn_t rfl).trans ((fn_t rfl).trans ((fn_o (getBox_at h.hn)).trans ((fn_o (getBox_at h.hn)).trans ((fn_t rfl).trans ((fn_o (getMap_at h.ha)).trans ((fn_t hl).trans rfl)))))))))
    · have hl0 : (lkF id L).isSome = false := by simpa using hl
      rw [if_neg hl]
      by_cases hn : L.length ≥ 512
      · rw [if_pos hn]
        refine ⟨H, N, own, ?_, h, Ext8.refl _ _⟩
        refine (fn_f rfl).trans ((fn_o ((checkR_is f).trans (congrArg (fun e => some (e, f.2)) hc))).trans ((fn_f rfl).trans ((fn_t rfl).trans ((fn_t rfl).trans ((fn_o (getBox_at h.hn)).trans ((fn_o (getBox_at h.hn)).trans ((fn_t rfl).trans ((fn_o (getMap_at h.ha)).trans ((fn_f hl0).trans ?_)))))))))
        exact (fn_t rfl).trans ((fn_t rfl).trans ((fn_o (getBox_at h.hn)).trans ((fn_o (getBox_at h.hn)).trans ((fn_t rfl).trans ((fn_o (getMap_at h.ha)).trans ((fn_t (decide_eq_true (by simp only [Int.ofNat_eq_natCast]; omega))).trans rfl))))))
      · rw [if_neg hn]
        obtain ⟨r1, r2⟩ := h.setL (putL (.int .i64) shFil id f L)
        obtain ⟨K, N', own', w1, w2, w3⟩ := addR_loop (n := n) (a := a) (m := m) id f.2 (by omega) FUEL 0 _ _ _ _ (Nat.zero_le _) (by rw [fuel_is]; omega) r1 (fun s => ents_so s hs)
        have hno : lkF id L = none := by
          cases hx : lkF id L with
          | none => rfl
          | some y => rw [hx] at hl; exact absurd rfl hl
        rw [List.drop_zero, add_ents hs hno (rise_nodup hck.1)] at w2
        refine ⟨K, N', own', ?_, w2, r2.trans w3⟩
        refine (fn_f rfl).trans ((fn_o ((checkR_is f).trans (congrArg (fun e => some (e, f.2)) hc))).trans ((fn_f rfl).trans ((fn_t rfl).trans ((fn_t rfl).trans ((fn_o (getBox_at h.hn)).trans ((fn_o (getBox_at h.hn)).trans ((fn_t rfl).trans ((fn_o (getMap_at h.ha)).trans ((fn_f hl0).trans ?_)))))))))
        refine (fn_t rfl).trans ((fn_t rfl).trans ((fn_o (getBox_at h.hn)).trans ((fn_o (getBox_at h.hn)).trans ((fn_t rfl).trans ((fn_o (getMap_at h.ha)).trans ((fn_f (decide_eq_false (by simp only [Int.ofNat_eq_natCast]; omega))).trans ?_))))))
        refine (fn_t rfl).trans ((fn_t rfl).trans ((fn_o (getBox_at h.hn)).trans ((fn_o (getBox_at h.hn)).trans ((fn_o (copyR_is f (by omega))).trans ((fn_t rfl).trans ((fn_t rfl).trans ((fn_o (getMap_at h.ha)).trans ((fn_o w1).trans rfl))))))))
end Go.Proofs.YtdiomgmckidccaaGreatDoor
