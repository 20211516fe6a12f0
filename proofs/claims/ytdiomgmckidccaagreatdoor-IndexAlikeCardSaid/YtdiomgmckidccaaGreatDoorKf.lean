/- Chapter 8, plain: Remove. -/
import Derived.Test.YtdiomgmckidccaaGreatDoorKe
set_option maxRecDepth 100000
namespace Go.Proofs.YtdiomgmckidccaaGreatDoor
open Go Go.Pev
theorem set_self {H : List Pev.Node} {q : Nat} {x : Pev.Node} (h : H[q]? = some x) : H.set q x = H := by
  obtain ⟨h1, h2⟩ := List.getElem?_eq_some_iff.1 h
  rw [← h2]; exact List.set_getElem_self h1
section
variable {H : List Pev.Node} {n a m : Nat} {L : Items} {N : NmL} {M : NMs} {own : Nat → Option Ro}
/-- A name goes. -/
theorem RepI.dropE (h : RepI H n a m L N M own) (s : ByteArray) {H' : List Pev.Node} (hl : H'.length = H.length) (hm : H'[m]? = some (ndNm (delL .str (.rf .map) s N))) (hf : ∀ i, i ≠ m → own i ≠ some (.sub s) → H'[i]? = H[i]?) :
    RepI H' n a m L (delL .str (.rf .map) s N) (setN M s []) own ∧ Ext8 H own H' own := by
  obtain ⟨n1, n2, n3⟩ := h.ne
  refine ⟨⟨(hf n n2 (by rw [h.on]; simp)).trans h.hn, (hf a n3 (by rw [h.oa]; simp)).trans h.ha, hm, h.on, h.oa, h.om, soM_del h.so, fun z r hr => ?_, fun z hz => ?_, fun i hi => by rw [hl]; exact h.lt i hi⟩, ⟨by omega, fun i _ ho => hf i (fun c => by rw [c, h.om] at ho; cases ho) (by rw [ho]; simp), fun _ h1 h2 => absurd h1 h2⟩⟩
  · rw [lkM_del h.so] at hr
    by_cases hzs : z = s
    · rw [if_pos hzs] at hr; cases hr
    · rw [if_neg hzs] at hr
      obtain ⟨p, h1, h2, h3, h4⟩ := h.sub z r hr
      rw [show setN M s [] z = M z from if_neg hzs]
      exact ⟨p, h1, h2, (hf p (fun c => by rw [c, h.om] at h2; cases h2) (by rw [h2]; simp [hzs])).trans h3, h4⟩
  · by_cases hzs : z = s
    · exact if_pos hzs
    · rw [lkM_del h.so, if_neg hzs] at hz
      rw [show setN M s [] z = M z from if_neg hzs]
      exact h.no z hz
end
theorem rem_loop {n a m : Nat} {L : Items} (id : Int) (bs : List Bd) (hb : bs.length ≤ 1000) : ∀ (fu i : Nat) (H : List Pev.Node) (N : NmL) (M : NMs) (own : Nat → Option Ro), i ≤ bs.length → bs.length - i < fu → RepI H n a m L N M own → (∀ s, SoE (M s)) →
    ∃ K N' own', LT.loop index_Index_Remove_b0 fu (some n, id, bs, Int.ofNat bs.length, (i : Int), [], H, ()) = some ([], K, ()) ∧ RepI K n a m L N' (delN id (bs.drop i) M) own' ∧ Ext8 H own K own'
  | 0, _, _, _, _, _, _, h, _, _ => by omega
  | fu + 1, i, H, N, M, own, h1, h2, h, hM => by
    rw [LT.loop_succ]
    by_cases hi : i < bs.length
    · obtain ⟨n1, n2, n3⟩ := h.ne
      have hd : bs.drop i = bs[i] :: bs.drop (i + 1) := List.drop_eq_getElem_cons hi
      have hw : IntKind.i64.wrap ((i : Int) + 1) = ((i + 1 : Nat) : Int) := wsucc (by omega)
      have hM' : ∀ s, SoE (setN M bs[i].1 (delL (.int .i64) shBound id (M bs[i].1)) s) := setN_so hM (so_del (hM _))
      cases hl : lkM bs[i].1 N with
      | none =>
        have hM0 := h.no _ hl
        obtain ⟨r1, r2⟩ := h.dropE bs[i].1 (H' := H.set m (ndNm (delL .str (.rf .map) bs[i].1 N))) (by simp) (set_at h.hm) (fun j hj _ => set_ne (Ne.symm hj))
        rw [hM0] at hM'
        obtain ⟨K, N', own', w1, w2, w3⟩ := rem_loop id bs hb fu (i + 1) _ _ _ _ (by omega) (by omega) r1 hM'
        have e : delN id (bs.drop i) M = delN id (bs.drop (i + 1)) (setN M bs[i].1 []) := by
          rw [hd]; show delN id _ (setN M bs[i].1 (delL (.int .i64) shBound id (M bs[i].1))) = _; rw [hM0]; rfl
        refine ⟨K, N', own', ?_, by rw [e]; exact w2, r2.trans w3⟩
        refine (rn_in hi).trans ?_
        rw [getI_lt hi, hw]
        refine (rn_t rfl).trans ((rn_t rfl).trans ((rn_o (getBox_at h.hn)).trans ((rn_o (getBox_at h.hn)).trans ((rn_t rfl).trans ((rn_o (getMap_at h.hm)).trans ?_)))))
        rw [show lookL Sh.str (Sh.rf RK.map) bs[i].1 N = none from hl]
        refine (rn_f rfl).trans ((rn_t rfl).trans ((rn_t rfl).trans ((rn_o (getBox_at h.hn)).trans ((rn_o (getBox_at h.hn)).trans ((rn_t rfl).trans ((rn_o (getMap_at h.hm)).trans ?_))))))
        rw [show lookL Sh.str (Sh.rf RK.map) bs[i].1 N = none from hl]
        exact (rn_f rfl).trans ((rn_t rfl).trans ((rn_t rfl).trans ((rn_o (getBox_at h.hn)).trans ((rn_o (getBox_at h.hn)).trans ((rn_t rfl).trans ((rn_t rfl).trans ((rn_o (getMap_at h.hm)).trans w1)))))))
      | some r =>
        obtain ⟨q, rfl, hoq, hhq, _⟩ := h.sub _ _ hl
        have q1 : q ≠ n := fun c => by rw [c, h.on] at hoq; cases hoq
        have q2 : q ≠ m := fun c => by rw [c, h.om] at hoq; cases hoq
        have b1 : (H.set q (ndE (delL (.int .i64) shBound id (M bs[i].1))))[n]? = some (ndI a m) := (set_ne q1).trans h.hn
        have b2 : (H.set q (ndE (delL (.int .i64) shBound id (M bs[i].1))))[m]? = some (ndNm N) := (set_ne q2).trans h.hm
        have b3 : (H.set q (ndE (delL (.int .i64) shBound id (M bs[i].1))))[q]? = some (ndE (delL (.int .i64) shBound id (M bs[i].1))) := set_at hhq
        by_cases hE : delL (.int .i64) shBound id (M bs[i].1) = []
        · obtain ⟨r1, r2⟩ := h.dropE bs[i].1 (H' := (H.set q (ndE (delL (.int .i64) shBound id (M bs[i].1)))).set m (ndNm (delL .str (.rf .map) bs[i].1 N))) (by simp) (set_at b2) (fun j hj hs => (set_ne (Ne.symm hj)).trans (set_ne fun c => hs (by rw [← c]; exact hoq)))
          have hM2 := hM'
          rw [hE] at hM2
          obtain ⟨K, N', own', w1, w2, w3⟩ := rem_loop id bs hb fu (i + 1) _ _ _ _ (by omega) (by omega) r1 hM2
          have e : delN id (bs.drop i) M = delN id (bs.drop (i + 1)) (setN M bs[i].1 []) := by
            rw [hd]; show delN id _ (setN M bs[i].1 (delL (.int .i64) shBound id (M bs[i].1))) = _; rw [hE]
          refine ⟨K, N', own', ?_, by rw [e]; exact w2, r2.trans w3⟩
          refine (rn_in hi).trans ?_
          rw [getI_lt hi, hw]
          refine (rn_t rfl).trans ((rn_t rfl).trans ((rn_o (getBox_at h.hn)).trans ((rn_o (getBox_at h.hn)).trans ((rn_t rfl).trans ((rn_o (getMap_at h.hm)).trans ?_)))))
          rw [show lookL Sh.str (Sh.rf RK.map) bs[i].1 N = some (some q) from hl]
          refine (rn_t rfl).trans ((rn_t rfl).trans ((rn_o (getMap_at hhq)).trans ((rn_t rfl).trans ((rn_t rfl).trans ((rn_o (getBox_at b1)).trans ((rn_o (getBox_at b1)).trans ((rn_t rfl).trans ((rn_o (getMap_at b2)).trans ?_))))))))
          rw [show lookL Sh.str (Sh.rf RK.map) bs[i].1 N = some (some q) from hl]
          refine (rn_t rfl).trans ((rn_o (getMap_at b3)).trans ((rn_t (by rw [hE]; rfl)).trans ((rn_t rfl).trans ((rn_t rfl).trans ((rn_o (getBox_at b1)).trans ((rn_o (getBox_at b1)).trans ((rn_t rfl).trans ((rn_t rfl).trans ((rn_o (getMap_at b2)).trans ?_)))))))))
          exact w1
        · obtain ⟨r1, r2⟩ := h.setE hl _ hE
          obtain ⟨K, N', own', w1, w2, w3⟩ := rem_loop id bs hb fu (i + 1) _ _ _ _ (by omega) (by omega) r1 hM'
          refine ⟨K, N', own', ?_, by rw [hd]; exact w2, r2.trans w3⟩
          refine (rn_in hi).trans ?_
          rw [getI_lt hi, hw]
          refine (rn_t rfl).trans ((rn_t rfl).trans ((rn_o (getBox_at h.hn)).trans ((rn_o (getBox_at h.hn)).trans ((rn_t rfl).trans ((rn_o (getMap_at h.hm)).trans ?_)))))
          rw [show lookL Sh.str (Sh.rf RK.map) bs[i].1 N = some (some q) from hl]
          refine (rn_t rfl).trans ((rn_t rfl).trans ((rn_o (getMap_at hhq)).trans ((rn_t rfl).trans ((rn_t rfl).trans ((rn_o (getBox_at b1)).trans ((rn_o (getBox_at b1)).trans ((rn_t rfl).trans ((rn_o (getMap_at b2)).trans ?_))))))))
          rw [show lookL Sh.str (Sh.rf RK.map) bs[i].1 N = some (some q) from hl]
          refine (rn_t rfl).trans ((rn_o (getMap_at b3)).trans ((rn_f ?_).trans w1))
          have : (delL (.int .i64) shBound id (M bs[i].1)).length ≠ 0 := fun c => hE (List.length_eq_zero_iff.1 c)
          rw [beq_dec]
          exact decide_eq_false (by simp only [Int.ofNat_eq_natCast]; omega)
    · have : i = bs.length := by omega
      subst this
      refine ⟨H, N, own, rn_out.trans rfl, ?_, Ext8.refl H own⟩
      rw [List.drop_length]; exact h
/-- What Remove leaves, and answers. -/
def remP (L : Items) (id : Int) : Items × Err := match lkF id L with
  | none => (L, eN 10)
  | some _ => (delL (.int .i64) shFil id L, none)
theorem rem_is {H : List Pev.Node} {n a m : Nat} {L : Items} {N : NmL} {own : Nat → Option Ro} (h : RepI H n a m L N (ents L) own) (hs : SoF L) (hok : okF L) (id : Int) :
    ∃ K N' own', index_Index_Remove (some n) id [] H = some ((remP L id).2, K) ∧ RepI K n a m (remP L id).1 N' (ents (remP L id).1) own' ∧ Ext8 H own K own' := by
  unfold index_Index_Remove index_Index_Remove_t remP
  cases hl : lkF id L with
  | none =>
    refine ⟨H, N, own, ?_, h, Ext8.refl _ _⟩
    refine (fn_f rfl).trans ((fn_t rfl).trans ((fn_t rfl).trans ((fn_o (getBox_at h.hn)).trans ((fn_o (getBox_at h.hn)).trans ((fn_t rfl).trans ((fn_o (getMap_at h.ha)).trans ?_))))))
    exact (fn_t (by rw [show lookL (Sh.int IntKind.i64) shFil id L = none from hl]; rfl)).trans rfl
  | some f =>
    have hck := ckF_rise (show ckF f = none from hok (id, f) ((lk_mem (β := shFil) hs).1 hl))
    obtain ⟨r1, r2⟩ := h.setL (delL (.int .i64) shFil id L)
    obtain ⟨K, N', own', w1, w2, w3⟩ := rem_loop (n := n) (a := a) (m := m) id f.2 (by omega) FUEL 0 _ _ _ _ (Nat.zero_le _) (by rw [fuel_is]; omega) r1 (fun s => ents_so s hs)
    rw [List.drop_zero, del_ents hs hl (rise_nodup hck.1)] at w2
    refine ⟨K, N', own', ?_, w2, r2.trans w3⟩
    refine (fn_f rfl).trans ((fn_t rfl).trans ((fn_t rfl).trans ((fn_o (getBox_at h.hn)).trans ((fn_o (getBox_at h.hn)).trans ((fn_t rfl).trans ((fn_o (getMap_at h.ha)).trans ?_))))))
    rw [show lookL (Sh.int IntKind.i64) shFil id L = some f from hl]
    exact (fn_f rfl).trans ((fn_t rfl).trans ((fn_t rfl).trans ((fn_o (getBox_at h.hn)).trans ((fn_o (getBox_at h.hn)).trans ((fn_t rfl).trans ((fn_t rfl).trans ((fn_o (getMap_at h.ha)).trans ((fn_o w1).trans rfl))))))))
end Go.Proofs.YtdiomgmckidccaaGreatDoor
