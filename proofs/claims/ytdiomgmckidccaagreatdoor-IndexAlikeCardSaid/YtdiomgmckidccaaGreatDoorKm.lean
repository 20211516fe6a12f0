/- Chapter 8, plain: IndexAlike answers true. -/
import Derived.Test.YtdiomgmckidccaaGreatDoorKl
set_option maxRecDepth 100000
namespace Go.Proofs.YtdiomgmckidccaaGreatDoor
open Go Go.Pev
theorem spoil_loop (e : Ev) (a5 : Option Nat) (a6 : List Item) (a8 : Option Nat) (a36 a37 : Int) (nv : Bool) (H : List Pev.Node) : ∀ (fu j : Nat) (r : List Bd), r.length ≤ 1000 → j ≤ r.length → r.length - j < fu →
    LT.loop alikeR_b1 fu (e, a5, a6, a8, a36, a37, (r.length : Int), (j : Int), nv, r, [], H, ()) = some (e, a5, a6, a8, a36, a37, [], H, ())
  | 0, _, _, _, _, h => by omega
  | fu + 1, j, r, hr, h1, h2 => by
    rw [LT.loop_succ]
    by_cases hj : j < r.length
    · refine (rn_in (l := r) hj).trans ((rn_t dge0).trans ((rn_t (dlt hj)).trans ?_))
      rw [wsucc (by omega)]
      have := spoil_loop e a5 a6 a8 a36 a37 nv H fu (j + 1) (r.set (j : Int).toNat (ByteArray.mk #[115, 112, 111, 105, 108, 116], (getI r (j : Int) (ByteArray.mk #[], 0, 0, 0, false, ByteArray.mk #[], false, false)).2)) (by rw [List.length_set]; exact hr) (by rw [List.length_set]; omega) (by rw [List.length_set]; omega)
      rw [List.length_set] at this
      exact this
    · have : j = r.length := by omega
      subst this
      exact rn_out.trans rfl
/-- What one call leaves of the other index. -/
theorem RepI.beside {H H' : List Pev.Node} {n a m : Nat} {L : Items} {N : NmL} {M : NMs} {own oy oy' : Nat → Option Ro} (h : RepI H n a m L N M own) (hx : Ext8 H oy H' oy') (hd : ∀ i, own i ≠ none → oy i = none) : RepI H' n a m L N M own ∧ ∀ i, own i ≠ none → oy' i = none := by
  refine ⟨h.frame (fun i hi => hx.keep i (h.lt i hi) (hd i hi)) hx.len, fun i hi => ?_⟩
  cases ho : oy' i with
  | none => rfl
  | some r =>
    have := hx.new i (hd i hi) (by rw [ho]; simp)
    have := h.lt i hi
    omega
theorem add_front {L : Items} (hf : Fine L) {k : Nat} (hk : k < L.length) : addP (L.drop (k + 1)) L[k].1 L[k].2 = (L.drop k, none) := by
  have hso : SoF (L.drop k) := hf.so.sublist (List.drop_sublist k L)
  rw [List.drop_eq_getElem_cons hk] at hso
  obtain ⟨h1, h2⟩ := so_cons.1 hso
  have hno : lkF L[k].1 (L.drop (k + 1)) = none := lk_lt h1
  have hck : ckF L[k].2 = none := hf.ok _ (List.getElem_mem hk)
  have hle := hf.le
  unfold addP
  rw [hck]
  simp only
  rw [if_neg (by rw [hno]; simp), if_neg (by rw [List.length_drop]; omega)]
  have : putL (.int .i64) shFil L[k].1 L[k].2 (L.drop (k + 1)) = L.drop k := by
    refine so_ext (so_put h2) (by rw [List.drop_eq_getElem_cons hk]; exact hso) fun z => ?_
    rw [List.drop_eq_getElem_cons hk, lk_put h2, lk_cons]
    by_cases hz : z = L[k].1
    · rw [if_pos hz, if_pos hz.symm]
    · rw [if_neg hz, if_neg (Ne.symm hz)]
  rw [this]
theorem alike_loop {n a m ny ay my : Nat} {L : Items} {N : NmL} {own : Nat → Option Ro} (hf : Fine L) (e : Ev) : ∀ (fu i : Nat) (H : List Pev.Node) (Ny : NmL) (oy : Nat → Option Ro), i ≤ L.length → L.length - i < fu → RepI H n a m L N (ents L) own → RepI H ny ay my (L.drop (L.length - i)) Ny (ents (L.drop (L.length - i))) oy → (∀ j, own j ≠ none → oy j = none) →
    ∃ K Ny' oy', LT.loop alikeR_b0 fu (e, some n, L, some ny, Int.ofNat L.length, (i : Int), [], H, ()) = some (.inr (e, some n, some ny, [], K, ())) ∧ RepI K n a m L N (ents L) own ∧ RepI K ny ay my L Ny' (ents L) oy' ∧ (∀ j, own j ≠ none → oy' j = none)
  | 0, _, _, _, _, _, h, _, _, _ => by omega
  | fu + 1, i, H, Ny, oy, h1, h2, hx, hy, hd => by
    rw [LT.loop_succ]
    have hle := hf.le
    by_cases hi : i < L.length
    · have hk : L.length - 1 - i < L.length := by omega
      have e1 : IntKind.i64.wrap (IntKind.i64.wrap (Int.ofNat L.length - 1) - (i : Int)) = ((L.length - 1 - i : Nat) : Int) := by
        rw [i64_wrap (Int.ofNat L.length - 1) (by simp only [Int.ofNat_eq_natCast]; omega) (by simp only [Int.ofNat_eq_natCast]; omega), i64_wrap _ (by simp only [Int.ofNat_eq_natCast]; omega) (by simp only [Int.ofNat_eq_natCast]; omega)]
        simp only [Int.ofNat_eq_natCast]; omega
      have e2 : L.length - i = L.length - 1 - i + 1 := by omega
      have e3 : L.length - (i + 1) = L.length - 1 - i := by omega
      rw [e2] at hy
      have hs2 : SoF (L.drop (L.length - 1 - i + 1)) := hf.so.sublist (List.drop_sublist _ L)
      obtain ⟨K1, N1, o1, w1, r1, x1⟩ := addR_is hy hs2 L[L.length - 1 - i].1 L[L.length - 1 - i].2
      rw [add_front hf hk] at w1 r1
      obtain ⟨hx', hd'⟩ := hx.beside x1 hd
      have h16 : L[L.length - 1 - i].2.2.length ≤ 16 := (ckF_rise (hf.ok _ (List.getElem_mem hk))).2.1
      obtain ⟨K, Ny', oy', v1, v2, v3, v4⟩ := alike_loop hf e fu (i + 1) K1 N1 o1 (by omega) (by omega) hx' (by rw [e3]; exact r1) hd'
      refine ⟨K, Ny', oy', ?_, v2, v3, v4⟩
      refine (rn_t (dlt hi)).trans ?_
      rw [e1]
      refine (rn_t dge0).trans ((rn_t (dlt hk)).trans ?_)
      rw [getI_lt hk]
      refine (rn_o (twinR_is _ (by omega) H)).trans ((rn_o w1).trans ((rn_f rfl).trans ?_))
      have sp := spoil_loop e (some n) L (some ny) (Int.ofNat L.length) (i : Int) L[L.length - 1 - i].2.1 K1 FUEL 0 L[L.length - 1 - i].2.2 (by omega) (Nat.zero_le _) (by rw [fuel_is]; omega)
      refine (rn_o sp).trans ?_
      dsimp only
      rw [wsucc (by omega)]
      exact v1
    · have : i = L.length := by omega
      subst this
      rw [Nat.sub_self, List.drop_zero] at hy
      exact ⟨H, Ny, oy, rn_out.trans rfl, hx, hy, hd⟩
theorem indexAlike_law (x0 : List O8) (z0 : wzS Tryz.prog 8 22 (.sl shOp8) x0) (x1 : Ev) : ∃ H, alikeR x0 x1 [] [] = some (true, H) := by
  obtain ⟨K, hA⟩ := awake_is
  unfold alikeR alikeR_t
  by_cases hl : x0.length > 200
  · exact ⟨K, (fn_o hA).trans ((fn_f rfl).trans ((fn_t (decide_eq_true (by simp only [Int.ofNat_eq_natCast]; omega))).trans rfl))⟩
  · obtain ⟨K1, n, a, m, L, N, own, w1, w2, w3, _⟩ := play_is K x0 (by omega) (sz_ops z0)
    have hle := w3.le
    obtain ⟨oy, _, y2, y3⟩ := new_is K1
    have hfr : RepI (K1 ++ [ndAt []] ++ [ndNm []] ++ [ndI K1.length (K1.length + 1)]) n a m L N (ents L) own := w2.frame (fun i hi => by
      have := w2.lt i hi
      rw [List.getElem?_append_left (by simp; omega), List.getElem?_append_left (by simp; omega), List.getElem?_append_left this]) (by simp)
    have hdis : ∀ j, own j ≠ none → oy j = none := fun j hj => by
      cases ho : oy j with
      | none => rfl
      | some r =>
        have := y3 j (by rw [ho]; simp)
        have := w2.lt j hj
        omega
    obtain ⟨K2, Ny, oy', v1, v2, v3, v4⟩ := alike_loop w3 x1 FUEL 0 _ [] oy (Nat.zero_le _) (by rw [fuel_is]; omega) hfr (by rw [Nat.sub_zero, List.drop_length]; exact y2) hdis
    obtain ⟨K3, m1, m2, m3⟩ := match_is v2 w3.so w3.ok (by omega) x1 (fun h => ev_nodup h)
    have dis' : ∀ j, oy' j ≠ none → own j = none := fun j hj => by
      cases ho : own j with
      | none => rfl
      | some r => exact absurd (v4 j (by rw [ho]; simp)) hj
    obtain ⟨s3, _⟩ := v3.beside m3 dis'
    obtain ⟨K4, p1, p2, p3⟩ := match_is s3 w3.so w3.ok (by omega) x1 (fun h => ev_nodup h)
    obtain ⟨t4, _⟩ := m2.beside p3 v4
    obtain ⟨K5, q1, q2, q3⟩ := names_is t4 w3
    obtain ⟨s5, _⟩ := p2.beside q3 dis'
    obtain ⟨K6, r1, r2, r3⟩ := names_is s5 w3
    obtain ⟨t6, _⟩ := q2.beside r3 v4
    have hm := match_len L x1
    have hc := cntL_small w3
    have l1 : (K1 ++ [ndAt []]).length = K1.length + 1 := by simp
    have l2 : (K1 ++ [ndAt []] ++ [ndNm []]).length = K1.length + 2 := by simp
    refine ⟨K6, ?_⟩
    refine (fn_o hA).trans ((fn_f rfl).trans ((fn_f (decide_eq_false (by simp only [Int.ofNat_eq_natCast]; omega))).trans ((fn_o w1).trans ((fn_f rfl).trans ?_))))
    dsimp only
    rw [show (K1 ++ [Node.map false true (Sh.int IntKind.i64) shFil []] ++ [Node.map false false Sh.str (Sh.rf RK.map) []]).length = K1.length + 2 from l2, show (K1 ++ [Node.map false true (Sh.int IntKind.i64) shFil []]).length = K1.length + 1 from l1]
    refine (fn_o v1).trans ?_
    refine (fn_o m1).trans ((fn_o p1).trans ((fn_o q1).trans ((fn_o r1).trans ((fn_o (ints_self (matchP L x1).1 (by omega))).trans ((fn_t rfl).trans ((fn_t (by simp)).trans ?_))))))
    exact (fn_o (strs_self _ (by rw [List.length_map]; omega))).trans ((fn_t rfl).trans ((fn_o (ints_self _ (by rw [List.length_map]; omega))).trans ((fn_t rfl).trans ((fn_o t6.len_is).trans ((fn_o r2.len_is).trans (by simp; rfl))))))
end Go.Proofs.YtdiomgmckidccaaGreatDoor
