/- Chapter 8, plain: awake. -/
import Derived.Test.YtdiomgmckidccaaGreatDoorKg
import Derived.Test.YtdiomgmckidccaaGreatDoorGd
set_option maxRecDepth 100000
namespace Go.Proofs.YtdiomgmckidccaaGreatDoor
open Go Go.Pev
def T4 : List ByteArray := [ByteArray.mk #[97, 32, 61, 32, 53, 32, 38, 32, 98, 32, 105, 115, 32, 115, 116, 114], ByteArray.mk #[97, 32, 62, 32, 51], ByteArray.mk #[97, 108, 108], ByteArray.mk #[110, 101, 118, 101, 114]]
noncomputable def fil4 (i : Nat) : Fil := (law08_read (getI T4 (i : Int) (ByteArray.mk #[]))).getD (false, [])
theorem read0 : law08_read (getI T4 ((0 : Nat) : Int) (ByteArray.mk #[])) = some (fil4 0) := by kernel_rfl
theorem read1 : law08_read (getI T4 ((1 : Nat) : Int) (ByteArray.mk #[])) = some (fil4 1) := by kernel_rfl
theorem read2 : law08_read (getI T4 ((2 : Nat) : Int) (ByteArray.mk #[])) = some (fil4 2) := by kernel_rfl
theorem read3 : law08_read (getI T4 ((3 : Nat) : Int) (ByteArray.mk #[])) = some (fil4 3) := by kernel_rfl
noncomputable def its4 (k : Nat) : Items := (List.range k).map fun (i : Nat) => ((i : Int), fil4 i)
theorem addp0 : addP [] ((0 : Nat) : Int) (fil4 0) = (its4 1, none) := by kernel_rfl
theorem addp1 : addP (its4 1) ((1 : Nat) : Int) (fil4 1) = (its4 2, none) := by kernel_rfl
theorem addp2 : addP (its4 2) ((2 : Nat) : Int) (fil4 2) = (its4 3, none) := by kernel_rfl
theorem addp3 : addP (its4 3) ((3 : Nat) : Int) (fil4 3) = (its4 4, none) := by kernel_rfl
def ev4 : Ev := [(ByteArray.mk #[97], 1, 5, ByteArray.mk #[], false)]
theorem found4 : ((its4 4).filter fun p => mnB p.2 ev4).map (·.1) = [1, 2] := by kernel_rfl
theorem ck4 : ckEv ev4 = none := by kernel_rfl
/-- Lists stay as they should. -/
structure Fine (L : Items) : Prop where
  so : SoF L
  ok : okF L
  le : L.length ≤ 512
theorem Fine.nil : Fine [] := ⟨.nil, fun _ h => (nomatch h), Nat.zero_le _⟩
theorem Fine.add {L : Items} (h : Fine L) (id : Int) (f : Fil) : Fine (addP L id f).1 := by
  unfold addP
  cases hc : ckF f with
  | some e => exact h
  | none =>
    simp only
    by_cases hl : (lkF id L).isSome = true
    · rw [if_pos hl]; exact h
    · rw [if_neg hl]
      by_cases hn : L.length ≥ 512
      · rw [if_pos hn]; exact h
      · rw [if_neg hn]
        have hno : lkF id L = none := by
          cases hx : lkF id L with
          | none => rfl
          | some y => rw [hx] at hl; exact absurd rfl hl
        refine ⟨so_put h.so, fun p hp => ?_, ?_⟩
        · have h1 : lkF p.1 (putL (.int .i64) shFil id f L) = some p.2 := (lk_mem (β := shFil) (so_put h.so)).2 hp
          rw [show lkF p.1 (putL (.int .i64) shFil id f L) = if p.1 = id then some f else lkF p.1 L from lk_put h.so] at h1
          by_cases hpi : p.1 = id
          · rw [if_pos hpi] at h1; rw [← Option.some.inj h1]; exact hc
          · rw [if_neg hpi] at h1
            exact h.ok p ((lk_mem (β := shFil) h.so).1 h1)
        · show (putL (.int .i64) shFil id f L).length ≤ 512
          rw [put_len h.so hno]; omega
theorem Fine.rem {L : Items} (h : Fine L) (id : Int) : Fine (remP L id).1 := by
  unfold remP
  cases lkF id L with
  | none => exact h
  | some f => exact ⟨so_del h.so, fun p hp => h.ok p ((delL_sub (k := .int .i64) (v := shFil) id L).subset hp), Nat.le_trans del_len h.le⟩
theorem chk_up : ∀ (l : Ev) (p : ByteArray) (i : Nat), chk p l i = none → (∀ x ∈ nms l, ltN p x = true) ∧ Rise (nms l)
  | [], _, _, _ => ⟨fun _ h => (nomatch h), List.Pairwise.nil⟩
  | (n, v) :: l, p, i, h => by
    unfold chk at h
    cases h1 : nameB n with
    | false => rw [h1] at h; cases h
    | true =>
      cases h2 : notUp n p with
      | true => rw [h1, h2] at h; cases h
      | false =>
        cases h3 : ckE v with
        | some x => rw [h1, h2, h3] at h; cases h
        | none =>
          rw [h1, h2, h3] at h
          obtain ⟨a, b⟩ := chk_up l n (i + 1) h
          have hlt : ltN p n = true := by rw [← nup n p, show (Op.bytesLess n.toList p.toList || n.toList == p.toList) = false from h2]; rfl
          refine ⟨fun x hx => ?_, List.pairwise_cons.2 ⟨a, b⟩⟩
          rcases List.mem_cons.1 hx with e | e
          · rw [e]; exact hlt
          · exact ltN_trans hlt (a x e)
theorem ckEv_rise (e : Ev) (h : ckEv e = none) : Rise (nms e) ∧ e.length ≤ 16 := by
  unfold ckEv at h
  by_cases hl : e.length > 16
  · rw [if_pos hl] at h; cases h
  · rw [if_neg hl] at h; exact ⟨(chk_up _ _ _ h).2, by omega⟩
theorem ev_nodup {e : Ev} (h : ckEv e = none) : (nms e).Nodup ∧ e.length ≤ 16 := ⟨rise_nodup (ckEv_rise e h).1, (ckEv_rise e h).2⟩
theorem awake_step {fu i : Nat} {H : List Pev.Node} {n a m : Nat} {L : Items} {N : NmL} {own : Nat → Option Ro} (h : RepI H n a m L N (ents L) own) (hf : Fine L) (hi : i < 4) {L' : Items} (hr : law08_read (getI T4 (i : Int) (ByteArray.mk #[])) = some (fil4 i)) (ha : addP L (i : Int) (fil4 i) = (L', none)) :
    ∃ K N' own', LT.loop law08_awake_b0 (fu + 1) (some n, 4, (i : Int), T4, [], H, ()) = LT.loop law08_awake_b0 fu (some n, 4, ((i + 1 : Nat) : Int), T4, [], K, ()) ∧ RepI K n a m L' N' (ents L') own' ∧ Fine L' := by
  obtain ⟨K, N', own', w1, w2, w3⟩ := add_is h hf.so (i : Int) (fil4 i)
  have hf2 := hf.add (i : Int) (fil4 i)
  rw [ha] at w1 w2 hf2
  refine ⟨K, N', own', ?_, w2, hf2⟩
  have hl : T4.length = 4 := rfl
  rw [LT.loop_succ]
  refine (rn_t (decide_eq_true (by omega))).trans ((rn_t dge0).trans ((rn_t (decide_eq_true (by rw [hl]; simp only [Int.ofNat_eq_natCast]; omega))).trans ((rn_t dge0).trans ((rn_t (decide_eq_true (by rw [hl]; simp only [Int.ofNat_eq_natCast]; omega))).trans ((rn_o hr).trans ((rn_o w1).trans ((rn_f rfl).trans ?_)))))))
  rw [wsucc (by omega)]; rfl
theorem awake_is : ∃ K, law08_awake [] [] = some (true, K) := by
  obtain ⟨own, n1, n2, n3⟩ := new_is []
  obtain ⟨K1, N1, o1, a1, b1, c1⟩ := awake_step (fu := FUEL - 1) n2 .nil (i := 0) (by omega) read0 addp0
  obtain ⟨K2, N2, o2, a2, b2, c2⟩ := awake_step (fu := FUEL - 2) b1 c1 (i := 1) (by omega) read1 addp1
  obtain ⟨K3, N3, o3, a3, b3, c3⟩ := awake_step (fu := FUEL - 3) b2 c2 (i := 2) (by omega) read2 addp2
  obtain ⟨K4, N4, o4, a4, b4, c4⟩ := awake_step (fu := FUEL - 4) b3 c3 (i := 3) (by omega) read3 addp3
  have f1 : FUEL - 1 + 1 = FUEL := by rw [fuel_is]
  have f2 : FUEL - 2 + 1 = FUEL - 1 := by rw [fuel_is]
  have f3 : FUEL - 3 + 1 = FUEL - 2 := by rw [fuel_is]
  have f4 : FUEL - 4 + 1 = FUEL - 3 := by rw [fuel_is]
  have f5 : FUEL - 4 = (FUEL - 5) + 1 := by rw [fuel_is]
  rw [f1] at a1
  rw [f2] at a2
  rw [f3] at a3
  rw [f4] at a4
  obtain ⟨K5, w1, w2, w3⟩ := match_is b4 c4.so c4.ok (by have := c4.le; omega) ev4 (fun h => ev_nodup h)
  have w4 : matchP (its4 4) ev4 = ([1, 2], none) := by
    unfold matchP; rw [ck4, found4]
  rw [w4] at w1
  refine ⟨K5, ?_⟩
  have last : LT.loop law08_awake_b0 (FUEL - 4) (some (([] : List Pev.Node).length + 2), 4, ((3 + 1 : Nat) : Int), T4, [], K4, ()) = some (.inr (some (([] : List Pev.Node).length + 2), [], K4, ())) := by
    rw [f5, LT.loop_succ]
    exact (rn_f rfl).trans rfl
  have lp : law08_awake_l0 (some (([] : List Pev.Node).length + 2), 4, ((0 : Nat) : Int), T4, [], ([] : List Pev.Node) ++ [ndAt []] ++ [ndNm []] ++ [ndI ([] : List Pev.Node).length (([] : List Pev.Node).length + 1)], ()) = some (.inr (some (([] : List Pev.Node).length + 2), [], K4, ())) := by
    unfold law08_awake_l0
    exact a1.trans (a2.trans (a3.trans (a4.trans last)))
  unfold law08_awake law08_awake_t
  refine (fn_o lp).trans ?_
  refine (fn_o w1).trans ((fn_o (ints_self [1, 2] (by decide))).trans ((fn_t rfl).trans ((fn_t rfl).trans ((fn_o w2.len_is).trans ?_))))
  rfl
theorem indexNone_law (x0 : Int) (x1 : Fil) (x2 : Ev) : ∃ H, law08_IndexNone x0 x1 x2 [] [] = some (true, H) := by
  obtain ⟨K, h⟩ := awake_is
  refine ⟨K, ?_⟩
  unfold law08_IndexNone law08_IndexNone_t
  exact (fn_o h).trans ((fn_f rfl).trans rfl)
end Go.Proofs.YtdiomgmckidccaaGreatDoor
