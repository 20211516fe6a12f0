/- Chapter 8, plain: Names of the index and of the document. -/
import Derived.Test.YtdiomgmckidccaaGreatDoorKi
set_option maxRecDepth 100000
namespace Go.Proofs.YtdiomgmckidccaaGreatDoor
open Go Go.Pev
theorem at_loop (ns : List ByteArray) (hl : ns.length ≤ 1000000) (s : ByteArray) (a11 : List Item) (a12 a13 : Int) (a19 : List Bd) (a20 a21 : Int) (c1 c2 c3 : Int) (c4 : Bool) (c5 : ByteArray) (c6 c7 : Bool) (cs : List Int) (lk : List Nat) (H : List Pev.Node) (hr : Rise ns) : ∀ (fu i : Nat), i ≤ posN ns s → ns.length - i < fu → (i ≤ ns.length) →
    LT.loop ref08_NamesR_b2 fu (ns, (i : Int), a11, a12, a13, a19, a20, a21, s, c1, c2, c3, c4, c5, c6, c7, cs, lk, H, ()) = some (ns, (posN ns s : Int), a11, a12, a13, a19, a20, a21, s, c1, c2, c3, c4, c5, c6, c7, cs, lk, H, ())
  | 0, _, _, h, _ => by omega
  | fu + 1, i, h1, h2, h3 => by
    rw [LT.loop_succ]
    have hp := posN_le ns s
    by_cases hi : i < ns.length
    · refine (rn_in hi).trans ?_
      rw [getI_lt hi]
      by_cases hlt : i < posN ns s
      · refine (rn_t (posN_lt ns s i hi hlt)).trans ?_
        rw [wsucc (by omega)]
        exact at_loop ns hl s a11 a12 a13 a19 a20 a21 c1 c2 c3 c4 c5 c6 c7 cs lk H hr fu (i + 1) (by omega) (by omega) (by omega)
      · have : i = posN ns s := by omega
        subst this
        have hf : ltN ns[posN ns s] s = false := posN_ge ns s _ hi hr (Nat.le_refl _)
        exact (rn_f hf).trans rfl
    · have e1 : i = ns.length := by omega
      have : posN ns s = ns.length := by omega
      rw [this]
      subst e1
      exact rn_out.trans rfl
theorem ins_is (ns : List ByteArray) (i : Nat) (hi : i ≤ ns.length) (hl : ns.length ≤ 1000000) (s : ByteArray) : ref08_insert ns (i : Int) s = some (ns.take i ++ [s] ++ ns.drop i) := by
  have e1 : List.take ((i : Int) - 0).toNat (List.drop (Int.toNat 0) ns) = ns.take i := by simp
  have e2 : List.take (Int.ofNat ns.length - (i : Int)).toNat (List.drop (i : Int).toNat ns) = ns.drop i := by
    rw [Int.toNat_natCast]; exact List.take_of_length_le (by simp only [List.length_drop, Int.ofNat_eq_natCast]; omega)
  have t1 : (ns.take i).length ≤ 1000000 := by rw [List.length_take]; omega
  have t2 : (ns.drop i).length ≤ 1000000 := by rw [List.length_drop]; omega
  unfold ref08_insert ref08_insert_t
  rw [e1, e2]
  refine (fn_t dge0).trans ((fn_t (decide_eq_true (by simp only [Int.ofNat_eq_natCast]; omega))).trans ((fn_t (appLim_ok (by omega))).trans ((fn_t (appLim_ok (by omega))).trans ((fn_t dge0).trans ((fn_t (decide_eq_true (by simp only [Int.ofNat_eq_natCast]; omega))).trans ((fn_t (decide_eq_true (Int.le_refl _))).trans ((fn_t (appLim_ok (by simp only [List.length_append, List.length_singleton]; omega))).trans rfl)))))))
theorem slot_is (cs : List Int) (i : Nat) (hi : i ≤ cs.length) (hl : cs.length ≤ 1000000) (lk : List Nat) (H : List Pev.Node) : ref08_slotR cs (i : Int) lk H = some (cs.take i ++ [1] ++ cs.drop i, H) := by
  have e1 : List.take ((i : Int) - 0).toNat (List.drop (Int.toNat 0) cs) = cs.take i := by simp
  have e2 : List.take (Int.ofNat cs.length - (i : Int)).toNat (List.drop (i : Int).toNat cs) = cs.drop i := by
    rw [Int.toNat_natCast]; exact List.take_of_length_le (by simp only [List.length_drop, Int.ofNat_eq_natCast]; omega)
  have t1 : (cs.take i).length ≤ 1000000 := by rw [List.length_take]; omega
  have t2 : (cs.drop i).length ≤ 1000000 := by rw [List.length_drop]; omega
  unfold ref08_slotR ref08_slotR_t
  rw [e1, e2]
  refine (fn_t dge0).trans ((fn_t (decide_eq_true (by simp only [Int.ofNat_eq_natCast]; omega))).trans ((fn_t (appLim_ok (by omega))).trans ((fn_t (appLim_ok (by omega))).trans ((fn_t dge0).trans ((fn_t (decide_eq_true (by simp only [Int.ofNat_eq_natCast]; omega))).trans ((fn_t (decide_eq_true (Int.le_refl _))).trans ((fn_t (appLim_ok (by simp only [List.length_append, List.length_singleton]; omega))).trans rfl)))))))
structure GoodC (k : Nat) (T : Cnt) : Prop where
  so : SoC T
  le : T.length ≤ k
  bd : ∀ p ∈ T, 0 ≤ p.2 ∧ p.2 ≤ (k : Int)
theorem GoodC.bmp {k : Nat} {T : Cnt} (h : GoodC k T) (s : ByteArray) : GoodC (k + 1) (bmp s T) := by
  refine ⟨bmp_so s h.so, by have := bmp_len s T; have := h.le; omega, ?_⟩
  have key : ∀ T : Cnt, (∀ p ∈ T, 0 ≤ p.2 ∧ p.2 ≤ (k : Int)) → ∀ q ∈ Go.Proofs.YtdiomgmckidccaaGreatDoor.bmp s T, 0 ≤ q.2 ∧ q.2 ≤ ((k + 1 : Nat) : Int) := by
    intro T
    induction T with
    | nil => intro _ q hq; rw [List.mem_singleton.1 hq]; exact ⟨by show (0 : Int) ≤ 1; omega, by show (1 : Int) ≤ _; omega⟩
    | cons p T ih =>
      intro hb q hq
      have hp := hb p List.mem_cons_self
      have ht : ∀ p ∈ T, 0 ≤ p.2 ∧ p.2 ≤ (k : Int) := fun p h => hb p (List.mem_cons_of_mem _ h)
      have all : ∀ q ∈ p :: T, 0 ≤ q.2 ∧ q.2 ≤ ((k + 1 : Nat) : Int) := fun q hq => by have := hb q hq; omega
      unfold Go.Proofs.YtdiomgmckidccaaGreatDoor.bmp at hq
      split at hq
      · rcases List.mem_cons.1 hq with e | e
        · rw [e]; omega
        · exact ih ht q e
      · split at hq
        · rcases List.mem_cons.1 hq with e | e
          · rw [e]; show 0 ≤ p.2 + 1 ∧ p.2 + 1 ≤ _; omega
          · exact all q (List.mem_cons_of_mem _ e)
        · rcases List.mem_cons.1 hq with e | e
          · rw [e]; exact ⟨by show (0 : Int) ≤ 1; omega, by show (1 : Int) ≤ _; omega⟩
          · exact all q e
  exact key T h.bd
theorem soC_rise {T : Cnt} (h : SoC T) : Rise (T.map (·.1)) := List.pairwise_map.2 h
theorem namesB_loop (L : Items) (j : Nat) (bs : List Bd) (k0 : Nat) (hk : k0 + bs.length ≤ 100000) (lk : List Nat) (H : List Pev.Node) (T : Cnt) (hT : GoodC k0 T) :
    ref08_NamesR_l1 (T.map (·.1), L, Int.ofNat L.length, (j : Int), bs, Int.ofNat bs.length, 0, T.map (·.2), lk, H, ()) = some ((cntB bs T).map (·.1), L, Int.ofNat L.length, (j : Int), (cntB bs T).map (·.2), lk, H, ()) := by
  have := foldE_runI (bd := ref08_NamesR_b1) bs (by omega) (fun i (T : Cnt) => (T.map (·.1), L, Int.ofNat L.length, (j : Int), bs, Int.ofNat bs.length, (i : Int), T.map (·.2), lk, H, ())) (fun T b => .inl (bmp b.1 T)) (fun T => (T.map (·.1), L, Int.ofNat L.length, (j : Int), T.map (·.2), lk, H, ())) (fun i T => GoodC (k0 + i) T)
    (fun i hi T g hT => by
      have h1 := hT.le
      have hns : (T.map (·.1)).length ≤ 1000000 := by rw [List.length_map]; omega
      have hcs : (T.map (·.2)).length ≤ 1000000 := by rw [List.length_map]; omega
      have hpl := posN_le (T.map (·.1)) bs[i].1
      refine (rn_in hi).trans ?_
      rw [getI_lt hi]
      have lp := fun a19 a20 a21 c1 c2 c3 c4 c5 c6 c7 => at_loop (T.map (·.1)) hns bs[i].1 L (Int.ofNat L.length) (j : Int) a19 a20 a21 c1 c2 c3 c4 c5 c6 c7 (T.map (·.2)) lk H (soC_rise hT.so) FUEL 0 (Nat.zero_le _) (by rw [fuel_is]; omega) (Nat.zero_le _)
      refine (rn_o (lp _ _ _ _ _ _ _ _ _ _)).trans ?_
      obtain ⟨p1, p2⟩ := bmp_pos bs[i].1 T
      dsimp only
      rw [wsucc (i := i) (by omega)]
      by_cases hlt : posN (T.map (·.1)) bs[i].1 < T.length
      · have hltn : posN (T.map (·.1)) bs[i].1 < (T.map (·.1)).length := by rw [List.length_map]; exact hlt
        have hltc : posN (T.map (·.1)) bs[i].1 < (T.map (·.2)).length := by rw [List.length_map]; exact hlt
        refine (rn_t (dlt hltn)).trans ((rn_t dge0).trans ((rn_t (dlt hltn)).trans ?_))
        rw [getI_lt hltn, getI_lt hltc, List.getElem_map, List.getElem_map]
        by_cases he : T[posN (T.map (·.1)) bs[i].1].1 = bs[i].1
        · obtain ⟨q1, q2⟩ := p1 hlt he
          refine (rn_t (by rw [he]; exact beq_self_l _)).trans ((rn_t dge0).trans ((rn_t (dlt hltc)).trans ((rn_t dge0).trans ((rn_t (dlt hltc)).trans ((rn_t dge0).trans ((rn_t (dlt hltc)).trans ((rn_t dge0).trans ((rn_t (dlt hltc)).trans ?_))))))))
          have hb := hT.bd _ (List.getElem_mem hlt)
          rw [i64_wrap _ (by omega) (by omega), Int.toNat_natCast]
          show g _ = g _
          rw [q1, q2]
        · obtain ⟨q1, q2⟩ := p2 (fun _ c => he c)
          refine (rn_f ?_).trans ((rn_o (ins_is _ _ hpl hns _)).trans ((rn_o (slot_is _ _ (by rw [List.length_map] at hpl ⊢; exact hpl) hcs _ _)).trans ?_))
          · exact Bool.eq_false_iff.2 fun c => he (toList_inj (eq_of_beq c))
          · show g _ = g _
            rw [q1, q2]
      · obtain ⟨q1, q2⟩ := p2 (fun c _ => hlt c)
        refine (rn_f (decide_eq_false (by rw [List.length_map]; simp only [Int.ofNat_eq_natCast]; omega))).trans ((rn_o (ins_is _ _ hpl hns _)).trans ((rn_o (slot_is _ _ (by rw [List.length_map] at hpl ⊢; exact hpl) hcs _ _)).trans ?_))
        show g _ = g _
        rw [q1, q2])
    (fun i hi s t hs h => by cases h; exact hs.bmp _)
    (fun s g hs => rn_out.trans rfl) T hT
  rw [foldE_fold (fun (T : Cnt) (b : Bd) => bmp b.1 T) (fun _ _ => rfl)] at this
  exact this
theorem GoodC.cntB {k : Nat} {T : Cnt} (h : GoodC k T) : ∀ (bs : List Bd), GoodC (k + bs.length) (Go.Proofs.YtdiomgmckidccaaGreatDoor.cntB bs T) := by
  intro bs
  induction bs generalizing k T with
  | nil => exact h
  | cons b bs ih =>
    have := ih (h.bmp b.1)
    rw [List.length_cons, show k + (bs.length + 1) = k + 1 + bs.length by omega]; exact this
theorem GoodC.mono {k k' : Nat} {T : Cnt} (h : GoodC k T) (hk : k ≤ k') : GoodC k' T := ⟨h.so, by have := h.le; omega, fun p hp => by have := h.bd p hp; omega⟩
theorem rnames_is (L : Items) (hl : L.length ≤ 512) (hb : ∀ p ∈ L, p.2.2.length ≤ 16) (lk : List Nat) (H : List Pev.Node) : ref08_NamesR L lk H = some ((cntL L []).map (·.1), (cntL L []).map (·.2), H) := by
  unfold ref08_NamesR ref08_NamesR_t
  have := foldE_runI (bd := ref08_NamesR_b0) L (by omega) (fun i (T : Cnt) => (T.map (·.1), L, Int.ofNat L.length, (i : Int), T.map (·.2), lk, H, ())) (fun T x => .inl (cntB x.2.2 T)) (fun T => (T.map (·.1), T.map (·.2), lk, H, ())) (fun i T => GoodC (16 * i) T)
    (fun i hi T g hT => by
      refine (rn_in hi).trans ?_
      rw [getI_lt hi]
      have hbi := hb L[i] (List.getElem_mem hi)
      refine (rn_o (namesB_loop L i L[i].2.2 (16 * i) (by omega) lk H T hT)).trans ?_
      rw [wsucc (by omega)]; rfl)
    (fun i hi s t hs h => by
      cases h
      have hbi := hb L[i] (List.getElem_mem hi)
      exact (hs.cntB _).mono (by omega))
    (fun s g hs => rn_out.trans rfl) [] ⟨.nil, Nat.zero_le _, fun _ h => (nomatch h)⟩
  rw [foldE_fold (fun (T : Cnt) (x : Item) => cntB x.2.2 T) (fun _ _ => rfl)] at this
  exact (fn_o this).trans rfl
theorem bl_le : ∀ x y : List UInt8, Op.bytesLess x y = true → x ≤ y
  | [], y, _ => fun c => absurd c (List.not_lt_nil _)
  | a :: x, [], h => by cases h
  | a :: x, b :: y, h => by
    intro c
    rw [bl_cons, Bool.or_eq_true, Bool.and_eq_true] at h
    rcases List.cons_lt_cons_iff.1 c with c | ⟨c1, c2⟩
    · rcases h with h | ⟨h, _⟩
      · have h := of_decide_eq_true h
        exact absurd (UInt8.lt_trans h c) (UInt8.lt_irrefl _)
      · rw [eq_of_beq h] at c; exact absurd c (UInt8.lt_irrefl _)
    · rcases h with h | ⟨_, h⟩
      · have h := of_decide_eq_true h
        rw [c1] at h; exact absurd h (UInt8.lt_irrefl _)
      · exact bl_le x y h c2
theorem sortB_of {l : List ByteArray} (h : Rise l) : sortB l = l := by
  unfold sortB
  rw [List.mergeSort_of_pairwise]
  · rw [List.map_map]
    exact (List.map_congr_left fun a _ => rfl).trans (List.map_id l)
  · refine List.pairwise_map.2 (h.imp fun {a b} hab => decide_eq_true ?_)
    have := bl_le _ _ hab
    rwa [ByteArray.toList_eq, ByteArray.toList_eq] at this
theorem ckF_name {f : Fil} (h : ckF f = none) : ∀ b ∈ f.2, nameB b.1 = true := by
  have key : ∀ (l : List Bd) (p : ByteArray), bsOk p l = true → ∀ b ∈ l, nameB b.1 = true := by
    intro l
    induction l with
    | nil => intro _ _ b hb; cases hb
    | cons c l ih =>
      intro p hp b hb
      unfold bsOk at hp
      obtain ⟨h1, h2⟩ := Bool.and_eq_true_iff.1 hp
      rcases List.mem_cons.1 hb with e | e
      · rw [e]
        unfold rgtB at h1
        rw [Bool.and_eq_true, Bool.and_eq_true] at h1
        exact h1.1.1
      · exact ih _ h2 b e
  unfold ckF at h
  by_cases hl : f.2.length > 16
  · rw [if_pos hl] at h; cases h
  · rw [if_neg hl] at h
    split at h
    · rename_i hc
      rcases Bool.or_eq_true_iff.1 hc with c | c
      · intro b hb; rw [List.isEmpty_iff.1 c] at hb; cases hb
      · exact key _ _ (Bool.and_eq_true_iff.1 c).2
    · cases h
theorem nameB_size {s : ByteArray} (h : nameB s = true) : s.size ≤ 16 := by
  unfold nameB at h
  simp only [Bool.and_eq_true, decide_eq_true_eq] at h
  exact h.1.1.1.2
theorem names_is {H : List Pev.Node} {n a m : Nat} {L : Items} {N : NmL} {own : Nat → Option Ro} (h : RepI H n a m L N (ents L) own) (hf : Fine L) :
    ∃ K, index_Index_Names (some n) [] H = some ((cntL L []).map (·.1), (cntL L []).map (·.2), K) ∧ RepI K n a m L N (ents L) own ∧ Ext8 H own K own := by
  have hsame := names_same h hf
  have hlen : N.length ≤ 10000 := by
    have h1 := cntL_len L [] fun p hp => (ckF_rise (hf.ok p hp)).2.1
    rw [hsame, List.length_map] at h1
    have := hf.le
    simp only [List.length_nil] at h1
    omega
  have hsz : ∀ p ∈ N, p.1.size ≤ 1000000 := fun p hp => by
    have h1 : lkM p.1 N = some p.2 := (lookL_some (k := .str) (v := .rf .map) rfl (h.so.keys rfl)).2 hp
    obtain ⟨q, _, _, _, hne⟩ := h.sub p.1 _ h1
    cases he : ents L p.1 with
    | nil => exact absurd he hne
    | cons x l =>
      have hx : x ∈ ents L p.1 := by rw [he]; exact List.mem_cons_self
      obtain ⟨y, hy, hy2⟩ := List.mem_filterMap.1 hx
      cases hg : getB y.2.2 p.1 with
      | none => rw [hg] at hy2; cases hy2
      | some b =>
        obtain ⟨g1, g2⟩ := getB_mem hg
        have := nameB_size (ckF_name (hf.ok y hy) b g1)
        rw [g2] at this
        omega
  have hframe : RepI (H ++ [.box 84 (.rf .map) (some m)]) n a m L N (ents L) own := h.frame (fun i hi => by rw [List.getElem?_append_left (h.lt i hi)]) (by simp)
  refine ⟨H ++ [.box 84 (.rf .map) (some m)], ?_, hframe, ⟨by simp, fun i hi _ => List.getElem?_append_left hi, fun _ h1 h2 => absurd h1 h2⟩⟩
  have hrise : Rise (N.map (·.1)) := List.pairwise_map.2 h.so
  have hsorted : sortedG (some H.length) (H ++ [.box 84 (.rf .map) (some m)]) = some (N.map (·.1), H ++ [.box 84 (.rf .map) (some m)]) := by
    unfold sortedG sortedF
    rw [show (some H.length).bind (getBox 84 (.rf .map) (H ++ [.box 84 (.rf .map) (some m)])) = some (some m) from getBox_at app_new]
    simp only
    rw [show getMap false false .str (.rf .map) (H ++ [.box 84 (.rf .map) (some m)]) m = some N from getMap_at hframe.hm]
    simp only
    unfold keysC
    rw [decide_eq_true (show N.length ≤ 1000000 by omega), show (N.all fun p => decide (p.1.size ≤ 1000000)) = true from List.all_eq_true.2 fun p hp => decide_eq_true (hsz p hp), sortB_of hrise]
    rfl
  have lp := foldE_runI (bd := index_Index_Names_b0) (N.map (·.1)) (by rw [List.length_map]; omega) (fun i (c : List Int) => (some n, Int.ofNat (N.map (·.1)).length, (i : Int), N.map (·.1), c, [], H ++ [.box 84 (.rf .map) (some m)], ())) (fun c s => .inl (c ++ [((ents L s).length : Int)])) (fun c => (N.map (·.1), c, [], H ++ [.box 84 (.rf .map) (some m)], ())) (fun i c => c.length ≤ i)
    (fun i hi c g hc => by
      refine (rn_in hi).trans ((rn_t dge0).trans ((rn_t (dlt hi)).trans ((rn_t rfl).trans ((rn_t rfl).trans ((rn_o (getBox_at hframe.hn)).trans ((rn_o (getBox_at hframe.hn)).trans ((rn_t rfl).trans ((rn_o (getMap_at hframe.hm)).trans ?_))))))))
      have hiN : i < N.length := by simpa using hi
      rw [getI_lt hi, List.getElem_map]
      have h1 : lkM N[i].1 N = some N[i].2 := (lookL_some (k := .str) (v := .rf .map) rfl (h.so.keys rfl)).2 (List.getElem_mem hiN)
      obtain ⟨q, hq, _, hhq, _⟩ := hframe.sub N[i].1 _ h1
      rw [hq] at h1
      rw [show lookL Sh.str (Sh.rf RK.map) N[i].1 N = some (some q) from h1]
      refine (rn_t rfl).trans ((rn_o (getMap_at hhq)).trans ((rn_t (appLim_ok (by omega))).trans ?_))
      rw [wsucc (by omega)]; rfl)
    (fun i hi s t hs h => by cases h; simp only [List.length_append, List.length_singleton]; omega)
    (fun s g hs => rn_out.trans rfl) [] (Nat.le_refl _)
  rw [foldE_fold (fun (c : List Int) (s : ByteArray) => c ++ [((ents L s).length : Int)]) (fun _ _ => rfl)] at lp
  have key : ∀ (l : List ByteArray) (c : List Int), l.foldl (fun c s => c ++ [((ents L s).length : Int)]) c = c ++ l.map fun s => ((ents L s).length : Int) := by
    intro l
    induction l with
    | nil => intro c; simp
    | cons x l ih => intro c; rw [List.foldl_cons, ih]; simp
  rw [key, List.nil_append] at lp
  unfold index_Index_Names index_Index_Names_t
  refine (fn_f rfl).trans ((fn_t rfl).trans ((fn_t rfl).trans ((fn_o (getBox_at h.hn)).trans ((fn_o (getBox_at h.hn)).trans ((fn_o hsorted).trans ((fn_o lp).trans ?_))))))
  rw [hsame, List.map_map, List.map_map]
  show some _ = some _
  rw [List.map_map]
  rfl
end Go.Proofs.YtdiomgmckidccaaGreatDoor
