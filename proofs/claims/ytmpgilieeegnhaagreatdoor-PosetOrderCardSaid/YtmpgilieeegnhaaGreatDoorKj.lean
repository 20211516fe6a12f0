/- Chapter 7, plain: the order of covering; PosetRoots and PosetOrder. -/
import Derived.Test.YtmpgilieeegnhaaGreatDoorKi
set_option maxRecDepth 100000
namespace Go.Proofs.YtmpgilieeegnhaaGreatDoor
open Go Go.Pev
/-! ### a finite order -/
theorem max_ex {α : Type} {l : List α} {R : α → α → Bool} (tr : ∀ a ∈ l, ∀ b ∈ l, ∀ c ∈ l, R a b = true → R b c = true → R a c = true) (ir : ∀ a ∈ l, R a a = false) : ∀ (k : Nat) (y : α), y ∈ l → (l.filter fun x => R x y).length ≤ k → ∃ r ∈ l, (r = y ∨ R r y = true) ∧ ∀ x ∈ l, R x r = false
  | k, y, hy, hk => by
    by_cases h : ∃ x ∈ l, R x y = true
    · obtain ⟨x, hx, hxy⟩ := h
      have hsub : (l.filter fun z => R z x).length < (l.filter fun z => R z y).length := by
        have h1 : (l.filter fun z => R z x).length = ((l.filter fun z => R z y).filter fun z => R z x).length := by
          rw [List.filter_filter]
          congr 1
          refine List.filter_congr fun z hz => ?_
          cases hc : R z x with
          | false => rfl
          | true => rw [tr z hz x hx y hy hc hxy]; rfl
        rw [h1]
        rcases Nat.lt_or_ge ((l.filter fun z => R z y).filter fun z => R z x).length (l.filter fun z => R z y).length with c | c
        · exact c
        · exfalso
          have := List.length_filter_eq_length_iff.1 (Nat.le_antisymm (List.length_filter_le _ _) c) x (List.mem_filter.2 ⟨hx, hxy⟩)
          rw [ir x hx] at this; cases this
      match k, hk with
      | 0, hk => omega
      | k + 1, hk =>
        obtain ⟨r, hr, h1, h2⟩ := max_ex tr ir k x hx (by omega)
        refine ⟨r, hr, .inr ?_, h2⟩
        rcases h1 with rfl | h1
        · exact hxy
        · exact tr r hr x hx y hy h1 hxy
    · refine ⟨y, hy, .inl rfl, fun x hx => ?_⟩
      cases hc : R x y with
      | false => rfl
      | true => exact absurd ⟨x, hx, hc⟩ h
/-! ### covering is an order -/
theorem pre_iff (a p : ByteArray) : preB a p = true ↔ ∃ s : List UInt8, a.toList = p.toList ++ s := by
  have e1 : ∀ a : ByteArray, a.toList.length = a.size := fun a => by rw [ByteArray.toList_eq]; rfl
  have e2 : ∀ (a : ByteArray) (k : Nat), (a.extract 0 k).toList = a.toList.take k := fun a k => by
    rw [ByteArray.toList_eq, ByteArray.toList_eq, ByteArray.data_extract, Array.toList_extract]
    simp
  unfold preB
  rw [Bool.and_eq_true, decide_eq_true_iff, beq_iff_eq, e2]
  constructor
  · rintro ⟨h1, h2⟩
    exact ⟨a.toList.drop p.size, by rw [← h2, List.take_append_drop]⟩
  · rintro ⟨s, h⟩
    have hl := congrArg List.length h
    rw [List.length_append, e1, e1] at hl
    exact ⟨by omega, by rw [h, List.take_append_of_le_length (by rw [e1]; omega), List.take_of_length_le (by rw [e1]; omega)]⟩
theorem pre_trans {a b c : ByteArray} (h : preB a b = true) (k : preB b c = true) : preB a c = true := by
  rw [pre_iff] at h k ⊢
  obtain ⟨s, h⟩ := h
  obtain ⟨t, k⟩ := k
  exact ⟨t ++ s, by rw [h, k, List.append_assoc]⟩
theorem wdB_refl (a : Bd) : wdB a a = true := by
  obtain ⟨n, k, lo, hi, ex, s, t, f⟩ := a
  unfold wdB
  by_cases h1 : k = 1
  · subst h1; simp
  · by_cases h2 : k = 2
    · subst h2; cases ex <;> simp [preB_self]
    · cases t <;> cases f <;> simp [h1, h2]
theorem wdB_trans {a b c : Bd} (h : wdB a b = true) (k : wdB b c = true) : wdB a c = true := by
  obtain ⟨n, ka, lo, hi, ex, s, t, f⟩ := a
  obtain ⟨n', kb, lo', hi', ex', s', t', f'⟩ := b
  obtain ⟨n'', kc, lo'', hi'', ex'', s'', t'', f''⟩ := c
  unfold wdB at h k ⊢
  simp only [Bool.and_eq_true, decide_eq_true_eq] at h k ⊢
  obtain ⟨rfl, h⟩ := h
  obtain ⟨rfl, k⟩ := k
  refine ⟨rfl, ?_⟩
  by_cases h1 : ka = 1
  · rw [if_pos h1] at h k ⊢
    simp only [Bool.and_eq_true, decide_eq_true_eq] at h k ⊢
    omega
  · rw [if_neg h1] at h k ⊢
    by_cases h2 : ka = 2
    · rw [if_pos h2] at h k ⊢
      simp only [Bool.and_eq_true] at h k ⊢
      refine ⟨pre_trans k.1 h.1, ?_⟩
      have h3 := h.2
      have k3 := k.2
      cases ex with
      | false => rfl
      | true =>
        simp only [Bool.not_true, Bool.false_or, Bool.and_eq_true, decide_eq_true_eq] at h3
        obtain ⟨rfl, rfl⟩ := h3
        simpa using k3
    · rw [if_neg h2] at h k ⊢
      revert h k
      cases t <;> cases f <;> cases t' <;> cases f' <;> cases t'' <;> cases f'' <;> simp
theorem getB_self {bs : List Bd} (hr : (bs.map (·.1)).Nodup) {b : Bd} (hb : b ∈ bs) : getB bs b.1 = some b := by
  induction bs with
  | nil => cases hb
  | cons x bs ih =>
    rw [getB_cons]
    rw [List.map_cons, List.nodup_cons] at hr
    rcases List.mem_cons.1 hb with rfl | hb
    · rw [if_pos rfl]
    · rw [if_neg (fun c => hr.1 (by rw [c]; exact List.mem_map.2 ⟨b, hb, rfl⟩)), ih hr.2 hb]
theorem covB_refl {f : Fil} (h : ckF f = none) : covB f f = true := by
  unfold covB
  cases hf : f.1 with
  | true => rfl
  | false =>
    rw [if_neg (by simp)]
    refine List.all_eq_true.2 fun b hb => ?_
    unfold hasB
    rw [getB_self (rise_nodup (ckF_rise h).1) hb]
    exact wdB_refl b
theorem covB_trans {f g h : Fil} (h1 : covB f g = true) (h2 : covB g h = true) : covB f h = true := by
  unfold covB at h1 h2 ⊢
  cases hh : h.1 with
  | true => simp
  | false =>
    rw [hh] at h2
    cases hg : g.1 with
    | true => rw [hg] at h2; simp at h2
    | false =>
      rw [hg] at h1 h2
      cases hf : f.1 with
      | true => rw [hf] at h1; simp at h1
      | false =>
        rw [hf] at h1
        rw [if_neg (by simp)] at h1 h2 ⊢
        refine List.all_eq_true.2 fun a ha => ?_
        have q1 := List.all_eq_true.1 h1 a ha
        unfold hasB at q1 ⊢
        cases hb : getB g.2 a.1 with
        | none => rw [hb] at q1; cases q1
        | some b =>
          rw [hb] at q1
          obtain ⟨hbm, hbn⟩ := getB_mem hb
          have q2 := List.all_eq_true.1 h2 b hbm
          unfold hasB at q2
          rw [hbn] at q2
          cases hc : getB h.2 a.1 with
          | none => rw [hc] at q2; cases q2
          | some c =>
            rw [hc] at q2
            exact wdB_trans q1 q2
section
variable {L : Items}
theorem one_id (hf : F7 L) {x y : Item} (hx : x ∈ L) (hy : y ∈ L) (h : x.1 = y.1) : x = y := by
  have h1 := (lk_mem (β := shFil) hf.so).2 hx
  have h2 := (lk_mem (β := shFil) hf.so).2 hy
  rw [h, h2] at h1
  exact Prod.ext h (Option.some.inj h1).symm
theorem abvN_irrefl (x : Item) : abvN x x = false := by unfold abvN; simp
theorem abvN_iff (x y : Item) : abvN x y = true ↔ x.1 ≠ y.1 ∧ covB x.2 y.2 = true ∧ (covB y.2 x.2 = false ∨ x.1 < y.1) := by
  unfold abvN abvI
  simp only [Bool.and_eq_true, Bool.or_eq_true, Bool.not_eq_true', decide_eq_true_eq]
theorem abvN_trans (hf : F7 L) {x y z : Item} (hx : x ∈ L) (hz : z ∈ L) (h : abvN x y = true) (k : abvN y z = true) : abvN x z = true := by
  rw [abvN_iff] at h k ⊢
  obtain ⟨h1, h2, h3⟩ := h
  obtain ⟨k1, k2, k3⟩ := k
  have hc : covB z.2 x.2 = true → x.1 < z.1 := fun c => by
    have a1 : covB z.2 y.2 = true := covB_trans c h2
    have a2 : covB y.2 x.2 = true := covB_trans k2 c
    have b1 : y.1 < z.1 := k3.resolve_left (by rw [a1]; simp)
    have b2 : x.1 < y.1 := h3.resolve_left (by rw [a2]; simp)
    omega
  refine ⟨fun c => ?_, covB_trans h2 k2, ?_⟩
  · have e := one_id hf hx hz c
    subst e
    have := hc (covB_refl (hf.ok x hx))
    omega
  · cases hzx : covB z.2 x.2 with
    | false => exact .inl rfl
    | true => exact .inr (hc hzx)
theorem root_over (hf : F7 L) {y : Item} (hy : y ∈ L) : ∃ r ∈ L, topB L r = true ∧ covB r.2 y.2 = true := by
  obtain ⟨r, hr, h1, h2⟩ := max_ex (R := abvN) (fun a ha b _ c hc => abvN_trans hf ha hc) (fun a _ => abvN_irrefl a) _ y hy (Nat.le_refl _)
  refine ⟨r, hr, ?_, ?_⟩
  · unfold topB
    rw [Bool.not_eq_true', List.any_eq_false]
    exact fun x hx => by simp [h2 x hx]
  · rcases h1 with rfl | h1
    · exact covB_refl (hf.ok r hr)
    · exact ((abvN_iff _ _).1 h1).2.1
theorem pars_top (hf : F7 L) {y : Item} (hy : y ∈ L) : (parsL L y).isEmpty = topB L y := by
  unfold parsL topB
  by_cases h : ∃ x ∈ L, abvN x y = true
  · obtain ⟨x, hx, hxy⟩ := h
    have hxu : x ∈ upsL L y := List.mem_filter.2 ⟨hx, hxy⟩
    have hsub : ∀ z ∈ upsL L y, z ∈ L := fun z hz => (List.mem_filter.1 hz).1
    obtain ⟨r, hr, _, h2⟩ := max_ex (l := upsL L y) (R := fun a b => abvN b a) (fun a ha b hb c hc h k => abvN_trans hf (hsub c hc) (hsub a ha) k h) (fun a _ => abvN_irrefl a) _ x hxu (Nat.le_refl _)
    have hj : justB (upsL L y) r = true := by
      unfold justB
      rw [Bool.not_eq_true', List.any_eq_false]
      intro z hz
      rw [← abvN_split r z, h2 z hz]
      simp
    have hne : ((upsL L y).filter (justB (upsL L y))).map (·.1) ≠ [] := by
      intro c
      have := List.map_eq_nil_iff.1 c
      have h3 : r ∈ (upsL L y).filter (justB (upsL L y)) := List.mem_filter.2 ⟨hr, hj⟩
      rw [this] at h3
      cases h3
    have hany : (L.any fun x => abvN x y) = true := List.any_eq_true.2 ⟨x, hx, hxy⟩
    rw [hany]
    cases hm : ((upsL L y).filter (justB (upsL L y))).map (·.1) with
    | nil => exact absurd hm hne
    | cons a l => rfl
  · have hu : upsL L y = [] := List.filter_eq_nil_iff.2 fun x hx c => h ⟨x, hx, c⟩
    have hany : (L.any fun x => abvN x y) = false := List.any_eq_false.2 fun x hx c => h ⟨x, hx, c⟩
    rw [hu, hany]; rfl
theorem roots_has (hf : F7 L) {y : Item} (hy : y ∈ L) : (rootsL L).contains y.1 = topB L y := by
  unfold rootsL
  rw [Bool.eq_iff_iff, List.contains_iff_mem, List.mem_map]
  constructor
  · rintro ⟨x, hx, h⟩
    obtain ⟨h1, h2⟩ := List.mem_filter.1 hx
    rw [← one_id hf h1 hy h]; exact h2
  · exact fun h => ⟨y, List.mem_filter.2 ⟨hy, h⟩, rfl⟩
theorem getP_at (hf : F7 L) {x : Item} (hx : x ∈ L) : getP L x.1 = (x.2, none) := by
  unfold getP
  rw [show lkF x.1 L = some x.2 from (lk_mem (β := shFil) hf.so).2 hx]
theorem parP_at (hf : F7 L) {x : Item} (hx : x ∈ L) : parP L x.1 = (parsL L x, none) := by
  unfold parP
  rw [show lkF x.1 L = some x.2 from (lk_mem (β := shFil) hf.so).2 hx]
theorem chlP_at (hf : F7 L) {x : Item} (hx : x ∈ L) : chlP L x.1 = ((L.filter fun y => (parsL L y).contains x.1).map (·.1), none) := by
  unfold chlP
  rw [show lkF x.1 L = some x.2 from (lk_mem (β := shFil) hf.so).2 hx]
variable {H : List Pev.Node} {n m : Nat}
/-! ### PosetRoots -/
theorem under_loop (h : RepP H n m L) (hf : F7 L) (x : Item) (hx : x.2.2.length ≤ 1000000) (a32 a33 : Int) (r : List Int) (hr : ∀ z ∈ r, ∃ y ∈ L, y.1 = z) (hrl : r.length ≤ 1000000) :
    law07_PosetRoots_l1 (some n, false, L, a32, a33, Int.ofNat r.length, 0, x.1, x.2.1, x.2.2, r, [], H, ()) = some (.inr (some n, r.any fun z => covB (atF L z) x.2, L, a32, a33, x.1, x.2.1, x.2.2, r, [], H, ())) := by
  have := foldE_run (bd := law07_PosetRoots_b1) r (by omega) (fun i (u : Bool) => (some n, u, L, a32, a33, Int.ofNat r.length, (i : Int), x.1, x.2.1, x.2.2, r, [], H, ())) (fun u z => .inl (u || covB (atF L z) x.2)) (fun u => .inr (some n, u, L, a32, a33, x.1, x.2.1, x.2.2, r, [], H, ()))
    (fun i hi u g => by
      obtain ⟨y, hy, hyz⟩ := hr r[i] (List.getElem_mem hi)
      have hget : poset_Poset_Get (some n) r[i] [] H = some (y.2, none, H) := by rw [← hyz, getP_is h hf, getP_at hf hy]
      have hat : atF L r[i] = y.2 := by rw [← hyz]; exact atF_mem hf hy
      refine (rn_in hi).trans ((rn_t dge0).trans ((rn_t (dlt hi)).trans ?_))
      rw [getI_lt hi, wsucc (by omega)]
      refine (rn_o hget).trans ((rn_f rfl).trans ?_)
      rw [hat]
      cases u with
      | true => exact (rn_t rfl).trans rfl
      | false => exact (rn_f rfl).trans ((rn_o (Covers_is y.2 x.2 (hf.few y hy) hx)).trans rfl))
    (fun u g => rn_out.trans rfl) false
  rw [foldE_fold (fun u z => u || covB (atF L z) x.2) (fun _ _ => rfl)] at this
  refine Eq.trans (show law07_PosetRoots_l1 _ = _ from this) ?_
  have key : ∀ (l : List Int) (b : Bool), l.foldl (fun u z => u || covB (atF L z) x.2) b = (b || l.any fun z => covB (atF L z) x.2) := by
    intro l
    induction l with
    | nil => intro b; simp
    | cons z l ih => intro b; rw [List.foldl_cons, ih, List.any_cons, Bool.or_assoc]
  rw [key]; rfl
theorem roots_mem (hf : F7 L) : ∀ z ∈ rootsL L, ∃ y ∈ L, y.1 = z := fun z hz => by
  obtain ⟨y, hy, h⟩ := List.mem_map.1 hz
  exact ⟨y, (List.mem_filter.1 hy).1, h⟩
theorem under_true (hf : F7 L) {x : Item} (hx : x ∈ L) : ((rootsL L).any fun z => covB (atF L z) x.2) = true := by
  obtain ⟨r, hr, h1, h2⟩ := root_over hf hx
  refine List.any_eq_true.2 ⟨r.1, List.mem_map.2 ⟨r, List.mem_filter.2 ⟨hr, h1⟩, rfl⟩, ?_⟩
  rw [atF_mem hf hr]; exact h2
theorem rootsLaw_loop (hf : F7 L) : ∀ (fu i : Nat) (H : List Pev.Node), i ≤ L.length → L.length - i < fu → RepP H n m L →
    ∃ K, LT.loop law07_PosetRoots_b0 fu (some n, L, Int.ofNat L.length, (i : Int), rootsL L, [], H, ()) = some (.inr ([], K, ()))
  | 0, _, _, _, h, _ => by omega
  | fu + 1, i, H, h1, h2, h => by
    have hle := hf.le
    rw [LT.loop_succ]
    by_cases hi : i < L.length
    · have hx : L[i] ∈ L := List.getElem_mem hi
      obtain ⟨X, w1⟩ := parentsR_is h hf L[i].1
      rw [parP_at hf hx] at w1
      obtain ⟨K, w2⟩ := rootsLaw_loop hf fu (i + 1) (H ++ X) (by omega) (by omega) (h.app X)
      refine ⟨K, ?_⟩
      refine (rn_in hi).trans ?_
      rw [getI_lt hi]
      refine (rn_o (under_loop h hf L[i] (hf.few _ hx) (Int.ofNat L.length) (i : Int) (rootsL L) (roots_mem hf) (by have := rootsL_len L; omega))).trans ?_
      rw [under_true hf hx]
      show (LT.opt (poset_Poset_Parents (some n) L[i].1 [] H) _).run some _ = _
      refine (rn_o w1).trans ((rn_f rfl).trans ((rn_f rfl).trans ?_))
      refine (rn_o (hasZ_is (rootsL L) L[i].1 (by have := rootsL_len L; omega))).trans ?_
      rw [roots_has hf hx]
      refine (rn_f ?_).trans ?_
      · dsimp only
        rw [len0, pars_top hf hx]
        simp
      · dsimp only
        rw [wsucc (by omega)]
        exact w2
    · have : i = L.length := by omega
      subst this
      exact ⟨H, rn_out.trans rfl⟩
end
theorem posetRoots_law (x0 : List O7) (w0 : wfS (.sl shOp7) x0) (z0 : wzS Tryz.prog 8 22 (.sl shOp7) x0) : ∃ H, law07_PosetRoots x0 [] [] = some (true, H) := by
  obtain ⟨K, h⟩ := awake_is
  unfold law07_PosetRoots law07_PosetRoots_t
  by_cases hl : x0.length > 40
  · exact ⟨K, (fn_o h).trans ((fn_f rfl).trans ((fn_t (decide_eq_true (by simp only [Int.ofNat_eq_natCast]; omega))).trans rfl))⟩
  · obtain ⟨K1, n, m, L, w1, w2, w3⟩ := play_is K false x0 (by omega) (sz_ops z0 w0)
    obtain ⟨X, w4⟩ := rootsR_is w2 w3
    obtain ⟨K2, w5⟩ := rootsLaw_loop w3 FUEL 0 (K1 ++ X) (Nat.zero_le _) (by rw [fuel_is]; have := w3.le; omega) (w2.app X)
    exact ⟨K2, (fn_o h).trans ((fn_f rfl).trans ((fn_f (decide_eq_false (by simp only [Int.ofNat_eq_natCast]; omega))).trans ((fn_o w1).trans ((fn_f rfl).trans ((fn_o w4).trans ((fn_o w5).trans rfl))))))⟩
/-! ### PosetOrder -/
section
variable {L : Items} {n m n' m' : Nat}
theorem so_drop (hf : F7 L) (k : Nat) : F7 (L.drop k) := ⟨⟨List.Pairwise.sublist (List.drop_sublist k L) hf.so, fun p hp => hf.ok p (List.mem_of_mem_drop hp), by have := hf.le; rw [List.length_drop]; omega⟩, fun p hp => hf.ids p (List.mem_of_mem_drop hp)⟩
theorem addP_drop (hf : F7 L) {k : Nat} (hk : k < L.length) : addP (L.drop (k + 1)) L[k].1 L[k].2 = (L.drop k, none) := by
  have hd : L.drop k = L[k] :: L.drop (k + 1) := List.drop_eq_getElem_cons hk
  have hso : SoF (L[k] :: L.drop (k + 1)) := by rw [← hd]; exact (so_drop hf k).so
  have hlt := (so_cons.1 hso).1
  have hno : lkF L[k].1 (L.drop (k + 1)) = none := lk_lt hlt
  unfold addP
  rw [hf.ok L[k] (List.getElem_mem hk), hno]
  have hlen : ¬ (L.drop (k + 1)).length ≥ 512 := by have := hf.le; rw [List.length_drop]; omega
  simp only [Option.isSome_none, Bool.false_eq_true, if_false, if_neg hlen]
  rw [hd]
  have hput : putL (.int .i64) shFil L[k].1 L[k].2 (L.drop (k + 1)) = (L[k].1, L[k].2) :: L.drop (k + 1) := by
    unfold putL
    rw [del_none hno]
    cases hc : L.drop (k + 1) with
    | nil => rfl
    | cons p r =>
      have := hlt p (by rw [hc]; exact List.mem_cons_self)
      unfold insL
      rw [show ltB (.int .i64) L[k].1 p.1 = true from decide_eq_true this]
  exact congrArg (fun l => (l, (none : Err))) hput
theorem order_loop0 (hf : F7 L) : ∀ (fu i : Nat) (H : List Pev.Node), i ≤ L.length → L.length - i < fu → RepP H n m L → RepP H n' m' (L.drop (L.length - i)) → n ≠ m' → m ≠ m' →
    ∃ K, LT.loop law07_PosetOrder_b0 fu (some n, L, some n', Int.ofNat L.length, (i : Int), [], H, ()) = some (.inr (some n, L, some n', [], K, ())) ∧ RepP K n m L ∧ RepP K n' m' L
  | 0, _, _, _, h, _, _, _, _ => by omega
  | fu + 1, i, H, h1, h2, h, h', e1, e2 => by
    have hle := hf.le
    rw [LT.loop_succ]
    by_cases hi : i < L.length
    · have hk : L.length - i = (L.length - 1 - i) + 1 := by omega
      have hkl : L.length - 1 - i < L.length := by omega
      rw [hk] at h'
      obtain ⟨K1, w1, r1, x1⟩ := insP_is h' L[L.length - 1 - i].1 L[L.length - 1 - i].2
      rw [addP_drop hf hkl] at w1 r1
      obtain ⟨K, w2, q1, q2⟩ := order_loop0 hf fu (i + 1) K1 (by omega) (by omega) (h.keep x1 e1 e2) (by rw [show L.length - (i + 1) = L.length - 1 - i by omega]; exact r1) e1 e2
      refine ⟨K, ?_, q1, q2⟩
      have hidx : IntKind.i64.wrap (IntKind.i64.wrap (Int.ofNat L.length - 1) - (i : Int)) = ((L.length - 1 - i : Nat) : Int) := by
        simp only [Int.ofNat_eq_natCast]
        rw [i64_wrap ((L.length : Int) - 1) (by omega) (by omega), i64_wrap _ (by omega) (by omega)]
        omega
      refine (rn_t (dlt hi)).trans ?_
      rw [hidx, getI_lt hkl, wsucc (by omega)]
      exact (rn_t dge0).trans ((rn_t (dlt hkl)).trans ((rn_o w1).trans ((rn_f rfl).trans w2)))
    · have : i = L.length := by omega
      subst this
      rw [Nat.sub_self, List.drop_zero] at h'
      exact ⟨H, rn_out.trans rfl, h, h'⟩
theorem order_loop2 (hf : F7 L) {x : Item} (hx : x ∈ L) (a55 a56 : Int) (ups : List Int) (hups : ∀ z ∈ ups, z ∈ parsL L x) (hul : ups.length ≤ 1000000) : ∀ (fu i : Nat) (H : List Pev.Node), i ≤ ups.length → ups.length - i < fu → RepP H n' m' L →
    ∃ X, LT.loop law07_PosetOrder_b2 fu (some n, some n', L, a55, a56, ups, Int.ofNat ups.length, (i : Int), x.1, x.2.1, x.2.2, [], H, ()) = some (.inr (some n, some n', L, a55, a56, [], H ++ X, ()))
  | 0, _, _, _, h, _ => by omega
  | fu + 1, i, H, h1, h2, h => by
    have hle := hf.le
    rw [LT.loop_succ]
    by_cases hi : i < ups.length
    · have hz := hups ups[i] (List.getElem_mem hi)
      obtain ⟨y, hy, hyz⟩ : ∃ y ∈ L, y.1 = ups[i] := by
        obtain ⟨y, hy, h⟩ := List.mem_map.1 hz
        exact ⟨y, (List.mem_filter.1 (List.mem_filter.1 hy).1).1, h⟩
      obtain ⟨X, w1⟩ := childrenR_is h hf y.1
      rw [chlP_at hf hy] at w1
      obtain ⟨Y, w2⟩ := order_loop2 hf hx a55 a56 ups hups hul fu (i + 1) (H ++ X) (by omega) (by omega) (h.app X)
      refine ⟨X ++ Y, ?_⟩
      have hhas : ((L.filter fun z => (parsL L z).contains y.1).map (·.1)).contains x.1 = true := by
        rw [List.contains_iff_mem, List.mem_map]
        exact ⟨x, List.mem_filter.2 ⟨hx, by rw [List.contains_iff_mem, hyz]; exact hz⟩, rfl⟩
      refine (rn_in hi).trans ?_
      rw [getI_lt hi, wsucc (by omega), ← hyz]
      refine (rn_o w1).trans ((rn_f rfl).trans ((rn_o (hasZ_is _ x.1 (by rw [List.length_map]; exact Nat.le_trans (List.length_filter_le _ _) (by omega)))).trans ?_))
      rw [hhas, ← List.append_assoc]
      exact (rn_f rfl).trans w2
    · have : i = ups.length := by omega
      subst this
      exact ⟨[], rn_out.trans (by rw [List.append_nil]; rfl)⟩
theorem order_loop1 (hf : F7 L) : ∀ (fu i : Nat) (H : List Pev.Node), i ≤ L.length → L.length - i < fu → RepP H n m L → RepP H n' m' L →
    ∃ X, LT.loop law07_PosetOrder_b1 fu (some n, some n', L, Int.ofNat L.length, (i : Int), [], H, ()) = some (.inr (some n, some n', [], H ++ X, ()))
  | 0, _, _, _, h, _, _ => by omega
  | fu + 1, i, H, h1, h2, h, h' => by
    have hle := hf.le
    rw [LT.loop_succ]
    by_cases hi : i < L.length
    · have hx : L[i] ∈ L := List.getElem_mem hi
      have hpl := parsL_len L L[i]
      obtain ⟨X1, w1⟩ := parentsR_is h hf L[i].1
      obtain ⟨X2, w2⟩ := parentsR_is (h'.app X1) hf L[i].1
      rw [parP_at hf hx] at w1 w2
      obtain ⟨X3, w3⟩ := order_loop2 (n := n) hf hx (Int.ofNat L.length) (i : Int) (parsL L L[i]) (fun _ h => h) (by omega) FUEL 0 (H ++ X1 ++ X2) (Nat.zero_le _) (by rw [fuel_is]; omega) ((h'.app X1).app X2)
      obtain ⟨X4, w4⟩ := order_loop1 hf fu (i + 1) (H ++ X1 ++ X2 ++ X3) (by omega) (by omega) (((h.app X1).app X2).app X3) (((h'.app X1).app X2).app X3)
      refine ⟨X1 ++ X2 ++ X3 ++ X4, ?_⟩
      refine (rn_in hi).trans ?_
      rw [getI_lt hi]
      refine (rn_o w1).trans ((rn_o w2).trans ((rn_f rfl).trans ((rn_f rfl).trans ((rn_o (ints_self (parsL L L[i]) (by omega))).trans ((rn_f rfl).trans ((rn_o (show law07_PosetOrder_l2 _ = _ from w3)).trans ?_))))))
      have e : H ++ (X1 ++ X2 ++ X3 ++ X4) = H ++ X1 ++ X2 ++ X3 ++ X4 := by simp only [List.append_assoc]
      rw [e, ← w4, ← wsucc (i := i) (by omega)]
      rfl
    · have : i = L.length := by omega
      subst this
      exact ⟨[], rn_out.trans (by rw [List.append_nil]; rfl)⟩
end
theorem posetOrder_law (x0 : List O7) (w0 : wfS (.sl shOp7) x0) (z0 : wzS Tryz.prog 8 22 (.sl shOp7) x0) : ∃ H, law07_PosetOrder x0 [] [] = some (true, H) := by
  obtain ⟨K, h⟩ := awake_is
  unfold law07_PosetOrder law07_PosetOrder_t
  by_cases hl : x0.length > 40
  · exact ⟨K, (fn_o h).trans ((fn_f rfl).trans ((fn_t (decide_eq_true (by simp only [Int.ofNat_eq_natCast]; omega))).trans rfl))⟩
  · obtain ⟨K1, n, m, L, w1, w2, w3⟩ := play_is K false x0 (by omega) (sz_ops z0 w0)
    have hle := w3.le
    obtain ⟨_, r0⟩ := newP_is K1
    have w2' : RepP (K1 ++ [ndM []] ++ [ndP K1.length]) n m L := (w2.app _).app _
    have hlt := w2.lt
    obtain ⟨K2, v1, v2, v3⟩ := order_loop0 (n := n) (m := m) (n' := K1.length + 1) (m' := K1.length) w3 FUEL 0 _ (Nat.zero_le _) (by rw [fuel_is]; omega) w2' (by rw [Nat.sub_zero, List.drop_length]; exact r0) (by omega) (by omega)
    obtain ⟨X1, v4⟩ := order_loop1 w3 FUEL 0 K2 (Nat.zero_le _) (by rw [fuel_is]; omega) v2 v3
    obtain ⟨X2, v5⟩ := rootsR_is (v2.app X1) w3
    obtain ⟨X3, v6⟩ := rootsR_is ((v3.app X1).app X2) w3
    refine ⟨K2 ++ X1 ++ X2 ++ X3, ?_⟩
    have l1 : (K1 ++ [ndM []]).length = K1.length + 1 := by simp
    refine (fn_o h).trans ((fn_f rfl).trans ((fn_f (decide_eq_false (by simp only [Int.ofNat_eq_natCast]; omega))).trans ((fn_o w1).trans ((fn_f rfl).trans ?_))))
    dsimp only
    rw [l1]
    exact (fn_o (show law07_PosetOrder_l0 _ = _ from v1)).trans ((fn_o (show law07_PosetOrder_l1 _ = _ from v4)).trans ((fn_o v5).trans ((fn_o v6).trans ((fn_o (ints_self (rootsL L) (by have := rootsL_len L; omega))).trans rfl))))
end Go.Proofs.YtmpgilieeegnhaaGreatDoor
