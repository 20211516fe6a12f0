/- Chapter 7, plain: a poset on the heap; what its calls answer. -/
import Derived.Test.YtmpgilieeegnhaaGreatDoorKc
set_option maxRecDepth 100000
namespace Go.Proofs.YtmpgilieeegnhaaGreatDoor
open Go Go.Pev
abbrev ndP (m : Nat) : Pev.Node := .box 80 shPos (some m)
abbrev ndM (l : Items) : Pev.Node := .map false true (.int .i64) shFil l
structure RepP (H : List Pev.Node) (n m : Nat) (L : Items) : Prop where
  hn : H[n]? = some (ndP m)
  hm : H[m]? = some (ndM L)
/-- Lists as they are here. -/
structure F7 (L : Items) : Prop extends Fine L where
  ids : ∀ p ∈ L, okZ p.1 = true
theorem F7.nil : F7 [] := ⟨Fine.nil, fun _ h => (nomatch h)⟩
theorem F7.few {L : Items} (h : F7 L) : few7 L := fun p hp => by have := (ckF_rise (h.ok p hp)).2.1; omega
section
variable {H : List Pev.Node} {n m : Nat} {L : Items}
theorem RepP.app (h : RepP H n m L) (X : List Pev.Node) : RepP (H ++ X) n m L := ⟨app_lt h.hn, app_lt h.hm⟩
theorem RepP.lt (h : RepP H n m L) : n < H.length ∧ m < H.length := ⟨(List.getElem?_eq_some_iff.1 h.hn).1, (List.getElem?_eq_some_iff.1 h.hm).1⟩
theorem RepP.ne (h : RepP H n m L) : n ≠ m := fun c => by have := h.hm; rw [← c, h.hn] at this; cases this
theorem there_is (h : RepP H n m L) (id : Int) : poset_Poset_there (some n) id [] H = some (if (lkF id L).isSome = true then none else eN 10, H) := by
  unfold poset_Poset_there poset_Poset_there_t
  refine (fn_f rfl).trans ((fn_t rfl).trans ((fn_t rfl).trans ((fn_o (getBox_at h.hn)).trans ((fn_o (getBox_at h.hn)).trans ((fn_t rfl).trans ((fn_o (getMap_at h.hm)).trans ?_))))))
  show (LT.br (!(lkF id L).isSome) _ _).fin = _
  cases (lkF id L).isSome with
  | true => exact (fn_f rfl).trans rfl
  | false => exact (fn_t rfl).trans rfl
theorem there_some (h : RepP H n m L) {id : Int} {f : Fil} (hk : lkF id L = some f) : poset_Poset_there (some n) id [] H = some (none, H) := by rw [there_is h, hk]; rfl
theorem there_none (h : RepP H n m L) {id : Int} (hk : lkF id L = none) : poset_Poset_there (some n) id [] H = some (eN 10, H) := by rw [there_is h, hk]; rfl
/-- Another map in the poset's place. -/
theorem RepP.set (h : RepP H n m L) (L' : Items) : RepP (H.set m (ndM L')) n m L' := ⟨(set_ne (Ne.symm h.ne)).trans h.hn, set_at h.hm⟩
/-- What a call that changes the poset leaves alone. -/
structure Ext7 (H H' : List Pev.Node) (m : Nat) : Prop where
  len : H.length ≤ H'.length
  keep : ∀ i, i < H.length → i ≠ m → H'[i]? = H[i]?
theorem Ext7.refl (H : List Pev.Node) (m : Nat) : Ext7 H H m := ⟨Nat.le_refl _, fun _ _ _ => rfl⟩
theorem Ext7.trans {H H' H'' : List Pev.Node} {m : Nat} (h : Ext7 H H' m) (k : Ext7 H' H'' m) : Ext7 H H'' m := ⟨Nat.le_trans h.len k.len, fun i hi hm => (k.keep i (Nat.lt_of_lt_of_le hi h.len) hm).trans (h.keep i hi hm)⟩
theorem Ext7.app (H X : List Pev.Node) (m : Nat) : Ext7 H (H ++ X) m := ⟨by simp, fun i hi _ => List.getElem?_append_left hi⟩
theorem Ext7.set (H : List Pev.Node) (m : Nat) (x : Pev.Node) : Ext7 H (H.set m x) m := ⟨by simp, fun i _ hm => set_ne (Ne.symm hm)⟩
theorem RepP.keep {H' : List Pev.Node} {k : Nat} (h : RepP H n m L) (e : Ext7 H H' k) (h1 : n ≠ k) (h2 : m ≠ k) : RepP H' n m L := ⟨(e.keep n h.lt.1 h1).trans h.hn, (e.keep m h.lt.2 h2).trans h.hm⟩
theorem insP_is (h : RepP H n m L) (id : Int) (f : Fil) : ∃ K, poset_Poset_Insert (some n) id f [] H = some ((addP L id f).2, K) ∧ RepP K n m (addP L id f).1 ∧ Ext7 H K m := by
  unfold poset_Poset_Insert poset_Poset_Insert_t addP
  have hck := filter_Check_is f
  cases hc : ckF f with
  | some e =>
    rw [hc] at hck
    exact ⟨H, (fn_f rfl).trans ((fn_o hck).trans ((fn_t rfl).trans rfl)), h, Ext7.refl _ _⟩
  | none =>
    rw [hc] at hck
    simp only
    by_cases hl : (lkF id L).isSome = true
    · rw [if_pos hl]
      refine ⟨H, ?_, h, Ext7.refl _ _⟩
      exact (fn_f rfl).trans ((fn_o hck).trans ((fn_f rfl).trans ((fn_t rfl).trans ((fn_t rfl).trans ((fn_o (getBox_at h.hn)).trans ((fn_o (getBox_at h.hn)).trans ((fn_t rfl).trans ((fn_o (getMap_at h.hm)).trans ((fn_t hl).trans rfl)))))))))
    · have hl0 : (lkF id L).isSome = false := by simpa using hl
      rw [if_neg hl]
      by_cases hn : L.length ≥ 512
      · rw [if_pos hn]
        refine ⟨H, ?_, h, Ext7.refl _ _⟩
        refine (fn_f rfl).trans ((fn_o hck).trans ((fn_f rfl).trans ((fn_t rfl).trans ((fn_t rfl).trans ((fn_o (getBox_at h.hn)).trans ((fn_o (getBox_at h.hn)).trans ((fn_t rfl).trans ((fn_o (getMap_at h.hm)).trans ((fn_f hl0).trans ?_)))))))))
        exact (fn_t rfl).trans ((fn_t rfl).trans ((fn_o (getBox_at h.hn)).trans ((fn_o (getBox_at h.hn)).trans ((fn_t rfl).trans ((fn_o (getMap_at h.hm)).trans ((fn_t (decide_eq_true (by simp only [Int.ofNat_eq_natCast]; omega))).trans rfl))))))
      · rw [if_neg hn]
        refine ⟨_, ?_, h.set _, Ext7.set _ _ _⟩
        have hf := (ckF_rise hc).2.1
        refine (fn_f rfl).trans ((fn_o hck).trans ((fn_f rfl).trans ((fn_t rfl).trans ((fn_t rfl).trans ((fn_o (getBox_at h.hn)).trans ((fn_o (getBox_at h.hn)).trans ((fn_t rfl).trans ((fn_o (getMap_at h.hm)).trans ((fn_f hl0).trans ?_)))))))))
        refine (fn_t rfl).trans ((fn_t rfl).trans ((fn_o (getBox_at h.hn)).trans ((fn_o (getBox_at h.hn)).trans ((fn_t rfl).trans ((fn_o (getMap_at h.hm)).trans ((fn_f (decide_eq_false (by simp only [Int.ofNat_eq_natCast]; omega))).trans ?_))))))
        exact (fn_t rfl).trans ((fn_t rfl).trans ((fn_o (getBox_at h.hn)).trans ((fn_o (getBox_at h.hn)).trans ((fn_o (copy_is f (by omega))).trans ((fn_t rfl).trans ((fn_t rfl).trans ((fn_o (getMap_at h.hm)).trans rfl)))))))
theorem newP_is (H : List Pev.Node) : poset_New [] H = some (some (H.length + 1), H ++ [ndM []] ++ [ndP H.length]) ∧ RepP (H ++ [ndM []] ++ [ndP H.length]) (H.length + 1) H.length [] := by
  have l1 : (H ++ [ndM []]).length = H.length + 1 := by simp
  refine ⟨?_, ?_, app_lt app_new⟩
  · unfold poset_New poset_New_t
    rw [l1]; rfl
  · have := app_new (H := H ++ [ndM []]) (x := ndP H.length)
    rw [l1] at this; exact this
theorem remP_is (h : RepP H n m L) (id : Int) : ∃ K, poset_Poset_Remove (some n) id [] H = some ((remP L id).2, K) ∧ RepP K n m (remP L id).1 ∧ Ext7 H K m := by
  unfold poset_Poset_Remove poset_Poset_Remove_t remP
  cases hk : lkF id L with
  | none => exact ⟨H, (fn_o (there_none h hk)).trans ((fn_t rfl).trans rfl), h, Ext7.refl _ _⟩
  | some f =>
    refine ⟨_, ?_, h.set _, Ext7.set _ _ _⟩
    exact (fn_o (there_some h hk)).trans ((fn_f rfl).trans ((fn_t rfl).trans ((fn_t rfl).trans ((fn_o (getBox_at h.hn)).trans ((fn_o (getBox_at h.hn)).trans ((fn_t rfl).trans ((fn_t rfl).trans ((fn_o (getMap_at h.hm)).trans rfl))))))))
theorem getP_is (h : RepP H n m L) (hf : F7 L) (id : Int) : poset_Poset_Get (some n) id [] H = some ((getP L id).1, (getP L id).2, H) := by
  unfold poset_Poset_Get poset_Poset_Get_t getP
  cases hk : lkF id L with
  | none => exact (fn_o (there_none h hk)).trans ((fn_t rfl).trans rfl)
  | some f =>
    have hc : ckF f = none := hf.ok (id, f) ((lk_mem (β := shFil) hf.so).1 hk)
    have h16 := (ckF_rise hc).2.1
    refine (fn_o (there_some h hk)).trans ((fn_f rfl).trans ((fn_t rfl).trans ((fn_t rfl).trans ((fn_o (getBox_at h.hn)).trans ((fn_o (getBox_at h.hn)).trans ((fn_t rfl).trans ((fn_o (getMap_at h.hm)).trans ?_)))))))
    rw [show (lookL (Sh.int IntKind.i64) shFil id L).getD (false, []) = f from by rw [show lookL (Sh.int IntKind.i64) shFil id L = some f from hk]; rfl]
    exact (fn_o (copy_is f (by omega))).trans rfl
theorem keys_sort (hs : SoF L) : (L.map (·.1)).mergeSort (fun x y => decide (x ≤ y)) = L.map (·.1) := by
  rw [List.mergeSort_of_pairwise]
  refine List.pairwise_map.2 (List.Pairwise.imp (fun {a b} hab => decide_eq_true ?_) (show L.Pairwise fun p q => ltB (.int .i64) p.1 q.1 = true from hs))
  have := of_decide_eq_true (show decide (a.1 < b.1) = true from hab)
  omega
theorem allR_is (h : RepP H n m L) (hf : F7 L) : ∃ X, allR (some n) [] H = some (L.map (·.1), H ++ X) := by
  refine ⟨[.box 78 (.rf .map) (some m)], ?_⟩
  unfold allR allR_t
  refine (fn_f rfl).trans ((fn_t rfl).trans ((fn_t rfl).trans ((fn_o (getBox_at h.hn)).trans ((fn_o (getBox_at h.hn)).trans ?_))))
  have hb : sortedG (some H.length) (H ++ [Node.box 78 (Sh.rf RK.map) (some m)]) = some (L.map (·.1), H ++ [Node.box 78 (Sh.rf RK.map) (some m)]) := by
    have e1 : getBox 78 (.rf .map) (H ++ [Node.box 78 (Sh.rf RK.map) (some m)]) H.length = some (some m) := getBox_at app_new
    have e2 : getMap false true (.int .i64) shFil (H ++ [Node.box 78 (Sh.rf RK.map) (some m)]) m = some L := getMap_at (app_lt h.hm)
    unfold sortedG sortedZ
    simp only [Option.bind_some, e1, e2]
    unfold keysZ
    have hle := hf.le
    rw [show (decide (L.length ≤ 1000000) && L.all fun p => okZ p.1) = true by
      rw [Bool.and_eq_true]
      exact ⟨decide_eq_true (by omega), List.all_eq_true.2 hf.ids⟩]
    show some ((L.map (·.1)).mergeSort (fun x y => decide (x ≤ y)), _) = _
    rw [keys_sort hf.so]
  exact (fn_o hb).trans rfl
def atF (L : Items) (z : Int) : Fil := (lkF z L).getD (false, [])
/-- Is the filter of x above that of y? -/
def abvZ (L : Items) (x y : Int) : Bool := if x = y then false else covB (atF L x) (atF L y) && (decide (x < y) || !covB (atF L y) (atF L x))
theorem atF_len (hf : F7 L) (z : Int) : (atF L z).2.length ≤ 1000000 := by
  unfold atF
  cases hk : lkF z L with
  | none => exact Nat.zero_le _
  | some f =>
    have : f.2.length ≤ 16 := (ckF_rise (hf.ok (z, f) ((lk_mem (β := shFil) hf.so).1 hk))).2.1
    show f.2.length ≤ _
    omega
theorem abvP_is (h : RepP H n m L) (hf : F7 L) (x y : Int) : poset_Poset_above (some n) x y [] H = some (abvZ L x y, H) := by
  unfold poset_Poset_above poset_Poset_above_t abvZ
  by_cases hxy : x = y
  · rw [if_pos hxy]
    exact (fn_t (by rw [hxy]; simp)).trans rfl
  · rw [if_neg hxy]
    have hw : ∀ a b : Int, cover_Wide ((lookL (Sh.int IntKind.i64) shFil a L).getD (false, [])) ((lookL (Sh.int IntKind.i64) shFil b L).getD (false, [])) = some (covB (atF L a) (atF L b)) := fun a b => Wide_is _ _ (atF_len hf a) (atF_len hf b)
    refine (fn_f (by simpa using hxy)).trans ((fn_t rfl).trans ((fn_t rfl).trans ((fn_o (getBox_at h.hn)).trans ((fn_o (getBox_at h.hn)).trans ((fn_t rfl).trans ((fn_o (getMap_at h.hm)).trans ?_))))))
    refine (fn_t rfl).trans ((fn_t rfl).trans ((fn_o (getBox_at h.hn)).trans ((fn_o (getBox_at h.hn)).trans ((fn_t rfl).trans ((fn_o (getMap_at h.hm)).trans ((fn_o (hw x y)).trans ?_))))))
    cases covB (atF L x) (atF L y) with
    | false => exact (fn_t rfl).trans rfl
    | true =>
      refine (fn_f rfl).trans ?_
      by_cases hlt : x < y
      · rw [decide_eq_true hlt]; exact (fn_t rfl).trans rfl
      · rw [decide_eq_false hlt]
        refine (fn_f rfl).trans ((fn_t rfl).trans ((fn_t rfl).trans ((fn_o (getBox_at h.hn)).trans ((fn_o (getBox_at h.hn)).trans ((fn_t rfl).trans ((fn_o (getMap_at h.hm)).trans ?_))))))
        exact (fn_t rfl).trans ((fn_t rfl).trans ((fn_o (getBox_at h.hn)).trans ((fn_o (getBox_at h.hn)).trans ((fn_t rfl).trans ((fn_o (getMap_at h.hm)).trans ((fn_o (hw y x)).trans rfl))))))
/-- What pick leaves, when what it asks is a matter of numbers. -/
theorem delF_pure {hp : Int → List Pev.Node → Option (Bool × List Pev.Node)} {p : Int → Bool} (hh : ∀ x H, RepP H n m L → ∃ X, hp x H = some (p x, H ++ X)) : ∀ (l : List Int) {H : List Pev.Node}, RepP H n m L → ∃ X, delF (notF hp) l H = some (l.filter p, H ++ X)
  | [], H, _ => ⟨[], by simp [delF]⟩
  | x :: l, H, h => by
    obtain ⟨X, hx⟩ := hh x H h
    obtain ⟨Y, hy⟩ := delF_pure hh l (h.app X)
    refine ⟨X ++ Y, ?_⟩
    simp only [delF, notF, hx, Option.map_some, Option.bind_some, hy, List.append_assoc]
    rw [List.filter_cons]
    cases p x <;> rfl
theorem pickF_is (h : RepP H n m L) (hf : F7 L) {hp : Int → List Pev.Node → Option (Bool × List Pev.Node)} {p : Int → Bool} (hh : ∀ x H, RepP H n m L → ∃ X, hp x H = some (p x, H ++ X)) : ∃ X, pickF (some n) [] H hp = some ((L.map (·.1)).filter p, H ++ X) := by
  obtain ⟨X, hx⟩ := allR_is h hf
  obtain ⟨Y, hy⟩ := delF_pure hh (L.map (·.1)) (h.app X)
  refine ⟨X ++ Y, ?_⟩
  unfold pickF
  rw [hx]
  show delF (notF hp) _ _ = _
  rw [hy, List.append_assoc]
def ksF (L : Items) (p : Int → Bool) : List Int := (L.map (·.1)).filter p
def rootZ (L : Items) (y : Int) : Bool := (ksF L fun x => abvZ L x y).isEmpty
def justZ (L : Items) (x y : Int) : Bool := abvZ L x y && (ksF L fun z => abvZ L x z && abvZ L z y).isEmpty
theorem len0 {α : Type} (l : List α) : (Int.ofNat l.length == 0) = l.isEmpty := by
  cases l with
  | nil => rfl
  | cons a l => simp; omega
theorem roots1_is (h : RepP H n m L) (hf : F7 L) (y : Int) : ∃ X, poset_Poset_Roots_1 y (some (some n)) [] H = some (rootZ L y, H ++ X) := by
  obtain ⟨X, hx⟩ := pickF_is h hf (hp := fun x H => poset_Poset_Roots_1_1 x (some (some n)) (some y) [] H) (p := fun x => abvZ L x y) fun x H h => ⟨[], by
    unfold poset_Poset_Roots_1_1 poset_Poset_Roots_1_1_t
    exact (fn_o rfl).trans ((fn_o rfl).trans ((fn_o (abvP_is h hf x y)).trans (by rw [List.append_nil]; rfl)))⟩
  refine ⟨X, ?_⟩
  unfold poset_Poset_Roots_1 poset_Poset_Roots_1_t
  refine (fn_o rfl).trans ((fn_o (show pick38 (some n) (some (some n)) (some y) (itLocks [] ++ []) H = _ from hx)).trans ?_)
  show some (_, _) = some (_, _)
  rw [len0]; rfl
theorem just_is (h : RepP H n m L) (hf : F7 L) (x y : Int) : ∃ X, poset_Poset_just (some n) x y [] H = some (justZ L x y, H ++ X) := by
  unfold poset_Poset_just poset_Poset_just_t justZ
  cases hxy : abvZ L x y with
  | false =>
    refine ⟨[], ?_⟩
    rw [show H ++ [] = H from List.append_nil H]
    refine (fn_o (abvP_is h hf x y)).trans ?_
    rw [hxy]
    exact (fn_f rfl).trans rfl
  | true =>
    obtain ⟨X, hx⟩ := pickF_is h hf (hp := fun z H => poset_Poset_just_1 z (some (some n)) (some x) (some y) [] H) (p := fun z => abvZ L x z && abvZ L z y) fun z H h => ⟨[], by
      rw [show H ++ [] = H from List.append_nil H]
      unfold poset_Poset_just_1 poset_Poset_just_1_t
      refine (fn_o rfl).trans ((fn_o rfl).trans ((fn_o (abvP_is h hf x z)).trans ?_))
      cases abvZ L x z with
      | false => exact (fn_f rfl).trans rfl
      | true => exact (fn_t rfl).trans ((fn_o rfl).trans ((fn_o rfl).trans ((fn_o (abvP_is h hf z y)).trans rfl)))⟩
    refine ⟨X, (fn_o (abvP_is h hf x y)).trans ?_⟩
    rw [hxy]
    refine (fn_t rfl).trans ((fn_o (show pick62 (some n) (some (some n)) (some x) (some y) (itLocks [] ++ []) H = _ from hx)).trans ?_)
    show some (_, _) = some (_, _)
    rw [len0]; rfl
theorem rootsP_is (h : RepP H n m L) (hf : F7 L) : ∃ X, poset_Poset_Roots (some n) [] H = some (ksF L (rootZ L), H ++ X) := by
  obtain ⟨X, hx⟩ := pickF_is h hf (hp := fun x H => poset_Poset_Roots_1 x (some (some n)) [] H) (p := rootZ L) fun x H h => roots1_is h hf x
  refine ⟨X, ?_⟩
  unfold poset_Poset_Roots poset_Poset_Roots_t
  exact (fn_f rfl).trans ((fn_o (show pick37 (some n) (some (some n)) (itLocks [] ++ []) H = _ from hx)).trans rfl)
theorem parentsP_is (h : RepP H n m L) (hf : F7 L) (id : Int) : ∃ X, poset_Poset_Parents (some n) id [] H = some (if (lkF id L).isSome = true then (ksF L fun x => justZ L x id, none, H ++ X) else ([], eN 10, H ++ X)) := by
  unfold poset_Poset_Parents poset_Poset_Parents_t
  cases hk : lkF id L with
  | none => exact ⟨[], (fn_o (there_none h hk)).trans ((fn_t rfl).trans (by rw [List.append_nil]; rfl))⟩
  | some f =>
    obtain ⟨X, hx⟩ := pickF_is h hf (hp := fun x H => poset_Poset_Parents_1 x (some (some n)) (some id) [] H) (p := fun x => justZ L x id) fun x H h => by
      obtain ⟨Y, hy⟩ := just_is h hf x id
      refine ⟨Y, ?_⟩
      unfold poset_Poset_Parents_1 poset_Poset_Parents_1_t
      exact (fn_o rfl).trans ((fn_o rfl).trans ((fn_o hy).trans rfl))
    refine ⟨X, ?_⟩
    exact (fn_o (there_some h hk)).trans ((fn_f rfl).trans ((fn_o (show pick44 (some n) (some (some n)) (some id) (itLocks [] ++ []) H = _ from hx)).trans rfl))
theorem childrenP_is (h : RepP H n m L) (hf : F7 L) (id : Int) : ∃ X, poset_Poset_Children (some n) id [] H = some (if (lkF id L).isSome = true then (ksF L fun y => justZ L id y, none, H ++ X) else ([], eN 10, H ++ X)) := by
  unfold poset_Poset_Children poset_Poset_Children_t
  cases hk : lkF id L with
  | none => exact ⟨[], (fn_o (there_none h hk)).trans ((fn_t rfl).trans (by rw [List.append_nil]; rfl))⟩
  | some f =>
    obtain ⟨X, hx⟩ := pickF_is h hf (hp := fun x H => poset_Poset_Children_1 x (some (some n)) (some id) [] H) (p := fun y => justZ L id y) fun y H h => by
      obtain ⟨Y, hy⟩ := just_is h hf id y
      refine ⟨Y, ?_⟩
      unfold poset_Poset_Children_1 poset_Poset_Children_1_t
      exact (fn_o rfl).trans ((fn_o rfl).trans ((fn_o hy).trans rfl))
    refine ⟨X, ?_⟩
    exact (fn_o (there_some h hk)).trans ((fn_f rfl).trans ((fn_o (show pick47 (some n) (some (some n)) (some id) (itLocks [] ++ []) H = _ from hx)).trans rfl))
theorem cov_loop (H : List Pev.Node) (n0 : Option Nat) (f : Fil) (hfl : f.2.length ≤ 1000000) : ∀ (fu : Nat) (lf : Items), Keys (.int .i64) shFil lf → (∀ p ∈ lf, p.2.2.length ≤ 1000000) → lf.length < fu →
    LT.loop poset_Poset_Covered_b0 fu (f.1, f.2, [], n0, lf, H, ()) = some (if (lf.any fun x => covB x.2 f) = true then .inr (true, none, [], H, ()) else .inl ([], H, ()))
  | 0, _, _, _, h => by omega
  | fu + 1, [], _, _, _ => by
    rw [LT.loop_succ]
    exact (rn_t rfl).trans rfl
  | fu + 1, x :: lf, hk, hb, hl => by
    rw [LT.loop_succ]
    refine (rn_f rfl).trans ?_
    refine LT.run_any (x :: lf) _ _ _ (by simp) fun p hp => ?_
    refine (rn_o (Wide_is p.2 f (hb p hp) hfl)).trans ?_
    cases hc : covB p.2 f with
    | true =>
      refine (rn_t rfl).trans ?_
      rw [if_pos (List.any_eq_true.2 ⟨p, hp, hc⟩)]; rfl
    | false =>
      refine (rn_f rfl).trans ?_
      have hsub := delL_sub (k := .int .i64) (v := shFil) p.1 (x :: lf)
      have hdl : delL (.int .i64) shFil p.1 (x :: lf) = (x :: lf).filter (fun q => !eqB (.int .i64) q.1 p.1) := delL_filter (k := .int .i64) (v := shFil) rfl p.1 (x :: lf) hk
      have hlen : (delL (.int .i64) shFil p.1 (x :: lf)).length < fu := by
        rw [hdl]
        have hlt : ((x :: lf).filter (fun q => !eqB (.int .i64) q.1 p.1)).length < (x :: lf).length := by
          rcases Nat.lt_or_ge ((x :: lf).filter (fun q => !eqB (.int .i64) q.1 p.1)).length (x :: lf).length with c | c
          · exact c
          · exfalso
            have := List.length_filter_eq_length_iff.1 (Nat.le_antisymm (List.length_filter_le _ _) c) p hp
            rw [eqB_self (.int .i64) p.1 rfl] at this
            cases this
        omega
      have hany : (delL (.int .i64) shFil p.1 (x :: lf)).any (fun x => covB x.2 f) = (x :: lf).any (fun x => covB x.2 f) := by
        rw [Bool.eq_iff_iff, List.any_eq_true, List.any_eq_true]
        constructor
        · rintro ⟨q, hq, h1⟩; exact ⟨q, hsub.subset hq, h1⟩
        · rintro ⟨q, hq, h1⟩
          refine ⟨q, ?_, h1⟩
          rw [hdl, List.mem_filter]
          refine ⟨hq, ?_⟩
          rw [Bool.not_eq_true']
          cases he : eqB (.int .i64) q.1 p.1 with
          | false => rfl
          | true =>
            exfalso
            have e1 : q.1 = p.1 := eqB_eq (.int .i64) q.1 p.1 rfl he
            have h2 := (lookL_some (k := .int .i64) (v := shFil) rfl (x := q.1) (y := q.2) hk).2 hq
            have h3 := (lookL_some (k := .int .i64) (v := shFil) rfl (x := p.1) (y := p.2) hk).2 hp
            rw [e1, h3] at h2
            have h4 := Option.some.inj h2
            rw [h4] at hc
            rw [hc] at h1; cases h1
      rw [rn_next, cov_loop H n0 f hfl fu _ (List.Pairwise.sublist hsub hk) (fun q hq => hb q (hsub.subset hq)) hlen, hany]
theorem coveredP_is (h : RepP H n m L) (hf : F7 L) (f : Fil) : poset_Poset_Covered (some n) f [] H = some ((covP L f).1, (covP L f).2, H) := by
  unfold poset_Poset_Covered poset_Poset_Covered_t covP
  have hck := filter_Check_is f
  cases hc : ckF f with
  | some e =>
    rw [hc] at hck
    exact (fn_f rfl).trans ((fn_o hck).trans ((fn_t rfl).trans rfl))
  | none =>
    rw [hc] at hck
    have hfl : f.2.length ≤ 1000000 := by have := (ckF_rise hc).2.1; omega
    have hle := hf.le
    refine (fn_f rfl).trans ((fn_o hck).trans ((fn_f rfl).trans ((fn_t rfl).trans ((fn_t rfl).trans ((fn_o (getBox_at h.hn)).trans ((fn_o (getBox_at h.hn)).trans ((fn_t rfl).trans ((fn_o (getMap_at h.hm)).trans ((fn_o (cov_loop H (some m) f hfl FUEL L (hf.so.keys rfl) hf.few (by rw [fuel_is]; omega))).trans ?_)))))))))
    cases L.any fun x => covB x.2 f <;> rfl
end
end Go.Proofs.YtmpgilieeegnhaaGreatDoor
