/- Chapter 3, plain: an attribute is put into an event in its order; it is taken out. -/
import Derived.Test.YtkkgimhjjhhkjaaGreatDoorMd
set_option maxRecDepth 100000
namespace Go.Proofs.YtkkgimhjjhhkjaaGreatDoor
open Go Go.Pev
def insE (n : ByteArray) (v : V) : Ev → Ev
  | [] => [(n, v)]
  | a :: l => if ltN a.1 n = true then a :: insE n v l else if a.1 = n then (n, v) :: l else (n, v) :: a :: l
def delE (n : ByteArray) (l : Ev) : Ev := l.filter fun a => decide (a.1 ≠ n)
theorem delE_nil (n : ByteArray) : delE n [] = [] := rfl
theorem delE_cons (n : ByteArray) (a : ByteArray × V) (l : Ev) : delE n (a :: l) = if a.1 = n then delE n l else a :: delE n l := by
  unfold delE
  rw [List.filter_cons]
  by_cases h : a.1 = n <;> simp [h]
theorem posN_cons (a : ByteArray) (l : List ByteArray) (n : ByteArray) : posN (a :: l) n = if ltN a n = true then posN l n + 1 else 0 := rfl
theorem inN_cons (a : ByteArray) (l : List ByteArray) (n : ByteArray) : inN (a :: l) n = if ltN a n = true then inN l n else decide (a = n) := by
  unfold inN
  rw [posN_cons]
  split
  · rw [List.getElem?_cons_succ]
  · rw [List.getElem?_cons_zero]; simp
theorem set_ins (n : ByteArray) (v : V) : ∀ l : Ev, inN (nms l) n = true → l.set (posN (nms l) n) (n, v) = insE n v l
  | [], h => by simp [inN, posN] at h
  | a :: l, h => by
    have h : inN (a.1 :: nms l) n = true := h
    show (a :: l).set (posN (a.1 :: nms l) n) (n, v) = _
    rw [inN_cons] at h
    rw [posN_cons]
    unfold insE
    by_cases h1 : ltN a.1 n = true
    · rw [if_pos h1] at h
      rw [if_pos h1, if_pos h1, List.set_cons_succ, set_ins n v l h]
    · rw [if_neg h1] at h
      rw [if_neg h1, if_neg h1, if_pos (of_decide_eq_true h)]; rfl
theorem put_ins (n : ByteArray) (v : V) : ∀ l : Ev, inN (nms l) n = false → l.take (posN (nms l) n) ++ (n, v) :: l.drop (posN (nms l) n) = insE n v l
  | [], h => rfl
  | a :: l, h => by
    have h : inN (a.1 :: nms l) n = false := h
    show (a :: l).take (posN (a.1 :: nms l) n) ++ (n, v) :: (a :: l).drop (posN (a.1 :: nms l) n) = _
    rw [inN_cons] at h
    rw [posN_cons]
    unfold insE
    by_cases h1 : ltN a.1 n = true
    · rw [if_pos h1] at h
      rw [if_pos h1, if_pos h1, List.take_succ_cons, List.drop_succ_cons, List.cons_append, put_ins n v l h]
    · rw [if_neg h1] at h
      rw [if_neg h1, if_neg h1, if_neg (of_decide_eq_false h)]; rfl
theorem del_gt {n : ByteArray} : ∀ {l : Ev}, (∀ b ∈ nms l, ltN n b = true) → delE n l = l
  | [], _ => rfl
  | a :: l, h => by
    rw [delE_cons, del_gt fun b hb => h b (List.mem_cons_of_mem _ hb), if_neg]
    intro e
    have := h a.1 List.mem_cons_self
    rw [e, ltN_irrefl] at this; cases this
theorem rise_tail {a : ByteArray × V} {l : Ev} (h : Rise (nms (a :: l))) : (∀ b ∈ nms l, ltN a.1 b = true) ∧ Rise (nms l) := List.pairwise_cons.1 h
theorem cut_del (n : ByteArray) : ∀ l : Ev, Rise (nms l) → inN (nms l) n = true → l.take (posN (nms l) n) ++ l.drop (posN (nms l) n + 1) = delE n l
  | [], _, h => by simp [inN, posN] at h
  | a :: l, hr, h => by
    obtain ⟨hr1, hr2⟩ := rise_tail hr
    have h : inN (a.1 :: nms l) n = true := h
    show (a :: l).take (posN (a.1 :: nms l) n) ++ (a :: l).drop (posN (a.1 :: nms l) n + 1) = _
    rw [inN_cons] at h
    rw [posN_cons, delE_cons]
    by_cases h1 : ltN a.1 n = true
    · rw [if_pos h1] at h
      rw [if_pos h1, List.take_succ_cons, List.drop_succ_cons, List.cons_append, cut_del n l hr2 h, if_neg]
      intro e
      rw [e, ltN_irrefl] at h1; cases h1
    · rw [if_neg h1] at h
      have h := of_decide_eq_true h
      rw [if_neg h1, if_pos h]
      subst h
      rw [del_gt hr1]; rfl
/-- The document's walk. -/
def putS (n : ByteArray) (v : V) (s : Bool × Ev) (a : ByteArray × V) : Bool × Ev :=
  if s.1 = false ∧ ltN a.1 n = false then (true, s.2 ++ (n, v) :: if a.1 = n then [] else [a]) else (s.1, s.2 ++ if a.1 = n then [] else [a])
theorem puts_done (n : ByteArray) (v : V) : ∀ (l : Ev) (acc : Ev), l.foldl (putS n v) (true, acc) = (true, acc ++ delE n l)
  | [], acc => by simp [delE]
  | a :: l, acc => by
    rw [List.foldl_cons, delE_cons]
    unfold putS
    rw [if_neg (fun h => by cases h.1)]
    rw [show (fun s a => if s.fst = false ∧ ltN a.fst n = false then (true, s.snd ++ (n, v) :: if a.fst = n then [] else [a]) else (s.fst, s.snd ++ if a.fst = n then [] else [a])) = putS n v from rfl, puts_done n v l]
    by_cases h : a.1 = n
    · simp [h]
    · simp [h]
theorem puts_is (n : ByteArray) (v : V) : ∀ (l : Ev) (acc : Ev), Rise (nms l) → (let r := l.foldl (putS n v) (false, acc); r.2 ++ (if r.1 = true then [] else [(n, v)])) = acc ++ insE n v l
  | [], acc, _ => rfl
  | a :: l, acc, hr => by
    obtain ⟨hr1, hr2⟩ := rise_tail hr
    rw [List.foldl_cons]
    unfold insE
    by_cases h1 : ltN a.1 n = true
    · have hne : a.1 ≠ n := fun e => by rw [e, ltN_irrefl] at h1; cases h1
      have hs : putS n v (false, acc) a = (false, acc ++ [a]) := by
        unfold putS
        rw [if_neg (fun h => by rw [h1] at h; cases h.2), if_neg hne]
      rw [hs, if_pos h1, puts_is n v l _ hr2]
      simp
    · have h1' : ltN a.1 n = false := Bool.eq_false_iff.2 h1
      have hs : putS n v (false, acc) a = (true, acc ++ (n, v) :: if a.1 = n then [] else [a]) := by
        unfold putS
        rw [if_pos ⟨rfl, h1'⟩]
      rw [hs, if_neg h1, puts_done]
      by_cases h2 : a.1 = n
      · rw [if_pos h2, if_pos h2]
        subst h2
        simp [del_gt hr1]
      · rw [if_neg h2, if_neg h2]
        have hgt : ∀ b ∈ nms l, ltN n b = true := fun b hb => ltN_trans (ltN_of h1' h2) (hr1 b hb)
        simp [del_gt hgt]
theorem foldE_inl {σ α Q : Type} (f : σ → α → σ) (out : σ → Q) : ∀ (l : List α) (s : σ), foldE (fun s a => .inl (f s a)) out s l = out (l.foldl f s)
  | [], s => rfl
  | a :: l, s => by rw [foldE_l rfl, foldE_inl f out l, List.foldl_cons]
/-! ### what stands in an event -/
theorem insE_len (n : ByteArray) (v : V) : ∀ l : Ev, (insE n v l).length ≤ l.length + 1 ∧ l.length ≤ (insE n v l).length
  | [] => ⟨Nat.le_refl _, Nat.zero_le _⟩
  | a :: l => by
    have := insE_len n v l
    unfold insE
    split
    · simp only [List.length_cons]; omega
    · split <;> simp only [List.length_cons] <;> omega
theorem insE_in (n : ByteArray) (v : V) : ∀ l : Ev, inN (nms l) n = true → (insE n v l).length = l.length
  | [], h => by simp [inN, posN] at h
  | a :: l, h => by
    have h : inN (a.1 :: nms l) n = true := h
    rw [inN_cons] at h
    unfold insE
    by_cases h1 : ltN a.1 n = true
    · rw [if_pos h1] at h
      rw [if_pos h1, List.length_cons, List.length_cons, insE_in n v l h]
    · rw [if_neg h1] at h
      rw [if_neg h1, if_pos (of_decide_eq_true h)]; rfl
theorem getA_ins (n : ByteArray) (v : V) (m : ByteArray) : ∀ l : Ev, Rise (nms l) → getA (insE n v l) m = if n = m then some v else getA l m
  | [], _ => by
    unfold insE
    rw [getA_cons]
  | a :: l, hr => by
    obtain ⟨hr1, hr2⟩ := rise_tail hr
    unfold insE
    by_cases h1 : ltN a.1 n = true
    · rw [if_pos h1, getA_cons, getA_cons, getA_ins n v m l hr2]
      by_cases h2 : a.1 = m
      · have : n ≠ m := fun e => by rw [h2, e, ltN_irrefl] at h1; cases h1
        rw [if_pos h2, if_neg this, if_pos h2]
      · rw [if_neg h2, if_neg h2]
    · rw [if_neg h1]
      by_cases h2 : a.1 = n
      · rw [if_pos h2, getA_cons, getA_cons]
        by_cases h3 : n = m
        · rw [if_pos h3, if_pos h3]
        · rw [if_neg h3, if_neg h3, if_neg (fun e => h3 (h2 ▸ e))]
      · rw [if_neg h2, getA_cons]
theorem mem_ins (n : ByteArray) (v : V) (b : ByteArray × V) : ∀ l : Ev, b ∈ insE n v l → b = (n, v) ∨ b ∈ l
  | [], h => .inl (List.mem_singleton.1 h)
  | a :: l, h => by
    unfold insE at h
    split at h
    · rcases List.mem_cons.1 h with rfl | h
      · exact .inr List.mem_cons_self
      · exact (mem_ins n v b l h).imp_right (List.mem_cons_of_mem _)
    · split at h
      · rcases List.mem_cons.1 h with h | h
        · exact .inl h
        · exact .inr (List.mem_cons_of_mem _ h)
      · exact List.mem_cons.1 h
theorem rise_ins (n : ByteArray) (v : V) : ∀ l : Ev, Rise (nms l) → Rise (nms (insE n v l))
  | [], _ => List.pairwise_singleton _ _
  | a :: l, hr => by
    obtain ⟨hr1, hr2⟩ := rise_tail hr
    unfold insE
    by_cases h1 : ltN a.1 n = true
    · rw [if_pos h1]
      refine List.pairwise_cons.2 ⟨fun b hb => ?_, rise_ins n v l hr2⟩
      obtain ⟨c, hc, rfl⟩ := List.mem_map.1 hb
      rcases mem_ins n v c l hc with rfl | hc
      · exact h1
      · exact hr1 _ (List.mem_map_of_mem hc)
    · rw [if_neg h1]
      by_cases h2 : a.1 = n
      · rw [if_pos h2]; subst h2; exact List.pairwise_cons.2 ⟨hr1, hr2⟩
      · rw [if_neg h2]
        have h3 := ltN_of (Bool.eq_false_iff.2 h1) h2
        exact List.pairwise_cons.2 ⟨fun b hb => by
          rcases List.mem_cons.1 hb with rfl | hb
          · exact h3
          · exact ltN_trans h3 (hr1 b hb), hr⟩
theorem rise_del (n : ByteArray) {l : Ev} (hr : Rise (nms l)) : Rise (nms (delE n l)) :=
  List.Pairwise.sublist (List.Sublist.map _ List.filter_sublist) hr
theorem getA_del (n m : ByteArray) : ∀ l : Ev, getA (delE n l) m = if n = m then none else getA l m
  | [] => by simp [delE, getA]
  | a :: l => by
    have ih := getA_del n m l
    rw [delE_cons, getA_cons]
    by_cases h : a.1 = n
    · rw [if_pos h, ih]
      by_cases h2 : n = m
      · rw [if_pos h2, if_pos h2]
      · rw [if_neg h2, if_neg h2, if_neg (fun e => h2 (h ▸ e))]
    · rw [if_neg h, getA_cons, ih]
      by_cases h2 : n = m
      · rw [if_pos h2, if_pos h2, if_neg (fun e => h (e.trans h2.symm))]
      · rw [if_neg h2, if_neg h2]
/-- What is new, taken out again. -/
theorem del_ins (n : ByteArray) (v : V) : ∀ l : Ev, Rise (nms l) → inN (nms l) n = false → delE n (insE n v l) = l
  | [], _, _ => by
    unfold insE
    rw [delE_cons, if_pos rfl]; rfl
  | a :: l, hr, h => by
    obtain ⟨hr1, hr2⟩ := rise_tail hr
    have h : inN (a.1 :: nms l) n = false := h
    rw [inN_cons] at h
    unfold insE
    by_cases h1 : ltN a.1 n = true
    · rw [if_pos h1] at h
      rw [if_pos h1, delE_cons, if_neg (fun e => by rw [e, ltN_irrefl] at h1; cases h1), del_ins n v l hr2 h]
    · rw [if_neg h1] at h
      have h2 := of_decide_eq_false h
      have h3 := ltN_of (Bool.eq_false_iff.2 h1) h2
      rw [if_neg h1, if_neg h2, delE_cons, if_pos rfl]
      refine del_gt fun b hb => ?_
      rcases List.mem_cons.1 hb with rfl | hb
      · exact h3
      · exact ltN_trans h3 (hr1 b hb)
end Go.Proofs.YtkkgimhjjhhkjaaGreatDoor
