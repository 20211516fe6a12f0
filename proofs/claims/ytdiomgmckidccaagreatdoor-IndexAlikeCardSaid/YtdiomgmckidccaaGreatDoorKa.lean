/- Chapter 8, plain: counting what holds. -/
import Derived.Test.YtdiomgmckidccaaGreatDoorNb
set_option maxRecDepth 100000
namespace Go.Proofs.YtdiomgmckidccaaGreatDoor
open Go Go.Pev
/-- The bound of a name. -/
def getB (bs : List Bd) (n : ByteArray) : Option Bd := bs.find? fun b => decide (b.1 = n)
theorem getB_cons (b : Bd) (bs : List Bd) (n : ByteArray) : getB (b :: bs) n = if b.1 = n then some b else getB bs n := by
  unfold getB
  rw [List.find?_cons]
  by_cases h : b.1 = n <;> simp [h]
theorem getB_none {bs : List Bd} {n : ByteArray} (h : ∀ b ∈ bs, b.1 ≠ n) : getB bs n = none := List.find?_eq_none.2 fun b hb => by simp [h b hb]
theorem getB_mem {bs : List Bd} {n : ByteArray} {b : Bd} (h : getB bs n = some b) : b ∈ bs ∧ b.1 = n := ⟨List.mem_of_find?_eq_some h, of_decide_eq_true (show decide (b.1 = n) = true from List.find?_some (p := fun (b : Bd) => decide (b.1 = n)) h)⟩
/-- Does an attribute hold of the bound of its name? -/
def hitA (bs : List Bd) (a : ByteArray × V) : Bool := match getB bs a.1 with
  | some b => holdB b a.2
  | none => false
def hitB (e : Ev) (b : Bd) : Bool := match getA e b.1 with
  | some v => holdB b v
  | none => false
theorem one_hit (b : Bd) : ∀ e : Ev, (nms e).Nodup → (e.filter fun a => decide (a.1 = b.1) && holdB b a.2).length = if hitB e b = true then 1 else 0
  | [], _ => rfl
  | a :: e, hn => by
    have hn' := List.nodup_cons.1 (show (a.1 :: nms e).Nodup from hn)
    rw [List.filter_cons]
    unfold hitB
    rw [getA_cons]
    by_cases h : a.1 = b.1
    · rw [if_pos h, decide_eq_true h, Bool.true_and]
      have h0 : (e.filter fun a => decide (a.1 = b.1) && holdB b a.2) = [] := List.filter_eq_nil_iff.2 fun x hx c => by
        rw [Bool.and_eq_true] at c
        have := of_decide_eq_true c.1
        exact hn'.1 (by rw [h, ← this]; exact List.mem_map_of_mem hx)
      rw [h0]
      simp only
      by_cases hh : holdB b a.2 = true
      · rw [if_pos hh, if_pos hh]; rfl
      · rw [if_neg hh, if_neg hh]; rfl
    · rw [if_neg h, decide_eq_false h, Bool.false_and, if_neg (by simp)]
      exact one_hit b e hn'.2
theorem hits_eq : ∀ (bs : List Bd) (e : Ev), (bs.map (·.1)).Nodup → (nms e).Nodup → (e.filter (hitA bs)).length = (bs.filter (hitB e)).length
  | [], e, _, _ => by
    have : e.filter (hitA []) = [] := List.filter_eq_nil_iff.2 fun a _ => by simp [hitA, getB]
    rw [this]; rfl
  | b :: bs, e, hb, he => by
    have hb' := List.nodup_cons.1 (show (b.1 :: bs.map (·.1)).Nodup from hb)
    have ih := hits_eq bs e hb'.2 he
    have hp : ∀ a : ByteArray × V, hitA (b :: bs) a = (hitA bs a || (decide (a.1 = b.1) && holdB b a.2)) ∧ (hitA bs a && (decide (a.1 = b.1) && holdB b a.2)) = false := by
      intro a
      unfold hitA
      rw [getB_cons]
      by_cases h : b.1 = a.1
      · have h0 : getB bs a.1 = none := getB_none fun c hc e => hb'.1 (by rw [h, ← e]; exact List.mem_map_of_mem hc)
        rw [if_pos h, h0, decide_eq_true h.symm]; simp
      · rw [if_neg h, decide_eq_false (fun c => h c.symm)]; simp
    have hsum : ∀ l : Ev, (l.filter (hitA (b :: bs))).length = (l.filter (hitA bs)).length + (l.filter fun a => decide (a.1 = b.1) && holdB b a.2).length := by
      intro l
      induction l with
      | nil => rfl
      | cons a l ih2 =>
        rw [List.filter_cons, List.filter_cons, List.filter_cons]
        obtain ⟨p1, p2⟩ := hp a
        rw [p1]
        cases h1 : hitA bs a with
        | true =>
          rw [h1, Bool.true_and] at p2
          rw [p2]; simp [ih2]; omega
        | false =>
          cases h2 : (decide (a.1 = b.1) && holdB b a.2) with
          | true => simp [ih2]; omega
          | false => simp [ih2]
    rw [hsum, ih, one_hit b e he, List.filter_cons]
    by_cases hh : hitB e b = true
    · rw [if_pos hh, if_pos hh]; simp
    · rw [if_neg hh, if_neg hh]; simp
/-- All bounds hold just where as many attributes hit as there are bounds. -/
theorem means_count (f : Fil) (e : Ev) (hb : (f.2.map (·.1)).Nodup) (he : (nms e).Nodup) : mnB f e = (!f.1 && decide ((e.filter (hitA f.2)).length = f.2.length)) := by
  unfold mnB
  rw [hits_eq _ _ hb he]
  congr 1
  have h0 : (f.2.all fun b => match getA e b.1 with | some v => holdB b v | none => false) = f.2.all (hitB e) := rfl
  refine Eq.trans h0 ?_
  by_cases h : f.2.all (hitB e) = true
  · rw [h, decide_eq_true]
    rw [List.filter_eq_self.2 (fun b hb => List.all_eq_true.1 h b hb)]
  · rw [Bool.not_eq_true] at h
    rw [h, decide_eq_false]
    intro c
    have := List.length_filter_eq_length_iff.1 c
    rw [List.all_eq_true.2 this] at h; cases h
theorem rise_nodup {l : List ByteArray} (h : Rise l) : l.Nodup := h.imp fun {a b} hab c => by rw [c, ltN_irrefl] at hab; cases hab
/-- The names of a filter of the form rise. -/
theorem bsOk_rise : ∀ (l : List Bd) (p : ByteArray), bsOk p l = true → Rise (l.map (·.1)) ∧ ∀ b ∈ l, ltN p b.1 = true
  | [], _, _ => ⟨.nil, fun _ h => by cases h⟩
  | b :: l, p, h => by
    unfold bsOk at h
    rw [Bool.and_eq_true] at h
    obtain ⟨i1, i2⟩ := bsOk_rise l b.1 h.2
    have hb : ltN p b.1 = true := by
      have := h.1
      unfold rgtB at this
      simp only [Bool.and_eq_true] at this
      exact this.1.2
    refine ⟨List.pairwise_cons.2 ⟨fun n hn => ?_, i1⟩, fun c hc => ?_⟩
    · obtain ⟨c, hc, rfl⟩ := List.mem_map.1 hn
      exact i2 c hc
    · rcases List.mem_cons.1 hc with rfl | hc
      · exact hb
      · exact ltN_trans hb (i2 c hc)
theorem ckF_rise {f : Fil} (h : ckF f = none) : Rise (f.2.map (·.1)) ∧ f.2.length ≤ 16 ∧ (f.1 = true → f.2 = []) := by
  unfold ckF at h
  split at h
  · cases h
  · rename_i hl
    split at h
    · rename_i hc
      rw [Bool.or_eq_true] at hc
      refine ⟨?_, by omega, fun hf => ?_⟩
      · rcases hc with hc | hc
        · rw [List.isEmpty_iff.1 hc]; exact .nil
        · rw [Bool.and_eq_true] at hc
          exact (bsOk_rise _ _ hc.2).1
      · rcases hc with hc | hc
        · exact List.isEmpty_iff.1 hc
        · rw [hf] at hc; simp at hc
    · cases h
end Go.Proofs.YtdiomgmckidccaaGreatDoor
