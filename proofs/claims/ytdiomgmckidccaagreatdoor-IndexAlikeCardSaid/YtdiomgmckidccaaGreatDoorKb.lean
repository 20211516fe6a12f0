/- Chapter 8, plain: filters by numbers, bounds by names. -/
import Derived.Test.YtdiomgmckidccaaGreatDoorKa
import Derived.Test.YtdiomgmckidccaaGreatDoorPewZa
set_option maxRecDepth 100000
namespace Go.Proofs.YtdiomgmckidccaaGreatDoor
open Go Go.Pev
abbrev Items := List (Int × Fil)
abbrev Ents := List (Int × Bd)
abbrev lkF (id : Int) (l : Items) : Option Fil := lookL (.int .i64) shFil id l
abbrev lkE (id : Int) (l : Ents) : Option Bd := lookL (.int .i64) shBound id l
abbrev SoF (l : Items) : Prop := Go.Pev.Sorted (.int .i64) shFil l
abbrev SoE (l : Ents) : Prop := Go.Pev.Sorted (.int .i64) shBound l
theorem eqZ (x y : Int) : eqB (.int .i64) x y = decide (x = y) := beq_dec x y
theorem ltZ (x y : Int) : ltB (.int .i64) x y = decide (x < y) := rfl
theorem idk {α : Type} {a b : α} {k z : Int} : (if eqB (.int .i64) k z = true then a else b) = if z = k then a else b := by
  rw [eqZ]
  by_cases h : z = k
  · subst h; rw [if_pos rfl, if_pos (decide_eq_true rfl)]
  · rw [if_neg h, if_neg (by simp; exact fun c => h c.symm)]
section
variable {β : Sh}
theorem lk_cons (id : Int) (p : Int × β.T) (l : List (Int × β.T)) : lookL (.int .i64) β id (p :: l) = if p.1 = id then some p.2 else lookL (.int .i64) β id l := by
  show (match eqB (.int .i64) p.1 id with | true => some p.2 | false => lookL (.int .i64) β id l) = _
  rw [eqZ]
  by_cases h : p.1 = id
  · rw [if_pos h, decide_eq_true h]
  · rw [if_neg h, decide_eq_false h]
theorem lk_put {id z : Int} {y : β.T} {l : List (Int × β.T)} (h : Go.Pev.Sorted (.int .i64) β l) : lookL (.int .i64) β z (putL (.int .i64) β id y l) = if z = id then some y else lookL (.int .i64) β z l :=
  (look_put (k := .int .i64) (v := β) rfl (h.keys rfl)).trans idk
theorem so_put {id : Int} {y : β.T} {l : List (Int × β.T)} (h : Go.Pev.Sorted (.int .i64) β l) : Go.Pev.Sorted (.int .i64) β (putL (.int .i64) β id y l) := sorted_put (k := .int .i64) (v := β) rfl h
theorem lk_del {id z : Int} {l : List (Int × β.T)} (h : Go.Pev.Sorted (.int .i64) β l) : lookL (.int .i64) β z (delL (.int .i64) β id l) = if z = id then none else lookL (.int .i64) β z l :=
  (look_del (k := .int .i64) (v := β) rfl (h.keys rfl)).trans idk
theorem so_del {id : Int} {l : List (Int × β.T)} (h : Go.Pev.Sorted (.int .i64) β l) : Go.Pev.Sorted (.int .i64) β (delL (.int .i64) β id l) := h.sublist (delL_sub (k := .int .i64) (v := β) id l)
theorem so_ext {l m : List (Int × β.T)} (h : Go.Pev.Sorted (.int .i64) β l) (k : Go.Pev.Sorted (.int .i64) β m) (e : ∀ z, lookL (.int .i64) β z l = lookL (.int .i64) β z m) : l = m := sorted_ext (k := .int .i64) (v := β) rfl h k e
theorem lk_lt {id : Int} {l : List (Int × β.T)} (h : ∀ p ∈ l, id < p.1) : lookL (.int .i64) β id l = none := look_lt (k := .int .i64) (v := β) rfl fun p hp => decide_eq_true (h p hp)
theorem so_cons {p : Int × β.T} {l : List (Int × β.T)} : Go.Pev.Sorted (.int .i64) β (p :: l) ↔ (∀ q ∈ l, p.1 < q.1) ∧ Go.Pev.Sorted (.int .i64) β l := by
  unfold Go.Pev.Sorted
  rw [List.pairwise_cons]
  exact and_congr_left fun _ => ⟨fun h q hq => of_decide_eq_true (h q hq), fun h q hq => decide_eq_true (h q hq)⟩
theorem lk_mem {id : Int} {y : β.T} {l : List (Int × β.T)} (h : Go.Pev.Sorted (.int .i64) β l) : lookL (.int .i64) β id l = some y ↔ (id, y) ∈ l := lookL_some (k := .int .i64) (v := β) rfl (h.keys rfl)
end
/-- The bounds of a name, by numbers. -/
def ents (l : Items) (s : ByteArray) : Ents := l.filterMap fun p => (getB p.2.2 s).map fun b => (p.1, b)
theorem ents_cons (p : Int × Fil) (l : Items) (s : ByteArray) : ents (p :: l) s = match getB p.2.2 s with | some b => (p.1, b) :: ents l s | none => ents l s := by
  unfold ents
  rw [List.filterMap_cons]
  cases getB p.2.2 s <;> rfl
theorem ents_keys {l : Items} {s : ByteArray} : ∀ q ∈ ents l s, ∃ p ∈ l, p.1 = q.1 := by
  intro q hq
  obtain ⟨p, hp, h⟩ := List.mem_filterMap.1 hq
  obtain ⟨b, _, rfl⟩ := Option.map_eq_some_iff.1 h
  exact ⟨p, hp, rfl⟩
theorem ents_so (s : ByteArray) : ∀ {l : Items}, SoF l → SoE (ents l s)
  | [], _ => .nil
  | p :: l, h => by
    obtain ⟨h1, h2⟩ := so_cons.1 h
    have ih := ents_so s h2
    rw [ents_cons]
    cases getB p.2.2 s with
    | none => exact ih
    | some b =>
      refine so_cons.2 ⟨fun q hq => ?_, ih⟩
      obtain ⟨r, hr, e⟩ := ents_keys q hq
      have := h1 r hr
      show p.1 < q.1
      omega
theorem ents_lk (z : Int) (s : ByteArray) : ∀ {l : Items}, SoF l → lkE z (ents l s) = (lkF z l).bind fun f => getB f.2 s
  | [], _ => rfl
  | p :: l, h => by
    obtain ⟨h1, h2⟩ := so_cons.1 h
    have ih := ents_lk z s h2
    rw [ents_cons]
    have e : lkF z (p :: l) = if p.1 = z then some p.2 else lkF z l := lk_cons (β := shFil) z p l
    rw [e]
    by_cases hz : p.1 = z
    · rw [if_pos hz]
      cases hg : getB p.2.2 s with
      | none =>
        refine Eq.trans (lk_lt (β := shBound) fun q hq => ?_) hg.symm
        obtain ⟨r, hr, e⟩ := ents_keys q hq
        have := h1 r hr
        omega
      | some b =>
        refine Eq.trans (lk_cons (β := shBound) z (p.1, b) _) ?_
        rw [if_pos hz]; exact hg.symm
    · rw [if_neg hz]
      cases hg : getB p.2.2 s with
      | none => exact ih
      | some b => exact (lk_cons (β := shBound) z (p.1, b) _).trans ((if_neg hz).trans ih)
/-! ### bounds by names, one after the other -/
abbrev NMs := ByteArray → Ents
def setN (M : NMs) (s : ByteArray) (E : Ents) : NMs := fun z => if z = s then E else M z
def addN (id : Int) : List Bd → NMs → NMs
  | [], M => M
  | b :: bs, M => addN id bs (setN M b.1 (putL (.int .i64) shBound id b (M b.1)))
def delN (id : Int) : List Bd → NMs → NMs
  | [], M => M
  | b :: bs, M => delN id bs (setN M b.1 (delL (.int .i64) shBound id (M b.1)))
theorem setN_so {M : NMs} {s : ByteArray} {E : Ents} (h : ∀ z, SoE (M z)) (hE : SoE E) : ∀ z, SoE (setN M s E z) := fun z => by
  unfold setN
  split
  · exact hE
  · exact h z
theorem addN_look (id z : Int) (s : ByteArray) : ∀ (bs : List Bd) (M : NMs), (bs.map (·.1)).Nodup → (∀ t, SoE (M t)) → SoE (addN id bs M s) ∧ lkE z (addN id bs M s) = if z = id then (match getB bs s with | some b => some b | none => lkE z (M s)) else lkE z (M s)
  | [], M, _, h => ⟨h s, by
    show lkE z (M s) = if z = id then lkE z (M s) else lkE z (M s)
    split <;> rfl⟩
  | b :: bs, M, hn, h => by
    have hn' := List.nodup_cons.1 (show (b.1 :: bs.map (·.1)).Nodup from hn)
    obtain ⟨i1, i2⟩ := addN_look id z s bs (setN M b.1 (putL (.int .i64) shBound id b (M b.1))) hn'.2 (setN_so h (so_put (h b.1)))
    refine ⟨i1, i2.trans ?_⟩
    rw [getB_cons]
    by_cases hs : b.1 = s
    · subst hs
      have h0 : getB bs b.1 = none := getB_none fun c hc e => hn'.1 (by rw [← e]; exact List.mem_map_of_mem hc)
      rw [if_pos rfl, h0]
      have e : setN M b.1 (putL (.int .i64) shBound id b (M b.1)) b.1 = putL (.int .i64) shBound id b (M b.1) := if_pos rfl
      simp only [e]
      have e2 : lkE z (putL (.int .i64) shBound id b (M b.1)) = if z = id then some b else lkE z (M b.1) := lk_put (h b.1)
      rw [e2]
      split <;> rfl
    · rw [if_neg hs]
      have e : setN M b.1 (putL (.int .i64) shBound id b (M b.1)) s = M s := if_neg fun c => hs c.symm
      simp only [e]
theorem delN_look (id z : Int) (s : ByteArray) : ∀ (bs : List Bd) (M : NMs), (bs.map (·.1)).Nodup → (∀ t, SoE (M t)) → SoE (delN id bs M s) ∧ lkE z (delN id bs M s) = if z = id then (match getB bs s with | some _ => none | none => lkE z (M s)) else lkE z (M s)
  | [], M, _, h => ⟨h s, by
    show lkE z (M s) = if z = id then lkE z (M s) else lkE z (M s)
    split <;> rfl⟩
  | b :: bs, M, hn, h => by
    have hn' := List.nodup_cons.1 (show (b.1 :: bs.map (·.1)).Nodup from hn)
    obtain ⟨i1, i2⟩ := delN_look id z s bs (setN M b.1 (delL (.int .i64) shBound id (M b.1))) hn'.2 (setN_so h (so_del (h b.1)))
    refine ⟨i1, i2.trans ?_⟩
    rw [getB_cons]
    by_cases hs : b.1 = s
    · subst hs
      have h0 : getB bs b.1 = none := getB_none fun c hc e => hn'.1 (by rw [← e]; exact List.mem_map_of_mem hc)
      rw [if_pos rfl, h0]
      have e : setN M b.1 (delL (.int .i64) shBound id (M b.1)) b.1 = delL (.int .i64) shBound id (M b.1) := if_pos rfl
      simp only [e]
      have e2 : lkE z (delL (.int .i64) shBound id (M b.1)) = if z = id then none else lkE z (M b.1) := lk_del (h b.1)
      rw [e2]
      split <;> rfl
    · rw [if_neg hs]
      have e : setN M b.1 (delL (.int .i64) shBound id (M b.1)) s = M s := if_neg fun c => hs c.symm
      simp only [e]
theorem add_ents {id : Int} {f : Fil} {l : Items} (hl : SoF l) (hno : lkF id l = none) (hf : (f.2.map (·.1)).Nodup) : addN id f.2 (ents l) = ents (putL (.int .i64) shFil id f l) := by
  funext s
  have h := fun z => addN_look id z s f.2 (ents l) hf fun t => ents_so t hl
  refine so_ext (β := shBound) (h 0).1 (ents_so s (so_put hl)) fun z => (h z).2.trans ?_
  refine Eq.trans ?_ (ents_lk z s (so_put hl)).symm
  have e : lkF z (putL (.int .i64) shFil id f l) = if z = id then some f else lkF z l := lk_put hl
  rw [e, show lkE z (ents l s) = _ from ents_lk z s hl]
  by_cases hz : z = id
  · subst hz
    rw [if_pos rfl, if_pos rfl, hno]
    show (match getB f.2 s with | some b => some b | none => none) = getB f.2 s
    cases getB f.2 s <;> rfl
  · rw [if_neg hz, if_neg hz]
theorem del_ents {id : Int} {f : Fil} {l : Items} (hl : SoF l) (hf0 : lkF id l = some f) (hf : (f.2.map (·.1)).Nodup) : delN id f.2 (ents l) = ents (delL (.int .i64) shFil id l) := by
  funext s
  have h := fun z => delN_look id z s f.2 (ents l) hf fun t => ents_so t hl
  refine so_ext (β := shBound) (h 0).1 (ents_so s (so_del hl)) fun z => (h z).2.trans ?_
  refine Eq.trans ?_ (ents_lk z s (so_del hl)).symm
  have e : lkF z (delL (.int .i64) shFil id l) = if z = id then none else lkF z l := lk_del hl
  rw [e, show lkE z (ents l s) = _ from ents_lk z s hl]
  by_cases hz : z = id
  · subst hz
    rw [if_pos rfl, if_pos rfl, hf0]
    show (match getB f.2 s with | some _ => none | none => getB f.2 s) = none
    cases getB f.2 s <;> rfl
  · rw [if_neg hz, if_neg hz]
end Go.Proofs.YtdiomgmckidccaaGreatDoor
