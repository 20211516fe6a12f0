/- Chapter 8, plain: the document's list by numbers. -/
import Derived.Test.YtdiomgmckidccaaGreatDoorKb
set_option maxRecDepth 100000
namespace Go.Proofs.YtdiomgmckidccaaGreatDoor
open Go Go.Pev
/-- A filter put in: ahead of the first greater number. -/
def insS (id : Int) (f : Fil) (st : Items × Bool) (x : Item) : Items × Bool := if !st.2 && decide (x.1 > id) then (st.1 ++ [(id, f), x], true) else (st.1 ++ [x], st.2)
def insF (id : Int) (f : Fil) (l : Items) : Items := (fun st : Items × Bool => if st.2 = true then st.1 else st.1 ++ [(id, f)]) (l.foldl (insS id f) ([], false))
theorem insS_done (id : Int) (f : Fil) : ∀ (l : Items) (m : Items), l.foldl (insS id f) (m, true) = (m ++ l, true)
  | [], m => by simp
  | x :: l, m => by
    rw [List.foldl_cons, show insS id f (m, true) x = (m ++ [x], true) from rfl, insS_done id f l]; simp
theorem insF_go (id : Int) (f : Fil) : ∀ (l m : Items), (fun st : Items × Bool => if st.2 = true then st.1 else st.1 ++ [(id, f)]) (l.foldl (insS id f) (m, false)) = m ++ insL (.int .i64) shFil id f l
  | [], m => rfl
  | x :: l, m => by
    rw [List.foldl_cons]
    have e : insL (.int .i64) shFil id f (x :: l) = if id < x.1 then (id, f) :: x :: l else x :: insL (.int .i64) shFil id f l := by
      show (match decide (id < x.1) with | true => (id, f) :: x :: l | false => x :: insL (.int .i64) shFil id f l) = _
      by_cases h : id < x.1
      · rw [if_pos h, decide_eq_true h]
      · rw [if_neg h, decide_eq_false h]
    rw [e]
    by_cases h : id < x.1
    · rw [if_pos h, show insS id f (m, false) x = (m ++ [(id, f), x], true) from by simp [insS, h], insS_done]; simp
    · rw [if_neg h, show insS id f (m, false) x = (m ++ [x], false) from by simp [insS, h]]
      exact (insF_go id f l (m ++ [x])).trans (by simp)
theorem del_none {id : Int} : ∀ {l : Items}, lkF id l = none → delL (.int .i64) shFil id l = l
  | [], _ => rfl
  | p :: l, h => by
    have h' : (if p.1 = id then some p.2 else lkF id l) = none := (lk_cons (β := shFil) id p l).symm.trans h
    by_cases hp : p.1 = id
    · rw [if_pos hp] at h'; cases h'
    · rw [if_neg hp] at h'
      show (match eqB (.int .i64) p.1 id with | true => l | false => p :: delL (.int .i64) shFil id l) = _
      rw [eqZ, decide_eq_false hp]
      exact congrArg (p :: ·) (del_none h')
theorem insF_put {id : Int} {f : Fil} {l : Items} (h : lkF id l = none) : insF id f l = putL (.int .i64) shFil id f l := by
  unfold putL
  rw [del_none h]
  exact insF_go id f l []
theorem filter_del {id : Int} {l : Items} (h : SoF l) : l.filter (fun x => decide (x.1 ≠ id)) = delL (.int .i64) shFil id l := by
  rw [delL_filter (k := .int .i64) (v := shFil) rfl id l (h.keys rfl)]
  refine List.filter_congr fun p _ => ?_
  rw [eqZ]
  by_cases hp : p.1 = id <;> simp [hp]
theorem lkF_find (id : Int) : ∀ l : Items, lkF id l = (l.find? fun p => decide (p.1 = id)).map (·.2)
  | [] => rfl
  | p :: l => by
    have := lk_cons (β := shFil) id p l
    rw [show lkF id (p :: l) = _ from this, List.find?_cons]
    by_cases hp : p.1 = id
    · rw [if_pos hp, decide_eq_true hp]; rfl
    · rw [if_neg hp, decide_eq_false hp]; exact lkF_find id l
theorem put_len {id : Int} {f : Fil} {l : Items} (hl : SoF l) (h : lkF id l = none) : (putL (.int .i64) shFil id f l).length = l.length + 1 := by
  rw [len_put (k := .int .i64) (v := shFil) rfl (hl.keys rfl), if_neg]
  rw [show lookL (.int .i64) shFil id l = none from h]; simp
theorem del_len {id : Int} {l : Items} : (delL (.int .i64) shFil id l).length ≤ l.length := (delL_sub (k := .int .i64) (v := shFil) id l).length_le
/-! ### what an attribute's hits leave -/
abbrev Holds8 := List (Int × Int)
abbrev lkH (id : Int) (l : Holds8) : Option Int := lookL (.int .i64) (.int .i64) id l
abbrev SoH (l : Holds8) : Prop := Go.Pev.Sorted (.int .i64) (.int .i64) l
def incH (v : V) (hl : Holds8) (p : Int × Bd) : Holds8 := if holdB p.2 v = true then putL (.int .i64) (.int .i64) p.1 ((lkH p.1 hl).getD 0 + 1) hl else hl
def incE (v : V) (E : Ents) (hl : Holds8) : Holds8 := E.foldl (incH v) hl
theorem incH_so {v : V} {hl : Holds8} {p : Int × Bd} (h : SoH hl) : SoH (incH v hl p) := by
  unfold incH
  split
  · exact so_put h
  · exact h
theorem incE_so {v : V} : ∀ {E : Ents} {hl : Holds8}, SoH hl → SoH (incE v E hl)
  | [], _, h => h
  | _ :: E, _, h => incE_so (E := E) (incH_so h)
theorem incH_look {v : V} {hl : Holds8} {p : Int × Bd} (h : SoH hl) (z : Int) : lkH z (incH v hl p) = if z = p.1 ∧ holdB p.2 v = true then some ((lkH z hl).getD 0 + 1) else lkH z hl := by
  unfold incH
  by_cases hb : holdB p.2 v = true
  · rw [if_pos hb]
    refine (lk_put (β := .int .i64) h).trans ?_
    by_cases hz : z = p.1
    · subst hz; rw [if_pos rfl, if_pos ⟨rfl, hb⟩]
    · rw [if_neg hz, if_neg fun c => hz c.1]
  · rw [if_neg hb, if_neg fun c => hb c.2]
/-- Whatever the order. -/
theorem incE_look {v : V} (z : Int) : ∀ {E : Ents} {hl : Holds8}, Keys (.int .i64) shBound E → SoH hl → lkH z (incE v E hl) = (match lkE z E with | some b => if holdB b v = true then some ((lkH z hl).getD 0 + 1) else lkH z hl | none => lkH z hl)
  | [], _, _, _ => rfl
  | p :: E, hl, hk, h => by
    have hk' := List.pairwise_cons.1 hk
    have ih := incE_look (v := v) z (E := E) hk'.2 (incH_so (v := v) (p := p) h)
    show lkH z (incE v E (incH v hl p)) = _
    rw [ih, incH_look h]
    have e : lkE z (p :: E) = if p.1 = z then some p.2 else lkE z E := lk_cons (β := shBound) z p E
    rw [e]
    by_cases hz : p.1 = z
    · have h0 : lkE z E = none := by
        cases hg : lkE z E with
        | none => rfl
        | some b =>
          have hm := (lookL_some (k := .int .i64) (v := shBound) rfl hk'.2).1 hg
          have := hk'.1 _ hm
          rw [eqZ] at this
          exact absurd hz (of_decide_eq_false this)
      rw [if_pos hz, h0]
      simp only
      by_cases hb : holdB p.2 v = true
      · rw [if_pos hb, if_pos ⟨hz.symm, hb⟩]
      · rw [if_neg hb, if_neg fun c => hb c.2]
    · rw [if_neg hz]
      have hz' : ¬ (z = p.1 ∧ holdB p.2 v = true) := fun c => hz c.1.symm
      rw [if_neg hz']
theorem incE_any {v : V} {p : Int × Bd} {E : Ents} (hk : Keys (.int .i64) shBound E) (hp : p ∈ E) {hl : Holds8} (h : SoH hl) : incE v (delL (.int .i64) shBound p.1 E) (incH v hl p) = incE v E hl := by
  have hk2 : Keys (.int .i64) shBound (delL (.int .i64) shBound p.1 E) := hk.sublist (delL_sub (k := .int .i64) (v := shBound) p.1 E)
  refine so_ext (β := .int .i64) (incE_so (incH_so h)) (incE_so h) fun z => ?_
  refine (incE_look z hk2 (incH_so h)).trans (Eq.trans ?_ (incE_look z hk h).symm)
  have e : lkE z (delL (.int .i64) shBound p.1 E) = if z = p.1 then none else lkE z E := (look_del (k := .int .i64) (v := shBound) rfl hk).trans idk
  rw [e, incH_look h]
  by_cases hz : z = p.1
  · subst hz
    have hg : lkE p.1 E = some p.2 := (lookL_some (k := .int .i64) (v := shBound) rfl hk).2 hp
    rw [if_pos rfl, hg]
    simp only
    by_cases hb : holdB p.2 v = true
    · rw [if_pos hb, if_pos ⟨trivial, hb⟩]
    · rw [if_neg hb, if_neg fun c => hb c.2]
  · rw [if_neg hz, if_neg fun c => hz c.1]
/-- Behind all attributes. -/
def holdA (M : NMs) (e : Ev) (hl : Holds8) : Holds8 := e.foldl (fun hl a => incE a.2 (M a.1) hl) hl
theorem holdA_count {M : NMs} (hM : ∀ s, SoE (M s)) (z : Int) : ∀ (e : Ev) {hl : Holds8}, SoH hl → SoH (holdA M e hl) ∧ (lkH z (holdA M e hl)).getD 0 = (lkH z hl).getD 0 + ((e.filter fun a => match lkE z (M a.1) with | some b => holdB b a.2 | none => false).length : Int)
  | [], hl, h => ⟨h, by show (lkH z hl).getD 0 = (lkH z hl).getD 0 + ((0 : Nat) : Int); omega⟩
  | a :: e, hl, h => by
    obtain ⟨i1, i2⟩ := holdA_count hM z e (incE_so (v := a.2) (E := M a.1) h)
    refine ⟨i1, ?_⟩
    show (lkH z (holdA M e (incE a.2 (M a.1) hl))).getD 0 = _
    rw [i2, incE_look z ((hM a.1).keys rfl) h, List.filter_cons]
    cases hg : lkE z (M a.1) with
    | none => simp
    | some b =>
      by_cases hb : holdB b a.2 = true
      · simp [hb]; omega
      · simp [hb]
end Go.Proofs.YtdiomgmckidccaaGreatDoor
