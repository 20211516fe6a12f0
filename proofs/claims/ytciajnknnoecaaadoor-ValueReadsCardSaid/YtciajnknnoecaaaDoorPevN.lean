/- The pure evaluator, part N: the operations, one by one (4): structs and slices built, stores. Own text, over any program. -/
import Derived.Test.YtciajnknnoecaaaDoorPevM
import Derived.Great.BuildSlice
namespace Go.Pev

theorem fold_set (off : Nat) : ∀ (vs : List Value) (k : Nat) (cells : Array Value), off + k + vs.length ≤ cells.size →
    ((vs.zipIdx k).foldl (fun cs (x : Value × Nat) => cs.setIfInBounds (off + x.2) x.1) cells).toList = cells.toList.take (off + k) ++ vs ++ cells.toList.drop (off + k + vs.length)
  | [], k, cells, _ => by simp
  | v :: vs, k, cells, h => by
    simp only [List.length_cons] at h
    rw [List.zipIdx_cons, List.foldl_cons]
    have ih := fold_set off vs (k + 1) (cells.setIfInBounds (off + k) v) (by simp; omega)
    rw [ih]
    have e := list_seg_step cells.toList (off + k) v vs (by simp; omega)
    simp only [Array.toList_setIfInBounds]
    rw [show off + (k + 1) = off + k + 1 by omega]
    rw [e]
    simp [List.length_cons]

theorem fill_step {place : Nat → Option (Nat × Nat)} {cells : Array Value} {i off sz : Nat} {v : Value} {rest : List (Nat × Value)} (hp : place i = some (off, sz)) (hs : v.cells.size = sz) (hb : off + sz ≤ cells.size) :
    Instr.fill place cells ((i, v) :: rest) = Instr.fill place (cells.toList.take off ++ v.cells.toList ++ cells.toList.drop (off + sz)).toArray rest := by
  simp only [Instr.fill, hp]
  have hc : ¬ ((decide (v.cells.size ≠ sz) || decide (off + v.cells.size > cells.size)) = true) := by simp [hs]; omega
  rw [if_neg hc]
  congr 1
  apply Array.ext'
  have := fold_set off v.cells.toList 0 cells (by simp; omega)
  simp only [Nat.add_zero, Array.length_toList, hs] at this
  rw [← Array.foldl_toList, Array.toList_zipIdx]
  simpa using this

section
variable {P : Program} {T : Tabs} {M0 : Nat → Prop} {w0 : World} {sl : Nat → Option AV} {rs : Nat → Option RS} {ρ : Nat → Value} {F : Nat → Nat → Prop} {a : Act} {w : World} {o : Oper} {out : Out} {s r s1 r1 : List Nat}

theorem partsOf_rel (h : Rel T.toCfg M0 w0 sl rs ρ F a w) : ∀ {ps : List (Nat × Operand)} {s r s1 r1 : List Nat} {l : List (Nat × AV)}, ev sl rs (partsOf ps) s r = some (l, s1, r1) →
    All2 (fun (x : Nat × AV) (y : Nat × Value) => x.1 = y.1 ∧ VR T.toCfg ρ (Mof M0 rs F) w x.2 y.2) l (ps.map fun p => (p.1, a.eval p.2))
  | [], _, _, _, _, _, he => by
    simp only [partsOf] at he
    have := ev_ret he
    simp only [Prod.mk.injEq] at this
    obtain ⟨rfl, _, _⟩ := this
    exact .nil
  | (i, x) :: ps, _, _, _, _, _, he => by
    simp only [partsOf] at he
    obtain ⟨y, s2, r2, h1, h2⟩ := ev_bind _ _ _ _ _ he
    obtain ⟨l, s3, r3, h3, h4⟩ := ev_bind _ _ _ _ _ h2
    have := ev_ret h4
    simp only [Prod.mk.injEq] at this
    obtain ⟨rfl, _, _⟩ := this
    exact .cons ⟨rfl, opd_rel h h1⟩ (partsOf_rel h h3)

theorem splice_rel {C : Cfg} {M : Nat → Prop} {l v : List AV} {cs vs : List Value} (hl : All2 (LR C ρ M w) l cs) (hv : All2 (LR C ρ M w) v vs) (off : Nat) : All2 (LR C ρ M w) (splice l off v) (cs.take off ++ vs ++ cs.drop (off + vs.length)) := by
  unfold splice
  rw [hv.length]
  exact ((hl.take off).append hv).append (hl.drop _)

theorem setParts_ok (hf : Fit P T) (h1 : ∀ id, (ρ id).oneCell' = true) {t : TypeId} {fs : Array Field} (hu : P.underlying t = some (.struct fs)) {places : List (Nat × Nat)} (hp : fs.toList.mapM (fun f => (P.info? f.type).map fun i => (f.offset, i.size)) = some places) {M : Nat → Prop} :
    ∀ {l : List (Nat × AV)} {vs : List (Nat × Value)} {ls out : List AV} {cells : List Value}, All2 (fun (x : Nat × AV) (y : Nat × Value) => x.1 = y.1 ∧ VR T.toCfg ρ M w x.2 y.2) l vs → setParts P T t l ls = some out → All2 (LR T.toCfg ρ M w) ls cells →
      ∃ cells', Instr.fill (fun x => places[x]?) cells.toArray vs = some cells' ∧ All2 (LR T.toCfg ρ M w) out cells'.toList
  | [], _, ls, out, cells, .nil, ho, hl => by
    simp only [setParts, Option.some.injEq] at ho
    subst ho
    exact ⟨cells.toArray, rfl, hl⟩
  | (i, x) :: l, (i', v) :: vs, ls, out, cells, .cons hx hr, ho, hl => by
    obtain ⟨e, hx⟩ := hx
    simp only at e
    subst e
    simp only [setParts] at ho
    split at ho <;> try (cases ho; done)
    rename_i off ft hfo
    split at ho <;> try (cases ho; done)
    rename_i st hst hfit
    split at ho <;> try (cases ho; done)
    rename_i hlen
    obtain ⟨cs, c1, c2, _⟩ := aggFit_vr h1 hfit hx
    obtain ⟨fs', f, g1, g2, g3, g4⟩ := fieldOf_spec hfo
    rw [hu] at g1
    obtain rfl : fs = fs' := by simpa using g1
    obtain ⟨ti, z, hi, hsz, _⟩ := (hf.tys.get hst).info
    have hpl : places[i]? = some (off, st.sz) := by
      have := places_get hp i f (by simpa using g2)
      rw [this, g4, hi]
      simp [g3, hsz]
    have hcs : v.cells.size = st.sz := by rw [c1]; have := c2.length; simp; omega
    have hll := hl.length
    rw [fill_step (place := fun x => places[x]?) hpl hcs (by simp; omega)]
    have hsp := splice_rel hl c2 off
    have hcl : cs.length = st.sz := by rw [c1] at hcs; simpa using hcs
    rw [hcl] at hsp
    have e2 : (cells.toArray.toList.take off ++ v.cells.toList ++ cells.toArray.toList.drop (off + st.sz)) = cells.take off ++ cs ++ cells.drop (off + st.sz) := by rw [c1]
    rw [e2]
    exact setParts_ok hf h1 hu hp hr ho hsp
where
  places_get {fs : List Field} {places : List (Nat × Nat)} (h : fs.mapM (fun f => (P.info? f.type).map fun i => (f.offset, i.size)) = some places) (i : Nat) (f : Field) (hf : fs[i]? = some f) :
      places[i]? = (P.info? f.type).map fun i => (f.offset, i.size) := by
    induction fs generalizing places i with
    | nil => simp at hf
    | cons g fs ih =>
      simp only [List.mapM_cons, Option.bind_eq_bind, Option.pure_def] at h
      cases hi : P.info? g.type with
      | none => simp [hi] at h
      | some j =>
        cases hr : fs.mapM (fun f => (P.info? f.type).map fun i => (f.offset, i.size)) with
        | none => simp [hi, hr] at h
        | some rest =>
          simp [hi, hr] at h
          subst h
          cases i with
          | zero => simp at hf; subst hf; simp [hi]
          | succ i => simpa using ih hr i (by simpa using hf)

theorem ok_build (hf : Fit P T) (h : Rel T.toCfg M0 w0 sl rs ρ F a w) (hd : ∀ d, o.dst = some d → d < a.tmps.size) {t : TypeId} {ps : Array (Nat × Operand)} (hop : o.op = .build t ps) (he : ev sl rs (step P T o) s r = some (out, s1, r1)) : Goal P T M0 w0 sl rs a w o out := by
  simp only [step, hop] at he
  split at he <;> try (simp [ev] at he; done)
  rename_i st hst hpl
  obtain ⟨l, s2, r2, h1, h2⟩ := ev_bind _ _ _ _ _ he
  split at h2 <;> try (simp [ev] at h2; done)
  rename_i l' hset
  obtain rfl := ret_out h2
  have hparts := partsOf_rel h h1
  unfold placesOk at hpl
  split at hpl <;> try (cases hpl; done)
  rename_i fs hu
  obtain ⟨places, hp⟩ := Option.isSome_iff_exists.1 hpl
  obtain ⟨i, z, hi, hsz, hz, hzc⟩ := (hf.tys.get hst).info
  obtain ⟨cells', e1, e2⟩ := setParts_ok hf h.one hu hp hparts hset (zleaves_rel st)
  refine runs_value h hd (v := .agg cells') ?_ ⟨cells'.toList, by simp, e2⟩
  have hb : P.built t (ps.map fun (i, x) => (i, a.eval x)).toList = some cells' := by
    unfold Program.built
    simp only [hi, hu, hz, hp, hzc]
    have : (ps.map fun (i, x) => (i, a.eval x)).toList = ps.toList.map fun p => (p.1, a.eval p.2) := by simp
    rw [this]
    simpa using e1
  simp only [execOp, hop, Sem.run_bind, run_build w t _ cells' hb]
  rfl

end

end Go.Pev
