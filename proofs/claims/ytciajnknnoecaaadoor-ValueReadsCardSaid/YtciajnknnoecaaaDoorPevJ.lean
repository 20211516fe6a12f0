/- The pure evaluator, part J: the operations, one by one (2). Own text, over any program. -/
import Derived.Test.YtciajnknnoecaaaDoorPevI
namespace Go.Pev

section
variable {P : Program} {T : Tabs} {M0 : Nat → Prop} {w0 : World} {sl : Nat → Option AV} {rs : Nat → Option RS} {ρ : Nat → Value} {F : Nat → Nat → Prop} {a : Act} {w : World} {o : Oper} {out : Out} {s r s1 r1 : List Nat}

theorem ok_nilCheck (h : Rel T.toCfg M0 w0 sl rs ρ F a w) (hd : ∀ d, o.dst = some d → d < a.tmps.size) {x : Operand} (hop : o.op = .nilCheck x) (he : ev sl rs (step P T o) s r = some (out, s1, r1)) : Goal P T M0 w0 sl rs a w o out := by
  simp only [step, hop] at he
  obtain ⟨v, s2, r2, h1, h2⟩ := ev_bind _ _ _ _ _ he
  have hx := opd_rel h h1
  split at h2 <;> try (simp [ev] at h2; done)
  all_goals
    obtain rfl := ret_out h2
    refine runs_value h hd (v := a.eval x) ?_ hx
    simp only [VR, SR, LR] at hx
  · obtain ⟨b, _, e⟩ := hx; simp [execOp, hop, e]
  · obtain ⟨ad, cs, e, _⟩ := hx; simp [execOp, hop, e]
  · obtain ⟨g, n, c, _, e⟩ := hx; simp [execOp, hop, e]

theorem ok_unOp (h : Rel T.toCfg M0 w0 sl rs ρ F a w) (hd : ∀ d, o.dst = some d → d < a.tmps.size) {u : UnOp} {t : TypeId} {x : Operand} (hop : o.op = .unOp u t x) (he : ev sl rs (step P T o) s r = some (out, s1, r1)) : Goal P T M0 w0 sl rs a w o out := by
  simp only [step, hop] at he
  obtain ⟨v, s2, r2, h1, h2⟩ := ev_bind _ _ _ _ _ he
  have hx := opd_rel h h1
  split at h2 <;> try (simp [ev] at h2; done)
  all_goals
    split at h2 <;> try (simp [ev] at h2; done)
    obtain rfl := ret_out h2
    simp only [VR, SR, LR] at hx
  · exact runs_value h hd (v := .bool _) (by simp [execOp, hop, hx, Op.unary]) rfl
  · exact runs_value h hd (v := .int _ _) (by simp [execOp, hop, hx, Op.unary, Op.intArith]) rfl

theorem ok_extract (h : Rel T.toCfg M0 w0 sl rs ρ F a w) (hd : ∀ d, o.dst = some d → d < a.tmps.size) {x : Operand} {i : Nat} (hop : o.op = .extract x i) (he : ev sl rs (step P T o) s r = some (out, s1, r1)) : Goal P T M0 w0 sl rs a w o out := by
  simp only [step, hop] at he
  obtain ⟨v, s2, r2, h1, h2⟩ := ev_bind _ _ _ _ _ he
  have hx := opd_rel h h1
  split at h2 <;> try (simp [ev] at h2; done)
  rename_i l
  obtain ⟨v, s3, r3, h3, h4⟩ := ev_bind _ _ _ _ _ h2
  obtain rfl := ret_out h4
  obtain ⟨v', e1, e2⟩ := ev_ofO h3
  simp only [Prod.mk.injEq] at e2
  obtain ⟨rfl, _, _⟩ := e2
  obtain ⟨vs, e3, e4⟩ : ∃ vs : List Value, a.eval x = .tuple vs.toArray ∧ All2 (SR T.toCfg ρ (Mof M0 rs F) w) l vs := hx
  obtain ⟨u, e5, e6⟩ := e4.get i _ e1
  exact runs_value h hd (v := u) (by simp [execOp, hop, e3, Instr.extract, e5]) e6.toVR

theorem ok_makeInterface (h : Rel T.toCfg M0 w0 sl rs ρ F a w) (hd : ∀ d, o.dst = some d → d < a.tmps.size) {t : TypeId} {x : Operand} (hop : o.op = .makeInterface t x) (hf : Fit P T) (he : ev sl rs (step P T o) s r = some (out, s1, r1)) : Goal P T M0 w0 sl rs a w o out := by
  simp only [step, hop] at he
  obtain ⟨v, s2, r2, h1, h2⟩ := ev_bind _ _ _ _ _ he
  have hx := opd_rel h h1
  split at h2 <;> try (simp [ev] at h2; done)
  · split at h2 <;> try (simp [ev] at h2; done)
    rename_i n ht
    subst ht
    obtain rfl := ret_out h2
    simp only [VR, SR, LR] at hx
    refine runs_value h hd (v := .iface T.errno (.int .i64 n)) ?_ (fun _ _ => rfl)
    simp [execOp, hop, hx, Instr.makeInterface, underlying, hf.errno]
  · rename_i id off
    split at h2 <;> try (simp [ev] at h2; done)
    rename_i hptr
    have hrun : (execOp a.eval o).run P w = .ok (.value (.iface t (a.eval x))) w := by
      unfold isPtrT at hptr
      split at hptr <;> try (cases hptr; done)
      rename_i pt hpt
      simp [execOp, hop, Instr.makeInterface, underlying, hpt]
    simp only [VR, SR, LR] at hx
    obtain ⟨b, hb1, hb2⟩ := hx
    split at h2
    · rename_i htf
      obtain ⟨q, h3, h4⟩ := ev_res h2
      split at h4 <;> try (simp [ev] at h4; done)
      rename_i u k n e
      split at h4 <;> try (simp [ev] at h4; done)
      rename_i huo
      obtain ⟨rfl, rfl⟩ := huo
      have := ev_ret h4
      simp only [Prod.mk.injEq] at this
      obtain ⟨rfl, _, _⟩ := this
      obtain ⟨b', cells, r1, r2, r3, r4, r5⟩ := h.res id _ h3
      rw [hb1] at r1
      obtain rfl : b = b' := by simpa using r1
      have hsubr : ∀ i st, updR rs [(id, none)] i = some st → rs i = some st := fun i st hi => by
        simp only [updR, get_single] at hi
        by_cases hid : id = i
        · subst hid; simp at hi
        · simpa [hid] using hi
      have h' := h.sub (fun _ _ ht => ht) hsubr
      have hFb : F id b := (r2 b).2 rfl
      have hrng := h.rng id _ b h3 hFb
      have hnM : ¬ Mof M0 (updR rs [(id, none)]) F b := by
        rintro (h0 | ⟨j, st, hj, hF⟩)
        · have := h.m0 b h0; omega
        · by_cases hij : id = j
          · subst hij; simp [updR, get_single] at hj
          · exact h.disj id j _ st b h3 (hsubr j st hj) hij hFb hF
      obtain ⟨c0, c1, c2, hcells, q0, q1, q2⟩ : ∃ c0 c1 c2, cells.toList = [c0, c1, c2] ∧ c0 = .int .i64 k ∧ c1 = .int .i64 n ∧ LR T.toCfg ρ (Mof M0 rs F) w (.err (some e)) c2 := by
        generalize cells.toList = cl at r4
        cases r4 with | cons a1 t1 => cases t1 with | cons a2 t2 => cases t2 with | cons a3 t3 => cases t3; exact ⟨_, _, _, rfl, a1, a2, a3⟩
      have hce : cells = #[.int .i64 k, .int .i64 n, c2] := by apply Array.ext'; rw [hcells, q0, q1]
      refine .inl ⟨_, w, hrun, ρ, F, h'.put o.dst hd _ _ ?_⟩
      simp only [VR, SR, LR] at q2 ⊢
      intro w' hw'
      refine ⟨b, c2, by rw [hb2, htf], ?_, ?_⟩
      · rw [hw'.block b hrng.2 hnM, r3, hce]
      · have hsub2 : ∀ k, Mof M0 (updR rs [(id, none)]) F k → k < w.heap.size → Mof M0 rs F k := by
          rintro k (h0 | ⟨j, st, hj, hF⟩) _
          · exact .inl h0
          · exact .inr ⟨j, st, hsubr j st hj, hF⟩
        obtain ⟨ps, c⟩ := e
        exact q2 w' (hw'.mono fun i hi g => hsub2 i g hi)
    · split at h2 <;> try (simp [ev] at h2; done)
      obtain rfl := ret_out h2
      refine runs_value h hd (v := .iface t (a.eval x)) hrun ?_
      simp only [VR, SR, LR]
      exact ⟨b, hb1, by rw [hb2]⟩

theorem fieldOf_spec {t : TypeId} {j off : Nat} {ft : TypeId} (h : fieldOf P t j = some (off, ft)) : ∃ fs f, P.underlying t = some (.struct fs) ∧ fs[j]? = some f ∧ f.offset = off ∧ f.type = ft := by
  unfold fieldOf at h
  split at h
  · rename_i fs hfs
    cases hj : fs[j]? with
    | none => simp [hj] at h
    | some f => simp only [hj, Option.map_some, Option.some.injEq, Prod.mk.injEq] at h; exact ⟨fs, f, hfs, hj, h.1, h.2⟩
  · cases h

theorem run_fieldAt {ft : TypeId} (hz : ∃ st, TyOk P ft st) {t : TypeId} {j off : Nat} (hf : fieldOf P t j = some (off, ft)) (ad : Addr) : (Instr.fieldAt t (.pointer (some ad)) j).run P w = .ok (.pointer (some (ad.add off))) w := by
  obtain ⟨fs, f, e1, e2, e3, e4⟩ := fieldOf_spec hf
  obtain ⟨st, hst⟩ := hz
  obtain ⟨i, z, hi, hsz, _⟩ := hst.info
  have : i.size ≠ 0 := by rw [hsz]; have := st.sz_pos; omega
  simp [Instr.fieldAt, underlying, e1, e2, Instr.sureAddr, fieldPlace, sizeOf, typeInfo, e4, hi, this, e3]

theorem ok_fieldAddr (hf : Fit P T) (h : Rel T.toCfg M0 w0 sl rs ρ F a w) (hd : ∀ d, o.dst = some d → d < a.tmps.size) {t : TypeId} {x : Operand} {j : Nat} (hop : o.op = .fieldAddr t x j) (he : ev sl rs (step P T o) s r = some (out, s1, r1)) : Goal P T M0 w0 sl rs a w o out := by
  simp only [step, hop] at he
  split at he <;> try (simp [ev] at he; done)
  rename_i off ft hfo
  split at he <;> try (simp [ev] at he; done)
  rename_i st hst
  have hrun := fun ad => run_fieldAt (w := w) ⟨st, hf.tys.get hst⟩ hfo ad
  obtain ⟨v, s2, r2, h1, h2⟩ := ev_bind _ _ _ _ _ he
  have hx := opd_rel h h1
  split at h2 <;> try (simp [ev] at h2; done)
  all_goals obtain rfl := ret_out h2
  · simp only [VR, SR, LR] at hx
    obtain ⟨b, e1, e2⟩ := hx
    refine runs_value h hd (v := .pointer (some _)) (by simp only [execOp, hop, e2, Sem.run_bind, hrun]; rfl) ⟨b, e1, ?_⟩
    rw [← addr_at, addr_add, addr_at]
  · simp only [VR, SR, LR] at hx
    obtain ⟨ad, cs, e1, e2, e3⟩ := hx
    refine runs_value h hd (v := .pointer (some _)) (by simp only [execOp, hop, e1, Sem.run_bind, hrun]; rfl) ⟨ad, cs, ?_, e2, e3⟩
    rw [addr_add]
  · simp only [VR, SR, LR] at hx
    obtain ⟨g, n, c, e1, e2⟩ := hx
    refine runs_value h hd (v := .pointer (some _)) (by simp only [execOp, hop, e2, Sem.run_bind, hrun]; rfl) ⟨g, n, c, e1, ?_⟩
    rw [← addr_at, addr_add, addr_at, Nat.add_assoc]

theorem ok_field (hf : Fit P T) (h : Rel T.toCfg M0 w0 sl rs ρ F a w) (hd : ∀ d, o.dst = some d → d < a.tmps.size) {t : TypeId} {x : Operand} {j : Nat} (hop : o.op = .field t x j) (he : ev sl rs (step P T o) s r = some (out, s1, r1)) : Goal P T M0 w0 sl rs a w o out := by
  simp only [step, hop] at he
  split at he <;> try (simp [ev] at he; done)
  rename_i off ft hfo
  split at he <;> try (simp [ev] at he; done)
  rename_i st hst
  obtain ⟨v, s2, r2, h1, h2⟩ := ev_bind _ _ _ _ _ he
  have hx := opd_rel h h1
  split at h2 <;> try (simp [ev] at h2; done)
  rename_i l
  obtain ⟨v, s3, r3, h3, h4⟩ := ev_bind _ _ _ _ _ h2
  obtain rfl := ret_out h4
  obtain ⟨v', e1, e2⟩ := ev_ofO h3
  simp only [Prod.mk.injEq] at e2
  obtain ⟨rfl, _, _⟩ := e2
  obtain ⟨cs, e3, e4⟩ := hx.ag
  obtain ⟨fs, f, g1, g2, g3, g4⟩ := fieldOf_spec hfo
  obtain ⟨i, z, hi, hsz, _⟩ := (hf.tys.get hst).info
  unfold loadAV at e1
  split at e1
  · rename_i hagg
    split at e1 <;> try (cases e1; done)
    rename_i hle
    obtain rfl := Option.some.inj e1
    refine runs_value h hd (v := .agg ((cs.drop off).take st.sz).toArray) ?_ ⟨_, rfl, (e4.drop off).take st.sz⟩
    simp only [execOp, hop, Instr.field, underlying, g1, g2, e3, asAgg, part, Sem.run_bind, run_program, Result.andThen_ok, Sem.run_pure, g4, aggOf_true hagg, if_true, sizeOf, typeInfo, hi, hsz, g3]
    congr 3
    apply Array.ext'
    simp [List.extract_eq_take_drop]
  · rename_i hagg
    rw [List.head?_drop] at e1
    obtain ⟨u, e5, e6⟩ := e4.get off _ e1
    refine runs_value h hd (v := u) ?_ e6.toVR
    simp [execOp, hop, Instr.field, underlying, g1, g2, e3, asAgg, part, g4, aggOf_false hagg, g3, e5]
  · cases e1

theorem ok_index (h : Rel T.toCfg M0 w0 sl rs ρ F a w) (hd : ∀ d, o.dst = some d → d < a.tmps.size) {t : TypeId} {x i : Operand} (hop : o.op = .index t x i) (he : ev sl rs (step P T o) s r = some (out, s1, r1)) : Goal P T M0 w0 sl rs a w o out := by
  simp only [step, hop] at he
  split at he <;> try (simp [ev] at he; done)
  rename_i hu
  obtain ⟨v, s2, r2, h1, h2⟩ := ev_bind _ _ _ _ _ he
  have hx := opd_rel h h1
  split at h2 <;> try (simp [ev] at h2; done)
  rename_i str
  obtain ⟨vi, s3, r3, h3, h4⟩ := ev_bind _ _ _ _ _ h2
  have hi := opd_rel h h3
  split at h4 <;> try (simp [ev] at h4; done)
  rename_i k n
  obtain ⟨b1, h5⟩ := ev_br h4
  obtain ⟨b2, h6⟩ := ev_br h5
  obtain rfl := ret_out h6
  simp only [decide_eq_true_eq] at b1 b2
  simp only [VR, SR, LR] at hx hi
  have hlt : n.toNat < str.size := by omega
  refine runs_value h hd (v := .int .u8 _) ?_ rfl
  have hl : str.data.toList.getD n.toNat 0 = str[n.toNat] := by
    have h1 : n.toNat < str.data.size := hlt
    have h2 : n.toNat < str.data.toList.length := by simpa using h1
    rw [List.getD_eq_getElem?_getD, List.getElem?_eq_getElem h2]
    rfl
  simp only [execOp, hop, Instr.index, hx, hi, asIntOf, underlying, hu, b1, Sem.run_bind, Sem.run_pure, Result.andThen_ok, run_program, if_true, getElem?_pos str n.toNat hlt, hl]

end

end Go.Pev
