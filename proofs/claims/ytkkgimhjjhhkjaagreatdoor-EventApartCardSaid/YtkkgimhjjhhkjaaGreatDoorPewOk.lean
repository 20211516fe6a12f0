/- The pure evaluator, part O: the operations, one by one (5): slices built, stores, append, calls. Own text, over any program. -/
import Derived.Test.YtkkgimhjjhhkjaaGreatDoorPewN
import Derived.Maps.AppendAt
import Derived.Maps.RangeRun
namespace Go.Pev
section
variable {P : Program} {T : Tabs} {C : Cfg} {M0 : Base} {β : Nat → Value} {N : Nat} {w0 : World} {sl : Nat → Option AV} {rs : Nat → Option RS} {ρ : Nat → Value} {F : Nat → Nat → Prop} {a : Act} {w : World} {o : Oper} {out : Out} {s r s1 r1 : List Nat}
theorem updR_cons (ws : Ws) (p : Nat × Option RS) : updR (updR rs ws) [p] = updR rs (p :: ws) := by
  funext id
  obtain ⟨k, v⟩ := p
  simp only [updR, get]
  split <;> rename_i h
  · split at h
    · rename_i hb; rw [hb] at *; simp_all
    · simp at h
  · split at h
    · simp at h
    · simp
theorem ownsRow_one {e : TypeId} {sz n : Nat} {v : Value} {xs : List Value} (h : w.ownsRow 0 e sz v n xs) : v.oneCell' = true := by
  rcases h.2 with ⟨rfl, _⟩ | ⟨g, cap, cur, rfl, _⟩ <;> rfl
def oldWs : Option Nat → Ws
  | some id => [(id, none)]
  | none => []
theorem Rel.row (h : Rel C M0 w0 sl rs ρ F a w) {d : Nat} (hf : Fresh sl rs d) (old : Option Nat) (hold : ∀ id, old = some id → ∃ st, rs id = some st ∧ ¬ isReg st) (hne : old ≠ some d)
    {w' : World} {v' : Value} {G : Nat → Prop} (hk : KeepS G w w') (hG : ∀ k, G k → ∃ id, old = some id ∧ F id k)
    {e : TypeId} {s : Sh} {l : List s.T} {css : List (List Value)} (hown : w'.ownsRow 0 e s.sz v' l.length css.flatten) (hcss : All2 (RR C (Mof M0 rs F) w s) l css)
    (hblk : ∀ k, v'.ownBlock = some k → (∃ id, old = some id ∧ F id k) ∨ (w.heap.size ≤ k ∧ k < w'.heap.size)) :
    ∃ ρ' F', Rel C M0 w0 sl (updR rs ((d, some (.row e s l)) :: oldWs old)) ρ' F' a w' ∧ ρ' d = v' ∧ ∀ i, i ≠ d → ρ' i = ρ i := by
  have holdM : ∀ id k, old = some id → F id k → Mof M0 rs F k ∧ (M0.W k ∨ w0.heap.size ≤ k) ∧ k < w.heap.size := by
    intro id k ho hF
    obtain ⟨st, hst, hnr⟩ := hold id ho
    exact ⟨.inr ⟨id, st, hst, hF⟩, h.rngW hst hF hnr, (h.rng id st k hst hF).2⟩
  have hkM : KeepS (Mof M0 rs F) w w' := hk.mono fun i _ g => by
    obtain ⟨id, ho, hF⟩ := hG i g
    exact (holdM id i ho hF).1
  have hsz := h.keep.size
  refine ⟨fun i => if i = d then v' else ρ i, fun i => if i = d then (fun k => v'.ownBlock = some k) else F i, ?_, by simp, fun i hi => by simp [hi]⟩
  have hget : ∀ id, id ≠ d → old ≠ some id → updR rs ((d, some (.row e s l)) :: oldWs old) id = rs id := by
    intro id hid ho
    have h1 : Nat.beq d id = false := by
      cases hb : Nat.beq d id with
      | false => rfl
      | true => exact absurd (Nat.eq_of_beq_eq_true hb).symm hid
    simp only [updR, get, h1]
    cases old with
    | none => simp [oldWs, get]
    | some i =>
      have h2 : Nat.beq i id = false := by
        cases hb : Nat.beq i id with
        | false => rfl
        | true => exact absurd (by rw [Nat.eq_of_beq_eq_true hb]) ho
      simp [oldWs, get, h2]
  have hgd : updR rs ((d, some (.row e s l)) :: oldWs old) d = some (.row e s l) := by simp [updR, get, Nat.beq_refl]
  have hgo : ∀ id, id ≠ d → old = some id → updR rs ((d, some (.row e s l)) :: oldWs old) id = none := by
    intro id hid ho
    subst ho
    have h1 : Nat.beq d id = false := by
      cases hb : Nat.beq d id with
      | false => rfl
      | true => exact absurd (Nat.eq_of_beq_eq_true hb).symm hid
    simp [updR, get, h1, oldWs, Nat.beq_refl]
  refine h.upd (fun id => id = d ∨ old = some id) hk (fun k g => ?_) (fun id hid => ⟨?_, ?_⟩) (fun t av id ht hm => ?_) (fun id st' hid hst' => ⟨?_, fun i hi => ?_⟩) (fun id st k hid hst hF g => ?_) (fun id st' hid hst' => ?_) (fun id => ?_) ⟨fun h' => ?_, fun lk its H h' => ?_⟩
  · obtain ⟨id, ho, hF⟩ := hG k g
    obtain ⟨m, b, _⟩ := holdM id k ho hF
    exact ⟨m, b⟩
  · exact hget id (fun e => hid (.inl e)) (fun e => hid (.inr e))
  · simp only [if_neg (fun e => hid (.inl e))]
  · by_cases e : id = d
    · subst e; rw [hf.slots t av ht] at hm; cases hm
    · simp only [if_neg e]
  · simp only [if_neg (fun e => hid (.inl e))]
  · by_cases e : i = d
    · subst e; rw [hf.res id st' hst'] at hi; cases hi
    · simp only [if_neg e]
  · obtain ⟨i, ho, hFi⟩ := hG k g
    obtain ⟨sti, hsti, _⟩ := hold i ho
    have : i ≠ id := fun e => hid (.inr (e ▸ ho))
    exact h.disj i id sti st k hsti hst this hFi hF
  · rcases hid with rfl | ho
    · rw [hgd] at hst'
      obtain rfl := Option.some.inj hst'
      refine ⟨fun hs => ?_, fun k hk' => ?_⟩
      · simp only [if_true]
        exact ⟨css, by simpa using hown, fun k => by simp, hcss.imp fun x cs hx => RR.step hkM hs s x cs hx⟩
      · simp only [if_true] at hk'
        rcases hblk k hk' with ⟨i, ho, hFi⟩ | ⟨b1, b2⟩
        · obtain ⟨m, c1, c2⟩ := holdM i k ho hFi
          refine ⟨c1.elim .inl fun h => .inr (.inr h), Nat.lt_of_lt_of_le c2 hk.size, fun _ => m, fun j t hj ht => ?_⟩
          simp only [if_neg hj]
          obtain ⟨sti, hsti, _⟩ := hold i ho
          by_cases hij : i = j
          · subst hij; rw [hgo i hj ho] at ht; cases ht
          · rw [hget j hj (fun e => hij (Option.some.inj (ho.symm.trans e)))] at ht
            exact h.disj i j sti t k hsti ht hij hFi
        · refine ⟨.inr (.inr (by omega)), b2, fun hlt => absurd hlt (by omega), fun j t hj ht => ?_⟩
          simp only [if_neg hj]
          intro hF
          by_cases hjo : old = some j
          · rw [hgo j hj hjo] at ht; cases ht
          · rw [hget j hj hjo] at ht
            have := (h.rng j t k ht hF).2
            omega
    · by_cases e' : id = d
      · subst e'; exact absurd ho hne
      · rw [hgo id e' ho] at hst'; cases hst'
  · by_cases e : id = d
    · simp only [if_pos e]; exact ownsRow_one hown
    · simp only [if_neg e]; exact h.one id
  · refine ⟨?_, by simp only [if_neg (Ne.symm hf.ne)]⟩
    by_cases ho : old = some 7000
    · rw [hgo 7000 (Ne.symm hf.ne) ho] at h'; cases h'
    · rw [hget 7000 (Ne.symm hf.ne) ho] at h'; exact h'
  · by_cases hd : REG = d
    · rw [hd, hgd] at h'; cases h'
    · by_cases ho : old = some REG
      · rw [hgo REG hd ho] at h'; cases h'
      · rw [hget REG hd ho] at h'; exact ⟨its, H, h'⟩
theorem Fresh.freeze {d : Nat} (hf : Fresh sl rs d) {ws : Ws} (hz : FreezeWs rs ws) : Fresh sl (updR rs ws) d := by
  refine ⟨hf.slots, fun id st hst => ?_, hf.ne⟩
  simp only [updR] at hst
  cases hg : get ws id with
  | none => rw [hg] at hst; exact hf.res id st hst
  | some q =>
    rw [hg] at hst
    obtain ⟨e, s, l, _, rfl⟩ := hz id q hg
    obtain rfl := Option.some.inj hst
    rfl
theorem litEls_ok (h : Rel C M0 w0 sl rs ρ F a w) {e : TypeId} {st : Sh} : ∀ {n : Nat} {l : List (Nat × AV)} {xs : List st.T} {ws : Ws} {s r s1 r1 : List Nat} {vs : List (Nat × Value)}, ev sl rs (litEls P e st n l) s r = some ((xs, ws), s1, r1) →
    All2 (fun (x : Nat × AV) (y : Nat × Value) => x.1 = y.1 ∧ VR C ρ (Mof M0 rs F) w x.2 y.2) l vs →
    FreezeWs rs ws ∧ vs = (((vs.map (·.2)).zipIdx n).map fun x => (x.2, x.1)) ∧ xs.length = l.length ∧
      ∀ us, FreezeWs rs us → (∀ id q, get ws id = some q → (get us id).isSome) → All2 (RR C (Mof M0 (updR rs us) (fzF F us)) w st) xs (vs.map (·.2.cells.toList))
  | n, [], xs, ws, s, r, s1, r1, vs, he, hx => by
    simp only [litEls] at he
    have := ev_ret he
    simp only [Prod.mk.injEq] at this
    obtain ⟨⟨rfl, rfl⟩, _, _⟩ := this
    cases hx
    exact ⟨FreezeWs.nil, rfl, rfl, fun _ _ _ => .nil⟩
  | n, (i, x) :: l, xs, ws, s, r, s1, r1, vs, he, hx => by
    simp only [litEls] at he
    split at he <;> try (simp [ev] at he; done)
    rename_i hfit
    simp only [Bool.and_eq_true] at hfit
    obtain ⟨⟨y, w1⟩, s2, r2, h1, h2⟩ := ev_bind _ _ _ _ _ he
    obtain ⟨z, s3, r3, h3, h4⟩ := ev_bind _ _ _ _ _ h2
    obtain ⟨⟨zs, w2⟩, s4, r4, h5, h6⟩ := ev_bind _ _ _ _ _ h4
    have := ev_ret h6
    simp only [Prod.mk.injEq] at this
    obtain ⟨⟨rfl, rfl⟩, _, _⟩ := this
    obtain ⟨z', e1, e2⟩ := ev_ofO h3
    simp only [Prod.mk.injEq] at e2
    obtain ⟨rfl, _, _⟩ := e2
    cases hx with
    | cons hx hxs =>
      rename_i v vs
      obtain ⟨hi, hx⟩ := hx
      obtain ⟨cs, c1, c2, _⟩ := aggFit_vr h.one h.bone hfit.2 hx
      obtain ⟨z1, f1⟩ := dataLs_ok h h1 c2
      obtain ⟨z2, g1, g2, f2⟩ := litEls_ok h h5 hxs
      refine ⟨z1.append z2, ?_, by simp [g2], fun us hz hus => ?_⟩
      · have : i = n := Nat.eq_of_beq_eq_true hfit.1
        simp only [List.map_cons, List.zipIdx_cons]
        rw [← g1]
        obtain ⟨v1, v2⟩ := v
        simp only at hi
        rw [← hi, this]
      · have q1 := f1 us hz fun id q hq => hus id q (by rw [get_append, hq])
        have q2 := f2 us hz fun id q hq => by
          cases hw : get w1 id with
          | some q' => exact hus id q' (by rw [get_append, hw])
          | none => exact hus id q (by rw [get_append, hw, hq])
        simp only [List.map_cons]
        refine .cons ?_ q2
        rw [c1]
        exact ofLeaves_rep st _ _ _ e1 q1
theorem flatten_ext {css : List (List Value)} {n : Nat} (hn : 0 < n) (hc : ∀ c ∈ css, c.length = n) (k : Nat) : css.flatten[k]? = (css[k / n]?).bind fun c => c[k % n]? := by
  have hk : k = k / n * n + k % n := (Nat.div_add_mod' k n).symm
  have hm := Nat.mod_lt k hn
  cases hi : css[k / n]? with
  | none =>
    simp only [Option.bind_none]
    apply List.getElem?_eq_none
    have hl : css.length ≤ k / n := List.getElem?_eq_none_iff.1 hi
    have : css.flatten.length = css.length * n := by
      clear hi hl
      induction css with
      | nil => simp
      | cons c cs ih => simp [List.flatten_cons, hc c List.mem_cons_self, ih fun c h => hc c (List.mem_cons_of_mem _ h), Nat.add_mul]; omega
    rw [this]
    have := Nat.mul_le_mul_right n hl
    omega
  | some c =>
    have hcl := hc c (List.mem_of_getElem? hi)
    simp only [Option.bind_some]
    have hj : c[k % n]? = some c[k % n] := List.getElem?_eq_getElem (by omega)
    rw [hj]
    conv => lhs; rw [hk]
    exact flatten_get hi hc hj
theorem flatten_length {css : List (List Value)} {n : Nat} (hc : ∀ c ∈ css, c.length = n) : css.flatten.length = css.length * n := by
  induction css with
  | nil => simp
  | cons c cs ih => simp [List.flatten_cons, hc c List.mem_cons_self, ih fun c h => hc c (List.mem_cons_of_mem _ h), Nat.add_mul]; omega
theorem blk_alloc_new' (w : World) (o : Obj) : (w.alloc o).heap[w.heap.size]? = some o := Array.getElem?_push_size
theorem ok_buildSlice (hf : Fit P T) (h : Rel (T.cf β N M0.L) M0 w0 sl rs ρ F a w) (hd : ∀ d, o.dst = some d → d < a.tmps.size) {t : TypeId} {n : Nat} {ps : Array (Nat × Operand)} (hop : o.op = .buildSlice t n ps) (he : ev sl rs (step P T o) s r = some (out, s1, r1)) (hnew : NewOk sl rs o.dst out.ws) : Goal P T M0 w0 sl rs a w o out := by
  simp only [step, hop] at he
  split at he <;> try (simp [ev] at he; done)
  rename_i e hel
  split at he <;> try (simp [ev] at he; done)
  rename_i st hst
  by_cases hz0 : n = 0 ∧ ps = #[]
  · obtain ⟨rfl, rfl⟩ := hz0
    rw [if_pos ⟨rfl, rfl⟩] at he
    split at he <;> try (simp [ev] at he; done)
    rename_i d hdst
    have := ev_ret he
    simp only [Prod.mk.injEq] at this
    obtain ⟨rfl, _, _⟩ := this
    have hrun : (Instr.buildSlice t 0 #[]).run P w = .ok (.slice (some ⟨w.heap.size, 0, none⟩) 0 0) (w.alloc (.cells #[] e)) := by
      obtain ⟨ti, z, hi, hsz, hz, hzc⟩ := (hf.tys.get hst).info
      simp [Instr.buildSlice, run_underlying (elemOf_spec hel), sizeOf, typeInfo, hi, Instr.fill, newRow]
      rw [show Array.map (fun x => (default : Value)) (Array.range 0) = #[] from Array.eq_empty_of_size_eq_zero (by simp)]
    obtain ⟨hfr, hmw, _⟩ := hnew.ok d (.row e st []) hdst (by simp [get, Nat.beq_refl])
    obtain ⟨ρ', F', hrel, hρ, _⟩ := h.row hfr none (fun _ h => by cases h) (by simp) (e := e) (v' := .slice (some ⟨w.heap.size, 0, none⟩) 0 0) (KeepS.alloc w (.cells #[] e)) (fun _ g => g.elim) (s := st) (l := []) (css := [])
      ⟨by simp, .inr ⟨w.heap.size, 0, #[], rfl, Nat.zero_le _, blk_alloc_new' w _, Nat.le_refl _, Nat.zero_le _, by simp, by simp⟩⟩ .nil (fun k hk => by
        simp only [Value.ownBlock, Option.some.injEq] at hk
        subst hk
        exact .inr ⟨Nat.le_refl _, by simp⟩)
    refine .inl ⟨.slice (some ⟨w.heap.size, 0, none⟩) 0 0, w.alloc (.cells #[] e), ?_, ρ', F', β, N, ?_⟩
    · simp only [execOp, hop, Sem.run_bind]
      simp only [Array.map_empty, hrun]
      rfl
    · refine hrel.put o.dst hd (.own d) _ ?_
      simp only [VR, SR, LR]
      exact hρ.symm
  rw [if_neg hz0] at he
  split at he <;> try (simp [ev] at he; done)
  rename_i hn
  obtain ⟨l, s2, r2, h1, h2⟩ := ev_bind _ _ _ _ _ he
  split at h2 <;> try (simp [ev] at h2; done)
  rename_i hlen
  obtain ⟨⟨xs, ws⟩, s3, r3, h3, h4⟩ := ev_bind _ _ _ _ _ h2
  simp only at h4
  split at h4 <;> try (simp [ev] at h4; done)
  rename_i d hdst
  have := ev_ret h4
  simp only [Prod.mk.injEq] at this
  obtain ⟨rfl, _, _⟩ := this
  have hparts := partsOf_rel h h1
  obtain ⟨z1, g1, g2, f1⟩ := litEls_ok h h3 hparts
  have hcss := f1 ws z1 (fun id q hq => by simp [hq])
  generalize hvs : ps.toList.map (fun p => (p.1, a.eval p.2)) = vs at hparts g1 hcss
  obtain ⟨ti, z, hi, hsz, hz, hzc⟩ := (hf.tys.get hst).info
  have hpl := hparts.length
  have hvl : vs.length = n := by omega
  have hcl : ∀ c ∈ vs.map (·.2.cells.toList), c.length = st.sz := fun c hc => by
    obtain ⟨x, _, hx⟩ := hcss.mem_right c hc
    exact RR.len st x c hx
  have hszp := st.sz_pos
  have hnpos : 0 < n * st.sz := Nat.mul_pos hn.2 hszp
  have hn1 : n ≤ n * st.sz := Nat.le_mul_of_pos_right n hszp
  obtain ⟨r0, hr1, hr2, hr3⟩ := Great.fill_dense hszp (vs.map (·.2)) 0 ((Array.range (n * ti.size)).map (z.cells[· % z.cells.size]!)) (fun v hv => by
    obtain ⟨p, hp, rfl⟩ := List.mem_map.1 hv
    have := hcl p.2.cells.toList (List.mem_map.2 ⟨p, hp, rfl⟩)
    simpa using this) (by simp [hvl, hsz])
  have hflat : r0.toList = (vs.map (·.2.cells.toList)).flatten := by
    apply List.ext_getElem?
    intro k
    have := hr3 k
    simp only [Nat.zero_mul, Nat.zero_le, true_and, Nat.zero_add, List.length_map, hvl, Nat.sub_zero] at this
    rw [Array.getElem?_toList, this, flatten_ext hszp hcl k]
    have hsz0 : r0.size = n * st.sz := by rw [hr2]; simp [hsz]
    by_cases hk : k < n * st.sz
    · rw [if_pos hk]
      simp only [List.getElem?_map]
      cases vs[k / st.sz]? with
      | none => rfl
      | some p => simp
    · rw [if_neg hk]
      have h0 : (vs.map (·.2.cells.toList))[k / st.sz]? = none := by
        apply List.getElem?_eq_none
        simp only [List.length_map, hvl]
        exact (Nat.le_div_iff_mul_le hszp).2 (by omega)
      rw [h0]
      simp [hsz]
      omega
  have hparts2 : (ps.map fun (i, x) => (i, a.eval x)).toList = ((vs.map (·.2)).zipIdx 0).map fun x => (x.2, x.1) := by
    rw [← g1, ← hvs]; simp
  have hrun := run_buildSlice (P := P) w t e n (ps.map fun (i, x) => (i, a.eval x)) r0 ti z (elemOf_spec hel) hi hz (by rw [hsz]; omega) (by rw [hsz]; omega) (by rw [hparts2, hsz] at *; exact hr1)
  obtain ⟨hfr, hmw, _⟩ := hnew.ok d (.row e st xs) hdst (by simp [get, Nat.beq_refl])
  obtain ⟨ρ', F', hrel, hρ, _⟩ := (h.freeze z1).row (hfr.freeze z1) none (fun _ h => by cases h) (by simp) (e := e) (v' := .slice (some ⟨w.heap.size, 0, none⟩) n n) (KeepS.alloc w (.cells r0 e)) (fun _ g => g.elim) (l := xs) (css := vs.map (·.2.cells.toList)) ⟨by rw [flatten_length hcl]; simp [hvl, g2, hlen], .inr ⟨w.heap.size, n, r0, by rw [g2, hlen], Nat.zero_le _, heap_alloc_new w _, by omega, by simp only [maxLen]; omega, by rw [hr2]; simp [hsz], by
    rw [← hflat, g2, hlen]
    apply List.take_of_length_le
    simp [hr2, hsz]⟩⟩ hcss (fun k hk => by
    simp only [Value.ownBlock, Option.some.injEq] at hk
    subst hk
    exact .inr ⟨Nat.le_refl _, by simp⟩)
  · refine .inl ⟨.slice (some ⟨w.heap.size, 0, none⟩) n n, w.alloc (.cells r0 e), ?_, ρ', F', β, N, ?_⟩
    · simp only [execOp, hop, Sem.run_bind, hrun]
      rfl
    · rw [show updR (updR rs ws) ((d, some (.row e st xs)) :: oldWs none) = updR rs ((d, some (.row e st xs)) :: ws) from updR_cons ws _] at hrel
      refine hrel.put o.dst hd (.own d) _ ?_
      simp only [VR, SR, LR]
      exact hρ.symm
theorem KeepS.setRow (w : World) (g : Nat) (cs : Array Value) : KeepS (fun k => k = g) w (w.setRow g cs) :=
  ⟨rfl, rfl, rfl, by simp [World.setRow], fun k _ hk => setRow_other w g k _ hk⟩
theorem run_store {t : TypeId} {st : Sh} (ht : TyOk P t st) {b off : Nat} {cells : Array Value} {u : TypeId} (hg : w.heap[b]? = some (.cells cells u (0, 0))) {v : Value} {vs : List Value} (hv : v.cells = vs.toArray) (hl : vs.length = st.sz) (hfit : off + vs.length ≤ cells.size) (h1 : ∀ x ∈ vs, x.oneCell' = true) :
    (Instr.storeAt t (.pointer (some ⟨b, off, none⟩)) v).run P w = .ok () (w.setRow b (cells.toList.take off ++ vs ++ cells.toList.drop (off + vs.length)).toArray) := by
  obtain ⟨ti, z, hi, hsz, _⟩ := ht.info
  have := run_storeCells_at P b off u vs 0 cells w hg (by simpa using hfit) h1
  simp only [Nat.add_zero] at this
  simp [Instr.storeAt, Instr.sureAddr, storeVar, sizeOf, typeInfo, hi, hv, hl, hsz, this]
theorem LRs.one (h1 : ∀ id, (ρ id).oneCell' = true) (hb : ∀ n, n < C.N → (C.β n).oneCell' = true) {M : Nat → Prop} {l : List AV} {vs : List Value} (h : All2 (LR C ρ M w) l vs) (ho : ∀ x ∈ l, okLeaf x = true) : ∀ u ∈ vs, u.oneCell' = true := by
  intro u hu
  obtain ⟨x, hx, hr⟩ := h.mem_right u hu
  exact hr.one (ho x hx) hb fun id _ => h1 id
theorem splice_all {l v : List AV} {off : Nat} (hl : ∀ x ∈ l, okLeaf x = true) (hv : ∀ x ∈ v, okLeaf x = true) : ∀ x ∈ splice l off v, okLeaf x = true := by
  intro x hx
  unfold splice at hx
  simp only [List.mem_append] at hx
  rcases hx with (h | h) | h
  · exact hl x (List.mem_of_mem_take h)
  · exact hv x h
  · exact hl x (List.mem_of_mem_drop h)
theorem set_flatten {sz : Nat} (off : Nat) (vs : List Value) (hv : off + vs.length ≤ sz) : ∀ (css : List (List Value)) (i : Nat) (c : List Value), css[i]? = some c → (∀ c ∈ css, c.length = sz) →
    (css.set i (c.take off ++ vs ++ c.drop (off + vs.length))).flatten = css.flatten.take (i * sz + off) ++ vs ++ css.flatten.drop (i * sz + off + vs.length)
  | [], i, c, h, _ => by simp at h
  | c0 :: css, 0, c, h, hc => by
    obtain rfl : c0 = c := by simpa using h
    have hl := hc c0 List.mem_cons_self
    simp only [List.set_cons_zero, List.flatten_cons, Nat.zero_mul, Nat.zero_add]
    rw [List.take_append_of_le_length (by omega), List.drop_append_of_le_length (by omega)]
    simp
  | c0 :: css, i + 1, c, h, hc => by
    have hl := hc c0 List.mem_cons_self
    have ih := set_flatten off vs hv css i c (by simpa using h) (fun c h => hc c (List.mem_cons_of_mem _ h))
    simp only [List.set_cons_succ, List.flatten_cons]
    have e1 : (i + 1) * sz + off = c0.length + (i * sz + off) := by rw [hl, Nat.succ_mul]; omega
    rw [ih, e1, List.take_length_add_append, show c0.length + (i * sz + off) + vs.length = c0.length + (i * sz + off + vs.length) by omega, List.drop_length_add_append]
    simp
theorem All2.set {α β : Type} {r : α → β → Prop} : ∀ {l : List α} {m : List β}, All2 r l m → ∀ (i : Nat) {x : α} {y : β}, r x y → All2 r (l.set i x) (m.set i y)
  | _, _, .nil, _, _, _, _ => .nil
  | _, _, .cons _ t, 0, _, _, h => .cons h t
  | _, _, .cons h0 t, i + 1, _, _, h => .cons h0 (t.set i h)
theorem Rel.undef (h : Rel C M0 w0 sl rs ρ F a w) {dst : Option Nat} (hd : ∀ d, dst = some d → d < a.tmps.size) : Rel C M0 w0 (updS sl dst .undef) rs ρ F (a.put dst Go.undef) w := h.put dst hd .undef Go.undef rfl
theorem Rel.box (h : Rel C M0 w0 sl rs ρ F a w) {id : Nat} {t : TypeId} {cs : List AV} (hid : rs id = some (.box t cs)) {b : Nat} (hb : ρ id = .pointer (some ⟨b, 0, none⟩)) {v : List AV} {vs : List Value} {off : Nat}
    (hv : All2 (LR C ρ (Mof M0 rs F) w) v vs) (hvo : ∀ x ∈ v, okLeaf x = true) (hfit : off + v.length ≤ cs.length) :
    ∃ cells : Array Value, w.heap[b]? = some (.cells cells t (0, 0)) ∧ off + vs.length ≤ cells.size ∧
      Rel C M0 w0 sl (updR rs [(id, some (.box t (splice cs off v)))]) ρ F a (w.setRow b (cells.toList.take off ++ vs ++ cells.toList.drop (off + vs.length)).toArray) := by
  obtain ⟨b', cells, e1, e2, e3, e4, e5⟩ := h.res id _ hid
  rw [hb] at e1
  obtain rfl : b = b' := by simpa using e1
  have hl1 := e4.length
  have hl2 := hv.length
  have hbF : F id b := (e2 b).2 rfl
  have hbM : Mof M0 rs F b := .inr ⟨id, _, hid, hbF⟩
  have hr := h.rng id _ b hid hbF
  have hrW := h.rngW hid hbF (fun h => h)
  refine ⟨cells, e3, by simp at hl1; omega, ?_⟩
  have hk := KeepS.setRow w b (cells.toList.take off ++ vs ++ cells.toList.drop (off + vs.length)).toArray
  have hkM : KeepS (Mof M0 rs F) w (w.setRow b (cells.toList.take off ++ vs ++ cells.toList.drop (off + vs.length)).toArray) := hk.mono fun i _ g => by subst g; exact hbM
  refine h.upd (fun i => i = id) hk (fun k g => by subst g; exact ⟨hbM, hrW⟩) (fun i hi => ⟨by rw [updR_single, if_neg (Ne.symm hi)], rfl⟩) (fun _ _ _ _ _ => rfl) (fun _ _ _ _ => ⟨rfl, fun _ _ => rfl⟩)
    (fun i st k hi hst hF g => by subst g; exact h.disj id i _ st k hid hst (Ne.symm hi) hbF hF) (fun i st hi hst => ?_) h.one (own7_single hid)
  subst hi
  rw [updR_single, if_pos rfl] at hst
  obtain rfl := Option.some.inj hst
  refine ⟨fun hs => ⟨b, _, hb, e2, setRow_heap w b cells _ t _ e3, ?_, splice_all e5 hvo⟩, fun k hF => ?_⟩
  · dsimp only
    exact LRs.step (splice_rel e4 hv off) hkM hs fun _ _ => rfl
  · have := h.rng i _ k hid hF
    refine ⟨this.1, by rw [show (w.setRow b _).heap.size = w.heap.size by simp [World.setRow]]; exact this.2, fun _ => .inr ⟨i, _, hid, hF⟩, fun j t' hj ht => ?_⟩
    rw [updR_single, if_neg (Ne.symm hj)] at ht
    exact h.disj i j _ t' k hid ht (Ne.symm hj) hF
theorem Rel.elt (h : Rel C M0 w0 sl rs ρ F a w) {id : Nat} {e : TypeId} {st : Sh} {l : List st.T} (hid : rs id = some (.row e st l)) {g n c : Nat} (hg : ρ id = .slice (some ⟨g, 0, none⟩) n c) {v : List AV} {vs : List Value} {off i : Nat} {y x : st.T}
    (hy : l[i]? = some y) (hv : All2 (LR C ρ (Mof M0 rs F) w) v vs) (_ : ∀ x ∈ v, okLeaf x = true) (hfit : off + v.length ≤ st.sz) (hx : ofLeaves st (splice (leaves st y) off v) = some x) :
    ∃ cells : Array Value, w.heap[g]? = some (.cells cells e (0, 0)) ∧ i * st.sz + off + vs.length ≤ cells.size ∧
      Rel C M0 w0 sl (updR rs [(id, some (.row e st (l.set i x)))]) ρ F a (w.setRow g (cells.toList.take (i * st.sz + off) ++ vs ++ cells.toList.drop (i * st.sz + off + vs.length)).toArray) := by
  obtain ⟨css, ⟨hlen, hown⟩, hF, hel⟩ := h.res id _ hid
  have hi : i < l.length := (List.getElem?_eq_some_iff.1 hy).1
  rcases hown with ⟨hv0, hn0⟩ | ⟨g', cap, cur, hv0, hbase, hgh, hnc, hcm, hcs, htake⟩
  · omega
  have hv1 := hg
  rw [hv0] at hg
  obtain ⟨rfl, rfl, rfl⟩ : g' = g ∧ l.length = n ∧ cap = c := by simpa using hg
  obtain ⟨ci, hci, hri⟩ := hel.get i y hy
  have hcl : ∀ c ∈ css, c.length = st.sz := fun c hc => by
    obtain ⟨x, _, hx⟩ := hel.mem_right c hc
    exact RR.len st x c hx
  have hl2 := hv.length
  have hi1 : (i + 1) * st.sz ≤ l.length * st.sz := Nat.mul_le_mul_right _ hi
  rw [Nat.succ_mul] at hi1
  have hc1 : l.length * st.sz ≤ cap * st.sz := Nat.mul_le_mul_right _ hnc
  have hbF : F id g' := (hF g').2 (by rw [hv0]; rfl)
  have hbM : Mof M0 rs F g' := .inr ⟨id, _, hid, hbF⟩
  have hr := h.rng id _ g' hid hbF
  have hrW := h.rngW hid hbF (fun h => h)
  have hpl : i * st.sz + off + vs.length ≤ l.length * st.sz := by omega
  refine ⟨cur, hgh, by omega, ?_⟩
  have hk := KeepS.setRow w g' (cur.toList.take (i * st.sz + off) ++ vs ++ cur.toList.drop (i * st.sz + off + vs.length)).toArray
  have hkM : KeepS (Mof M0 rs F) w (w.setRow g' (cur.toList.take (i * st.sz + off) ++ vs ++ cur.toList.drop (i * st.sz + off + vs.length)).toArray) := hk.mono fun i _ g => by subst g; exact hbM
  refine h.upd (fun i => i = id) hk (fun k g => by subst g; exact ⟨hbM, hrW⟩) (fun i hi => ⟨by rw [updR_single, if_neg (Ne.symm hi)], rfl⟩) (fun _ _ _ _ _ => rfl) (fun _ _ _ _ => ⟨rfl, fun _ _ => rfl⟩)
    (fun i st k hi hst hF g => by subst g; exact h.disj id i _ st k hid hst (Ne.symm hi) hbF hF) (fun j stj hj hst => ?_) h.one (own7_single hid)
  subst hj
  rw [updR_single, if_pos rfl] at hst
  obtain rfl := Option.some.inj hst
  have hsf := set_flatten off vs (by omega : off + vs.length ≤ st.sz) css i ci hci hcl
  have hcur : cur.toList = css.flatten ++ cur.toList.drop (l.length * st.sz) := by rw [← htake, List.take_append_drop]
  refine ⟨fun hs => ⟨css.set i (ci.take off ++ vs ++ ci.drop (off + vs.length)), ⟨?_, .inr ⟨g', cap, _, by simpa using hv0, hbase, setRow_heap w g' cur _ e _ hgh, by simpa using hnc, hcm, ?_, ?_⟩⟩, hF, ?_⟩, fun k hF' => ?_⟩
  · rw [hsf]
    simp only [List.length_append, List.length_take, List.length_drop, hlen, List.length_set]
    omega
  · simp only [List.size_toArray, List.length_append, List.length_take, List.length_drop, Array.length_toList, hcs]
    omega
  · simp only [List.length_set]
    rw [hsf]
    generalize cur.toList.drop (l.length * st.sz) = rest at hcur
    rw [hcur, List.take_append_of_le_length (l₁ := css.flatten) (by omega), List.drop_append_of_le_length (l₁ := css.flatten) (by omega), ← List.append_assoc]
    apply List.take_left'
    simp only [List.length_append, List.length_take, List.length_drop, hlen]
    omega
  · refine (hel.imp fun x cs hx => RR.step hkM hs st x cs hx).set i ?_
    have hsp := splice_rel (leaves_rel (ρ := ρ) st y ci hri) hv off
    exact RR.step hkM hs st x _ (ofLeaves_rep st _ x _ hx hsp)
  · have := h.rng j _ k hid hF'
    refine ⟨this.1, by rw [show (w.setRow g' _).heap.size = w.heap.size by simp [World.setRow]]; exact this.2, fun _ => .inr ⟨j, _, hid, hF'⟩, fun j2 t' hj ht => ?_⟩
    rw [updR_single, if_neg (Ne.symm hj)] at ht
    exact h.disj j j2 _ t' k hid ht (Ne.symm hj) hF'
theorem dataLs_one {xs ys : List AV} {ws : Ws} {s r s1 r1 : List Nat} (he : ev sl rs (dataLs xs) s r = some ((ys, ws), s1, r1)) (hx : ∀ x ∈ xs, okLeaf x = true) : ys.length = xs.length ∧ ∀ y ∈ ys, okLeaf y = true := by
  induction xs generalizing ys ws s r s1 r1 with
  | nil =>
    simp only [dataLs] at he
    have := ev_ret he
    simp only [Prod.mk.injEq] at this
    obtain ⟨⟨rfl, rfl⟩, _, _⟩ := this
    exact ⟨rfl, fun _ h => by simp at h⟩
  | cons x xs ih =>
    simp only [dataLs] at he
    obtain ⟨⟨y, w1⟩, s2, r2, h1, h2⟩ := ev_bind _ _ _ _ _ he
    obtain ⟨⟨l, w2⟩, s3, r3, h3, h4⟩ := ev_bind _ _ _ _ _ h2
    have := ev_ret h4
    simp only [Prod.mk.injEq] at this
    obtain ⟨⟨rfl, rfl⟩, _, _⟩ := this
    obtain ⟨e1, e2⟩ := ih h3 fun x h => hx x (List.mem_cons_of_mem _ h)
    refine ⟨by simp [e1], fun z hz => ?_⟩
    rcases List.mem_cons.1 hz with rfl | hz
    · by_cases ho : ∃ id, x = .own id
      · obtain ⟨id, rfl⟩ := ho
        simp only [dataL] at h1
        obtain ⟨st, h5, h6⟩ := ev_res h1
        cases st <;> try (simp [ev] at h6; done)
        all_goals
          have := ev_ret h6
          simp only [Prod.mk.injEq] at this
          obtain ⟨⟨rfl, _⟩, _, _⟩ := this
          rfl
      by_cases hsb : ∃ id n, x = .sub id n
      · obtain ⟨id, n, rfl⟩ := hsb
        simp only [dataL] at h1
        obtain ⟨st, h5, h6⟩ := ev_res h1
        cases st <;> try (simp [ev] at h6; done)
        all_goals
          obtain ⟨_, h6⟩ := ev_br h6
          have := ev_ret h6
          simp only [Prod.mk.injEq] at this
          obtain ⟨⟨rfl, _⟩, _, _⟩ := this
          rfl
      · have hd : dataL x = .ret (x, []) := by cases x <;> first | rfl | exact absurd ⟨_, rfl⟩ ho | exact absurd ⟨_, _, rfl⟩ hsb
        rw [hd] at h1
        have := ev_ret h1
        simp only [Prod.mk.injEq] at this
        obtain ⟨⟨rfl, _⟩, _, _⟩ := this
        exact hx z List.mem_cons_self
    · exact e2 z hz
theorem ok_store (hf : Fit P T) (h : Rel (T.cf β N M0.L) M0 w0 sl rs ρ F a w) (hd : ∀ d, o.dst = some d → d < a.tmps.size) {t : TypeId} {x y : Operand} (hop : o.op = .store t x y)
    (kR : ∀ st av l vs s r, get T.shs t = some st → VR (T.cf β N M0.L) ρ (Mof M0 rs F) w av (a.eval x) → (a.eval y).cells = vs.toArray → All2 (LR (T.cf β N M0.L) ρ (Mof M0 rs F) w) l vs → l.length = st.sz → l.all okLeaf = true → ev sl rs (storeR T av l) s r = some (out, s1, r1) → Goal P T M0 w0 sl rs a w o out)
    (he : ev sl rs (step P T o) s r = some (out, s1, r1)) : Goal P T M0 w0 sl rs a w o out := by
  simp only [step, hop] at he
  split at he <;> try (simp [ev] at he; done)
  rename_i st hst
  have hty := hf.tys.get hst
  obtain ⟨av, s2, r2, h1, h2⟩ := ev_bind _ _ _ _ _ he
  have hx := opd_rel h h1
  obtain ⟨yv, s3, r3, h3, h4⟩ := ev_bind _ _ _ _ _ h2
  have hy := opd_rel h h3
  have core : ∀ {l : List AV} {vs : List Value} {s4 r4 : List Nat}, (a.eval y).cells = vs.toArray → All2 (LR (T.cf β N M0.L) ρ (Mof M0 rs F) w) l vs → ev sl rs (step.storeAt T st av l) s4 r4 = some (out, s1, r1) → Goal P T M0 w0 sl rs a w o out := by
    intro l vs s4 r4 hcv hl hev
    unfold step.storeAt at hev
    split at hev <;> try (simp [ev] at hev; done)
    rename_i hlen
    obtain ⟨hlen, hok⟩ := hlen
    have hok' := List.all_eq_true.1 hok
    have hll := hl.length
    split at hev <;> try (simp [ev] at hev; done)
    · rename_i id off
      obtain ⟨q, h5, h6⟩ := ev_res hev
      split at h6 <;> try (simp [ev] at h6; done)
      rename_i t' cs
      split at h6 <;> try (simp [ev] at h6; done)
      rename_i hfit
      have := ev_ret h6
      simp only [Prod.mk.injEq] at this
      obtain ⟨rfl, _, _⟩ := this
      simp only [VR, SR, LR] at hx
      obtain ⟨b, e6, e7⟩ := hx
      obtain ⟨cells, g1, g2, g3⟩ := h.box h5 e6 hl hok' hfit
      refine .inr (.inl ⟨_, ?_, ρ, F, β, N, g3.undef hd⟩)
      simp only [execOp, hop, e7, Sem.run_bind, run_store hty g1 hcv (by omega) g2 (LRs.one h.one h.bone hl hok')]
      rfl
    · rename_i id sz i off
      obtain ⟨q, h5, h6⟩ := ev_res hev
      split at h6 <;> try (simp [ev] at h6; done)
      rename_i e s0 l0
      obtain ⟨⟨v', ws⟩, s5, r5, h7, h8⟩ := ev_bind _ _ _ _ _ h6
      simp only at h8
      split at h8 <;> try (simp [ev] at h8; done)
      rename_i hfit
      split at h8 <;> try (simp [ev] at h8; done)
      rename_i x0 hx0 hnone
      obtain ⟨b1, h9⟩ := ev_br h8
      obtain ⟨b2, h10⟩ := ev_br h9
      simp only [decide_eq_true_eq] at b1 b2
      have := ev_ret h10
      simp only [Prod.mk.injEq] at this
      obtain ⟨rfl, _, _⟩ := this
      simp only [VR, SR, LR] at hx
      obtain ⟨g, n, c, e6, e7⟩ := hx
      obtain ⟨rfl, hfit⟩ := hfit
      obtain ⟨z1, f1⟩ := dataLs_ok h h7 hl
      have hl' := f1 ws z1 (fun id q hq => by simp [hq])
      obtain ⟨hlen', hok2⟩ := dataLs_one h7 hok'
      have hi : i.toNat < l0.length := by omega
      have hgi : getI l0 i s0.dflt = l0[i.toNat] := by simp [getI, hi]
      rw [hgi] at hx0
      obtain ⟨cells, g1, g2, g3⟩ := (h.freeze z1).elt (id := id) (e := e) (st := s0) (l := l0) (by simp [updR, hnone, h5]) e6 (i := i.toNat) (List.getElem?_eq_getElem hi) hl' hok2 hfit hx0
      rw [updR_cons] at g3
      refine .inr (.inl ⟨_, ?_, ρ, _, β, N, g3.undef hd⟩)
      simp only [execOp, hop, e7, Sem.run_bind, run_store hty g1 hcv (by omega) g2 (LRs.one h.one h.bone hl hok')]
      rfl
    · exact kR _ _ _ _ _ _ hst hx hcv hl hlen hok hev
  split at h4 <;> try (simp [ev] at h4; done)
  · obtain ⟨cs, hv, hl⟩ := hy.ag
    exact core (by rw [hv]; rfl) hl h4
  · split at h4 <;> try (simp [ev] at h4; done)
    rename_i hok
    have hl := hy.toLR hok
    exact core (vs := [a.eval y]) (cells_one (hl.one hok h.bone fun id _ => h.one id)) (.cons hl .nil) h4
theorem RR.one {M : Nat → Prop} {s : Sh} {x : s.T} {cs : List Value} (hb : ∀ n, n < C.N → (C.β n).oneCell' = true) (h : RR C M w s x cs) : ∀ u ∈ cs, u.oneCell' = true :=
  LRs.one (ρ := fun _ => .nilIface) (fun _ => rfl) hb (leaves_rel s x cs h) (leaves_ok s x)
theorem run_append_none (t ty e : TypeId) (i : TypeInfo) (ht : P.underlying t = some (.slice e)) (hi : P.info? e = some i) {size : Nat} {v : Value} {n : Nat} {xs : List Value} (hown : w.ownsRow 0 e size v n xs) (c : Nat) :
    (Builtin.append_ #[t, t] ty #[v, .slice none 0 c]).run P w = .ok v w := by
  rcases hown.2 with ⟨rfl, rfl⟩ | ⟨g, cap, cur, rfl, _, _, hnc, _⟩
  · simp [Builtin.append_, run_underlying ht, sizeOf, typeInfo, hi, Builtin.lenOf, Builtin.firstCells]
  · simp [Builtin.append_, run_underlying ht, sizeOf, typeInfo, hi, Builtin.lenOf, Builtin.firstCells, loadCells, hnc, storeCells]
theorem zeroCells_len (s : Sh) : (zeroCells s).length = s.sz := by
  rw [← (zleaves_rel (C := { errno := 0, fptr := 0, fault := 0, glob := [] }) (ρ := fun _ => .nilIface) (M := fun _ => False) (w := default) s).length, zleaves_len]
theorem ok_append (hf : Fit P T) (h : Rel (T.cf β N M0.L) M0 w0 sl rs ρ F a w) (hd : ∀ d, o.dst = some d → d < a.tmps.size) {c : Call} (hop : o.op = .call c) (hc : c.callee = .builtin .append)
    (kR : ∀ x y t e st av bv s r, c.args = #[x, y] → c.argTypes = #[t, t] → elemOf' P t = some e → bytesOf' P e ≠ 0 → get T.shs e = some st → VR (T.cf β N M0.L) ρ (Mof M0 rs F) w av (a.eval x) → VR (T.cf β N M0.L) ρ (Mof M0 rs F) w bv (a.eval y) → ev sl rs (appendR P e st bv av) s r = some (out, s1, r1) → Goal P T M0 w0 sl rs a w o out)
    (he : ev sl rs (step P T o) s r = some (out, s1, r1)) (hnew : NewOk sl rs o.dst out.ws) : Goal P T M0 w0 sl rs a w o out := by
  simp only [step, hop, hc] at he
  split at he <;> try (simp [ev] at he; done)
  rename_i x y t t' hca hct
  have ha : c.args = #[x, y] := by rw [← Array.toArray_toList (xs := c.args), hca]
  have ht : c.argTypes = #[t, t'] := by rw [← Array.toArray_toList (xs := c.argTypes), hct]
  split at he <;> try (simp [ev] at he; done)
  rename_i htt
  subst htt
  split at he <;> try (simp [ev] at he; done)
  rename_i e hel
  split at he <;> try (simp [ev] at he; done)
  rename_i hby
  split at he <;> try (simp [ev] at he; done)
  rename_i st hst
  obtain ⟨xv, s2, r2, h1, h2⟩ := ev_bind _ _ _ _ _ he
  have hx := opd_rel h h1
  obtain ⟨yv, s3, r3, h3, h4⟩ := ev_bind _ _ _ _ _ h2
  have hy := opd_rel h h3
  obtain ⟨ys, s4, r4, h5, h6⟩ := ev_bind _ _ _ _ _ h4
  obtain ⟨A, cy, cssy, hyv, hyr, hyn, hyc⟩ := appSrc_ok h hy h5
  obtain ⟨ti, z, hi, hsz, hz, hzc⟩ := (hf.tys.get hst).info
  have hbts : bytesOf' P e = ti.bytes := by simp [bytesOf', hi]
  have hcl : ∀ c ∈ cssy, c.length = st.sz := fun c hc => by
    obtain ⟨x, _, hx⟩ := hyr.mem_right c hc
    exact RR.len st x c hx
  have core : ∀ {xs : List st.T} {cssx : List (List Value)} {old : Option Nat} {d : Nat}, w.ownsRow 0 e st.sz (a.eval x) xs.length cssx.flatten → All2 (RR (T.cf β N M0.L) (Mof M0 rs F) w st) xs cssx → (∀ id, old = some id → ∃ st, rs id = some st ∧ ¬ isReg st) → old ≠ some d →
      (∀ k, (a.eval x).ownBlock = some k → ∃ id, old = some id ∧ F id k) → (xs.length + ys.length) * bytesOf' P e ≤ 140737488355328 → o.dst = some d → Fresh sl rs d → Goal P T M0 w0 sl rs a w o ⟨.own d, (d, some (.row e st (xs ++ ys))) :: oldWs old⟩ := by
    intro xs cssx old d hown hxr hold hne hblk hlim hdst hfr
    have hrun : ∃ v' w', (Builtin.append_ #[t', t'] o.type #[a.eval x, a.eval y]).run P w = .ok v' w' ∧ w'.ownsRow 0 e st.sz v' (xs.length + ys.length) (cssx.flatten ++ cssy.flatten) ∧ w.grownBy w' (a.eval x).ownBlock ∧
        (v'.ownBlock = (a.eval x).ownBlock ∨ v'.ownBlock = some w.heap.size) ∧ (v'.ownBlock = some w.heap.size → w.heap.size < w'.heap.size ∨ v'.ownBlock = (a.eval x).ownBlock) := by
      cases A with
      | none =>
        have hn := hyn rfl
        subst hn
        cases hyr
        refine ⟨a.eval x, w, ?_, by simpa using hown, ⟨rfl, rfl, rfl, Nat.le_refl _, fun _ _ _ => rfl⟩, .inl rfl, fun _ => .inr rfl⟩
        rw [hyv]
        exact run_append_none t' o.type e ti (elemOf_spec hel) hi hown cy
      | some ad =>
        have hb1 : xs.length + ys.length ≤ (xs.length + ys.length) * bytesOf' P e := Nat.le_mul_of_pos_right _ (Nat.pos_of_ne_zero hby)
        obtain ⟨v', w', q1, q2, q3, q4, q5⟩ := run_append_own_at (P := P) w 0 t' o.type e ti z st.sz ti.bytes (elemOf_spec hel) hi hz hsz rfl (by rw [hzc]; simp [zeroCells_len]) st.sz_pos (a.eval x) xs.length cssx.flatten hown
          ad ys.length cy cssy.flatten (by rw [flatten_length hcl, hyr.length]) (hyc ad rfl) (fun u hu => by
            obtain ⟨cs, hcs, huc⟩ := List.mem_flatten.1 hu
            obtain ⟨x, _, hx⟩ := hyr.mem_right cs hcs
            exact hx.one h.bone u huc) (by simp only [maxLen]; omega) (by rw [← hbts]; exact hlim) (Nat.zero_le _)
        refine ⟨v', w', by rw [hyv]; exact q1, q2, q3, q5, fun hb => ?_⟩
        left
        have := World.ownsRow.lt q2 _ hb
        exact this.2
    obtain ⟨v', w', q1, q2, q3, q4, q5⟩ := hrun
    obtain ⟨ρ', F', hrel, hρ, _⟩ := h.row hfr old hold hne (v' := v') (KeepS.of_grown q3) (fun k hk => hblk k hk.symm) (e := e) (s := st) (l := xs ++ ys) (css := cssx ++ cssy) (by rw [List.flatten_append, List.length_append]; exact q2) (hxr.append hyr) (fun k hk => by
      rcases q4 with q4 | q4
      · exact .inl (hblk k (q4 ▸ hk))
      · rcases q5 q4 with q5 | q5
        · rw [q4] at hk
          obtain rfl := Option.some.inj hk
          exact .inr ⟨Nat.le_refl _, q5⟩
        · exact .inl (hblk k (q5 ▸ hk)))
    refine .inl ⟨v', w', ?_, ρ', F', β, N, ?_⟩
    · simp only [execOp, hop, resolve, hc, ha, ht, invoke, builtin, Sem.run_bind, Sem.run_pure, Result.andThen_ok, List.map_toArray, List.map_cons, List.map_nil, q1]
    · refine hrel.put o.dst hd (.own d) _ ?_
      simp only [VR, SR, LR]
      exact hρ.symm
  split at h6 <;> try (simp [ev] at h6; done)
  · obtain ⟨b1, h7⟩ := ev_br h6
    split at h7 <;> try (simp [ev] at h7; done)
    rename_i d hdst
    have := ev_ret h7
    simp only [Prod.mk.injEq] at this
    obtain ⟨rfl, _, _⟩ := this
    simp only [VR, SR, LR] at hx
    obtain ⟨hfr, _, _⟩ := hnew.ok d (.row e st ys) hdst (by simp [get, Nat.beq_refl])
    refine core (xs := []) (cssx := []) (old := none) (d := d) ?_ .nil (fun _ h => by cases h) (by simp) (fun k hk => ?_) ?_ hdst hfr
    · rw [hx]; exact World.ownsRow_nil w 0 e st.sz
    · rw [hx] at hk; cases hk
    · simp only [appLim, decide_eq_true_eq] at b1; simpa using b1
  · rename_i id
    obtain ⟨q, h7, h8⟩ := ev_res h6
    split at h8 <;> try (simp [ev] at h8; done)
    rename_i e' s' l'
    split at h8 <;> try (simp [ev] at h8; done)
    rename_i hee
    subst hee
    split at h8 <;> try (simp [ev] at h8; done)
    rename_i xs hcast
    obtain ⟨ee, rfl⟩ := castL_some hcast
    subst ee
    obtain ⟨b1, h9⟩ := ev_br h8
    split at h9 <;> try (simp [ev] at h9; done)
    rename_i d hdst
    have := ev_ret h9
    simp only [Prod.mk.injEq] at this
    obtain ⟨rfl, _, _⟩ := this
    simp only [VR, SR, LR] at hx
    obtain ⟨hfr, _, _⟩ := hnew.ok d (.row e' s' (l' ++ ys)) hdst (by simp [get, Nat.beq_refl])
    obtain ⟨css, hown, hF, hel2⟩ := h.res id _ h7
    have hidd : some id ≠ some d := by
      intro e
      obtain rfl := Option.some.inj e
      cases x with
      | tmp t1 =>
        simp only [opd] at h1
        obtain ⟨a1, g1, g2⟩ := ev_slot h1
        have := ev_ret g2
        simp only [Prod.mk.injEq] at this
        obtain ⟨rfl, _, _⟩ := this
        have := hfr.slots t1 _ g1
        simp [AV.ment, AV.ment2, AV.ment1, Nat.beq_refl] at this
      | const v =>
        simp only [opd] at h1
        obtain ⟨a1, g1, g2⟩ := ev_ofO h1
        simp only [Prod.mk.injEq] at g2
        obtain ⟨rfl, _, _⟩ := g2
        unfold constAV at g1
        split at g1 <;> simp at g1
      | func f =>
        simp only [opd] at h1
        have := ev_ret h1
        simp at this
      | global g => simp [opd, ev] at h1
    refine core (xs := l') (cssx := css) (old := some id) (d := d) (hx ▸ hown) hel2 (fun i h' => by obtain rfl := Option.some.inj h'; exact ⟨_, h7, fun h => h⟩) hidd (fun k hk => ⟨id, rfl, (hF k).2 (hx ▸ hk)⟩) ?_ hdst hfr
    simp only [appLim, decide_eq_true_eq] at b1; exact b1
  · exact kR _ _ _ _ _ _ _ _ _ ha ht hel hby hst hx hy h6
theorem ment2_of {x : AV} {id : Nat} (h : x.ment id = false) : x.ment2 id = false := by cases x <;> first | exact h | rfl
def EnterOk (P : Program) (g : Nat) : Prop := ∀ args w, (callFunc g args).run P w = .ok (.enter g args) w
end
end Go.Pev
/- The pure evaluator, part Oa: calls with data alone. Own text, over any program. -/
namespace Go.Pev
section
variable {P : Program} {T : Tabs} {C : Cfg} {M0 : Base} {β : Nat → Value} {N : Nat} {w0 : World} {sl : Nat → Option AV} {rs : Nat → Option RS} {ρ : Nat → Value} {F : Nat → Nat → Prop} {a : Act} {w : World} {o : Oper} {out : Out} {s r s1 r1 : List Nat}
structure AsOk (P : Program) (T : Tabs) : Prop where
  enter : EnterOk P (T.asF - 1)
  calls : ∀ (M : Nat → Prop) (w : World) (e : Err) (v : Value) (t : TypeId) (b : Nat) (u : TypeId) (old : Value) (r : Option AV), Glob T.toCfg M w → M b → w.heap[b]? = some (.cells #[old] u (0, 0)) → Rob M w (fun w => ErrV T.toCfg w e v) → asSem T t e = some r →
    Calls P (T.asF - 1) #[v, .iface t (.pointer (some ⟨b, 0, none⟩))] w fun ev w' => match r with
      | none => ev = .returned (.bool false) ∧ KeepS (fun _ => False) w w'
      | some l => ev = .returned (.bool true) ∧ KeepS (fun k => k = b) w w' ∧ ∃ nv, w'.heap[b]? = some (.cells #[nv] u (0, 0)) ∧ LR T.toCfg (fun _ => .nilIface) M w' l nv
structure SpecsOk (P : Program) (T : Tabs) : Prop where
  specs : ∀ g sp, get T.specs g = some sp → EnterOk P g ∧ CSpecOk P T.toCfg g sp
  as : T.asF = 0 ∨ AsOk P T
theorem Mem.globM (h : Mem C M0 w0 rs ρ F w) : Glob C (Mof M0 rs F) w := by
  intro p hp
  obtain ⟨h1, hlt, h2⟩ := h.glob p hp
  refine ⟨GV.step (h.keep.block p.1 hlt (fun f => h2 (.inr (.inl f)))) h1, Nat.lt_of_lt_of_le hlt h.keep.size, ?_⟩
  rintro (h0 | ⟨id, st, hst, hF⟩)
  · exact h2 (.inl h0)
  · rcases (h.rng id st p.1 hst hF).1 with h' | h' | h'
    · exact h2 (.inr (.inl h'))
    · exact h2 (.inr (.inr h'.2))
    · omega
theorem Mem.Mlt (h : Mem C M0 w0 rs ρ F w) : ∀ k, Mof M0 rs F k → k < w.heap.size := by
  rintro k (h0 | ⟨id, st, hst, hF⟩)
  · exact Nat.lt_of_lt_of_le (h.m0 k h0).1 h.keep.size
  · exact (h.rng id st k hst hF).2
theorem asSem_leaf {t : TypeId} {e : Err} {l : AV} (h : asSem T t e = some (some l)) : okLeaf l = true ∧ (∀ id, l.ment1 id = false) ∧ l.rfree1 = true := by
  unfold asSem at h
  split at h
  · split at h <;> simp at h
    subst h; exact ⟨rfl, fun _ => rfl, rfl⟩
  · split at h <;> try (simp at h; done)
    split at h <;> simp at h
    subst h; exact ⟨rfl, fun _ => rfl, rfl⟩
theorem exec_callT {c : Call} (hop : o.op = .call c) {x : Operand} {g : Nat} (hc : c.callee = .value x) (e1 : a.eval x = .func (.func g) #[] #[]) (hent : EnterOk P g) : (execOp a.eval o).run P w = .ok (.enter g (c.args.toList.map a.eval).toArray) w := by
  have e2 : c.args.map a.eval = (c.args.toList.map a.eval).toArray := by apply Array.ext'; simp
  simp only [execOp, hop, resolve, hc, e1, Deferred.ofValue, invoke, Sem.run_bind, Sem.run_pure, Result.andThen_ok, e2]
  have := hent (c.args.toList.map a.eval).toArray w
  simpa using this
theorem exec_call {c : Call} (hop : o.op = .call c) {g : Nat} (hc : c.callee = .value (.func g)) (hent : EnterOk P g) : (execOp a.eval o).run P w = .ok (.enter g (c.args.toList.map a.eval).toArray) w := exec_callT hop hc rfl hent
theorem ok_as (hsp : AsOk P T) (h : Rel (T.cf β N M0.L) M0 w0 sl rs ρ F a w) (hd : ∀ d, o.dst = some d → d < a.tmps.size) {c : Call} (hop : o.op = .call c) {x y : Operand} (hc : c.callee = .value (.func (T.asF - 1))) (hargs : c.args.toList = [x, y]) {e : Err} {t : TypeId} {id : Nat} {u : TypeId} {old : AV} {r : Option AV}
    (hx : VR (T.cf β N M0.L) ρ (Mof M0 rs F) w (.err e) (a.eval x)) (hy : VR (T.cf β N M0.L) ρ (Mof M0 rs F) w (.iref t id 0) (a.eval y)) (hid : rs id = some (.box u [old])) (hr : asSem T t e = some r)
    (hout : out = match r with | none => ⟨.bool false, []⟩ | some l => ⟨.bool true, [(id, some (.box u [l]))]⟩) : Goal P T M0 w0 sl rs a w o out := by
  simp only [VR, SR, LR] at hx hy
  obtain ⟨b, hb1, hb2⟩ := hy
  obtain ⟨b', cells, r1, r2, r3, r4, r5⟩ := h.res id _ hid
  rw [hb1] at r1
  obtain rfl : b = b' := by simpa using r1
  obtain ⟨c0, hc0⟩ : ∃ c0, cells = #[c0] := by
    have hl := r4
    generalize hcl : cells.toList = cl at hl
    cases hl with | cons a1 t1 => cases t1; exact ⟨_, by apply Array.ext'; rw [hcl]⟩
  subst hc0
  have hFb : F id b := (r2 b).2 rfl
  have hbM : Mof M0 rs F b := .inr ⟨id, _, hid, hFb⟩
  have hrng := h.rng id _ b hid hFb
  have hrW := h.rngW hid hFb (fun h => h)
  have hcall := hsp.calls (Mof M0 rs F) w e (a.eval x) t b u c0 r h.globM hbM r3 (hx.imp fun w' h => by rw [ErrV_lk, ErrV_at] at h; exact h) hr
  refine .inr (.inr ⟨T.asF - 1, (c.args.toList.map a.eval).toArray, w, exec_call hop hc hsp.enter, ?_⟩)
  have hargs2 : (c.args.toList.map a.eval).toArray = #[a.eval x, .iface t (.pointer (some ⟨b, 0, none⟩))] := by rw [hargs]; simp [hb2]
  rw [hargs2]
  refine hcall.mono fun ev w' hh => ?_
  cases r with
  | none =>
    obtain ⟨rfl, hk⟩ := hh
    subst hout
    refine ⟨_, rfl, ρ, F, β, N, ?_⟩
    rw [updR_nil]
    exact (h.world hk).put o.dst hd (.bool false) _ rfl
  | some l =>
    obtain ⟨rfl, hk, nv, hnv, hl⟩ := hh
    subst hout
    obtain ⟨ho, hm, hlf⟩ := asSem_leaf hr
    have hl : LR (T.cf β N M0.L) (fun _ => .nilIface) (Mof M0 rs F) w' l nv := by rw [LR_lk, LR_at _ _ hlf]; exact hl
    refine ⟨_, rfl, ρ, F, β, N, ?_⟩
    refine Rel.put ?_ o.dst hd (.bool true) _ rfl
    refine h.upd (fun i => i = id) hk (fun k g => by subst g; exact ⟨hbM, hrW⟩) (fun i hi => ⟨by rw [updR_single, if_neg (Ne.symm hi)], rfl⟩) (fun _ _ _ _ _ => rfl) (fun _ _ _ _ => ⟨rfl, fun _ _ => rfl⟩)
      (fun i st k hi hst hF g => by subst g; exact h.disj id i _ st k hid hst (Ne.symm hi) hFb hF) (fun i st hi hst => ?_) h.one (own7_single hid)
    subst hi
    rw [updR_single, if_pos rfl] at hst
    obtain rfl := Option.some.inj hst
    refine ⟨fun _ => ⟨b, _, hb1, r2, hnv, .cons (hl.step (KeepS.refl _ _) (fun k hk' _ => ?_) fun i hi => by rw [hm i] at hi; cases hi) .nil, by intro z hz; rw [List.mem_singleton.1 hz]; exact ho⟩, fun k hF => ?_⟩
    · rcases hk' with h0 | ⟨j, st, hj, hF⟩
      · exact .inl h0
      · by_cases hij : i = j
        · subst hij; exact .inr ⟨i, _, hid, hF⟩
        · rw [updR_single, if_neg hij] at hj; exact .inr ⟨j, st, hj, hF⟩
    · have := h.rng i _ k hid hF
      refine ⟨this.1, Nat.lt_of_lt_of_le this.2 hk.size, fun _ => .inr ⟨i, _, hid, hF⟩, fun j t' hj ht => ?_⟩
      rw [updR_single, if_neg (Ne.symm hj)] at ht
      exact h.disj i j _ t' k hid ht (Ne.symm hj) hF
theorem ev_ofTree {α : Type} {k : AV → Rd α} {z : α × List Nat × List Nat} : ∀ {t : Tree} {s r : List Nat}, ev sl rs (Rd.ofTree t k) s r = some z → ∃ res, t.get = some res ∧ ev sl rs (k res) s r = some z
  | .ret a, _, _, h => ⟨a, rfl, h⟩
  | .fail, _, _, h => by simp [Rd.ofTree, ev] at h
  | .br b x y, s, r, h => by
    simp only [Rd.ofTree, ev] at h
    cases b with
    | true => exact ev_ofTree (t := x) h
    | false => exact ev_ofTree (t := y) h
  | .opt none f, s, r, h => by cases h
  | .opt (some a) f, s, r, h => ev_ofTree (t := f a) h
theorem inLeaf_id {x : AV} {v : Value} {ρ : Nat → Value} {M : Nat → Prop} {w : World} (h : LR C ρ M w x v) : inLeaf x = (x, []) := by
  cases x <;> first | rfl | exact h.elim
theorem inLeaves_id {M : Nat → Prop} {w : World} : ∀ {l : List AV} {vs : List Value}, All2 (LR C ρ M w) l vs → inLeaves l = (l, [])
  | _, _, .nil => rfl
  | _, _, .cons h t => by simp only [inLeaves, inLeaf_id h, inLeaves_id t, List.append_nil]
theorem inArg_id {x : AV} {v : Value} {M : Nat → Prop} {w : World} (h : VR C ρ M w x v) : inArg x = (x, []) := by
  cases x <;> first
    | rfl
    | exact h.elim
    | (obtain ⟨cs, _, h2⟩ := h; simp only [inArg, inLeaves_id h2])
theorem inArgs_id {M : Nat → Prop} {w : World} : ∀ {l : List AV} {vs : List Value}, All2 (VR C ρ M w) l vs → inArgs l = (l, [])
  | _, _, .nil => rfl
  | x :: l, v :: vs, .cons h t => by
    have e1 := inArg_id h
    have e2 := inArgs_id t
    cases x <;> first
      | exact h.elim
      | simp only [inArgs, e1, e2, List.append_nil]
theorem pure_outV {x : AV} (h : x.pure = true) : outV x = x := by
  cases x <;> first | rfl | (simp [AV.pure, AV.pure2, AV.pure1] at h; done)
theorem pure_outW {ws : Ws} {x : AV} (h : x.pure = true) : outW ws x = [] := by
  cases x <;> first | rfl | (simp [AV.pure, AV.pure2, AV.pure1] at h; done)
theorem pure_call {g : Nat} {vs : List AV} {res : AV} (hspec : Contract P T.toCfg g vs res) (h : Rel (T.cf β N M0.L) M0 w0 sl rs ρ F a w) {us : List Value} (hargs : All2 (VR (T.cf β N M0.L) ρ (Mof M0 rs F) w) vs us) (hp : res.pure = true) (hrf : res.rfree = true) :
    Calls P g us.toArray w fun e w' => ∃ v, e = .returned v ∧ VR (T.cf β N M0.L) ρ (Mof M0 rs F) w' res v ∧ KeepS (fun _ => False) w w' := by
  have hid := inArgs_id hargs
  refine (hspec ⟨Mof M0 rs F, fun _ => False, fun _ => False, β, N, .nilIface, []⟩ w ρ (fun _ _ => False) us ?_ ?_).mono fun e w' hh => ?_
  · rw [hid]
    exact { keep := KeepS.refl _ _, m0 := fun k hk => ⟨h.Mlt k hk, fun f => f, fun f => f⟩, wl := fun _ h => h.elim, lsz := fun _ h => h.elim, res := fun id st hst => by simp [getR, get] at hst, rng := fun id st k hst => by simp [getR, get] at hst,
            disj := fun i j s t k hi => by simp [getR, get] at hi, one := h.one, bone := h.bone, ext := ⟨Nat.le_refl _, fun _ _ => rfl⟩,
            glob := fun p hp => by
              obtain ⟨g1, g2, g3⟩ := h.globM p hp
              exact ⟨g1, g2, fun hh => hh.elim g3 fun hh => hh.elim (fun f => f) (fun f => f)⟩,
            own7 := fun h' => by simp [getR, get] at h', lkz := fun lk its H h' => by simp [getR, get] at h' }
  · rw [hid]
    refine hargs.imp fun x v hx => ?_
    have hx' : VR (T.toCfg.at β N) ρ (Mof M0 rs F) w x v := by rw [VR_lk] at hx; exact hx
    show VR ((T.toCfg.at β N).lk fun _ => False) ρ _ w x v
    rw [VR_lk]
    refine hx'.step (KeepS.refl _ _) (fun k hk _ => ?_) fun _ _ => rfl
    rcases hk with h0 | ⟨id, st, hst, _⟩
    · exact h0
    · simp [getR, get] at hst
  · obtain ⟨v, b, n, ρ', F', rfl, hv, hm⟩ := hh
    rw [hid, pure_outW hp] at hm
    rw [hid, pure_outW hp, pure_outV hp, VR_lk, VR_at _ _ hrf] at hv
    refine ⟨v, rfl, ?_, hm.keep⟩
    rw [VR_lk, VR_at _ _ hrf]
    exact hv.step (KeepS.refl _ _) (fun k hk _ => .inl hk) fun id hid => by rw [pure_ment hp id] at hid; cases hid
theorem ok_callP (hsp : SpecsOk P T) (h : Rel (T.cf β N M0.L) M0 w0 sl rs ρ F a w) (hd : ∀ d, o.dst = some d → d < a.tmps.size) {g : Nat} {fn : Func} {sp : CSpec} {as : List AV} {vs : List Value}
    (hrun : ∀ args, (args : List Value) = vs → (execOp a.eval o).run P w = .ok (.enter g args.toArray) w) (hg : get T.specs g = some sp) (has : All2 (VR (T.cf β N M0.L) ρ (Mof M0 rs F) w) as vs)
    (he : ev sl rs ((normArgs P T fn.params.toList as).bind fun (vs, ws) => Rd.ofTree (sp.f vs) fun r => match r.pure && r.rfree with
        | true => .ret ⟨r, match r.flat with | true => [] | false => ws⟩
        | false => .fail : Rd Out) s r = some (out, s1, r1)) : Goal P T M0 w0 sl rs a w o out := by
  obtain ⟨⟨xs, ws⟩, s3, r3, h3, h4⟩ := ev_bind _ _ _ _ _ he
  simp only at h4
  obtain ⟨res, hres, h4⟩ := ev_ofTree h4
  split at h4 <;> try (simp [ev] at h4; done)
  rename_i hpure
  rw [Bool.and_eq_true] at hpure
  obtain ⟨hpure, hrf⟩ := hpure
  have := ev_ret h4
  simp only [Prod.mk.injEq] at this
  obtain ⟨rfl, _, _⟩ := this
  obtain ⟨hent, hspec⟩ := hsp.specs g sp hg
  obtain ⟨z1, m1, f1⟩ := normArgs_ok h h3 has
  have hargs := f1 ws z1 (fun id q hq => by simp [hq])
  have hfz := h.freeze z1
  refine .inr (.inr ⟨g, vs.toArray, w, hrun vs rfl, (pure_call (hspec xs res hres) hfz (hargs.imp fun _ _ h => h.toVR) hpure hrf).mono fun e w' hh => ?_⟩)
  obtain ⟨v, rfl, hv, hk⟩ := hh
  refine ⟨v, rfl, ?_⟩
  by_cases hflat : res.flat = true
  · simp only [hflat]
    refine ⟨ρ, F, β, N, ?_⟩
    rw [updR_nil]
    exact (h.world hk).put o.dst hd res v (hv.flat hflat)
  · have hflat' : res.flat = false := by simpa using hflat
    simp only [hflat']
    exact ⟨ρ, fzF F ws, β, N, (hfz.world hk).put o.dst hd res v hv⟩
end
end Go.Pev
/- The pure evaluator, part Ob: keys of maps; a map's operations in the machine. Own text, over any program. -/
namespace Go.Pev
section
variable {P : Program} {shs : List (Nat × Sh)} {w : World}
def chkFields (em : Bool) (d : Nat) (xs : Array Value) : List Field → Sem Unit
  | [] => pure ()
  | f :: fs => if f.name ≠ "_" then do
      let a ← part f.type xs f.offset
      Instr.checkKey em d f.type a
      chkFields em d xs fs
    else chkFields em d xs fs
theorem run_checkKey_struct (em : Bool) (d : Nat) (t : TypeId) {fs : Array Field} (xs : Array Value) (ht : P.underlying t = some (.struct fs)) :
    (Instr.checkKey em (d + 1) t (.agg xs)).run P w = (chkFields em d xs fs.toList).run P w := by
  simp only [Instr.checkKey, Sem.run_bind, run_underlying ht, Result.andThen_ok]
  rw [← Array.forIn_toList]
  generalize fs.toList = l
  clear ht
  induction l generalizing w with
  | nil => simp [chkFields]
  | cons f l ih =>
    simp only [List.forIn_cons, chkFields, Sem.run_bind, Sem.run_ite]
    split
    · generalize (part f.type xs f.offset).run P w = r1
      cases r1 with
      | ok a w1 =>
        simp only [Result.andThen_ok]
        generalize (Instr.checkKey em d f.type a).run P w1 = r2
        cases r2 with
        | ok b w2 => simp only [Result.andThen_ok, Sem.run_pure]; exact ih
        | halt x w2 => simp [Result.andThen]
      | halt x w1 => simp [Result.andThen]
    · simp only [Sem.run_pure, Result.andThen_ok]
      exact ih
theorem chkFields_ok (ht : TysOk P shs) {chk : TypeId → Sh → Bool} {em : Bool} {D : Nat} (ih : ∀ t s, chk t s = true → s.flat = true → ∀ (x : s.T), ∃ vx, IsVal P t s x vx ∧ (Instr.checkKey em D t vx).run P w = .ok () w) :
    ∀ (fs : List Field) (s : Sh) (off : Nat), eqChkF chk shs fs s off = true → s.flat = true → ∀ (x : s.T) (l : List Value), l.length = off →
      (chkFields em D (l ++ fcells s x).toArray fs).run P w = .ok () w
  | [], _, _, h, _, _, _, _ => by simp [eqChkF] at h
  | [f], s, off, h, hf, x, l, hl => by
    simp only [eqChkF, Bool.and_eq_true, bne_iff_ne, ne_eq, beq_iff_eq, decide_eq_true_eq] at h
    obtain ⟨⟨⟨h1, h2⟩, h3⟩, h4⟩ := h
    obtain ⟨vx, e1, e3⟩ := ih _ _ h3 hf x
    have p1 := part_ok (w := w) ht h4 hf e1 l []
    rw [List.append_nil, hl] at p1
    simp only [chkFields, ne_eq, h1, not_false_eq_true, if_true, Sem.run_bind, h2, p1, Result.andThen_ok, e3, Sem.run_pure]
  | f :: g :: fs, s, off, h, hf, x, l, hl => by
    cases s with
    | pair a b =>
      simp only [eqChkF, Bool.and_eq_true, bne_iff_ne, ne_eq, beq_iff_eq, decide_eq_true_eq] at h
      obtain ⟨⟨⟨⟨h1, h2⟩, h3⟩, h4⟩, h5⟩ := h
      simp only [Sh.flat, Bool.and_eq_true] at hf
      obtain ⟨vx, e1, e3⟩ := ih _ _ h3 hf.1 x.1
      have p1 := part_ok (w := w) ht h4 hf.1 e1 l (fcells b x.2)
      rw [hl] at p1
      have rest := chkFields_ok ht ih (g :: fs) b (off + a.sz) h5 hf.2 x.2 (l ++ fcells a x.1) (by simp [hl, fcells_len a x.1 hf.1])
      rw [List.append_assoc] at rest
      rw [chkFields]
      simp only [ne_eq, h1, not_false_eq_true, if_true, Sem.run_bind, h2, fcells, p1, Result.andThen_ok, e3]
      exact rest
    | _ => simp [eqChkF] at h
theorem chkIn_ok (ht : TysOk P shs) (em : Bool) : ∀ (d : Nat) (t : TypeId) (s : Sh), eqChk P shs d t s = true → s.flat = true → ∀ (D : Nat), d ≤ D → ∀ (w : World) (x : s.T), ∃ vx, IsVal P t s x vx ∧ (Instr.checkKey em D t vx).run P w = .ok () w
  | 0, _, _, h, _, _, _, _, _ => by simp [eqChk] at h
  | d + 1, t, s, h, hf, D, hD, w, x => by
    obtain ⟨D, rfl⟩ : ∃ n, D = n + 1 := ⟨D - 1, by omega⟩
    simp only [eqChk] at h
    split at h
    · rename_i k hu
      have ha : aggOf P t = some false := by simp [aggOf, hu]
      cases s with
      | int k' => exact ⟨_, .inr ⟨ha, rfl⟩, by simp [Instr.checkKey, underlying, hu]⟩
      | _ => cases h
    · rename_i hu
      have ha : aggOf P t = some false := by simp [aggOf, hu]
      have := of_decide_eq_true h
      subst this
      exact ⟨_, .inr ⟨ha, rfl⟩, by simp [Instr.checkKey, underlying, hu]⟩
    · rename_i hu
      have ha : aggOf P t = some false := by simp [aggOf, hu]
      have := of_decide_eq_true h
      subst this
      exact ⟨_, .inr ⟨ha, rfl⟩, by simp [Instr.checkKey, underlying, hu]⟩
    · rename_i fs hu
      simp only [Bool.and_eq_true, Bool.not_eq_true'] at h
      have ha : aggOf P t = some true := by simp [aggOf, hu]
      refine ⟨_, .inl ⟨ha, rfl⟩, ?_⟩
      rw [run_checkKey_struct (P := P) em D t _ hu]
      have := chkFields_ok (w := w) ht (em := em) (D := D) (fun t s hc hf x => chkIn_ok ht em d t s hc hf D (by omega) w x) fs.toList s 0 h.2 hf x [] rfl
      simpa using this
    · cases h
structure KeyOk (P : Program) (kt : TypeId) (ka : Bool) (k : Sh) : Prop where
  flat : k.flat = true
  check : ∀ (w : World) (em : Bool) (x : k.T), (Instr.checkKey em 10000 kt (keyV ka k x)).run P w = .ok () w
  find : ∀ (w : World) (x : k.T) (es : List MapEntry) (l : List k.T), es.map (·.key) = l.map (keyV ka k) → (Instr.findKey kt (keyV ka k x) es).run P w = .ok ((List.findIdx? (fun y => eqB k y x) l).bind fun i => (es[i]?).map fun e => (i, e.val)) w
theorem eqB_symm : ∀ (s : Sh) (x y : s.T), eqB s x y = eqB s y x
  | .int _, x, y => by simp only [eqB]; exact Bool.beq_comm
  | .bool, x, y => by simp only [eqB]; exact Bool.beq_comm
  | .str, x, y => by simp only [eqB]; exact Bool.beq_comm
  | .err, _, _ => rfl
  | .ptr, _, _ => rfl
  | .rf _, _, _ => rfl
  | .pt _, _, _ => rfl
  | .sl _, _, _ => rfl
  | .pair a b, x, y => by simp only [eqB, eqB_symm a x.1 y.1, eqB_symm b x.2 y.2]
theorem findNow_ok {d : TypeDesc} {ka : Bool} {k : Sh} (hs : ∀ x y : k.T, Instr.sameNow d (keyV ka k x) (keyV ka k y) = some (eqB k x y)) (x : k.T) : ∀ (es : List MapEntry) (l : List k.T) (n : Nat), es.map (·.key) = l.map (keyV ka k) →
    Instr.findNow d (keyV ka k x) es n = some ((List.findIdx? (fun y => eqB k y x) l).bind fun i => (es[i]?).map fun e => (i + n, e.val))
  | [], [], n, _ => by simp [Instr.findNow]
  | [], _ :: _, _, h => by cases h
  | _ :: _, [], _, h => by cases h
  | e :: es, y :: l, n, h => by
    simp only [List.map_cons, List.cons.injEq] at h
    obtain ⟨h1, h2⟩ := h
    simp only [Instr.findNow, h1, hs, List.findIdx?_cons, eqB_symm k y x]
    cases hb : eqB k x y with
    | true => simp
    | false =>
      simp only [Bool.false_eq_true, if_false]
      rw [findNow_ok hs x es l (n + 1) h2]
      congr 1
      cases List.findIdx? (fun y => eqB k y x) l with
      | none => rfl
      | some i =>
        simp only [Option.map_some, Option.bind_some, List.getElem?_cons_succ]
        cases es[i]? <;> simp [Nat.add_comm, Nat.add_left_comm]
theorem findAsking_ok {kt : TypeId} {ka : Bool} {k : Sh} (hs : ∀ (w : World) (x y : k.T), (Op.equal kt (keyV ka k x) (keyV ka k y)).run P w = .ok (eqB k x y) w) (x : k.T) : ∀ (es : List MapEntry) (l : List k.T) (n : Nat), es.map (·.key) = l.map (keyV ka k) →
    (Instr.findAsking kt (keyV ka k x) es n).run P w = .ok ((List.findIdx? (fun y => eqB k y x) l).bind fun i => (es[i]?).map fun e => (i + n, e.val)) w
  | [], [], n, _ => by simp [Instr.findAsking]
  | [], _ :: _, _, h => by cases h
  | _ :: _, [], _, h => by cases h
  | e :: es, y :: l, n, h => by
    simp only [List.map_cons, List.cons.injEq] at h
    obtain ⟨h1, h2⟩ := h
    simp only [Instr.findAsking, h1, Sem.run_bind, hs, Result.andThen_ok, List.findIdx?_cons, eqB_symm k y x]
    cases hb : eqB k x y with
    | true => simp
    | false =>
      simp only [Bool.false_eq_true, if_false]
      rw [findAsking_ok hs x es l (n + 1) h2]
      congr 1
      cases List.findIdx? (fun y => eqB k y x) l with
      | none => rfl
      | some i =>
        simp only [Option.map_some, Option.bind_some, List.getElem?_cons_succ]
        cases es[i]? <;> simp [Nat.add_comm, Nat.add_left_comm]
theorem keyOk_of {T : Tabs} (hf : Fit P T) {kt : TypeId} {ka : Bool} {k : Sh} (hagg : aggOf P kt = some ka) (hsh : get T.shs kt = some k) (hfl : k.flat = true) (hk : keyOk P T kt ka k = true) : KeyOk P kt ka k := by
  cases ka with
  | false =>
    unfold keyOk at hk
    simp only at hk
    split at hk <;> try (cases hk; done)
    · rename_i q q' hu
      have := of_decide_eq_true hk
      subst this
      refine ⟨rfl, fun w em x => MapKept.run_checkKey (d := .int q) (k := .int q x) hu (show q = q from rfl) em 9999, fun w x es l h => ?_⟩
      have := findNow_ok (ka := false) (k := .int q) (d := .int q) (fun x y => by simp [Instr.sameNow, keyV, fcells, eqB]) x es l 0 h
      simp only [Instr.findKey, Sem.run_bind, run_underlying hu, Result.andThen_ok, this, Sem.run_pure, Nat.add_zero]
    · rename_i hu
      refine ⟨rfl, fun w em x => MapKept.run_checkKey (d := .string) (k := .string x) hu trivial em 9999, fun w x es l h => ?_⟩
      have := findNow_ok (ka := false) (k := .str) (d := .string) (fun x y => by simp [Instr.sameNow, keyV, fcells, eqB, beq_toListBytes]) x es l 0 h
      simp only [Instr.findKey, Sem.run_bind, run_underlying hu, Result.andThen_ok, this, Sem.run_pure, Nat.add_zero]
  | true =>
    unfold keyOk at hk
    simp only [Bool.and_eq_true] at hk
    have hok : eqOkB P T.shs kt = true := List.all_eq_true.1 hf.eqs kt (by simpa using hk.1)
    simp only [eqOkB, hsh, Bool.and_eq_true, Bool.not_eq_true', decide_eq_true_eq] at hok
    obtain ⟨⟨h1, h2⟩, h3⟩ := hok
    refine ⟨hfl, fun w em x => ?_, fun w x es l h => ?_⟩
    · obtain ⟨vx, e1, e2⟩ := chkIn_ok hf.tys em 6 kt k h1 hfl 10000 (by decide) w x
      rcases e1 with ⟨_, rfl⟩ | ⟨e, _⟩
      · exact e2
      · rw [h3] at e; cases e
    · have hs : ∀ (w : World) (x y : k.T), (Op.equal kt (keyV true k x) (keyV true k y)).run P w = .ok (eqB k x y) w := fun w x y => by
        obtain ⟨vx, vy, e1, e2, e3⟩ := eqIn_ok hf.tys 6 kt k h1 hfl Op.maxDepth (by decide) w x y
        rcases e1 with ⟨_, rfl⟩ | ⟨e, _⟩
        · rcases e2 with ⟨_, rfl⟩ | ⟨e, _⟩
          · exact e3
          · rw [h3] at e; cases e
        · rw [h3] at e; cases e
      obtain ⟨d, hd⟩ : ∃ d, P.underlying kt = some d := by
        unfold aggOf at h3
        split at h3 <;> first | exact ⟨_, by assumption⟩ | cases h3
      have hst : ∃ fs, d = .struct fs := by
        unfold aggOf at h3
        rw [hd] at h3
        cases d <;> first | exact ⟨_, rfl⟩ | simp at h3
      obtain ⟨fs, rfl⟩ := hst
      have := findAsking_ok (P := P) (w := w) (ka := true) (kt := kt) (k := k) hs x es l 0 h
      simp only [Nat.add_zero] at this
      cases es with
      | nil =>
        cases l with
        | nil => simp [Instr.findKey, run_underlying hd, Instr.findNow]
        | cons y l => cases h
      | cons e es =>
        simp only [Instr.findKey, Sem.run_bind, run_underlying hd, Result.andThen_ok, Instr.findNow]
        have hn : ∀ u v, Instr.sameNow (.struct fs) u v = none := fun u v => by simp [Instr.sameNow]
        simp only [hn]
        exact this
end
end Go.Pev
/- The pure evaluator, part Oc: a map's operations in the machine, over data. Own text, over any program. -/
namespace Go.Pev
open Go.ChangeMaps (setBlock)
section
variable {k v : Sh}
theorem eqB_eq : ∀ (s : Sh) (x y : s.T), s.flat = true → eqB s x y = true → x = y
  | .int _, x, y, _, h => by simpa [eqB] using h
  | .bool, x, y, _, h => by simpa [eqB] using h
  | .str, x, y, _, h => by
    simp only [eqB, beq_iff_eq] at h
    rw [ByteArray.toList_eq, ByteArray.toList_eq] at h
    rcases x with ⟨⟨l⟩⟩; rcases y with ⟨⟨m⟩⟩
    simp only at h
    rw [h]
  | .err, _, _, h, _ => by cases h
  | .ptr, _, _, h, _ => by cases h
  | .rf _, _, _, h, _ => by cases h
  | .pt _, _, _, h, _ => by cases h
  | .sl _, _, _, h, _ => by cases h
  | .pair a b, x, y, h, e => by
    simp only [Sh.flat, Bool.and_eq_true] at h
    simp only [eqB, Bool.and_eq_true] at e
    exact Prod.ext (eqB_eq a x.1 y.1 h.1 e.1) (eqB_eq b x.2 y.2 h.2 e.2)
theorem eqB_self : ∀ (s : Sh) (x : s.T), s.flat = true → eqB s x x = true
  | .int _, x, _ => by simp [eqB]
  | .bool, x, _ => by simp [eqB]
  | .str, x, _ => by simp [eqB]
  | .err, _, h => by cases h
  | .ptr, _, h => by cases h
  | .rf _, _, h => by cases h
  | .pt _, _, h => by cases h
  | .sl _, _, h => by cases h
  | .pair a b, x, h => by
    simp only [Sh.flat, Bool.and_eq_true] at h
    simp only [eqB, eqB_self a x.1 h.1, eqB_self b x.2 h.2, Bool.and_self]
def idxL (k v : Sh) (x : k.T) (l : List (k.T × v.T)) : Option Nat := List.findIdx? (fun y => eqB k y x) (l.map (·.1))
theorem idxL_nil (x : k.T) : idxL k v x [] = none := rfl
theorem idxL_cons (x : k.T) (p : k.T × v.T) (l : List (k.T × v.T)) : idxL k v x (p :: l) = if eqB k p.1 x = true then some 0 else (idxL k v x l).map (· + 1) := by
  simp only [idxL, List.map_cons, List.findIdx?_cons]
theorem lookL_idx (x : k.T) : ∀ l : List (k.T × v.T), lookL k v x l = (idxL k v x l).bind fun i => (l[i]?).map (·.2)
  | [] => rfl
  | p :: l => by
    rw [idxL_cons]
    simp only [lookL]
    cases h : eqB k p.1 x with
    | true => simp
    | false =>
      simp only [Bool.false_eq_true, if_false]
      rw [lookL_idx x l]
      cases idxL k v x l <;> simp
def putO (k v : Sh) (x : k.T) (y : v.T) : List (k.T × v.T) → List (k.T × v.T)
  | [] => [(x, y)]
  | p :: r => match eqB k p.1 x with | true => (x, y) :: r | false => p :: putO k v x y r
theorem putO_idx (x : k.T) (y : v.T) : ∀ l : List (k.T × v.T), putO k v x y l = match idxL k v x l with
    | some i => l.set i (x, y)
    | none => l ++ [(x, y)]
  | [] => rfl
  | p :: l => by
    rw [idxL_cons]
    simp only [putO]
    cases h : eqB k p.1 x with
    | true => simp
    | false =>
      simp only [Bool.false_eq_true, if_false]
      rw [putO_idx x y l]
      cases idxL k v x l <;> simp
theorem delL_idx (x : k.T) : ∀ l : List (k.T × v.T), delL k v x l = match idxL k v x l with
    | some i => l.eraseIdx i
    | none => l
  | [] => rfl
  | p :: l => by
    rw [idxL_cons]
    simp only [delL]
    cases h : eqB k p.1 x with
    | true => simp
    | false =>
      simp only [Bool.false_eq_true, if_false]
      rw [delL_idx x l]
      cases idxL k v x l <;> simp
theorem idxL_some {x : k.T} : ∀ {l : List (k.T × v.T)} {i : Nat}, idxL k v x l = some i → ∃ p, l[i]? = some p ∧ eqB k p.1 x = true
  | [], _, h => by cases h
  | p :: l, i, h => by
    rw [idxL_cons] at h
    split at h
    · obtain rfl := Option.some.inj h; exact ⟨p, rfl, by assumption⟩
    · cases hi : idxL k v x l with
      | none => rw [hi] at h; cases h
      | some j =>
        rw [hi] at h
        obtain rfl := Option.some.inj h
        exact idxL_some (l := l) hi
theorem idxL_none {x : k.T} : ∀ {l : List (k.T × v.T)}, idxL k v x l = none → ∀ p ∈ l, eqB k p.1 x = false
  | [], _, p, hp => by cases hp
  | q :: l, h, p, hp => by
    rw [idxL_cons] at h
    split at h
    · cases h
    · rename_i hq
      have hq : eqB k q.1 x = false := by simpa using hq
      rcases List.mem_cons.1 hp with rfl | hp
      · exact hq
      · exact idxL_none (l := l) (by cases hi : idxL k v x l with | none => rfl | some j => rw [hi] at h; cases h) p hp
theorem All2.eraseIdx {α β : Type} {r : α → β → Prop} : ∀ {l : List α} {m : List β}, All2 r l m → ∀ i, All2 r (l.eraseIdx i) (m.eraseIdx i)
  | _, _, .nil, _ => .nil
  | _, _, .cons _ t, 0 => t
  | _, _, .cons h' t, i + 1 => .cons h' (t.eraseIdx i)
theorem insL_perm (x : k.T) (y : v.T) : ∀ l : List (k.T × v.T), (insL k v x y l).Perm ((x, y) :: l)
  | [] => List.Perm.refl _
  | p :: l => by
    simp only [insL]
    split
    · exact List.Perm.refl _
    · exact ((insL_perm x y l).cons p).trans (List.Perm.swap _ _ _)
theorem putL_perm (x : k.T) (y : v.T) (l : List (k.T × v.T)) : (putL k v x y l).Perm ((x, y) :: delL k v x l) := insL_perm x y _
theorem putO_perm (hf : k.flat = true) (x : k.T) (y : v.T) : ∀ l : List (k.T × v.T), (putO k v x y l).Perm ((x, y) :: delL k v x l)
  | [] => List.Perm.refl _
  | p :: l => by
    simp only [putO, delL]
    cases h : eqB k p.1 x with
    | true => exact List.Perm.refl _
    | false => exact ((putO_perm hf x y l).cons p).trans (List.Perm.swap _ _ _)
theorem delL_sub (x : k.T) : ∀ l : List (k.T × v.T), (delL k v x l).Sublist l
  | [] => .slnil
  | p :: l => by
    simp only [delL]
    split
    · exact (List.Sublist.refl l).cons _
    · exact (delL_sub x l).cons_cons _
theorem delL_filter (hf : k.flat = true) (x : k.T) : ∀ l : List (k.T × v.T), l.Pairwise (fun p q => eqB k p.1 q.1 = false) → delL k v x l = l.filter fun p => !(eqB k p.1 x)
  | [], _ => rfl
  | p :: l, h => by
    obtain ⟨h1, h2⟩ := List.pairwise_cons.1 h
    simp only [delL, List.filter_cons]
    cases hp : eqB k p.1 x with
    | true =>
      simp only [Bool.not_true, Bool.false_eq_true, if_false]
      refine (List.filter_eq_self.2 fun q hq => ?_).symm
      have e := eqB_eq k _ _ hf hp
      rw [Bool.not_eq_true', eqB_symm, ← e]
      exact h1 q hq
    | false => simp only [Bool.not_false, if_true, delL_filter hf x l h2]
theorem keys_perm {l m : List (k.T × v.T)} (h : m.Perm l) (hm : m.Pairwise fun p q => eqB k p.1 q.1 = false) : l.Pairwise fun p q => eqB k p.1 q.1 = false :=
  (h.pairwise_iff fun {p q} e => by rw [eqB_symm]; exact e).1 hm
theorem delL_perm (hf : k.flat = true) (x : k.T) {l m : List (k.T × v.T)} (h : m.Perm l) (hm : m.Pairwise fun p q => eqB k p.1 q.1 = false) : (delL k v x m).Perm (delL k v x l) := by
  rw [delL_filter hf x m hm, delL_filter hf x l (keys_perm h hm)]
  exact h.filter _
theorem lookL_some (hf : k.flat = true) {x : k.T} : ∀ {l : List (k.T × v.T)} {y : v.T}, l.Pairwise (fun p q => eqB k p.1 q.1 = false) → (lookL k v x l = some y ↔ (x, y) ∈ l)
  | [], y, _ => by simp [lookL]
  | p :: l, y, h => by
    obtain ⟨h1, h2⟩ := List.pairwise_cons.1 h
    simp only [lookL]
    cases hp : eqB k p.1 x with
    | true =>
      have e := eqB_eq k _ _ hf hp
      constructor
      · intro he
        obtain rfl := Option.some.inj he
        rw [← e]; exact List.mem_cons_self
      · intro he
        rcases List.mem_cons.1 he with he | he
        · rw [← he]
        · have := h1 _ he
          rw [hp] at this; cases this
    | false =>
      rw [lookL_some hf h2]
      constructor
      · exact fun h => List.mem_cons_of_mem _ h
      · intro he
        rcases List.mem_cons.1 he with he | he
        · rw [← he, eqB_self k x hf] at hp; cases hp
        · exact he
theorem lookL_perm (hf : k.flat = true) (x : k.T) {l m : List (k.T × v.T)} (h : m.Perm l) (hm : m.Pairwise fun p q => eqB k p.1 q.1 = false) : lookL k v x m = lookL k v x l := by
  apply Option.ext
  intro y
  rw [lookL_some hf hm, lookL_some hf (keys_perm h hm), h.mem_iff]
theorem put_perm (hf : k.flat = true) (x : k.T) (y : v.T) {l m : List (k.T × v.T)} (h : m.Perm l) (hm : m.Pairwise fun p q => eqB k p.1 q.1 = false) : (putO k v x y m).Perm (putL k v x y l) :=
  (putO_perm hf x y m).trans (((delL_perm hf x h hm).cons _).trans (putL_perm x y l).symm)
theorem set_keys (hf : k.flat = true) {x : k.T} {y : v.T} {l : List (k.T × v.T)} {i : Nat} (h : idxL k v x l = some i) : (l.set i (x, y)).map (·.1) = l.map (·.1) := by
  obtain ⟨p, h1, h2⟩ := idxL_some h
  have := eqB_eq k _ _ hf h2
  rw [List.map_set]
  apply List.set_getElem?_self_of
  rw [List.getElem?_map, h1]
  simp [this]
where
  List.set_getElem?_self_of {α : Type} {l : List α} {i : Nat} {a : α} (h : l[i]? = some a) : l.set i a = l := by
    apply List.ext_getElem?
    intro j
    by_cases hj : i = j
    · subst hj
      have := (List.getElem?_eq_some_iff.1 h).1
      rw [List.getElem?_set_self this, h]
    · rw [List.getElem?_set_ne hj]
theorem pair_keys {l m : List (k.T × v.T)} (h : l.map (·.1) = m.map (·.1)) (hm : m.Pairwise fun p q => eqB k p.1 q.1 = false) : l.Pairwise fun p q => eqB k p.1 q.1 = false := by
  have h1 : (m.map (·.1)).Pairwise fun a b => eqB k a b = false := List.pairwise_map.2 hm
  rw [← h] at h1
  exact List.pairwise_map.1 h1
end
section
variable {P : Program} {C : Cfg} {M : Nat → Prop} {w : World} {ka va : Bool} {k v : Sh}
theorem valR_rel {ρ : Nat → Value} {y : v.T} {u : Value} (h : ValR C M w va v y u) : VR C ρ M w (toAV va v y) u := by
  cases va with
  | true =>
    obtain ⟨cs, rfl, h2⟩ := h
    exact ⟨cs, rfl, leaves_rel v y cs h2⟩
  | false =>
    have h' : RR C M w v y [u] := h
    have h2 := leaves_rel (ρ := ρ) v y [u] h'
    unfold toAV
    simp only
    generalize leaves v y = l at h2
    cases h2 with
    | cons h3 h4 => cases h4; exact h3.toVR
theorem dflt_rel : ∀ s : Sh, RR C M w s s.dflt (zeroCells s)
  | .int _ => rfl
  | .bool => rfl
  | .str => rfl
  | .err => ⟨_, rfl, fun _ _ => rfl⟩
  | .ptr => rfl
  | .rf _ => .inl ⟨rfl, rfl⟩
  | .pt _ => .inl ⟨rfl, rfl⟩
  | .sl _ => ⟨none, 0, rfl, Nat.le_refl _, .inl rfl⟩
  | .pair a b => by
    have h1 : RR C M w a a.dflt (zeroCells a) := dflt_rel a
    have h2 : RR C M w b b.dflt (zeroCells b) := dflt_rel b
    have hl := RR.len a _ _ h1
    refine ⟨?_, ?_⟩
    · show RR C M w a a.dflt ((zeroCells a ++ zeroCells b).take a.sz)
      rw [← hl, List.take_left]; exact h1
    · show RR C M w b b.dflt ((zeroCells a ++ zeroCells b).drop a.sz)
      rw [← hl, List.drop_left]; exact h2
theorem zero_rel {et : TypeId} (ht : TyOk P et v) (hz : zeroForm P et va = true) : ∃ z, (zeroValue et).run P w = .ok z w ∧ ValR C M w va v v.dflt z := by
  obtain ⟨i, z, hi, hsz, hz1, hzc⟩ := ht.info
  refine ⟨z, by simp [zeroValue, typeInfo, hi, hz1], ?_⟩
  have hd := dflt_rel (C := C) (M := M) (w := w) v
  unfold zeroForm at hz
  rw [hi] at hz
  simp only [hz1] at hz
  cases z with
  | agg cs =>
    obtain rfl : va = true := by simpa using hz
    refine ⟨zeroCells v, ?_, hd⟩
    simp only [Value.cells] at hzc
    rw [hzc]
  | _ =>
    obtain rfl : va = false := by simpa using hz
    simp only [Value.cells] at hzc
    have := congrArg Array.toList hzc
    simp only [List.toList_toArray] at this
    rw [← this] at hd
    exact hd
theorem ents_keys {l : List (k.T × v.T)} {es : List MapEntry} (h : All2 (EntR C M w ka va k v) l es) : es.map (·.key) = (l.map (·.1)).map (keyV ka k) := by
  induction h with
  | nil => rfl
  | cons h _ ih => simp only [List.map_cons, h.1, ih]
theorem find_ok {kt : TypeId} (hK : KeyOk P kt ka k) {l : List (k.T × v.T)} {es : Array MapEntry} (h : All2 (EntR C M w ka va k v) l es.toList) (x : k.T) :
    (Instr.findKey kt (keyV ka k x) es.toList).run P w = .ok ((idxL k v x l).bind fun i => (es.toList[i]?).map fun e => (i, e.val)) w := hK.find w x es.toList (l.map fun p : k.T × v.T => p.1) (ents_keys h)
theorem run_lookup0 {t kt et : TypeId} (hu : P.underlying t = some (.map kt et)) (hK : KeyOk P kt ka k) (ht : TyOk P et v) (hz : zeroForm P et va = true) {l : List (k.T × v.T)} {b : Nat} {es : Array MapEntry} {clock : Nat}
    (hb : w.heap[b]? = some (.map es clock)) (h : All2 (EntR C M w ka va k v) l es.toList) (x : k.T) (ok : Bool) :
    ∃ u, (Instr.lookup t (.map (some b)) (keyV ka k x) ok).run P w = .ok (match ok with | true => .tuple #[u, .bool (lookL k v x l).isSome] | false => u) w ∧ ValR C M w va v ((lookL k v x l).getD v.dflt) u := by
  have hf := find_ok hK h x
  rw [lookL_idx]
  cases hi : idxL k v x l with
  | none =>
    rw [hi] at hf
    obtain ⟨z, hz1, hz2⟩ := zero_rel (C := C) (M := M) (w := w) ht hz
    refine ⟨z, ?_, by simpa using hz2⟩
    simp only [Option.bind_none] at hf
    simp only [Instr.lookup, Sem.run_bind, run_underlying hu, Result.andThen_ok, MapKept.run_getObj_map hb, Sem.run_pure, hK.check, hf, hz1]
    cases ok <;> simp
  | some i =>
    obtain ⟨p, h1, _⟩ := idxL_some hi
    obtain ⟨e, h2, h3⟩ := h.get i p h1
    rw [hi] at hf
    refine ⟨e.val, ?_, by simpa [h1] using h3.2⟩
    simp only [Option.bind_some, h2, Option.map_some] at hf
    simp only [Instr.lookup, Sem.run_bind, run_underlying hu, Result.andThen_ok, MapKept.run_getObj_map hb, Sem.run_pure, hK.check, hf]
    cases ok <;> simp [h1]
theorem run_lookup {t kt et : TypeId} (hu : P.underlying t = some (.map kt et)) (hK : KeyOk P kt ka k) (ht : TyOk P et v) (hz : zeroForm P et va = true) {l : List (k.T × v.T)} {b : Nat} {es : Array MapEntry} {clock : Nat}
    (hb : w.heap[b]? = some (.map es clock)) (h : MapR C M w ka va k v l es clock) (x : k.T) (ok : Bool) :
    ∃ u, (Instr.lookup t (.map (some b)) (keyV ka k x) ok).run P w = .ok (match ok with | true => .tuple #[u, .bool (lookL k v x l).isSome] | false => u) w ∧ ValR C M w va v ((lookL k v x l).getD v.dflt) u := by
  obtain ⟨m, hp, h⟩ := h
  rw [← lookL_perm hK.flat x hp h.keys]
  exact run_lookup0 hu hK ht hz hb h.ents x ok
theorem run_lookup_nil {t kt et : TypeId} (hu : P.underlying t = some (.map kt et)) (hK : KeyOk P kt ka k) (ht : TyOk P et v) (hz : zeroForm P et va = true) (x : k.T) (ok : Bool) :
    ∃ u, (Instr.lookup t (.map none) (keyV ka k x) ok).run P w = .ok (match ok with | true => .tuple #[u, .bool false] | false => u) w ∧ ValR C M w va v v.dflt u := by
  have hf := hK.find w x [] [] rfl
  obtain ⟨z, hz1, hz2⟩ := zero_rel (C := C) (M := M) (w := w) ht hz
  refine ⟨z, ?_, hz2⟩
  simp only [List.findIdx?_nil, Option.bind_none] at hf
  simp only [Instr.lookup, Sem.run_bind, run_underlying hu, Result.andThen_ok, Sem.run_pure, hK.check, hf, hz1]
  cases ok <;> simp
theorem sameBits_cells : ∀ (s : Sh) (x : s.T) (n : Nat), s.flat = true → ∀ u ∈ fcells s x, Instr.sameBits n u u = true
  | .int _, x, n, _, u, hu => by simp [fcells] at hu; subst hu; simp [Instr.sameBits]
  | .bool, x, n, _, u, hu => by simp [fcells] at hu; subst hu; simp [Instr.sameBits]
  | .str, x, n, _, u, hu => by
    simp [fcells] at hu; subst hu
    simp only [Instr.sameBits, beq_toListBytes, beq_self_eq_true]
  | .err, _, _, h, _, _ => by cases h
  | .ptr, _, _, h, _, _ => by cases h
  | .rf _, _, _, h, _, _ => by cases h
  | .pt _, _, _, h, _, _ => by cases h
  | .sl _, _, _, h, _, _ => by cases h
  | .pair a b, x, n, h, u, hu => by
    simp only [Sh.flat, Bool.and_eq_true] at h
    rcases List.mem_append.1 hu with hu | hu
    · exact sameBits_cells a x.1 n h.1 u hu
    · exact sameBits_cells b x.2 n h.2 u hu
theorem stays {x : k.T} (hf : k.flat = true) (h1 : ka = false → k.sz = 1) : (Instr.keyThatStays (keyV ka k x) (keyV ka k x)).run P w = .ok (keyV ka k x) w := by
  have : Instr.sameBits 10000 (keyV ka k x) (keyV ka k x) = true := by
    cases ka with
    | true =>
      show Instr.sameBits (9999 + 1) (.agg (fcells k x).toArray) (.agg (fcells k x).toArray) = true
      unfold Instr.sameBits
      simp only [beq_self_eq_true, Bool.true_and, List.toList_toArray, List.all_eq_true]
      intro p hp
      obtain ⟨u, hu, rfl⟩ : ∃ u, u ∈ fcells k x ∧ p = (u, u) := by
        generalize fcells k x = l at hp
        induction l with
        | nil => cases hp
        | cons a l ih =>
          rcases List.mem_cons.1 hp with rfl | hp
          · exact ⟨a, List.mem_cons_self, rfl⟩
          · obtain ⟨u, h1, h2⟩ := ih hp
            exact ⟨u, List.mem_cons_of_mem _ h1, h2⟩
      exact sameBits_cells k x 9999 hf u hu
    | false =>
      have hl := fcells_len k x hf
      rw [h1 rfl] at hl
      show Instr.sameBits 10000 ((fcells k x).headD .nilIface) ((fcells k x).headD .nilIface) = true
      generalize hc : fcells k x = c at hl
      match c, hl with
      | [u], _ => exact sameBits_cells k x 10000 hf u (by rw [hc]; exact List.mem_singleton.2 rfl)
  simp [Instr.keyThatStays, this]
theorem mapR0_put {l : List (k.T × v.T)} {es : Array MapEntry} {clock : Nat} (hf : k.flat = true) (h : MapR0 C M w ka va k v l es clock) {x : k.T} {y : v.T} {u : Value} (hu : ValR C M w va v y u) :
    (∀ i, idxL k v x l = some i → MapR0 C M w ka va k v (putO k v x y l) (es.modify i fun e => { e with key := keyV ka k x, val := u }) clock) ∧
    (idxL k v x l = none → MapR0 C M w ka va k v (putO k v x y l) (es.push { key := keyV ka k x, val := u, born := clock }) (clock + 1)) := by
  refine ⟨fun i hi => ?_, fun hi => ?_⟩
  · rw [putO_idx, hi]
    obtain ⟨p, h1, h2⟩ := idxL_some hi
    obtain ⟨e, h3, h4⟩ := h.ents.get i p h1
    have hlt := (List.getElem?_eq_some_iff.1 h3).1
    have he : (es.modify i fun e => { e with key := keyV ka k x, val := u }).toList = es.toList.set i { e with key := keyV ka k x, val := u } := by
      apply List.ext_getElem?
      intro j
      rw [Array.getElem?_toList, Array.getElem?_modify]
      by_cases hj : i = j
      · subst hj
        rw [if_pos rfl, List.getElem?_set_self hlt]
        rw [Array.getElem?_toList] at h3
        rw [h3]; rfl
      · rw [if_neg hj, List.getElem?_set_ne hj, Array.getElem?_toList]
    have hborn : ((es.toList.set i { e with key := keyV ka k x, val := u }).map (·.born)) = es.toList.map (·.born) := by
      rw [List.map_set]
      exact set_keys.List.set_getElem?_self_of (by rw [List.getElem?_map, h3]; rfl)
    refine ⟨?_, pair_keys (set_keys hf hi) h.keys, fun e' he' => ?_, ?_⟩
    · rw [he]; exact h.ents.set i ⟨rfl, hu⟩
    · rw [he] at he'
      have : e'.born ∈ es.toList.map (·.born) := by rw [← hborn]; exact List.mem_map_of_mem he'
      obtain ⟨e2, q1, q2⟩ := List.mem_map.1 this
      rw [← q2]; exact h.born e2 q1
    · rw [he, hborn]; exact h.nodup
  · rw [putO_idx, hi]
    have hn := idxL_none hi
    refine ⟨?_, ?_, fun e' he' => ?_, ?_⟩
    · rw [Array.toList_push]; exact h.ents.append (.cons ⟨rfl, hu⟩ .nil)
    · refine List.pairwise_append.2 ⟨h.keys, List.pairwise_singleton _ _, fun a ha b hb => ?_⟩
      obtain rfl := List.mem_singleton.1 hb
      exact hn a ha
    · rw [Array.toList_push] at he'
      rcases List.mem_append.1 he' with he' | he'
      · have := h.born e' he'; omega
      · obtain rfl := List.mem_singleton.1 he'; exact Nat.lt_succ_self _
    · rw [Array.toList_push, List.map_append]
      refine List.nodup_append.2 ⟨h.nodup, by simp, fun a ha b hb => ?_⟩
      obtain ⟨e2, q1, rfl⟩ := List.mem_map.1 ha
      have := h.born e2 q1
      simp at hb
      omega
theorem mapR0_del {l : List (k.T × v.T)} {es : Array MapEntry} {clock : Nat} (h : MapR0 C M w ka va k v l es clock) {x : k.T} :
    (∀ i, idxL k v x l = some i → MapR0 C M w ka va k v (delL k v x l) (es.eraseIdxIfInBounds i) clock) ∧ (idxL k v x l = none → MapR0 C M w ka va k v (delL k v x l) es clock) := by
  refine ⟨fun i hi => ?_, fun hi => ?_⟩
  · rw [delL_idx, hi]
    have he : (es.eraseIdxIfInBounds i).toList = es.toList.eraseIdx i := by
      unfold Array.eraseIdxIfInBounds
      split
      · simp
      · rename_i hn
        rw [List.eraseIdx_of_length_le (by simpa using hn)]
    refine ⟨by rw [he]; exact h.ents.eraseIdx i, h.keys.sublist (List.eraseIdx_sublist _ _), fun e' he' => ?_, ?_⟩
    · rw [he] at he'; exact h.born e' ((List.eraseIdx_sublist _ _).subset he')
    · rw [he]; exact h.nodup.sublist ((List.eraseIdx_sublist _ _).map _)
  · rw [delL_idx, hi]; exact h
theorem setBlock_keep {r : Nat} {o o' : Obj} (hb : w.heap[r]? = some o) : KeepS (fun k => k = r) w (setBlock w r o') := by
  obtain ⟨h1, h2⟩ := MapKept.heap_set (o' := o') hb
  exact ⟨rfl, rfl, rfl, by simp [setBlock], fun k _ hk => h2 k hk⟩
theorem setBlock_at {r : Nat} {o o' : Obj} (hb : w.heap[r]? = some o) : (setBlock w r o').heap[r]? = some o' := (MapKept.heap_set (o' := o') hb).1
end
end Go.Pev
/- The pure evaluator, part Od: the region is written, grows, is walked over. Own text, over any program. -/
namespace Go.Pev
section
variable {C : Cfg} {M0 : Base} {w0 : World} {sl : Nat → Option AV} {rs : Nat → Option RS} {ρ : Nat → Value} {F : Nat → Nat → Prop} {a : Act} {w w' : World} {M : Nat → Prop}
theorem NodeR.blk {v : Value} {G : Nat → Prop} {x : Node} (h : NodeR C M w v G x) {k : Nat} (hk : G k) : ∃ o, w.heap[k]? = some o ∧ ∀ a b c d, o ≠ .mapIter a b c d := by
  cases x with
  | box t s x => obtain ⟨b, cells, _, h2, h3, _⟩ := h; obtain rfl := (h2 k).1 hk; exact ⟨_, h3, fun _ _ _ _ e => by cases e⟩
  | map ka va kk v' l => obtain ⟨b, es, clock, _, h2, h3, _⟩ := h; obtain rfl := (h2 k).1 hk; exact ⟨_, h3, fun _ _ _ _ e => by cases e⟩
  | row e s l =>
    obtain ⟨css, h1, h2, _⟩ := h
    have hb := (h2 k).1 hk
    rcases h1.2 with ⟨hv, _⟩ | ⟨g, cap, cur, hv, _, hh, _⟩
    · rw [hv] at hb; cases hb
    · rw [hv] at hb
      obtain rfl : g = k := by simpa [Value.ownBlock] using hb
      exact ⟨_, hh, fun _ _ _ _ e => by cases e⟩
  | gone => exact absurd hk (h.1 k)
theorem RegG.noIt {F : Nat → Prop} {G : Nat → Nat → Prop} {lk : List Nat} {its : List (Nat × It)} {H : List Node} (h : RegG C ρ M w F G lk its H) {n k : Nat} (hg : G n k) : ∀ a b c d, w.heap[k]? ≠ some (.mapIter a b c d) := by
  have hn := h.lt n k hg
  rw [← h.len] at hn
  obtain ⟨o, h1, h2⟩ := (h.node n _ (List.getElem?_eq_getElem hn)).blk hg
  intro a b c d e
  rw [h1] at e
  exact h2 a b c d (Option.some.inj e)
theorem RegG.itNo {F : Nat → Prop} {G : Nat → Nat → Prop} {lk : List Nat} {its : List (Nat × It)} {H : List Node} (h : RegG C ρ M w F G lk its H) {p : Nat × It} (hp : p ∈ its) {k : Nat} (hk : itBlk ρ p = some k) : ∀ n, ¬ G n k := by
  intro n hg
  obtain ⟨i, x⟩ := p
  have hw := h.walks _ hp
  cases x with
  | mark => cases hk
  | it m ka va kk v left cur pend =>
    obtain ⟨_, r, since, last, seen, h1, h2⟩ := hw
    simp only [itBlk, h1, blkV, Option.some.injEq] at hk
    subst hk
    cases m with
    | none => exact h.noIt hg _ _ _ _ h2.1
    | some m => obtain ⟨bm, es, clock, _, _, _, g4, _⟩ := h2; exact h.noIt hg _ _ _ _ g4
theorem itFree_spec {n : Nat} : ∀ {its : List (Nat × It)}, itFree n its = true → ∀ p ∈ its, ∀ a b c d e f g, p.2 ≠ .it (some n) a b c d e f g
  | [], _, p, hp => by cases hp
  | (i, x) :: r, h, p, hp => by
    have key : itFree n r = true ∧ ∀ a b c d e f g, x ≠ .it (some n) a b c d e f g := by
      cases x with
      | it m ka va k v l cu pe =>
        cases m with
        | none => exact ⟨h, fun _ _ _ _ _ _ _ e => by cases e⟩
        | some m =>
          simp only [itFree, Bool.and_eq_true, Bool.not_eq_true'] at h
          refine ⟨h.2, fun _ _ _ _ _ _ _ e => ?_⟩
          injection e with e1
          obtain rfl := Option.some.inj e1
          rw [Nat.beq_refl] at h
          cases h.1
      | mark => exact ⟨h, fun _ _ _ _ _ _ _ e => by cases e⟩
    rcases List.mem_cons.1 hp with rfl | hp
    · exact key.2
    · exact itFree_spec key.1 p hp
theorem wrOk_spec {lk : List Nat} {its : List (Nat × It)} {n : Nat} (h : wrOk lk its n = true) : n ∉ lk ∧ ∀ p ∈ its, ∀ a b c d e f g, p.2 ≠ .it (some n) a b c d e f g := by
  unfold wrOk at h
  rw [Bool.and_eq_true, Bool.not_eq_true'] at h
  refine ⟨fun hm => ?_, itFree_spec h.2⟩
  have := List.contains_iff_mem.2 hm
  rw [h.1] at this
  cases this
theorem unmark_mem : ∀ {its : List (Nat × It)} {p : Nat × It}, p ∈ unmark its ↔ p ∈ its ∧ ∃ a b c d e f g h, p.2 = .it a b c d e f g h
  | [], p => by simp [unmark]
  | (i, .it a b c d e f g h) :: r, p => by
    simp only [unmark, List.mem_cons, unmark_mem (its := r)]
    constructor
    · rintro (rfl | h)
      · exact ⟨.inl rfl, _, _, _, _, _, _, _, _, rfl⟩
      · exact ⟨.inr h.1, h.2⟩
    · rintro ⟨rfl | h1, h2⟩
      · exact .inl rfl
      · exact .inr ⟨h1, h2⟩
  | (i, .mark a b c d e f) :: r, p => by
    simp only [unmark, List.mem_cons, unmark_mem (its := r)]
    constructor
    · rintro ⟨h1, h2⟩; exact ⟨.inr h1, h2⟩
    · rintro ⟨rfl | h1, h2⟩
      · obtain ⟨_, _, _, _, _, _, _, _, e⟩ := h2; cases e
      · exact ⟨h1, h2⟩
theorem unmark_sub : ∀ its : List (Nat × It), (unmark its).Sublist its
  | [] => .slnil
  | (_, .it ..) :: r => (unmark_sub r).cons_cons _
  | (_, .mark ..) :: r => (unmark_sub r).cons _
theorem unmark_blk {its : List (Nat × It)} {k : Nat} : (∃ p ∈ unmark its, itBlk ρ p = some k) ↔ ∃ p ∈ its, itBlk ρ p = some k := by
  constructor
  · rintro ⟨p, hp, hk⟩; exact ⟨p, (unmark_mem.1 hp).1, hk⟩
  · rintro ⟨p, hp, hk⟩
    refine ⟨p, unmark_mem.2 ⟨hp, ?_⟩, hk⟩
    obtain ⟨i, x⟩ := p
    cases x with
    | it => exact ⟨_, _, _, _, _, _, _, _, rfl⟩
    | mark => cases hk
theorem RegG.write {F X : Nat → Prop} {G : Nat → Nat → Prop} {lk : List Nat} {its : List (Nat × It)} {H : List Node} (h : RegG C ρ M w F G lk its H) {n : Nat} (hn : n < H.length) (hw : wrOk lk its n = true) (hk : KeepS X w w') (hXM : ∀ k, X k → M k) (hX : ∀ k, X k → G n k)
    {M' : Nat → Prop} (hs : ∀ k, M' k → k < w.heap.size → M k) {x' : Node} (hx : NodeR C M' w' (C.β n) (G n) x') : RegG C ρ M' w' F G lk (unmark its) (H.set n x') := by
  obtain ⟨_, hfree⟩ := wrOk_spec hw
  refine ⟨by rw [List.length_set]; exact h.len, fun m x hm => ?_, h.lt, h.disj, fun k => (h.fp k).trans (or_congr_right unmark_blk.symm), fun p hp => ?_, h.sep.sublist (unmark_sub its), h.lock, fun p hp => h.nolk p (unmark_mem.1 hp).1⟩
  · by_cases hmn : n = m
    · subst hmn
      rw [List.getElem?_set_self hn] at hm
      obtain rfl := Option.some.inj hm
      exact hx
    · rw [List.getElem?_set_ne hmn] at hm
      exact (h.node m x hm).step hk hXM (fun k hg hx => h.disj m n k (Ne.symm hmn) hg (hX k hx)) hs
  · obtain ⟨hp1, a, b, c, d, e, f, g, i, he⟩ := unmark_mem.1 hp
    refine (h.walks p hp1).step hk hXM (fun k hb hx => h.itNo hp1 hb n (hX k hx)) (fun m k hm hg hx => ?_) hs rfl
    rw [he] at hm
    have hm' : a = some m := hm
    subst hm'
    have hne : m ≠ n := fun e' => by subst e'; exact hfree p hp1 _ _ _ _ _ _ _ he
    exact h.disj m n k hne hg (hX k hx)
theorem Rel.regWrite (h : Rel C M0 w0 sl rs ρ F a w) {lk : List Nat} {its : List (Nat × It)} {H : List Node} (hr : rs REG = some (.reg lk its H)) {n : Nat} {x' : Node} (hn : n < H.length) (hw : wrOk lk its n = true) {X : Nat → Prop} (hk : KeepS X w w')
    (hX : ∀ G, RegG C ρ (Mof M0 rs F) w (F REG) G lk its H → (∀ k, X k → G n k) ∧ ∀ M', (∀ k, M' k → k < w.heap.size → Mof M0 rs F k) → NodeR C M' w' (C.β n) (G n) x') :
    Rel C M0 w0 sl (updR rs [(REG, some (.reg lk (unmark its) (H.set n x')))]) ρ F a w' := by
  obtain ⟨_, G, hG⟩ := h.res REG _ hr
  obtain ⟨hX1, hX2⟩ := hX G hG
  have hXF : ∀ k, X k → F REG k := fun k hk => (hG.fp k).2 (.inl ⟨n, hX1 k hk⟩)
  have hXM : ∀ k, X k → Mof M0 rs F k := fun k hk => .inr ⟨REG, _, hr, hXF k hk⟩
  refine h.upd (fun i => i = REG) hk (fun k hk => ⟨hXM k hk, ?_⟩) (fun i hi => ⟨by rw [updR_single, if_neg (Ne.symm hi)], rfl⟩) (fun _ _ _ _ _ => rfl) (fun _ _ _ _ => ⟨rfl, fun _ _ => rfl⟩)
    (fun i st k hi hst hF g => h.disj REG i _ st k hr hst (Ne.symm hi) (hXF k g) hF) (fun i st hi hst => ?_) h.one (own7_single hr)
  · rcases (h.rng REG _ k hr (hXF k hk)).1 with h' | h' | h'
    · exact .inl h'
    · exact absurd (hG.lock n k (hX1 k hk) h'.2) (wrOk_spec hw).1
    · exact .inr h'
  · subst hi
    rw [updR_single, if_pos rfl] at hst
    obtain rfl := Option.some.inj hst
    refine ⟨fun hs => ⟨rfl, G, hG.write hn hw hk hXM hX1 hs (hX2 _ hs)⟩, fun k hF => ?_⟩
    have := h.rng REG _ k hr hF
    refine ⟨this.1.imp id fun h => h.imp (fun h => ⟨trivial, h.2⟩) id, Nat.lt_of_lt_of_le this.2 hk.size, fun _ => .inr ⟨REG, _, hr, hF⟩, fun j t' hj ht => ?_⟩
    rw [updR_single, if_neg (Ne.symm hj)] at ht
    exact h.disj REG j _ t' k hr ht (Ne.symm hj) hF
abbrev Cfg.more (C : Cfg) (v : Value) : Cfg := C.at (fun i => if i = C.N then v else C.β i) (C.N + 1)
theorem Cfg.more_ext (C : Cfg) (v : Value) : Ext C (C.more v) := ⟨_, _, rfl, Nat.le_succ _, fun i hi => if_neg (by omega)⟩
theorem Cfg.more_new (C : Cfg) (v : Value) : (C.more v).β C.N = v := if_pos rfl
theorem Rel.regNew (h : Rel C M0 w0 sl rs ρ F a w) {lk : List Nat} {its : List (Nat × It)} {H : List Node} (hr : rs REG = some (.reg lk its H)) (kill : Option Nat) (hkw : ∀ n, kill = some n → (n < H.length ∧ ∀ b, C.β n ≠ .map (some b)) ∧ wrOk lk its n = true ∧ ∀ p ∈ its, itNode p.2 ≠ some n)
    {v : Value} (hv : v.oneCell' = true) {X Gn : Nat → Prop} {x' : Node} (hk : KeepS X w w') (hX : ∀ G, RegG C ρ (Mof M0 rs F) w (F REG) G lk its H → (∀ k, X k → ∃ n, kill = some n ∧ G n k) ∧ (∀ k, Gn k → (∃ n, kill = some n ∧ G n k) ∨ (w.heap.size ≤ k ∧ k < w'.heap.size)) ∧
      ∀ M', (∀ k, M' k → k < w.heap.size → Mof M0 rs F k) → NodeR (C.more v) M' w' v Gn x') :
    ∃ F', Rel (C.more v) M0 w0 sl (updR rs [(REG, some (.reg lk its ((match kill with | some n => H.set n .gone | none => H) ++ [x'])))]) ρ F' a w' := by
  obtain ⟨_, G, hG⟩ := h.res REG _ hr
  obtain ⟨hX1, hX2, hX3⟩ := hX G hG
  have hXF : ∀ k, (∃ n, kill = some n ∧ G n k) → F REG k := fun k ⟨n, _, hk⟩ => (hG.fp k).2 (.inl ⟨n, hk⟩)
  have hXM : ∀ k, X k → Mof M0 rs F k := fun k hk => .inr ⟨REG, _, hr, hXF k (hX1 k hk)⟩
  have hsz := h.keep.size
  let G' : Nat → Nat → Prop := fun m k => (m = C.N ∧ Gn k) ∨ (m < C.N ∧ kill ≠ some m ∧ G m k)
  let F' : Nat → Nat → Prop := fun id => if id = REG then (fun k => (∃ n, G' n k) ∨ ∃ p ∈ its, itBlk ρ p = some k) else F id
  have hKW : ∀ k, (∃ n, kill = some n ∧ G n k) → M0.W k ∨ w0.heap.size ≤ k := fun k hk => by
    obtain ⟨n, hn, hg⟩ := hk
    rcases (h.rng REG _ k hr (hXF k ⟨n, hn, hg⟩)).1 with h' | h' | h'
    · exact .inl h'
    · exact absurd (hG.lock n k hg h'.2) (wrOk_spec (hkw n hn).2.1).1
    · exact .inr h'
  have hF'sub : ∀ k, F' REG k → F REG k ∨ (w.heap.size ≤ k ∧ k < w'.heap.size) := by
    intro k hk
    simp only [F', if_true] at hk
    rcases hk with ⟨m, hm⟩ | hp
    · rcases hm with ⟨_, hg⟩ | ⟨_, _, hg⟩
      · exact (hX2 k hg).imp (hXF k) id
      · exact .inl ((hG.fp k).2 (.inl ⟨m, hg⟩))
    · exact .inl ((hG.fp k).2 (.inr hp))
  refine ⟨F', h.updX (C.more_ext v) (fun i => i = REG) (.inr fun id st hid hst => ?_) hk (fun k hk => ⟨hXM k hk, hKW k (hX1 k hk)⟩) (fun i hi => ⟨by rw [updR_single, if_neg (Ne.symm hi)], by simp only [F', if_neg hi]⟩) (fun _ _ _ _ _ => rfl) (fun _ _ _ _ => ⟨rfl, fun _ _ => rfl⟩)
    (fun i st k hi hst hF g => h.disj REG i _ st k hr hst (Ne.symm hi) (hXF k (hX1 k g)) hF) (fun i st hi hst => ?_) h.one (fun n hn => ?_) (own7_single hr)⟩
  · cases st <;> first | trivial | skip
    obtain ⟨e, _⟩ := h.res id _ hst
    exact absurd e hid
  · subst hi
    rw [updR_single, if_pos rfl] at hst
    obtain rfl := Option.some.inj hst
    refine ⟨fun hs => ⟨rfl, G', ?_⟩, fun k hF => ?_⟩
    · have hC := C.more_ext v
      have hlen : (match kill with | some n => H.set n .gone | none => H).length = C.N := by
        rw [← hG.len]; cases kill <;> simp
      refine ⟨by rw [List.length_append, hlen]; rfl, fun m x hm => ?_, fun m k hm => ?_, fun m n k hmn hm hn => ?_, fun k => by simp only [F', if_true], fun p hp => ?_, hG.sep, fun m k hm hL => ?_, hG.nolk⟩
      · by_cases hmN : m < C.N
        · rw [List.getElem?_append_left (by rw [hlen]; exact hmN)] at hm
          have hβ : (C.more v).β m = C.β m := if_neg (by omega)
          rw [hβ]
          by_cases hkm : kill = some m
          · subst hkm
            have hmH : m < H.length := by rw [hG.len]; exact hmN
            simp only [List.getElem?_set_self hmH, Option.some.injEq] at hm
            subst hm
            refine ⟨fun k hk => ?_, (hkw m rfl).1.2⟩
            rcases hk with ⟨e, _⟩ | ⟨_, e, _⟩
            · omega
            · exact e rfl
          · have hm' : H[m]? = some x := by
              cases kill with
              | none => exact hm
              | some n => rwa [List.getElem?_set_ne (fun e => hkm (by rw [e]))] at hm
            have hnode := ((hG.node m x hm').ext hC).step hk hXM (fun k hg hx => by
              obtain ⟨n, hn, hgn⟩ := hX1 k hx
              exact hG.disj m n k (fun e => hkm (by rw [hn, e])) hg hgn) hs
            have hGG : G' m = G m := by
              funext k
              apply propext
              constructor
              · rintro (⟨e, _⟩ | ⟨_, _, hg⟩)
                · omega
                · exact hg
              · exact fun hg => .inr ⟨hmN, hkm, hg⟩
            rw [hGG]; exact hnode
        · have hge : C.N ≤ m := by omega
          rw [List.getElem?_append_right (by rw [hlen]; exact hge), hlen] at hm
          have h0 : m - C.N = 0 := by
            rcases Nat.eq_zero_or_pos (m - C.N) with h | h
            · exact h
            · rw [List.getElem?_eq_none (by simp; omega)] at hm; cases hm
          rw [h0] at hm
          obtain rfl : x' = x := by simpa using hm
          obtain rfl : m = C.N := by omega
          rw [C.more_new v]
          have hGG : G' C.N = Gn := by
            funext k
            apply propext
            constructor
            · rintro (⟨_, hg⟩ | ⟨e, _⟩)
              · exact hg
              · omega
            · exact fun hg => .inl ⟨rfl, hg⟩
          rw [hGG]
          exact hX3 _ hs
      · rcases hm with ⟨rfl, _⟩ | ⟨hm, _⟩
        · exact Nat.lt_succ_self _
        · exact Nat.lt_succ_of_lt hm
      · have new : ∀ m' k, m' < C.N → kill ≠ some m' → G m' k → Gn k → False := fun m' k h1 h2 h3 h4 => by
          rcases hX2 k h4 with ⟨n', hn', hg'⟩ | ⟨hlt, _⟩
          · exact hG.disj m' n' k (fun e => h2 (by rw [hn', e])) h3 hg'
          · have := (h.rng REG _ k hr ((hG.fp k).2 (.inl ⟨m', h3⟩))).2; omega
        rcases hm with ⟨rfl, hm⟩ | ⟨hm1, hm2, hm3⟩
        · rcases hn with ⟨rfl, _⟩ | ⟨hn1, hn2, hn3⟩
          · exact hmn rfl
          · exact new _ _ hn1 hn2 hn3 hm
        · rcases hn with ⟨_, hn⟩ | ⟨hn1, hn2, hn3⟩
          · exact new _ _ hm1 hm2 hm3 hn
          · exact hG.disj m n k hmn hm3 hn3
      · have hw0 := hG.walks p hp
        have hp2 : ∀ n, kill = some n → itNode p.2 ≠ some n := fun n hn => (hkw n hn).2.2 p hp
        have hstep := hw0.step hk hXM (fun k hb hx => by
          obtain ⟨n, _, hgn⟩ := hX1 k hx
          exact hG.itNo hp hb n hgn) (fun m k hm hg hx => by
          obtain ⟨n, hn, hgn⟩ := hX1 k hx
          exact hG.disj m n k (fun e => hp2 n hn (by rw [← e]; exact hm)) hg hgn) hs (ρ' := ρ) rfl
        obtain ⟨i, x⟩ := p
        cases x with
        | it m ka va kk vv left cur pend =>
          obtain ⟨h0, r, since, last, seen, h1, h2⟩ := hstep
          refine ⟨h0, r, since, last, seen, h1, ?_⟩
          cases m with
          | none => exact h2
          | some m =>
            obtain ⟨bm, es, clock, g1, g2, g3, g4, g5, g6, g7, g8, g9, ga, gb, gc⟩ := h2
            exact ⟨bm, es, clock, Nat.lt_succ_of_lt g1, (if_neg (by omega)).trans g2, .inr ⟨g1, fun e => hp2 m e rfl, g3⟩, g4, g5, g6, g7, g8, g9, ga, gb.imp fun _ q => ⟨q.1, q.2.imp fun _ _ h => h.ext hC⟩, fun q hq => by
              obtain ⟨e, q1, q2, q3⟩ := gc q hq
              exact ⟨e, q1, q2.ext hC, q3⟩⟩
        | mark n ka va kk vv x =>
          obtain ⟨bm, es, clock, e, g1, g2, g3, g4, g5, g6, g7⟩ := hstep
          exact ⟨bm, es, clock, e, Nat.lt_succ_of_lt g1, (if_neg (by omega)).trans g2, .inr ⟨g1, fun e => hp2 n e rfl, g3⟩, g4, g5, g6, g7⟩
      · rcases hm with ⟨rfl, hm⟩ | ⟨_, _, hm⟩
        · rcases hX2 k hm with hh | ⟨hlt, _⟩
          · rcases hKW k hh with h' | h'
            · exact absurd hL (h.wl k h')
            · exact absurd (h.lsz k hL) (by omega)
          · exact absurd (h.lsz k hL) (by omega)
        · exact hG.lock m k hm hL
    · rcases hF'sub k hF with hF0 | ⟨h1, h2⟩
      · have := h.rng REG _ k hr hF0
        refine ⟨this.1.imp id fun h => h.imp (fun h => ⟨trivial, h.2⟩) id, Nat.lt_of_lt_of_le this.2 hk.size, fun _ => .inr ⟨REG, _, hr, hF0⟩, fun j t' hj ht => ?_⟩
        rw [updR_single, if_neg (Ne.symm hj)] at ht
        simp only [F', if_neg hj]
        exact h.disj REG j _ t' k hr ht (Ne.symm hj) hF0
      · refine ⟨.inr (.inr (by omega)), h2, fun hlt => absurd hlt (by omega), fun j t' hj ht hFj => ?_⟩
        rw [updR_single, if_neg (Ne.symm hj)] at ht
        simp only [F', if_neg hj] at hFj
        have := (h.rng j t' k ht hFj).2
        omega
  · by_cases hnN : n = C.N
    · subst hnN; rw [C.more_new v]; exact hv
    · have : (C.more v).β n = C.β n := if_neg hnN
      rw [this]
      exact h.bone n (by have : n < C.N + 1 := hn; omega)
end
end Go.Pev
/- The pure evaluator, part Oe: what stands over the region: marks, walks, their steps. Own text, over any program. -/
namespace Go.Pev
open Go.ChangeMaps (setBlock)
section
variable {P : Program} {C : Cfg} {M0 : Base} {w0 : World} {sl : Nat → Option AV} {rs : Nat → Option RS} {ρ : Nat → Value} {F : Nat → Nat → Prop} {a : Act} {w w' : World} {M : Nat → Prop}
theorem Rel.regIts (h : Rel C M0 w0 sl rs ρ F a w) {lk : List Nat} {its : List (Nat × It)} {H : List Node} (hr : rs REG = some (.reg lk its H)) {d : Nat} (hf : Fresh sl rs d) (hd : d ≠ REG) {v : Value} (hv1 : v.oneCell' = true) {x : It} (hk : KeepS (fun _ => False) w w')
    (hx : ∀ G, RegG C ρ (Mof M0 rs F) w (F REG) G lk its H → ∀ ρ' M', ρ' d = v → (∀ k, M' k → k < w.heap.size → Mof M0 rs F k) → ItR C ρ' M' w' G d x)
    (hb : ∀ ρ' : Nat → Value, ρ' d = v → ∀ k, itBlk ρ' (d, x) = some k → w.heap.size ≤ k ∧ k < w'.heap.size) :
    ∃ ρ' F', Rel C M0 w0 sl (updR rs [(REG, some (.reg lk ((d, x) :: its) H)), (d, some .tok)]) ρ' F' a w' ∧ ρ' d = v ∧ ∀ k, Mof M0 (updR rs [(REG, some (.reg lk ((d, x) :: its) H)), (d, some .tok)]) F' k → k < w.heap.size → Mof M0 rs F k := by
  obtain ⟨_, G, hG⟩ := h.res REG _ hr
  have hsz := h.keep.size
  have hfi : ∀ p ∈ its, p.1 ≠ d := fun p hp e => by
    have := hf.res REG _ hr
    simp only [RS.ment, List.any_eq_false] at this
    have := this p hp
    rw [e, Nat.beq_refl] at this
    exact this rfl
  let ρ' : Nat → Value := fun i => if i = d then v else ρ i
  let F' : Nat → Nat → Prop := fun i => if i = d then (fun _ => False) else if i = REG then (fun k => F REG k ∨ itBlk ρ' (d, x) = some k) else F i
  have hρd : ρ' d = v := if_pos rfl
  have hρn : ∀ i, i ≠ d → ρ' i = ρ i := fun i hi => if_neg hi
  have hFd : F' d = fun _ => False := if_pos rfl
  have hFR : F' REG = fun k => F REG k ∨ itBlk ρ' (d, x) = some k := by simp only [F']; rw [if_neg (Ne.symm hd)]; simp
  have hFn : ∀ i, i ≠ d → i ≠ REG → F' i = F i := fun i h1 h2 => by simp only [F']; rw [if_neg h1, if_neg h2]
  have hget : ∀ i, updR rs [(REG, some (.reg lk ((d, x) :: its) H)), (d, some .tok)] i = if i = REG then some (.reg lk ((d, x) :: its) H) else if i = d then some .tok else rs i := by
    intro i
    simp only [updR, get]
    by_cases h1 : i = REG
    · subst h1; simp [Nat.beq_refl]
    · rw [if_neg h1]
      have : Nat.beq REG i = false := by
        cases hb : Nat.beq REG i with
        | false => rfl
        | true => exact absurd (Nat.eq_of_beq_eq_true hb).symm h1
      simp only [this]
      by_cases h2 : i = d
      · subst h2; simp [Nat.beq_refl]
      · rw [if_neg h2]
        have : Nat.beq d i = false := by
          cases hb : Nat.beq d i with
          | false => rfl
          | true => exact absurd (Nat.eq_of_beq_eq_true hb).symm h2
        simp only [this]
  refine ⟨ρ', F', h.upd (fun i => i = d ∨ i = REG) hk (fun _ g => g.elim) (fun i hi => ⟨?_, hFn i (fun e => hi (.inl e)) (fun e => hi (.inr e))⟩) (fun t av id ht hm => hρn id fun e => ?_) (fun id st hid hst => ⟨hρn id (fun e => hid (.inl e)), fun i hi => hρn i fun e => ?_⟩) (fun _ _ _ _ _ _ g => g) (fun id st hid hst => ?_) (fun id => ?_) ⟨fun h' => ⟨?_, hρn 7000 (Ne.symm hf.ne)⟩, fun lk0 its0 H0 h' => ?_⟩, hρd, fun k hk hlt => ?_⟩
  · rw [hget, if_neg (fun e => hi (.inr e)), if_neg (fun e => hi (.inl e))]
  · subst e; rw [hf.slots t av ht] at hm; cases hm
  · subst e; rw [hf.res id st hst] at hi; cases hi
  · rw [hget] at hst
    by_cases hidR : id = REG
    · subst hidR
      rw [if_pos rfl] at hst
      obtain rfl := Option.some.inj hst
      refine ⟨fun hs => ⟨rfl, G, ?_⟩, fun k hF => ?_⟩
      · have hst' := hG.step hk (fun _ g => g.elim) (fun _ _ g => g) hs (fun p hp => hρn p.1 (hfi p hp))
        have hnew := hx G hG ρ' _ hρd hs
        refine ⟨hst'.len, hst'.node, hst'.lt, hst'.disj, fun k => ?_, fun p hp => ?_, ?_, hst'.lock, fun p hp k hb' hL => ?_⟩
        · rw [hFR]
          constructor
          · rintro (h1 | h1)
            · rcases (hst'.fp k).1 h1 with h2 | ⟨p, hp, hb⟩
              · exact .inl h2
              · exact .inr ⟨p, List.mem_cons_of_mem _ hp, hb⟩
            · exact .inr ⟨_, List.mem_cons_self, h1⟩
          · rintro (h1 | ⟨p, hp, hb'⟩)
            · exact .inl ((hst'.fp k).2 (.inl h1))
            · rcases List.mem_cons.1 hp with rfl | hp
              · exact .inr hb'
              · exact .inl ((hst'.fp k).2 (.inr ⟨p, hp, hb'⟩))
        · rcases List.mem_cons.1 hp with rfl | hp
          · exact hnew
          · exact hst'.walks p hp
        · refine List.pairwise_cons.2 ⟨fun q hq => ⟨Ne.symm (hfi q hq), fun k h1 h2 => ?_⟩, hst'.sep⟩
          have h3 := (hb ρ' hρd k h1).1
          have h4 := (h.rng REG _ k hr ((hG.fp k).2 (.inr ⟨q, hq, (itBlk_congr (hρn q.1 (hfi q hq))).symm.trans h2⟩))).2
          omega
        · rcases List.mem_cons.1 hp with rfl | hp
          · have := (hb ρ' hρd k hb').1
            have := h.lsz k hL
            omega
          · exact hst'.nolk p hp k hb' hL
      · rw [hFR] at hF
        rcases hF with hF | hF
        · have := h.rng REG _ k hr hF
          refine ⟨this.1.imp id fun h => h.imp (fun h => ⟨trivial, h.2⟩) id, Nat.lt_of_lt_of_le this.2 hk.size, fun _ => .inr ⟨REG, _, hr, hF⟩, fun j t' hj ht hFj => ?_⟩
          rw [hget, if_neg hj] at ht
          by_cases hjd : j = d
          · subst hjd; rw [hFd] at hFj; exact hFj
          · rw [if_neg hjd] at ht
            rw [hFn j hjd hj] at hFj
            exact h.disj REG j _ t' k hr ht (Ne.symm hj) hF hFj
        · obtain ⟨h1, h2⟩ := hb ρ' hρd k hF
          refine ⟨.inr (.inr (by omega)), h2, fun hlt => absurd hlt (by omega), fun j t' hj ht hFj => ?_⟩
          rw [hget, if_neg hj] at ht
          by_cases hjd : j = d
          · subst hjd; rw [hFd] at hFj; exact hFj
          · rw [if_neg hjd] at ht
            rw [hFn j hjd hj] at hFj
            have := (h.rng j t' k ht hFj).2
            omega
    · have hidd : id = d := hid.resolve_right hidR
      subst hidd
      rw [if_neg hidR, if_pos rfl] at hst
      obtain rfl := Option.some.inj hst
      refine ⟨fun _ => ?_, fun k hF => ?_⟩
      · show ∀ k, ¬ F' id k
        rw [hFd]; exact fun _ f => f
      · rw [hFd] at hF; exact hF.elim
  · by_cases e : id = d
    · subst e; rw [hρd]; exact hv1
    · rw [hρn id e]; exact h.one id
  · rw [hget, if_neg (by decide), if_neg (Ne.symm hf.ne)] at h'; exact h'
  · rw [hget, if_pos rfl] at h'
    cases h'
    exact ⟨_, _, hr⟩
  · rcases hk with h0 | ⟨j, st, hj, hF⟩
    · exact .inl h0
    · rw [hget] at hj
      by_cases h1 : j = REG
      · subst h1
        rw [hFR] at hF
        rcases hF with hF | hF
        · exact .inr ⟨REG, _, hr, hF⟩
        · exact absurd (hb ρ' hρd k hF).1 (by omega)
      · rw [if_neg h1] at hj
        by_cases h2 : j = d
        · subst h2; rw [hFd] at hF; exact hF.elim
        · rw [if_neg h2] at hj
          rw [hFn j h2 h1] at hF
          exact .inr ⟨j, st, hj, hF⟩
theorem its_uniq {its : List (Nat × It)} (h : its.Pairwise fun p q => p.1 ≠ q.1) {id : Nat} {x y : It} (hx : (id, x) ∈ its) (hy : (id, y) ∈ its) : x = y := by
  induction its with
  | nil => cases hx
  | cons p r ih =>
    obtain ⟨h1, h2⟩ := List.pairwise_cons.1 h
    rcases List.mem_cons.1 hx with ex | hx'
    · rcases List.mem_cons.1 hy with ey | hy'
      · rw [← ex] at ey; injection ey with _ e2; exact e2.symm
      · subst ex; exact absurd rfl (h1 (id, y) hy')
    · rcases List.mem_cons.1 hy with ey | hy'
      · subst ey; exact absurd rfl (h1 (id, x) hx')
      · exact ih h2 hx' hy'
theorem get_its {its : List (Nat × It)} {id : Nat} {x : It} : get its id = some x → (id, x) ∈ its := get_mem'
where
  get_mem' : ∀ {its : List (Nat × It)}, get its id = some x → (id, x) ∈ its
    | [], h => by simp [get] at h
    | (i, y) :: r, h => by
      simp only [get] at h
      split at h
      · rename_i hb
        obtain rfl := Nat.eq_of_beq_eq_true hb
        obtain rfl := Option.some.inj h
        exact List.mem_cons_self
      · exact List.mem_cons_of_mem _ (get_mem' h)
theorem itSet_mem {id : Nat} {y : It} : ∀ {its : List (Nat × It)} {p : Nat × It}, p ∈ itSet id y its → p = (id, y) ∨ p ∈ its
  | [], p, h => by cases h
  | (i, x) :: r, p, h => by
    simp only [itSet] at h
    split at h
    · rename_i hb
      obtain rfl := Nat.eq_of_beq_eq_true hb
      rcases List.mem_cons.1 h with rfl | h
      · exact .inl rfl
      · exact .inr (List.mem_cons_of_mem _ h)
    · rcases List.mem_cons.1 h with rfl | h
      · exact .inr List.mem_cons_self
      · exact (itSet_mem h).imp _root_.id (List.mem_cons_of_mem _)
theorem itSet_other {id : Nat} {y : It} : ∀ {its : List (Nat × It)} {p : Nat × It}, p ∈ its → p.1 ≠ id → p ∈ itSet id y its
  | [], p, h, _ => by cases h
  | (i, x) :: r, p, h, hne => by
    simp only [itSet]
    split
    · rename_i hb
      obtain rfl := Nat.eq_of_beq_eq_true hb
      rcases List.mem_cons.1 h with rfl | h
      · exact absurd rfl hne
      · exact List.mem_cons_of_mem _ h
    · rcases List.mem_cons.1 h with rfl | h
      · exact List.mem_cons_self
      · exact List.mem_cons_of_mem _ (itSet_other h hne)
theorem itSet_self {id : Nat} {y : It} : ∀ {its : List (Nat × It)} {x : It}, get its id = some x → (id, y) ∈ itSet id y its
  | [], x, h => by simp [get] at h
  | (i, z) :: r, x, h => by
    simp only [get] at h
    simp only [itSet]
    split at h
    · rename_i hb
      obtain rfl := Nat.eq_of_beq_eq_true hb
      exact List.mem_cons_self
    · exact List.mem_cons_of_mem _ (itSet_self h)
theorem itSet_sep {id : Nat} {y : It} {R : Nat × It → Nat × It → Prop} (hR : ∀ x p, R (id, x) p → R (id, y) p) (hL : ∀ x p, R p (id, x) → R p (id, y)) : ∀ {its : List (Nat × It)}, its.Pairwise R → (itSet id y its).Pairwise R
  | [], _ => .nil
  | (i, x) :: r, h => by
    obtain ⟨h1, h2⟩ := List.pairwise_cons.1 h
    simp only [itSet]
    split
    · rename_i hb
      obtain rfl := Nat.eq_of_beq_eq_true hb
      exact List.pairwise_cons.2 ⟨fun p hp => hR x p (h1 p hp), h2⟩
    · refine List.pairwise_cons.2 ⟨fun p hp => ?_, itSet_sep hR hL h2⟩
      exact key hL h1 hp
where
  key {id : Nat} {y : It} {q0 p : Nat × It} {R : Nat × It → Nat × It → Prop} (hL : ∀ x p, R p (id, x) → R p (id, y)) : ∀ {l : List (Nat × It)}, (∀ q ∈ l, R q0 q) → p ∈ itSet id y l → R q0 p
    | [], _, hp => by cases hp
    | (j, z) :: l, hl, hp => by
      simp only [itSet] at hp
      split at hp
      · rename_i hb
        obtain rfl := Nat.eq_of_beq_eq_true hb
        rcases List.mem_cons.1 hp with rfl | hp
        · exact hL z _ (hl _ List.mem_cons_self)
        · exact hl p (List.mem_cons_of_mem _ hp)
      · rcases List.mem_cons.1 hp with rfl | hp
        · exact hl _ List.mem_cons_self
        · exact key hL (fun q hq => hl q (List.mem_cons_of_mem _ hq)) hp
theorem itSet_map {β : Type} {g : Nat × It → β} {id : Nat} {x y : It} : ∀ {its : List (Nat × It)}, get its id = some x → g (id, y) = g (id, x) → (itSet id y its).map g = its.map g
  | [], h, _ => by simp [get] at h
  | (i, z) :: r, h, hg => by
    simp only [get] at h
    simp only [itSet]
    split at h
    · rename_i hb
      obtain rfl := Nat.eq_of_beq_eq_true hb
      obtain rfl := Option.some.inj h
      simp only [List.map_cons, hg]
    · simp only [List.map_cons, itSet_map h hg]
theorem left_less {ka va : Bool} {k v : Sh} (hf : k.flat = true) {e : MapEntry} : ∀ {left : List (k.T × v.T)} {es : List MapEntry}, All2 (EntR C M w ka va k v) left es → left.Pairwise (fun p q => eqB k p.1 q.1 = false) → (es.map (·.born)).Nodup → e ∈ es →
    ∃ p ∈ left, EntR C M w ka va k v p e ∧ All2 (EntR C M w ka va k v) (delL k v p.1 left) (es.filter fun x => !(x.born == e.born))
  | _, _, .nil, _, _, he => by cases he
  | p :: left, x :: es, .cons h t, hp, hn, he => by
    obtain ⟨p1, p2⟩ := List.pairwise_cons.1 hp
    rw [List.map_cons, List.nodup_cons] at hn
    by_cases hx : x = e
    · subst hx
      refine ⟨p, List.mem_cons_self, h, ?_⟩
      simp only [delL, eqB_self k p.1 hf]
      have : (x :: es).filter (fun y => !(y.born == x.born)) = es := by
        rw [List.filter_cons]
        simp only [beq_self_eq_true, Bool.not_true, Bool.false_eq_true, if_false]
        refine List.filter_eq_self.2 fun y hy => ?_
        simp only [Bool.not_eq_true', beq_eq_false_iff_ne]
        exact fun e' => hn.1 (List.mem_map.2 ⟨y, hy, e'⟩)
      rw [this]; exact t
    · have he' : e ∈ es := (List.mem_cons.1 he).resolve_left (fun e' => hx e'.symm)
      obtain ⟨q, q1, q2, q3⟩ := left_less hf t p2 hn.2 he'
      refine ⟨q, List.mem_cons_of_mem _ q1, q2, ?_⟩
      simp only [delL, p1 q q1]
      have hb : (x.born == e.born) = false := by
        rw [beq_eq_false_iff_ne]
        exact fun e' => hn.1 (List.mem_map.2 ⟨e, he', e'.symm⟩)
      rw [List.filter_cons]
      simp only [hb, Bool.not_false, if_true]
      exact .cons h q3
end
end Go.Pev
/- The pure evaluator, part Of: a walk's step; the operations on the region, one by one. Own text, over any program. -/
namespace Go.Pev
open Go.ChangeMaps (setBlock)
section
variable {P : Program} {C : Cfg} {M0 : Base} {w0 : World} {sl : Nat → Option AV} {rs : Nat → Option RS} {ρ : Nat → Value} {F : Nat → Nat → Prop} {a : Act} {w w' : World} {M : Nat → Prop}
theorem flat_rr : ∀ (s : Sh) (x : s.T), s.flat = true → RR C M w s x (fcells s x)
  | .int _, _, _ => rfl
  | .bool, _, _ => rfl
  | .str, _, _ => rfl
  | .err, _, h => by cases h
  | .ptr, _, h => by cases h
  | .rf _, _, h => by cases h
  | .pt _, _, h => by cases h
  | .sl _, _, h => by cases h
  | .pair a b, x, h => by
    simp only [Sh.flat, Bool.and_eq_true] at h
    have hl := fcells_len a x.1 h.1
    refine ⟨?_, ?_⟩
    · show RR C M w a x.1 ((fcells a x.1 ++ fcells b x.2).take a.sz)
      rw [← hl, List.take_left]; exact flat_rr a x.1 h.1
    · show RR C M w b x.2 ((fcells a x.1 ++ fcells b x.2).drop a.sz)
      rw [← hl, List.drop_left]; exact flat_rr b x.2 h.2
theorem keyV_rel {ka : Bool} {k : Sh} (hf : k.flat = true) (h1 : ka = false → k.sz = 1) (x : k.T) : ValR C M w ka k x (keyV ka k x) := by
  have h := flat_rr (C := C) (M := M) (w := w) k x hf
  cases ka with
  | true => exact ⟨_, rfl, h⟩
  | false =>
    have hl := fcells_len k x hf
    rw [h1 rfl] at hl
    show RR C M w k x [(fcells k x).headD .nilIface]
    generalize fcells k x = c at h hl
    match c, hl with
    | [u], _ => exact h
theorem back_push {l : Array Nat} {n : Nat} (h : l.back? = some n) : ∃ m : Array Nat, l = m.push n := by
  have h' : l.toList.getLast? = some n := by rw [← h]; simp
  obtain ⟨m, hm⟩ := List.getLast?_eq_some_iff.1 h'
  exact ⟨m.toArray, by apply Array.ext'; rw [Array.toList_push, hm]⟩
theorem VR.toSR' {x : AV} {v : Value} (h : VR C ρ M w x v) (hx : (∀ l, x ≠ .tup l) ∧ ∀ f l, x ≠ .clo f l) : SR C ρ M w x v := by
  cases x <;> first | exact h | exact absurd rfl (hx.1 _) | exact absurd rfl (hx.2 _ _)
theorem leaves_not : ∀ (s : Sh) (x : s.T), ∀ a ∈ leaves s x, (∀ l, a ≠ .tup l) ∧ ∀ f l, a ≠ .clo f l := by
  intro s x a ha
  have := leaves_ok s x a ha
  refine ⟨fun l e => ?_, fun f l e => ?_⟩ <;> (subst e; cases this)
theorem toAV_not (ag : Bool) (s : Sh) (x : s.T) : (∀ l, toAV ag s x ≠ .tup l) ∧ ∀ f l, toAV ag s x ≠ .clo f l := by
  cases ag with
  | true => exact ⟨fun l e => by simp [toAV] at e, fun f l e => by simp [toAV] at e⟩
  | false =>
    unfold toAV
    simp only
    split
    · rename_i a ha
      exact leaves_not s x a (by rw [ha]; exact List.mem_singleton.2 rfl)
    · exact ⟨fun l e => (by cases e), fun f l e => (by cases e)⟩
theorem sepne {its : List (Nat × It)} (h : its.Pairwise fun p q => p.1 ≠ q.1 ∧ ∀ k, itBlk ρ p = some k → itBlk ρ q ≠ some k) {p q : Nat × It} (hp : p ∈ its) (hq : q ∈ its) (hne : p.1 ≠ q.1) {k : Nat} (h1 : itBlk ρ p = some k) (h2 : itBlk ρ q = some k) : False := by
  induction its with
  | nil => cases hp
  | cons x r ih =>
    obtain ⟨g1, g2⟩ := List.pairwise_cons.1 h
    rcases List.mem_cons.1 hp with ep | hp'
    · rcases List.mem_cons.1 hq with eq | hq'
      · exact hne (by rw [ep, eq])
      · subst ep; exact (g1 q hq').2 k h1 h2
    · rcases List.mem_cons.1 hq with eq | hq'
      · subst eq; exact (g1 p hp').2 k h2 h1
      · exact ih g2 hp' hq'
theorem Rel.regNext (h : Rel C M0 w0 sl rs ρ F a w) {lk : List Nat} {its : List (Nat × It)} {H : List Node} (hr : rs REG = some (.reg lk its H)) {id : Nat} {n : Option Nat} {ka va : Bool} {k v : Sh} {left : List (k.T × v.T)} {cur : Option (k.T × v.T)}
    (hi0 : get its id = some (.it n ka va k v left cur none)) (ty : TypeId) :
    (left = [] ∧ (Instr.next (ρ id) false ty).run P w = .ok (.tuple #[.bool false]) w) ∨
    ∃ e ∈ left, ∃ kv vv w', (Instr.next (ρ id) false ty).run P w = .ok (.tuple #[.bool true, kv, vv]) w' ∧
      Rel C M0 w0 sl (updR rs [(REG, some (.reg lk (itSet id (.it n ka va k v (delL k v e.1 left) (some e) none) its) H))]) ρ F a w' ∧
      VR C ρ (Mof M0 (updR rs [(REG, some (.reg lk (itSet id (.it n ka va k v (delL k v e.1 left) (some e) none) its) H))]) F) w' (.tup [.bool true, toAV ka k e.1, toAV va v e.2]) (.tuple #[.bool true, kv, vv]) := by
  obtain ⟨_, G, hG⟩ := h.res REG _ hr
  have hmem := get_its hi0
  obtain ⟨_, r, since, last, seen, h1, h2⟩ := hG.walks _ hmem
  have hblk : itBlk ρ (id, It.it n ka va k v left cur none) = some r := by simp [itBlk, h1, blkV]
  have hrF : F REG r := (hG.fp r).2 (.inr ⟨_, hmem, hblk⟩)
  have hrM : Mof M0 rs F r := .inr ⟨REG, _, hr, hrF⟩
  cases n with
  | none =>
    obtain ⟨h2, h3, _⟩ := h2
    refine .inl ⟨h3, ?_⟩
    rw [h1]
    simp [Instr.next, getObj, Sem.run, h2, Result.andThen]
  | some m =>
    obtain ⟨bm, es, clock, g1, g2, g3, g4, g5, g6, g7, g8, g9, ga, gb, gc⟩ := h2
    rcases run_next_at (P := P) w ty r bm since last seen es clock g4 g5 g6 g7.1 with ⟨hz, hrun⟩ | ⟨e, he, w1, hw1, hrun⟩
    · left
      refine ⟨?_, by rw [h1]; exact hrun⟩
      have : es.toList.filter (fun e => !seen.contains e.born) = [] := by
        have : (leftOf es seen).toList = [] := by rw [Array.eq_empty_of_size_eq_zero hz]
        simpa [leftOf] using this
      rw [this] at gb
      obtain ⟨lm, hpm, gb⟩ := gb
      cases gb
      exact hpm.nil_eq.symm
    · right
      have he' : e ∈ es.toList.filter (fun e => !seen.contains e.born) := by simpa [leftOf] using he
      have hes : e ∈ es.toList := (List.mem_filter.1 he').1
      have hns : (es.toList.filter (fun e => !seen.contains e.born)).map (·.born) |>.Nodup := g8.sublist ((List.filter_sublist).map _)
      obtain ⟨lm, hpm, gb⟩ := gb
      have g9m := keys_perm hpm.symm g9
      obtain ⟨p, hp, hpe, hless⟩ := left_less ga.1 gb g9m hns he'
      replace hp := hpm.subset hp
      have hwh : w1.heap = w.heap := by rcases hw1 with rfl | rfl <;> rfl
      have hk : KeepS (fun k => k = r) w (setBlock w1 r (.mapIter (some bm) since (seen.push e.born) clock)) := by
        have := setBlock_keep (w := w1) (o' := .mapIter (some bm) since (seen.push e.born) clock) (by rw [hwh]; exact g4)
        rcases hw1 with rfl | rfl
        · exact this
        · exact (KeepS.drew w |>.mono (fun _ _ f => f.elim)).trans this
      have hat : (setBlock w1 r (.mapIter (some bm) since (seen.push e.born) clock)).heap[r]? = some (.mapIter (some bm) since (seen.push e.born) clock) := setBlock_at (by rw [hwh]; exact g4)
      have hkM : KeepS (Mof M0 rs F) w (setBlock w1 r (.mapIter (some bm) since (seen.push e.born) clock)) := hk.mono fun i _ g => by subst g; exact hrM
      have hbmr : bm ≠ r := fun e' => by subst e'; rw [g4] at g5; cases g5
      have hrel : Rel C M0 w0 sl (updR rs [(REG, some (.reg lk (itSet id (.it (some m) ka va k v (delL k v p.1 left) (some p) none) its) H))]) ρ F a (setBlock w1 r (.mapIter (some bm) since (seen.push e.born) clock)) := by
        refine h.upd (fun i => i = REG) hk (fun k hk => ?_) (fun i hi => ⟨by rw [updR_single, if_neg (Ne.symm hi)], rfl⟩) (fun _ _ _ _ _ => rfl) (fun _ _ _ _ => ⟨rfl, fun _ _ => rfl⟩)
          (fun i st k hi hst hF g => by subst g; exact h.disj REG i _ st k hr hst (Ne.symm hi) hrF hF) (fun i st hi hst => ?_) h.one (own7_single hr)
        · subst hk
          refine ⟨hrM, ?_⟩
          rcases (h.rng REG _ k hr hrF).1 with h' | h' | h'
          · exact .inl h'
          · exact absurd h'.2 (hG.nolk _ hmem _ hblk)
          · exact .inr h'
        · subst hi
          rw [updR_single, if_pos rfl] at hst
          obtain rfl := Option.some.inj hst
          refine ⟨fun hs => ⟨rfl, G, ?_⟩, fun k hF => ?_⟩
          · have hXG : ∀ n k, G n k → k ≠ r := fun n k hg e' => by subst e'; exact hG.itNo hmem hblk n hg
            have hsc : since ≤ clock := g7.2
            have huniq : ∀ q ∈ its, q.1 = id → q = (id, .it (some m) ka va k v left cur none) := fun q hq e => by
              obtain ⟨q1, q2⟩ := q
              simp only at e
              subst e
              rw [its_uniq (hG.sep.imp fun hpq => hpq.1) hq hmem]
            have hother : ∀ q ∈ itSet id (.it (some m) ka va k v (delL k v p.1 left) (some p) none) its, q = (id, .it (some m) ka va k v (delL k v p.1 left) (some p) none) ∨ (q ∈ its ∧ q.1 ≠ id) := fun q hq => by
              by_cases e : q.1 = id
              · left
                have hset := itSet_sep (id := id) (y := .it (some m) ka va k v (delL k v p.1 left) (some p) none) (R := fun p q => p.1 ≠ q.1) (fun _ _ h => h) (fun _ _ h => h) (hG.sep.imp fun hpq => hpq.1)
                obtain ⟨q1, q2⟩ := q
                simp only at e
                subst e
                rw [its_uniq hset hq (itSet_self hi0)]
              · rcases itSet_mem hq with rfl | hq
                · exact absurd rfl e
                · exact .inr ⟨hq, e⟩
            refine ⟨hG.len, fun m' x hm => (hG.node m' x hm).step hk (fun k g => by subst g; exact hrM) (fun k hg g => hXG m' k hg g) hs, hG.lt, hG.disj, fun k0 => (hG.fp k0).trans ?_, fun q hq => ?_, ?_, hG.lock, fun q hq k0 hb => ?_⟩
            · constructor
              · rintro (h3 | ⟨q, hq, hb⟩)
                · exact .inl h3
                · right
                  by_cases hqi : q.1 = id
                  · rw [huniq q hq hqi] at hb
                    exact ⟨_, itSet_self hi0, hb⟩
                  · exact ⟨q, itSet_other hq hqi, hb⟩
              · rintro (h3 | ⟨q, hq, hb⟩)
                · exact .inl h3
                · right
                  rcases hother q hq with rfl | ⟨hq, _⟩
                  · exact ⟨_, hmem, hb⟩
                  · exact ⟨q, hq, hb⟩
            · rcases hother q hq with rfl | ⟨hq', hne⟩
              · refine ⟨rfl, r, since, clock, seen.push e.born, h1, bm, es, clock, g1, g2, g3, hat, (hk.block bm (heap_lt g5) hbmr).trans g5, g6, ⟨hsc, hsc⟩, g8, ?_, ga, ?_, fun q hq => ?_⟩
                · rw [delL_idx]
                  split
                  · exact g9.sublist (List.eraseIdx_sublist _ _)
                  · exact g9
                · have hfil : es.toList.filter (fun x => !(seen.push e.born).contains x.born) = (es.toList.filter fun x => !seen.contains x.born).filter fun x => !(x.born == e.born) := by
                    rw [List.filter_filter]
                    refine List.filter_congr fun x _ => ?_
                    rw [← Array.contains_toList, Array.toList_push, List.contains_append, Array.contains_toList]
                    simp only [List.contains_cons, List.contains_nil, Bool.or_false, Bool.not_or]
                    rw [Bool.and_comm]
                  rw [hfil]
                  exact ⟨_, delL_perm ga.1 p.1 hpm g9m, hless.imp fun _ _ h => h.step hkM hs⟩
                · obtain rfl := Option.some.inj hq
                  exact ⟨e, hes, hpe.step hkM hs, by simp, rfl⟩
              · refine (hG.walks q hq').step hk (fun k g => by subst g; exact hrM) (fun k0 hb g => ?_) (fun n k0 _ hg g => hXG n k0 hg g) hs rfl
                subst g
                exact sepne hG.sep hmem hq' (Ne.symm hne) hblk hb
            · have hm := itSet_map (g := fun q => (q.1, itBlk ρ q)) (y := .it (some m) ka va k v (delL k v p.1 left) (some p) none) hi0 rfl
              have h3 : (its.map fun q => (q.1, itBlk ρ q)).Pairwise fun x y => x.1 ≠ y.1 ∧ ∀ k, x.2 = some k → y.2 ≠ some k := List.pairwise_map.2 hG.sep
              rw [← hm] at h3
              exact List.pairwise_map.1 h3
            · rcases hother q hq with rfl | ⟨hq', _⟩
              · exact hG.nolk _ hmem k0 hb
              · exact hG.nolk q hq' k0 hb
          · have := h.rng REG _ k hr hF
            refine ⟨this.1.imp _root_.id fun h => h.imp (fun h => ⟨trivial, h.2⟩) _root_.id, Nat.lt_of_lt_of_le this.2 hk.size, fun _ => .inr ⟨REG, _, hr, hF⟩, fun j t' hj ht => ?_⟩
            rw [updR_single, if_neg (Ne.symm hj)] at ht
            exact h.disj REG j _ t' k hr ht (Ne.symm hj) hF
      refine ⟨p, hp, e.key, e.val, _, by rw [h1]; exact hrun, hrel, ⟨[.bool true, e.key, e.val], rfl, .cons rfl (.cons ?_ (.cons ?_ .nil))⟩⟩
      · rw [hpe.1]
        exact VR.toSR' (valR_rel (keyV_rel ga.1 ga.2 p.1)) (toAV_not _ _ _)
      · have hsub : ∀ q, Mof M0 (updR rs [(REG, some (.reg lk (itSet id (.it (some m) ka va k v (delL k v p.1 left) (some p) none) its) H))]) F q → q < w.heap.size → Mof M0 rs F q := by
          rintro q (h0 | ⟨j, st, hj, hF⟩) _
          · exact .inl h0
          · by_cases hjR : REG = j
            · subst hjR; exact .inr ⟨REG, _, hr, hF⟩
            · rw [updR_single, if_neg hjR] at hj; exact .inr ⟨j, st, hj, hF⟩
        exact VR.toSR' (valR_rel (hpe.2.step hkM hsub)) (toAV_not _ _ _)
end
end Go.Pev
/- The pure evaluator, part Og: readings of the region. Own text, over any program. -/
namespace Go.Pev
section
variable {P : Program} {T : Tabs} {C : Cfg} {M0 : Base} {β : Nat → Value} {N : Nat} {w0 : World} {sl : Nat → Option AV} {rs : Nat → Option RS} {ρ : Nat → Value} {F : Nat → Nat → Prop} {a : Act} {w : World} {o : Oper} {out : Out} {s r s1 r1 : List Nat}
theorem ev_opt {α γ : Type} {x : Option γ} {k : γ → Rd α} {s r : List Nat} {z : α × List Nat × List Nat} (h : ev sl rs (.opt x k) s r = some z) : ∃ y, x = some y ∧ ev sl rs (k y) s r = some z := by
  cases x with
  | none => cases h
  | some y => exact ⟨y, rfl, h⟩
theorem ev_reg {α : Type} {k : List Nat → List (Nat × It) → List Node → Rd α} {s r : List Nat} {z : α × List Nat × List Nat} (h : ev sl rs (Rd.reg k) s r = some z) : ∃ lk its H, rs REG = some (.reg lk its H) ∧ ev sl rs (k lk its H) s (REG :: r) = some z := by
  unfold Rd.reg at h
  obtain ⟨q, h1, h2⟩ := ev_res h
  cases q <;> first | exact ⟨_, _, _, h1, h2⟩ | (simp [ev] at h2)
theorem ev_br2 {α : Type} {b : Bool} {x y : Rd α} {s r : List Nat} {z : α × List Nat × List Nat} (h : ev sl rs (.br b x y) s r = some z) : (b = true ∧ ev sl rs x s r = some z) ∨ (b = false ∧ ev sl rs y s r = some z) := by
  cases b with
  | true => exact .inl ⟨rfl, h⟩
  | false => exact .inr ⟨rfl, h⟩
theorem getBox_some {t : TypeId} {sh : Sh} {H : List Node} {n : Nat} {x : sh.T} (h : getBox t sh H n = some x) : H[n]? = some (.box t sh x) := by
  unfold getBox at h
  split at h <;> try (cases h; done)
  rename_i hn
  split at h <;> try (cases h; done)
  rename_i e
  subst e
  obtain ⟨e, rfl⟩ := castE_some h
  subst e
  exact hn
theorem getRow_some {e : TypeId} {sh : Sh} {H : List Node} {n : Nat} {x : List sh.T} (h : getRow e sh H n = some x) : H[n]? = some (.row e sh x) := by
  unfold getRow at h
  split at h <;> try (cases h; done)
  rename_i hn
  split at h <;> try (cases h; done)
  rename_i e
  subst e
  obtain ⟨e, rfl⟩ := castL_some h
  subst e
  exact hn
theorem getMap_some {ka va : Bool} {k v : Sh} {H : List Node} {n : Nat} {x : List (k.T × v.T)} (h : getMap ka va k v H n = some x) : H[n]? = some (.map ka va k v x) := by
  unfold getMap at h
  split at h <;> try (cases h; done)
  rename_i hn
  split at h <;> try (cases h; done)
  rename_i e
  obtain ⟨rfl, rfl⟩ := e
  split at h <;> try (cases h; done)
  rename_i e
  obtain ⟨rfl, rfl⟩ := e
  obtain rfl := Option.some.inj h
  exact hn
theorem row_at {M : Nat → Prop} {e : TypeId} {s0 : Sh} {l : List s0.T} {css : List (List Value)} {v : Value} (hown : w.ownsRow 0 e s0.sz v l.length css.flatten) (hel : All2 (RR C M w s0) l css) {i : Nat} (hi : i < l.length) :
    ∃ g cap cs, v = .slice (some ⟨g, 0, none⟩) l.length cap ∧ RR C M w s0 l[i] cs ∧ ∀ j u, cs[j]? = some u → w.cell? ((⟨g, i * s0.sz, none⟩ : Addr).add j) = some u := by
  obtain ⟨cs, f1, f2⟩ := row_cells hel (i := i) (List.getElem?_eq_getElem hi)
  obtain ⟨hlen, hown⟩ := hown
  rcases hown with ⟨hv, hn⟩ | ⟨g, cap, cur, hv, _, hg, hnc, _, hcs, htake⟩
  · omega
  · refine ⟨g, cap, cs, hv, f1, fun j u hj => ?_⟩
    have hk := f2 j u hj
    rw [← htake, List.getElem?_take] at hk
    split at hk
    · have ha : ((⟨g, i * s0.sz, none⟩ : Addr).add j) = ⟨g, i * s0.sz + j, none⟩ := by rw [← addr_at, addr_add, addr_at]
      rw [ha]
      simp only [World.cell?, hg, Option.isSome_none, Bool.false_eq_true, if_false]
      simpa using hk
    · cases hk
theorem own_slice {e : TypeId} {sz n : Nat} {v : Value} {xs : List Value} (h : w.ownsRow 0 e sz v n xs) : ∃ A c, v = .slice A n c ∧ n ≤ c := by
  rcases h.2 with ⟨hv, hn⟩ | ⟨g, cap, cur, hv, _, hg, hnc, _⟩
  · exact ⟨none, 0, by rw [hv, hn], by omega⟩
  · exact ⟨_, cap, hv, hnc⟩
theorem Rel.nodeAt (h : Rel C M0 w0 sl rs ρ F a w) {lk : List Nat} {its : List (Nat × It)} {H : List Node} (hr : rs REG = some (.reg lk its H)) {n : Nat} {x : Node} (hn : H[n]? = some x) : n < C.N ∧ ∃ G, NodeR C (Mof M0 rs F) w (C.β n) G x := by
  obtain ⟨_, G, hG⟩ := h.res REG _ hr
  refine ⟨?_, G n, hG.node n x hn⟩
  rw [← hG.len]
  exact (List.getElem?_eq_some_iff.1 hn).1
theorem ok_loadR (hf : Fit P T) (h : Rel (T.cf β N M0.L) M0 w0 sl rs ρ F a w) (hd : ∀ d, o.dst = some d → d < a.tmps.size) {t : TypeId} {x : Operand} (hop : o.op = .load t x) {st : Sh} {av : AV} (hst : get T.shs t = some st) (hx : VR (T.cf β N M0.L) ρ (Mof M0 rs F) w av (a.eval x))
    (he : ev sl rs (loadR P T t st av) s r = some (out, s1, r1)) : Goal P T M0 w0 sl rs a w o out := by
  have hty := hf.tys.get hst
  have fin : ∀ {l : List AV} {vs : List Value} {p : Addr} {off : Nat} {s4 r4 : List Nat}, All2 (LR (T.cf β N M0.L) ρ (Mof M0 rs F) w) l vs → (∀ (j : Nat) (u : Value), vs[j]? = some u → w.cell? (p.add j) = some u) → a.eval x = .pointer (some (p.add off)) →
      ev sl rs ((Rd.ofO (loadAV P t st.sz l off)).bind fun v => .ret (⟨v, []⟩ : Out)) s4 r4 = some (out, s1, r1) → Goal P T M0 w0 sl rs a w o out := by
    intro l vs p off s4 r4 hl hc hp hev
    obtain ⟨av, s5, r5, h5, h6⟩ := ev_bind _ _ _ _ _ hev
    obtain ⟨av', e1, e2⟩ := ev_ofO h5
    simp only [Prod.mk.injEq] at e2
    obtain ⟨rfl, _, _⟩ := e2
    obtain rfl := ret_out h6
    obtain ⟨v, g1, g2⟩ := load_ok hty hl p off hc e1
    exact runs_value h hd (v := v) (by simp [execOp, hop, hp, g1]) g2
  unfold loadR at he
  split at he <;> try (simp [ev] at he; done)
  · rename_i u n off
    split at he <;> try (simp [ev] at he; done)
    rename_i su hsu
    obtain ⟨lk, its, H, hr, h2⟩ := ev_reg he
    obtain ⟨y, hy, h3⟩ := ev_opt h2
    obtain ⟨_, G, hnode⟩ := h.nodeAt hr (getBox_some hy)
    obtain ⟨b, hn, hb, hv⟩ : ∃ b, n < N ∧ β n = .pointer (some ⟨b, 0, none⟩) ∧ a.eval x = .pointer (some ⟨b, off, none⟩) := hx
    obtain ⟨b', cells, e1, e2, e3, e4⟩ := hnode
    have e1 : β n = .pointer (some ⟨b', 0, none⟩) := e1
    rw [hb] at e1
    obtain rfl : b = b' := by simpa using e1
    refine fin (leaves_rel su y _ e4) (p := ⟨b, 0, none⟩) (off := off) (fun j u hj => ?_) (by rw [hv, addr_at]) h3
    rw [addr_at]
    simp only [World.cell?, e3, Option.isSome_none, Bool.false_eq_true, if_false]
    simpa using hj
  · rename_i e s0 n i off
    obtain ⟨lk, its, H, hr, h2⟩ := ev_reg he
    obtain ⟨l, hl, h3⟩ := ev_opt h2
    obtain ⟨b1, h4⟩ := ev_br h3
    obtain ⟨b2, h5⟩ := ev_br h4
    simp only [decide_eq_true_eq] at b1 b2
    obtain ⟨_, G, hnode⟩ := h.nodeAt hr (getRow_some hl)
    obtain ⟨g, m, c, hn, hb, hv⟩ : ∃ g m c, n < N ∧ β n = .slice (some ⟨g, 0, none⟩) m c ∧ a.eval x = .pointer (some ⟨g, i.toNat * s0.sz + off, none⟩) := hx
    obtain ⟨css, hown, _, hel⟩ := hnode
    have hi : i.toNat < l.length := by omega
    obtain ⟨g', cap, cs, e1, e2, e3⟩ := row_at hown hel hi
    have e1 : β n = .slice (some ⟨g', 0, none⟩) l.length cap := e1
    rw [hb] at e1
    obtain ⟨rfl, _⟩ : g = g' ∧ _ := by simpa using e1
    have hgi : getI l i s0.dflt = l[i.toNat] := by simp [getI, hi]
    rw [hgi] at h5
    exact fin (leaves_rel s0 _ _ e2) (p := ⟨g, i.toNat * s0.sz, none⟩) (off := off) e3 (by rw [hv, ← addr_at g (i.toNat * s0.sz), addr_add, addr_at]) h5
  · rename_i s0 x0
    obtain ⟨y, hy, h3⟩ := ev_opt he
    have hx : RR (T.cf β N M0.L) (Mof M0 rs F) w (.pt s0) x0 [a.eval x] := hx
    rcases hx with ⟨h0, _⟩ | ⟨y', ad, ys, e1, e2, e3, e4⟩
    · rw [h0] at hy; cases hy
    · rw [e1] at hy
      obtain rfl := Option.some.inj hy
      exact fin (leaves_rel s0 y' ys e3) (p := ad) (off := 0) e4.now (by rw [add_zero']; exact (List.cons.inj e2).1) h3
theorem VR.rf1 {M : Nat → Prop} {k : RK} {x : Option Nat} {v : Value} (h : VR C ρ M w (.rf k x) v) : (x = none ∧ v = k.nil) ∨ ∃ n, x = some n ∧ n < C.N ∧ v = C.β n ∧ k.fits (C.β n) = true := by
  simp only [VR, SR, LR, RR, List.cons.injEq, and_true] at h
  exact h
theorem ok_fieldR (h : Rel (T.cf β N M0.L) M0 w0 sl rs ρ F a w) (hd : ∀ d, o.dst = some d → d < a.tmps.size) {t : TypeId} {x : Operand} {j : Nat} (hop : o.op = .fieldAddr t x j) {off : Nat} {ft : TypeId} {av : AV} (hfo : fieldOf P t j = some (off, ft)) (hst : ∃ st, TyOk P ft st) (hx : VR (T.cf β N M0.L) ρ (Mof M0 rs F) w av (a.eval x))
    (he : ev sl rs (fieldR T t off av) s r = some (out, s1, r1)) : Goal P T M0 w0 sl rs a w o out := by
  have hrun := fun ad => run_fieldAt (w := w) hst hfo ad
  unfold fieldR at he
  split at he <;> try (simp [ev] at he; done)
  · rename_i y
    split at he <;> try (simp [ev] at he; done)
    obtain ⟨b1, h2⟩ := ev_br he
    obtain ⟨lk, its, H, hr, h3⟩ := ev_reg h2
    obtain ⟨z, hz, h4⟩ := ev_opt h3
    obtain rfl := ret_out h4
    rcases VR.rf1 hx with ⟨rfl, _⟩ | ⟨n, rfl, hn, hv, _⟩
    · cases b1
    · obtain ⟨_, G, hnode⟩ := h.nodeAt hr (getBox_some hz)
      obtain ⟨b, cells, e1, _⟩ := hnode
      simp only [Option.getD_some] at e1 ⊢
      refine runs_value h hd (v := .pointer (some ⟨b, off, none⟩)) ?_ ⟨b, hn, e1, rfl⟩
      have hv : a.eval x = .pointer (some ⟨b, 0, none⟩) := hv.trans e1
      simp only [execOp, hop, hv, Sem.run_bind, hrun, addr_at]
      rfl
  · obtain rfl := ret_out he
    obtain ⟨b, hn, hb, hv⟩ := hx
    refine runs_value h hd (v := .pointer (some _)) (by simp only [execOp, hop, hv, Sem.run_bind, hrun]; rfl) ⟨b, hn, hb, ?_⟩
    rw [← addr_at, addr_add, addr_at]
  · obtain rfl := ret_out he
    obtain ⟨g, m, c, hn, hb, hv⟩ := hx
    refine runs_value h hd (v := .pointer (some _)) (by simp only [execOp, hop, hv, Sem.run_bind, hrun]; rfl) ⟨g, m, c, hn, hb, ?_⟩
    rw [← addr_at, addr_add, addr_at, Nat.add_assoc]
theorem ok_nilR (h : Rel (T.cf β N M0.L) M0 w0 sl rs ρ F a w) (hd : ∀ d, o.dst = some d → d < a.tmps.size) {x : Operand} (hop : o.op = .nilCheck x) {av : AV} (hx : VR (T.cf β N M0.L) ρ (Mof M0 rs F) w av (a.eval x))
    (he : ev sl rs (nilR av) s r = some (out, s1, r1)) : Goal P T M0 w0 sl rs a w o out := by
  unfold nilR at he
  split at he <;> try (simp [ev] at he; done)
  · rename_i y
    obtain ⟨b1, h2⟩ := ev_br he
    obtain rfl := ret_out h2
    rcases VR.rf1 hx with ⟨rfl, _⟩ | ⟨n, rfl, hn, hv, hfit⟩
    · cases b1
    · obtain ⟨p, hp⟩ := RK.fits_ptr hfit
      have hv' : a.eval x = .pointer (some p) := hv.trans hp
      exact runs_value h hd (v := a.eval x) (by simp [execOp, hop, hv']) hx
  · obtain rfl := ret_out he
    refine runs_value h hd (v := a.eval x) ?_ hx
    obtain ⟨b, _, _, e⟩ := hx
    simp [execOp, hop, e]
  · obtain rfl := ret_out he
    refine runs_value h hd (v := a.eval x) ?_ hx
    obtain ⟨g, m, c, _, _, e⟩ := hx
    simp [execOp, hop, e]
theorem mapSh_spec (hf : Fit P T) {t : TypeId} {ka va : Bool} {k v : Sh} (h : mapSh P T t = some ((ka, va), (k, v))) : ∃ kt et, P.underlying t = some (.map kt et) ∧ aggOf P kt = some ka ∧ aggOf P et = some va ∧ get T.shs kt = some k ∧ get T.shs et = some v ∧ KeyOk P kt ka k ∧ zeroForm P et va = true := by
  unfold mapSh at h
  split at h <;> try (cases h; done)
  rename_i kt et hu
  split at h <;> try (cases h; done)
  rename_i ka' va' k' v' h1 h2 h3 h4
  split at h <;> try (cases h; done)
  rename_i hb
  simp only [Option.some.injEq, Prod.mk.injEq] at h
  obtain ⟨⟨rfl, rfl⟩, rfl, rfl⟩ := h
  simp only [Bool.and_eq_true] at hb
  exact ⟨kt, et, hu, h1, h2, h3, h4, keyOk_of hf h1 h3 hb.1.1 hb.1.2, hb.2⟩
theorem All2.length_eq {α β : Type} {r : α → β → Prop} {l : List α} {m : List β} (h : All2 r l m) : l.length = m.length := by
  induction h with
  | nil => rfl
  | cons _ _ ih => simp [ih]
theorem ok_lenR (hf : Fit P T) (h : Rel (T.cf β N M0.L) M0 w0 sl rs ρ F a w) (hd : ∀ d, o.dst = some d → d < a.tmps.size) {c : Call} (hop : o.op = .call c) (hc : c.callee = .builtin .len) {x : Operand} {t : TypeId} {av : AV} (ha : c.args = #[x]) (ht : c.argTypes = #[t]) (hx : VR (T.cf β N M0.L) ρ (Mof M0 rs F) w av (a.eval x))
    (he : ev sl rs (lenR P T t av) s r = some (out, s1, r1)) : Goal P T M0 w0 sl rs a w o out := by
  have fin : ∀ (n : Nat) (A : Option Addr) (cp : Nat) (e : TypeId), a.eval x = .slice A n cp → elemOf' P t = some e → Goal P T M0 w0 sl rs a w o ⟨.int .i64 n, []⟩ := by
    intro n A cp e hv hel
    refine runs_value h hd (v := .int .i64 n) ?_ rfl
    simp [execOp, hop, resolve, hc, ha, ht, invoke, builtin, Builtin.len_, underlying, elemOf_spec hel, hv, goInt]
  unfold lenR at he
  split at he <;> try (simp [ev] at he; done)
  · rename_i y
    split at he <;> try (simp [ev] at he; done)
    rename_i ka va k v hm
    obtain ⟨kt, et, hu, _⟩ := mapSh_spec hf hm
    rcases VR.rf1 hx with ⟨rfl, hv⟩ | ⟨n, rfl, hn, hv, _⟩
    · rcases ev_br2 he with ⟨b, _⟩ | ⟨_, h2⟩
      · cases b
      · obtain rfl := ret_out h2
        have hv : a.eval x = .map none := hv
        refine runs_value h hd (v := .int .i64 0) ?_ rfl
        simp [execOp, hop, resolve, hc, ha, ht, invoke, builtin, Builtin.len_, underlying, hu, hv, goInt]
    · rcases ev_br2 he with ⟨_, h2⟩ | ⟨b, _⟩
      · obtain ⟨lk, its, H, hr, h3⟩ := ev_reg h2
        obtain ⟨l, hl, h4⟩ := ev_opt h3
        obtain rfl := ret_out h4
        obtain ⟨_, G, hnode⟩ := h.nodeAt hr (getMap_some hl)
        obtain ⟨b, es, clock, e1, _, e3, e4⟩ := hnode
        simp only [Option.getD_some] at e1
        have hv : a.eval x = .map (some b) := hv.trans e1
        have hlen : List.length (α := k.T × v.T) l = es.size := by obtain ⟨m, hp, e4⟩ := e4; rw [← hp.length_eq, e4.ents.length_eq, Array.length_toList]
        refine runs_value h hd (v := .int .i64 (List.length (α := k.T × v.T) l)) ?_ rfl
        rw [hlen]
        simp [execOp, hop, resolve, hc, ha, ht, invoke, builtin, Builtin.len_, underlying, hu, hv, goInt, MapKept.run_getObj_map e3]
      · cases b
  · rename_i y
    split at he <;> try (simp [ev] at he; done)
    rename_i e hel
    split at he <;> try (simp [ev] at he; done)
    rename_i s0 hs0
    rcases VR.rf1 hx with ⟨rfl, hv⟩ | ⟨n, rfl, hn, hv, _⟩
    · rcases ev_br2 he with ⟨b, _⟩ | ⟨_, h2⟩
      · cases b
      · obtain rfl := ret_out h2
        exact fin 0 none 0 e hv hel
    · rcases ev_br2 he with ⟨_, h2⟩ | ⟨b, _⟩
      · obtain ⟨lk, its, H, hr, h3⟩ := ev_reg h2
        obtain ⟨l, hl, h4⟩ := ev_opt h3
        obtain rfl := ret_out h4
        obtain ⟨_, G, hnode⟩ := h.nodeAt hr (getRow_some hl)
        obtain ⟨css, hown, _⟩ := hnode
        obtain ⟨A, cp, e1, _⟩ := own_slice hown
        simp only [Option.getD_some] at e1
        exact fin _ A cp e (hv.trans e1) hel
      · cases b
  · rename_i id n
    obtain ⟨q, h5, h6⟩ := ev_res he
    obtain ⟨A, m, cp, hρ, hv⟩ := hx
    split at h6 <;> try (simp [ev] at h6; done)
    all_goals
      split at h6 <;> try (simp [ev] at h6; done)
      rename_i e hel
      obtain ⟨_, h7⟩ := ev_br h6
      obtain rfl := ret_out h7
      exact fin _ A cp e hv hel
theorem ok_indexR (hf : Fit P T) (h : Rel (T.cf β N M0.L) M0 w0 sl rs ρ F a w) (hd : ∀ d, o.dst = some d → d < a.tmps.size) {t : TypeId} {x i : Operand} (hop : o.op = .indexAddr t x i) {e : TypeId} {se : Sh} {k : IntKind} {n : Int} {av : AV} (hel : elemOf' P t = some e) (hse : get T.shs e = some se) (hi : a.eval i = .int k n)
    (hx : VR (T.cf β N M0.L) ρ (Mof M0 rs F) w av (a.eval x)) (he : ev sl rs (indexR e se n av) s r = some (out, s1, r1)) : Goal P T M0 w0 sl rs a w o out := by
  have hrun : ∀ (ad : Addr) (m c : Nat), 0 ≤ n → n < m → a.eval x = .slice (some ad) m c → (execOp a.eval o).run P w = .ok (.value (.pointer (some (ad.add (n.toNat * se.sz))))) w := by
    intro ad m c h0 h1 hv
    simp only [execOp, hop, hv, hi, Sem.run_bind, run_indexAt hel (hf.tys.get hse) ad m c k n h0 h1]
    rfl
  unfold indexR at he
  split at he <;> try (simp [ev] at he; done)
  · rename_i y
    obtain ⟨b0, h2⟩ := ev_br he
    obtain ⟨lk, its, H, hr, h3⟩ := ev_reg h2
    obtain ⟨l, hl, h4⟩ := ev_opt h3
    obtain ⟨b1, h5⟩ := ev_br h4
    obtain ⟨b2, h6⟩ := ev_br h5
    obtain rfl := ret_out h6
    simp only [decide_eq_true_eq] at b1 b2
    rcases VR.rf1 hx with ⟨rfl, _⟩ | ⟨m, rfl, hm, hv, _⟩
    · cases b0
    · obtain ⟨_, G, hnode⟩ := h.nodeAt hr (getRow_some hl)
      obtain ⟨css, hown, _, hrr⟩ := hnode
      simp only [Option.getD_some] at hown ⊢
      obtain ⟨g, cap, cs, e1, _⟩ := row_at hown hrr (i := n.toNat) (by omega)
      refine runs_value h hd (v := .pointer (some ⟨g, n.toNat * se.sz, none⟩)) ?_ ⟨g, List.length l, cap, hm, e1, rfl⟩
      rw [hrun ⟨g, 0, none⟩ (List.length l) cap b1 b2 (hv.trans e1), addr_at]
  · rename_i id m
    obtain ⟨q, h5, h6⟩ := ev_res he
    obtain ⟨A, m', cp, hρ, hv⟩ := hx
    split at h6 <;> try (simp [ev] at h6; done)
    · rename_i e' s0 l
      split at h6 <;> try (simp [ev] at h6; done)
      rename_i hs
      obtain ⟨rfl, rfl⟩ := hs
      obtain ⟨b0, h7⟩ := ev_br h6
      obtain ⟨b1, h8⟩ := ev_br h7
      obtain ⟨b2, h9⟩ := ev_br h8
      obtain rfl := ret_out h9
      simp only [decide_eq_true_eq] at b0 b1 b2
      obtain ⟨css, hown, hF, hrr⟩ := h.res id _ h5
      obtain ⟨g, cap, cs, e1, _⟩ := row_at hown hrr (i := n.toNat) (by omega)
      rw [hρ] at e1
      obtain ⟨rfl, rfl, rfl⟩ : A = some ⟨g, 0, none⟩ ∧ m' = l.length ∧ cp = cap := by simpa using e1
      refine runs_value h hd (v := .pointer (some ⟨g, n.toNat * se.sz, none⟩)) ?_ ⟨g, l.length, cp, hρ, rfl⟩
      rw [hrun ⟨g, 0, none⟩ m cp b1 b2 hv, addr_at]
    · rename_i s0 l
      split at h6 <;> try (simp [ev] at h6; done)
      rename_i hs
      subst hs
      obtain ⟨b0, h7⟩ := ev_br h6
      obtain ⟨b1, h8⟩ := ev_br h7
      obtain ⟨b2, h9⟩ := ev_br h8
      obtain rfl := ret_out h9
      simp only [decide_eq_true_eq] at b0 b1 b2
      obtain ⟨⟨A', c', e1, e2, e3⟩, _⟩ := h.res id _ h5
      rw [hρ] at e1
      obtain ⟨rfl, rfl, rfl⟩ : A = A' ∧ m' = l.length ∧ cp = c' := by simpa using e1
      have hlt : n.toNat < l.length := by omega
      obtain ⟨ad, cs, rfl, f1, f2⟩ := e3.get hlt
      have hg : getI l n s0.dflt = l[n.toNat] := by simp [getI, hlt]
      refine runs_value h hd (v := .pointer (some (ad.add (n.toNat * s0.sz)))) (hrun ad m cp b1 b2 hv) ⟨ad.add (n.toNat * s0.sz), cs, rfl, ?_, f2⟩
      rw [hg]; exact f1
theorem run_sliceHead {t e : TypeId} {se : Sh} (hel : elemOf' P t = some e) (ht : TyOk P e se) (A : Option Addr) (n c : Nat) (hnc : n ≤ c) (lo : Option Value) (k : IntKind) (h : Int) (hl : lo = none ∨ ∃ k, lo = some (.int k 0)) (h0 : 0 ≤ h) (h2 : h ≤ c) :
    (Instr.sliceAt t (.slice A n c) lo (some (.int k h)) none).run P w = .ok (.slice A h.toNat c) w := by
  obtain ⟨ti, z, hi', hsz, _⟩ := ht.info
  have hm : max h 0 = h := by omega
  have hn : ¬ h < 0 := by omega
  have hA : (if c = 0 then A else A.map (·.add (0 * se.sz))) = A := by
    split
    · rfl
    · cases A <;> simp [add_zero']
  rcases hl with rfl | ⟨k', rfl⟩
  · simp [hm, Instr.sliceAt, underlying, elemOf_spec hel, Instr.slice, Instr.sliceBounds, Instr.sliceBound, asIntOf, h0, h2, sizeOf, typeInfo, hi', hsz]
    intro _; cases A <;> simp [add_zero']
  · simp [hm, Instr.sliceAt, underlying, elemOf_spec hel, Instr.slice, Instr.sliceBounds, Instr.sliceBound, asIntOf, h0, h2, sizeOf, typeInfo, hi', hsz]
    intro _; cases A <;> simp [add_zero']
theorem ok_subR (hf : Fit P T) (h : Rel (T.cf β N M0.L) M0 w0 sl rs ρ F a w) (hd : ∀ d, o.dst = some d → d < a.tmps.size) {t : TypeId} {x : Operand} {lo hi : Option Operand} (hop : o.op = .slice t x lo hi none) {e : TypeId} {se : Sh} {l : Int} {h' : Operand} {hh : Int} {kh : IntKind} {av : AV} (hel : elemOf' P t = some e) (hse : get T.shs e = some se)
    (hlo : (lo.map a.eval = none ∧ l = 0) ∨ ∃ k, lo.map a.eval = some (.int k l)) (hhi : hi = some h') (hhv : a.eval h' = .int kh hh) (hx : VR (T.cf β N M0.L) ρ (Mof M0 rs F) w av (a.eval x)) (he : ev sl rs (subR se l (some hh) av) s r = some (out, s1, r1)) : Goal P T M0 w0 sl rs a w o out := by
  have fin : ∀ (id : Nat) (A : Option Addr) (n n0 cp : Nat), n ≤ cp → l = 0 → 0 ≤ hh → hh ≤ cp → a.eval x = .slice A n cp → ρ id = .slice A n0 cp → Goal P T M0 w0 sl rs a w o ⟨.sub id hh.toNat, []⟩ := by
    intro id A n n0 cp hnc h0 h1 h2 hv hρ
    refine runs_value h hd (v := .slice A hh.toNat cp) ?_ ⟨A, n0, cp, hρ, rfl⟩
    have hrun := run_sliceHead (w := w) hel (hf.tys.get hse) A n cp hnc (lo.map a.eval) kh hh (hlo.imp (·.1) fun ⟨k, e⟩ => ⟨k, by rw [e, h0]⟩) h1 h2
    simp only [execOp, hop, hhi, hv, Sem.run_bind, Option.map_none, Option.map_some, hhv, hrun]
    rfl
  unfold subR at he
  split at he <;> try (simp [ev] at he; done)
  · rename_i id
    obtain ⟨q, h5, h6⟩ := ev_res he
    have hv : a.eval x = ρ id := hx
    split at h6 <;> try (simp [ev] at h6; done)
    · rename_i e' s0 l0
      simp only at h6
      split at h6 <;> try (simp [ev] at h6; done)
      obtain ⟨b0, h7⟩ := ev_br h6
      obtain ⟨b1, h8⟩ := ev_br h7
      obtain ⟨b2, h9⟩ := ev_br h8
      obtain rfl := ret_out h9
      simp only [decide_eq_true_eq] at b0 b1 b2
      obtain ⟨css, hown, _⟩ := h.res id _ h5
      obtain ⟨A, cp, e1, e2⟩ := own_slice hown
      exact fin id A l0.length l0.length cp e2 b0 b1 (by omega) (hv.trans e1) e1
    · rename_i s0 l0
      simp only at h6
      split at h6 <;> try (simp [ev] at h6; done)
      obtain ⟨b0, h7⟩ := ev_br h6
      obtain ⟨b1, h8⟩ := ev_br h7
      obtain ⟨b2, h9⟩ := ev_br h8
      obtain rfl := ret_out h9
      simp only [decide_eq_true_eq] at b0 b1 b2
      obtain ⟨⟨A, cp, e1, e2, _⟩, _⟩ := h.res id _ h5
      exact fin id A l0.length l0.length cp e2 b0 b1 (by omega) (hv.trans e1) e1
  · rename_i id n
    obtain ⟨q, h5, h6⟩ := ev_res he
    obtain ⟨A, m', cp, hρ, hv⟩ := hx
    split at h6 <;> try (simp [ev] at h6; done)
    · rename_i e' s0 l0
      simp only at h6
      split at h6 <;> try (simp [ev] at h6; done)
      obtain ⟨b0, h7⟩ := ev_br h6
      obtain ⟨b1, h8⟩ := ev_br h7
      obtain ⟨b2, h9⟩ := ev_br h8
      obtain ⟨b3, h10⟩ := ev_br h9
      obtain rfl := ret_out h10
      simp only [decide_eq_true_eq] at b0 b1 b2 b3
      obtain ⟨css, hown, _⟩ := h.res id _ h5
      obtain ⟨A', cp', e1, e2⟩ := own_slice hown
      rw [hρ] at e1
      obtain ⟨rfl, rfl, rfl⟩ : A = A' ∧ m' = l0.length ∧ cp = cp' := by simpa using e1
      exact fin id A n l0.length cp (by omega) b0 b1 (by omega) hv hρ
    · rename_i s0 l0
      simp only at h6
      split at h6 <;> try (simp [ev] at h6; done)
      obtain ⟨b0, h7⟩ := ev_br h6
      obtain ⟨b1, h8⟩ := ev_br h7
      obtain ⟨b2, h9⟩ := ev_br h8
      obtain ⟨b3, h10⟩ := ev_br h9
      obtain rfl := ret_out h10
      simp only [decide_eq_true_eq] at b0 b1 b2 b3
      obtain ⟨⟨A', cp', e1, e2, _⟩, _⟩ := h.res id _ h5
      rw [hρ] at e1
      obtain ⟨rfl, rfl, rfl⟩ : A = A' ∧ m' = l0.length ∧ cp = cp' := by simpa using e1
      exact fin id A n l0.length cp (by omega) b0 b1 (by omega) hv hρ
end
end Go.Pev
/- The pure evaluator, part Oh: the region is written: new things, stores, rows that grow. Own text, over any program. -/
namespace Go.Pev
open Go.ChangeMaps (setBlock)
section
variable {P : Program} {T : Tabs} {C : Cfg} {M0 : Base} {β : Nat → Value} {N : Nat} {w0 : World} {sl : Nat → Option AV} {rs : Nat → Option RS} {ρ : Nat → Value} {F : Nat → Nat → Prop} {a : Act} {w : World} {o : Oper} {out : Out} {s r s1 r1 : List Nat}
theorem freeze_reg {ws : Ws} (hz : FreezeWs rs ws) {lk : List Nat} {its : List (Nat × It)} {H : List Node} (hr : rs REG = some (.reg lk its H)) : updR rs ws REG = some (.reg lk its H) := by
  have : get ws REG = none := by
    cases hg : get ws REG with
    | none => rfl
    | some q => obtain ⟨e, s, l, h1, _⟩ := hz REG q hg; rw [hr] at h1; cases h1
  simp only [updR, this, hr]
theorem fresh_reg {d : Nat} (hf : Fresh sl rs d) {lk : List Nat} {its its' : List (Nat × It)} {H H' : List Node} (hr : rs REG = some (.reg lk its H)) (hs : ∀ p ∈ its', p ∈ its) : Fresh sl (updR rs [(REG, some (.reg lk its' H'))]) d := by
  refine ⟨hf.slots, fun id st hst => ?_, hf.ne⟩
  rw [updR_single] at hst
  split at hst
  · obtain rfl := Option.some.inj hst
    have := hf.res REG _ hr
    simp only [RS.ment, List.any_eq_false] at this ⊢
    exact fun p hp => this p (hs p hp)
  · exact hf.res id st hst
theorem Rel.grow (h : Rel (T.cf β N M0.L) M0 w0 sl rs ρ F a w) (hd : ∀ d, o.dst = some d → d < a.tmps.size) {lk : List Nat} {its : List (Nat × It)} {H : List Node} (hr : rs REG = some (.reg lk its H)) (kill : Option Nat) (hkw : ∀ n, kill = some n → (n < H.length ∧ ∀ b, β n ≠ .map (some b)) ∧ wrOk lk its n = true ∧ ∀ p ∈ its, itNode p.2 ≠ some n)
    {v : Value} (hv : v.oneCell' = true) {k : RK} (hfit : k.fits v = true) {X Gn : Nat → Prop} {x' : Node} {w' : World} (hk : KeepS X w w')
    (hX : ∀ G, RegG (T.cf β N M0.L) ρ (Mof M0 rs F) w (F REG) G lk its H → (∀ k, X k → ∃ n, kill = some n ∧ G n k) ∧ (∀ k, Gn k → (∃ n, kill = some n ∧ G n k) ∨ (w.heap.size ≤ k ∧ k < w'.heap.size)) ∧
      ∀ M', (∀ k, M' k → k < w.heap.size → Mof M0 rs F k) → NodeR ((T.cf β N M0.L).more v) M' w' v Gn x') (ws : Ws) :
    RelE T M0 w0 (updS sl o.dst (.rf k (some H.length))) (updR rs [(REG, some (.reg lk its ((match kill with | some n => H.set n .gone | none => H) ++ [x'])))]) (a.put o.dst v) w' := by
  have hN : H.length = N := by obtain ⟨_, G, hG⟩ := h.res REG _ hr; exact hG.len
  obtain ⟨F', hrel⟩ := h.regNew hr kill hkw hv hk hX
  refine ⟨ρ, F', (fun i => if i = N then v else β i), N + 1, Rel.put hrel o.dst hd (.rf k (some H.length)) v ?_⟩
  show RR ((T.cf β N M0.L).more v) (fun _ => False) w' (.rf k) (some H.length) [v]
  refine .inr ⟨H.length, rfl, by rw [hN]; exact Nat.lt_succ_self N, ?_, ?_⟩
  · rw [hN]; exact congrArg (fun x => [x]) (Cfg.more_new (T.cf β N M0.L) v).symm
  · rw [hN]; exact (congrArg k.fits (Cfg.more_new (T.cf β N M0.L) v)).trans hfit
theorem node_box {v : Value} {M : Nat → Prop} {t : TypeId} {sh : Sh} {x : sh.T} {cs : List Value} (h : RR (C.more v) M (w.alloc (.cells cs.toArray t)) sh x cs) (hv : v = .pointer (some ⟨w.heap.size, 0, none⟩)) : NodeR (C.more v) M (w.alloc (.cells cs.toArray t)) v (fun k => k = w.heap.size) (.box t sh x) :=
  ⟨w.heap.size, cs.toArray, hv, fun _ => Iff.rfl, heap_alloc_new w _, h⟩
theorem ok_allocR (hf : Fit P T) (h : Rel (T.cf β N M0.L) M0 w0 sl rs ρ F a w) (hd : ∀ d, o.dst = some d → d < a.tmps.size) {t : TypeId} (hop : o.op = .alloc t) (hob : T.objs.any (Nat.beq t) = true) (he : ev sl rs (step P T o) s r = some (out, s1, r1)) : Goal P T M0 w0 sl rs a w o out := by
  simp only [step, hop, hob] at he
  split at he <;> try (simp [ev] at he; done)
  rename_i st hst
  obtain ⟨lk, its, H, hr, h2⟩ := ev_reg he
  have := ev_ret h2
  simp only [Prod.mk.injEq] at this
  obtain ⟨rfl, _, _⟩ := this
  obtain ⟨i, z, hi, hsz, hz, hzc⟩ := (hf.tys.get hst).info
  refine .inl ⟨.pointer (some ⟨w.heap.size, 0, none⟩), w.alloc (.cells (zeroCells st).toArray t), ?_, ?_⟩
  · simp [execOp, hop, Instr.alloc, zeroValue, typeInfo, hi, hz, newVar, newRow, hzc]
  · refine h.grow hd hr none (fun n e => by cases e) rfl rfl (X := fun _ => False) (Gn := fun k => k = w.heap.size) (KeepS.alloc w _) (fun G hG => ⟨fun k f => f.elim, fun k hk => .inr (by subst hk; simp), fun M' _ => node_box (dflt_rel st) rfl⟩) []
theorem valAV_ok (h : Rel (T.cf β N M0.L) M0 w0 sl rs ρ F a w) {ag : Bool} {sh : Sh} {x : AV} {y : sh.T} {ws : Ws} {s r s1 r1 : List Nat} {v : Value} (he : ev sl rs (valAV ag sh x) s r = some ((y, ws), s1, r1)) (hx : VR (T.cf β N M0.L) ρ (Mof M0 rs F) w x v) :
    FreezeWs rs ws ∧ ValR (T.cf β N M0.L) (Mof M0 (updR rs ws) (fzF F ws)) w ag sh y v ∧ ∃ cs : List Value, v.cells = cs.toArray ∧ RR (T.cf β N M0.L) (Mof M0 (updR rs ws) (fzF F ws)) w sh y cs := by
  unfold valAV at he
  split at he
  · rename_i l
    obtain ⟨⟨l', ws'⟩, s2, r2, h1, h2⟩ := ev_bind _ _ _ _ _ he
    obtain ⟨y', s3, r3, h3, h4⟩ := ev_bind _ _ _ _ _ h2
    have := ev_ret h4
    simp only [Prod.mk.injEq] at this
    obtain ⟨⟨rfl, rfl⟩, _, _⟩ := this
    obtain ⟨y2, e1, e2⟩ := ev_ofO h3
    simp only [Prod.mk.injEq] at e2
    obtain ⟨rfl, _, _⟩ := e2
    obtain ⟨cs, rfl, hl⟩ := hx.ag
    obtain ⟨z1, f1⟩ := dataLs_ok h h1 hl
    have hr := ofLeaves_rep sh l' _ cs e1 (f1 ws z1 fun id q hq => by simp [hq])
    exact ⟨z1, ⟨cs, rfl, hr⟩, cs, rfl, hr⟩
  · split at he <;> try (simp [ev] at he; done)
    rename_i hok
    obtain ⟨⟨l', ws'⟩, s2, r2, h1, h2⟩ := ev_bind _ _ _ _ _ he
    obtain ⟨y', s3, r3, h3, h4⟩ := ev_bind _ _ _ _ _ h2
    have := ev_ret h4
    simp only [Prod.mk.injEq] at this
    obtain ⟨⟨rfl, rfl⟩, _, _⟩ := this
    obtain ⟨y2, e1, e2⟩ := ev_ofO h3
    simp only [Prod.mk.injEq] at e2
    obtain ⟨rfl, _, _⟩ := e2
    have hl := hx.toLR hok
    obtain ⟨z1, f1⟩ := dataL_ok h h1 hl
    have hr := ofLeaves_rep sh [l'] _ [v] e1 (.cons (f1 ws z1 fun id q hq => by simp [hq]) .nil)
    exact ⟨z1, hr, [v], cells_one (hl.one hok h.bone fun id _ => h.one id), hr⟩
  · simp [ev] at he
theorem ok_boxR (h : Rel (T.cf β N M0.L) M0 w0 sl rs ρ F a w) (hd : ∀ d, o.dst = some d → d < a.tmps.size) {t : TypeId} {x : Operand} (hop : o.op = .box t x) (hob : T.objs.any (Nat.beq t) = true) (he : ev sl rs (step P T o) s r = some (out, s1, r1)) : Goal P T M0 w0 sl rs a w o out := by
  simp only [step, hop, hob] at he
  obtain ⟨v, s2, r2, h1, h2⟩ := ev_bind _ _ _ _ _ he
  have hx := opd_rel h h1
  split at h2 <;> try (simp [ev] at h2; done)
  rename_i st ag hst hag
  obtain ⟨⟨y, ws⟩, s3, r3, h3, h4⟩ := ev_bind _ _ _ _ _ h2
  obtain ⟨lk, its, H, hr, h5⟩ := ev_reg h4
  have := ev_ret h5
  simp only [Prod.mk.injEq] at this
  obtain ⟨rfl, _, _⟩ := this
  obtain ⟨hz, _, cs, hc, hrr⟩ := valAV_ok h h3 hx
  refine .inl ⟨.pointer (some ⟨w.heap.size, 0, none⟩), w.alloc (.cells cs.toArray t), ?_, ?_⟩
  · simp [execOp, hop, Instr.box, newVar, newRow, hc]
  · have := (h.freeze hz).grow (o := o) hd (freeze_reg hz hr) none (fun n e => by cases e) (v := .pointer (some ⟨w.heap.size, 0, none⟩)) rfl (k := .ptr) rfl (X := fun _ => False) (Gn := fun k => k = w.heap.size) (x' := .box t st y) (KeepS.alloc w (.cells cs.toArray t)) (fun G hG => ⟨fun k f => f.elim, fun k hk => .inr (by subst hk; simp), fun M' hs => ?_⟩) []
    · rw [updR_cons] at this; exact this
    · refine node_box (RR.step (KeepS.alloc w _ |>.mono fun _ _ f => f.elim) hs st y cs ?_) rfl
      exact RR.ext (Cfg.more_ext _ _) st y cs hrr
theorem ofAV_ok (h : Rel (T.cf β N M0.L) M0 w0 sl rs ρ F a w) {ag : Bool} {sh : Sh} {x : AV} {y : sh.T} {v : Value} (he : ofAV ag sh x = some y) (hx : VR (T.cf β N M0.L) ρ (Mof M0 rs F) w x v) :
    ∃ cs : List Value, v.cells = cs.toArray ∧ RR (T.cf β N M0.L) (Mof M0 rs F) w sh y cs := by
  unfold ofAV at he
  split at he <;> try (cases he; done)
  · obtain ⟨cs, rfl, hl⟩ := hx.ag
    exact ⟨cs, rfl, ofLeaves_rep sh _ _ cs he hl⟩
  · split at he <;> try (cases he; done)
    rename_i hok
    have hl := hx.toLR hok
    exact ⟨[v], cells_one (hl.one hok h.bone fun id _ => h.one id), ofLeaves_rep sh _ _ [v] he (.cons hl .nil)⟩
theorem ok_boxC (h : Rel (T.cf β N M0.L) M0 w0 sl rs ρ F a w) (hd : ∀ d, o.dst = some d → d < a.tmps.size) {t : TypeId} {x : Operand} (hop : o.op = .box t x) (hob : T.objs.any (Nat.beq t) = false) (hcb : T.caps.any (Nat.beq t) = true) (he : ev sl rs (step P T o) s r = some (out, s1, r1)) : Goal P T M0 w0 sl rs a w o out := by
  simp only [step, hop, hob, hcb] at he
  obtain ⟨v, s2, r2, h1, h2⟩ := ev_bind _ _ _ _ _ he
  have hx := opd_rel h h1
  split at h2 <;> try (simp [ev] at h2; done)
  rename_i st ag hst hag
  obtain ⟨y, s3, r3, h3, h4⟩ := ev_bind _ _ _ _ _ h2
  obtain ⟨y', e1, e2⟩ := ev_ofO h3
  simp only [Prod.mk.injEq] at e2
  obtain ⟨rfl, _, _⟩ := e2
  obtain rfl := ret_out h4
  obtain ⟨cs, hc, hrr⟩ := ofAV_ok h e1 hx
  have hk := KeepS.alloc w (.cells cs.toArray t)
  have base : Rel (T.cf β N M0.L) M0 w0 sl rs ρ F a (w.alloc (.cells cs.toArray t)) :=
    h.upd (fun _ => False) hk (fun _ g => g.elim) (fun id _ => ⟨rfl, rfl⟩) (fun _ _ _ _ _ => rfl) (fun _ _ _ _ => ⟨rfl, fun _ _ => rfl⟩) (fun _ _ _ _ _ _ g => g) (fun _ _ f _ => f.elim) (fun id => h.one id) ⟨fun h => ⟨h, rfl⟩, fun lk its H h => ⟨its, H, h⟩⟩
  refine .inl ⟨.pointer (some ⟨w.heap.size, 0, none⟩), w.alloc (.cells cs.toArray t), ?_, ρ, F, β, N, ?_⟩
  · simp [execOp, hop, Instr.box, newVar, newRow, hc]
  rw [updR_nil]
  refine base.put o.dst hd _ _ (.inr ⟨y, ⟨w.heap.size, 0, none⟩, cs, rfl, rfl, ?_, ?_⟩)
  · exact RR.step (hk.mono fun _ _ f => f.elim) (fun _ g _ => g) st y cs hrr
  · intro w2 h2 j u hj
    have hsz : w.heap.size < (w.alloc (.cells cs.toArray t)).heap.size := by simp
    have hM : ¬ Mof M0 rs F w.heap.size := fun g => by
      rcases g with g | ⟨id, stt, hs, hF⟩
      · exact Nat.lt_irrefl _ (Nat.lt_of_lt_of_le (h.m0 _ g).1 h.keep.size)
      · exact Nat.lt_irrefl _ (h.rng id stt _ hs hF).2
    have hb := h2.block _ hsz hM
    rw [addr_at]
    simp only [World.cell?, hb, blk_alloc_new' w, Option.isSome_none, Bool.false_eq_true, if_false]
    simpa using hj
theorem ok_makeMap (h : Rel (T.cf β N M0.L) M0 w0 sl rs ρ F a w) (hd : ∀ d, o.dst = some d → d < a.tmps.size) {t : TypeId} (hop : o.op = .makeMap t none) (he : ev sl rs (step P T o) s r = some (out, s1, r1)) : Goal P T M0 w0 sl rs a w o out := by
  simp only [step, hop] at he
  split at he <;> try (simp [ev] at he; done)
  rename_i ka va k v hm
  obtain ⟨lk, its, H, hr, h2⟩ := ev_reg he
  have := ev_ret h2
  simp only [Prod.mk.injEq] at this
  obtain ⟨rfl, _, _⟩ := this
  refine .inl ⟨.map (some w.heap.size), w.alloc (.map #[] 0), ?_, ?_⟩
  · simp [execOp, hop, Instr.makeMap]
  · refine h.grow hd hr none (fun n e => by cases e) rfl rfl (X := fun _ => False) (Gn := fun k => k = w.heap.size) (KeepS.alloc w _) (fun G hG => ⟨fun k f => f.elim, fun k hk => .inr (by subst hk; simp), fun M' _ => ⟨w.heap.size, #[], 0, rfl, fun _ => Iff.rfl, heap_alloc_new w _, ?_⟩⟩) []
    exact ⟨[], List.Perm.refl _, .nil, .nil, fun e he => by simp at he, by simp⟩
theorem ok_storeR (hf : Fit P T) (h : Rel (T.cf β N M0.L) M0 w0 sl rs ρ F a w) (hd : ∀ d, o.dst = some d → d < a.tmps.size) {t : TypeId} {x y : Operand} (hop : o.op = .store t x y) {st : Sh} {av : AV} {l : List AV} {vs : List Value} (hst : get T.shs t = some st) (hx : VR (T.cf β N M0.L) ρ (Mof M0 rs F) w av (a.eval x))
    (hcv : (a.eval y).cells = vs.toArray) (hl : All2 (LR (T.cf β N M0.L) ρ (Mof M0 rs F) w) l vs) (hlen : l.length = st.sz) (hok : l.all okLeaf = true) (he : ev sl rs (storeR T av l) s r = some (out, s1, r1)) : Goal P T M0 w0 sl rs a w o out := by
  have hty := hf.tys.get hst
  have hok' := List.all_eq_true.1 hok
  have hll := hl.length
  unfold storeR at he
  split at he <;> try (simp [ev] at he; done)
  rename_i u n off
  split at he <;> try (simp [ev] at he; done)
  rename_i su hsu
  obtain ⟨lk, its, H, hr, h2⟩ := ev_reg he
  obtain ⟨hw, h3⟩ := ev_br h2
  obtain ⟨y0, hy, h4⟩ := ev_opt h3
  obtain ⟨⟨v', ws⟩, s5, r5, h5, h6⟩ := ev_bind _ _ _ _ _ h4
  simp only at h6
  split at h6 <;> try (simp [ev] at h6; done)
  rename_i hfit
  split at h6 <;> try (simp [ev] at h6; done)
  rename_i z hz0
  have := ev_ret h6
  simp only [Prod.mk.injEq] at this
  obtain ⟨rfl, _, _⟩ := this
  obtain ⟨z1, f1⟩ := dataLs_ok h h5 hl
  have hl' := f1 ws z1 (fun id q hq => by simp [hq])
  obtain ⟨hlen', hok2⟩ := dataLs_one h5 hok'
  have hfz := h.freeze z1
  have hr' := freeze_reg z1 hr
  obtain ⟨b, hn, hb, hv⟩ : ∃ b, n < N ∧ β n = .pointer (some ⟨b, 0, none⟩) ∧ a.eval x = .pointer (some ⟨b, off, none⟩) := hx
  obtain ⟨_, G0, hG0⟩ := hfz.res REG _ hr'
  have hnode := hG0.node n _ (getBox_some hy)
  obtain ⟨b', cells, e1, e2, e3, e4⟩ := hnode
  have e1' : β n = .pointer (some ⟨b', 0, none⟩) := e1
  rw [hb] at e1'
  obtain rfl : b = b' := by simpa using e1'
  have hcl := RR.len su y0 _ e4
  have hrun := run_store (w := w) hty e3 hcv (by omega) (by simp at hcl; omega) (LRs.one h.one h.bone hl hok') (off := off)
  refine .inr (.inl ⟨w.setRow b (cells.toList.take off ++ vs ++ cells.toList.drop (off + vs.length)).toArray, ?_, ρ, fzF F ws, β, N, ?_⟩)
  · simp only [execOp, hop, hv, Sem.run_bind, hrun]
    rfl
  · have hk := KeepS.setRow w b (cells.toList.take off ++ vs ++ cells.toList.drop (off + vs.length)).toArray
    have hnl : n < H.length := (List.getElem?_eq_some_iff.1 (getBox_some hy)).1
    have hrel := hfz.regWrite hr' (x' := .box u su z) hnl hw hk (fun G hG => by
      obtain ⟨b2, cells2, q1, q2, q3, q4⟩ := hG.node n _ (getBox_some hy)
      have q1' : β n = .pointer (some ⟨b2, 0, none⟩) := q1
      rw [hb] at q1'
      obtain rfl : b = b2 := by simpa using q1'
      rw [e3] at q3
      obtain rfl : cells = cells2 := by simpa using q3
      refine ⟨fun k hk => (q2 k).2 hk, fun M' hs => ⟨b, _, hb, q2, setRow_heap w b cells _ u _ e3, ?_⟩⟩
      refine RR.step (hk.mono fun i _ g => ?_) hs su z _ (ofLeaves_rep su _ z _ hz0 (splice_rel (leaves_rel su y0 _ q4) hl' off))
      subst g
      exact .inr ⟨REG, _, hr', (hG.fp i).2 (.inl ⟨n, (q2 i).2 rfl⟩)⟩)
    rw [updR_cons] at hrel
    exact hrel.undef hd
theorem append_run (hf : Fit P T) (h : Rel (T.cf β N M0.L) M0 w0 sl rs ρ F a w) {t e ty : TypeId} {st : Sh} (hel : elemOf' P t = some e) (hby : bytesOf' P e ≠ 0) (hst : get T.shs e = some st) {ux uy : Value} {xs ys : List st.T} {cssx cssy : List (List Value)} {A : Option Addr} {cy : Nat}
    (hyv : uy = .slice A ys.length cy) (hyr : All2 (RR (T.cf β N M0.L) (Mof M0 rs F) w st) ys cssy) (hyn : A = none → ys = []) (hyc : ∀ ad, A = some ad → ∀ (j : Nat) (u : Value), cssy.flatten[j]? = some u → w.cell? (ad.add j) = some u)
    (hown : w.ownsRow 0 e st.sz ux xs.length cssx.flatten) (hlim : (xs.length + ys.length) * bytesOf' P e ≤ 140737488355328) :
    ∃ v' w', (Builtin.append_ #[t, t] ty #[ux, uy]).run P w = .ok v' w' ∧ w'.ownsRow 0 e st.sz v' (xs.length + ys.length) (cssx.flatten ++ cssy.flatten) ∧ w.grownBy w' ux.ownBlock ∧
        (v'.ownBlock = ux.ownBlock ∨ v'.ownBlock = some w.heap.size) ∧ (v'.ownBlock = some w.heap.size → w.heap.size < w'.heap.size ∨ v'.ownBlock = ux.ownBlock) := by
  obtain ⟨ti, z, hi, hsz, hz, hzc⟩ := (hf.tys.get hst).info
  have hbts : bytesOf' P e = ti.bytes := by simp [bytesOf', hi]
  have hcl : ∀ c ∈ cssy, c.length = st.sz := fun c hc => by
    obtain ⟨x, _, hx⟩ := hyr.mem_right c hc
    exact RR.len st x c hx
  cases A with
  | none =>
    have hn := hyn rfl
    subst hn
    cases hyr
    refine ⟨ux, w, ?_, by simpa using hown, ⟨rfl, rfl, rfl, Nat.le_refl _, fun _ _ _ => rfl⟩, .inl rfl, fun _ => .inr rfl⟩
    rw [hyv]
    exact run_append_none t ty e ti (elemOf_spec hel) hi hown cy
  | some ad =>
    have hb1 : xs.length + ys.length ≤ (xs.length + ys.length) * bytesOf' P e := Nat.le_mul_of_pos_right _ (Nat.pos_of_ne_zero hby)
    obtain ⟨v', w', q1, q2, q3, q4, q5⟩ := run_append_own_at (P := P) w 0 t ty e ti z st.sz ti.bytes (elemOf_spec hel) hi hz hsz rfl (by rw [hzc]; simp [zeroCells_len]) st.sz_pos ux xs.length cssx.flatten hown
      ad ys.length cy cssy.flatten (by rw [flatten_length hcl, hyr.length]) (hyc ad rfl) (fun u hu => by
        obtain ⟨cs, hcs, huc⟩ := List.mem_flatten.1 hu
        obtain ⟨x, _, hx⟩ := hyr.mem_right cs hcs
        exact hx.one h.bone u huc) (by simp only [maxLen]; omega) (by rw [← hbts]; exact hlim) (Nat.zero_le _)
    refine ⟨v', w', by rw [hyv]; exact q1, q2, q3, q5, fun hb => ?_⟩
    left
    have := World.ownsRow.lt q2 _ hb
    exact this.2
theorem ok_appendR (hf : Fit P T) (h : Rel (T.cf β N M0.L) M0 w0 sl rs ρ F a w) (hd : ∀ d, o.dst = some d → d < a.tmps.size) {c : Call} (hop : o.op = .call c) (hc : c.callee = .builtin .append) {x y : Operand} {t e : TypeId} {st : Sh} {av bv : AV} (ha : c.args = #[x, y]) (ht : c.argTypes = #[t, t]) (hel : elemOf' P t = some e) (hby : bytesOf' P e ≠ 0) (hst : get T.shs e = some st)
    (hx : VR (T.cf β N M0.L) ρ (Mof M0 rs F) w av (a.eval x)) (hy : VR (T.cf β N M0.L) ρ (Mof M0 rs F) w bv (a.eval y)) (he : ev sl rs (appendR P e st bv av) s r = some (out, s1, r1)) : Goal P T M0 w0 sl rs a w o out := by
  unfold appendR at he
  split at he <;> try (simp [ev] at he; done)
  rename_i q
  obtain ⟨ys, s2, r2, h2, h3⟩ := ev_bind _ _ _ _ _ he
  obtain ⟨lk, its, H, hr, h4⟩ := ev_reg h3
  obtain ⟨A, cy, cssy, hyv, hyr, hyn, hyc⟩ := appSrc_ok h hy h2
  have hexec : ∀ {v' : Value} {w' : World}, (Builtin.append_ #[t, t] o.type #[a.eval x, a.eval y]).run P w = .ok v' w' → (execOp a.eval o).run P w = .ok (.value v') w' := fun q1 => by
    simp only [execOp, hop, resolve, hc, ha, ht, invoke, builtin, Sem.run_bind, Sem.run_pure, Result.andThen_ok, List.map_toArray, List.map_cons, List.map_nil, q1]
  have node : ∀ {xs : List st.T} {cssx : List (List Value)} {v' : Value} {w' : World} {X M' : Nat → Prop}, All2 (RR (T.cf β N M0.L) (Mof M0 rs F) w st) xs cssx → w'.ownsRow 0 e st.sz v' (xs.length + ys.length) (cssx.flatten ++ cssy.flatten) → KeepS X w w' → (∀ k, X k → Mof M0 rs F k) → (∀ k, M' k → k < w.heap.size → Mof M0 rs F k) →
      NodeR ((T.cf β N M0.L).more v') M' w' v' (fun k => v'.ownBlock = some k) (.row e st (xs ++ ys)) := by
    intro xs cssx v' w' X M' hxr hown hk hX hs
    refine ⟨cssx ++ cssy, by rw [List.flatten_append, List.length_append]; exact hown, fun _ => Iff.rfl, (hxr.append hyr).imp fun z cs hz => ?_⟩
    exact RR.step (hk.mono fun i _ g => hX i g) hs st z cs (RR.ext (Cfg.more_ext _ _) st z cs hz)
  have fits : ∀ {v' : Value} {n : Nat} {cs : List Value} {w' : World}, w'.ownsRow 0 e st.sz v' n cs → RK.sli.fits v' = true := fun hown => by
    obtain ⟨A, c, rfl, _⟩ := own_slice hown
    rfl
  rcases VR.rf1 hx with ⟨rfl, hv⟩ | ⟨n, rfl, hn, hv, _⟩
  · rcases ev_br2 h4 with ⟨b, _⟩ | ⟨_, h5⟩
    · cases b
    · obtain ⟨b1, h6⟩ := ev_br h5
      have := ev_ret h6
      simp only [Prod.mk.injEq] at this
      obtain ⟨rfl, _, _⟩ := this
      have hv : a.eval x = .slice none 0 0 := hv
      obtain ⟨v', w', q1, q2, q3, q4, q5⟩ := append_run hf h (ty := o.type) hel hby hst (ux := a.eval x) (xs := []) (cssx := []) hyv hyr hyn hyc (by rw [hv]; exact World.ownsRow_nil w 0 e st.sz) (by simp only [appLim, decide_eq_true_eq] at b1; simpa using b1)
      have hk := KeepS.of_grown q3
      rw [hv] at hk q4 q5
      refine .inl ⟨v', w', hexec q1, h.grow hd hr none (fun n e => by cases e) (ownsRow_one q2) (fits q2) hk (Gn := fun k => v'.ownBlock = some k) (fun G hG => ⟨fun k f => (by cases f), fun k hk => ?_, fun M' hs => ?_⟩) []⟩
      · rcases q4 with q4 | q4
        · rw [q4] at hk; cases hk
        · rcases q5 q4 with q5 | q5
          · rw [q4] at hk
            obtain rfl := Option.some.inj hk
            exact .inr ⟨Nat.le_refl _, q5⟩
          · rw [q5] at hk; cases hk
      · exact node .nil q2 hk (fun k f => (by cases f)) hs
  · rcases ev_br2 h4 with ⟨_, h5⟩ | ⟨b, _⟩
    · obtain ⟨hw, h6⟩ := ev_br h5
      obtain ⟨xs, hxs, h7⟩ := ev_opt h6
      obtain ⟨b1, h8⟩ := ev_br h7
      have := ev_ret h8
      simp only [Prod.mk.injEq] at this
      obtain ⟨rfl, _, _⟩ := this
      simp only [Option.getD_some] at hw hxs ⊢
      obtain ⟨_, G0, hG0⟩ := h.res REG _ hr
      have hnode := getRow_some hxs
      have hnl : n < H.length := (List.getElem?_eq_some_iff.1 hnode).1
      obtain ⟨cssx, hown, _, hxr⟩ := hG0.node n _ hnode
      have hown' : w.ownsRow 0 e st.sz (a.eval x) (List.length xs) cssx.flatten := by rw [hv]; exact hown
      obtain ⟨v', w', q1, q2, q3, q4, q5⟩ := append_run hf h (ty := o.type) hel hby hst (ux := a.eval x) hyv hyr hyn hyc hown' (by simp only [appLim, decide_eq_true_eq] at b1; exact b1)
      have hk := KeepS.of_grown q3
      refine .inl ⟨v', w', hexec q1, h.grow hd hr (some n) (fun m e => ?_) (ownsRow_one q2) (fits q2) hk (Gn := fun k => v'.ownBlock = some k) (fun G hG => ?_) []⟩
      · obtain rfl := Option.some.inj e
        refine ⟨⟨hnl, fun b hb => ?_⟩, hw, fun p hp hit => ?_⟩
        · obtain ⟨A', c', g3, _⟩ := own_slice hown
          have g3 : β n = .slice A' (List.length xs) c' := g3
          rw [hb] at g3; cases g3
        obtain ⟨i, it⟩ := p
        cases it with
        | it m a1 a2 a3 a4 a5 a6 a7 =>
          have hit : m = some n := hit
          subst hit
          exact (wrOk_spec hw).2 _ hp _ _ _ _ _ _ _ rfl
        | mark m a1 a2 a3 a4 a5 =>
          have hit : some m = some n := hit
          obtain rfl := Option.some.inj hit
          obtain ⟨bm, es, clock, e', _, g2, _⟩ := hG0.walks _ hp
          obtain ⟨A', c', g3, _⟩ := own_slice hown
          rw [g2] at g3; cases g3
      · obtain ⟨cssx2, hown2, hgb, _⟩ := hG.node n _ hnode
        have hGb : ∀ k, (a.eval x).ownBlock = some k → G n k := fun k hk => (hgb k).2 (by rw [← hv]; exact hk)
        refine ⟨fun k hk => ⟨n, rfl, hGb k hk.symm⟩, fun k hk => ?_, fun M' hs => node hxr q2 hk (fun k f => ?_) hs⟩
        · rcases q4 with q4 | q4
          · rw [q4] at hk; exact .inl ⟨n, rfl, hGb k hk⟩
          · rcases q5 q4 with q5 | q5
            · rw [q4] at hk
              obtain rfl := Option.some.inj hk
              exact .inr ⟨Nat.le_refl _, q5⟩
            · rw [q5] at hk; exact .inl ⟨n, rfl, hGb k hk⟩
        · exact .inr ⟨REG, _, hr, (hG.fp k).2 (.inl ⟨n, hGb k f.symm⟩)⟩
    · cases b
end
end Go.Pev
/- The pure evaluator, part Oi: maps of the region: look, lay in, take out, walk. Own text, over any program. -/
namespace Go.Pev
open Go.ChangeMaps (setBlock)
section
variable {P : Program} {T : Tabs} {C : Cfg} {M0 : Base} {β : Nat → Value} {N : Nat} {w0 : World} {sl : Nat → Option AV} {rs : Nat → Option RS} {ρ : Nat → Value} {F : Nat → Nat → Prop} {a : Act} {w : World} {o : Oper} {out : Out} {s r s1 r1 : List Nat}
theorem fcells_inj : ∀ (s : Sh) (x y : s.T), s.flat = true → fcells s x = fcells s y → x = y
  | .int _, x, y, _, h => by simpa [fcells] using h
  | .bool, x, y, _, h => by simpa [fcells] using h
  | .str, x, y, _, h => by simpa [fcells] using h
  | .err, _, _, h, _ => by cases h
  | .ptr, _, _, h, _ => by cases h
  | .rf _, _, _, h, _ => by cases h
  | .pt _, _, _, h, _ => by cases h
  | .sl _, _, _, h, _ => by cases h
  | .pair a b, x, y, h, e => by
    simp only [Sh.flat, Bool.and_eq_true] at h
    have hl : (fcells a x.1).length = (fcells a y.1).length := by rw [fcells_len a _ h.1, fcells_len a _ h.1]
    obtain ⟨e1, e2⟩ := List.append_inj (show fcells a x.1 ++ fcells b x.2 = fcells a y.1 ++ fcells b y.2 from e) hl
    exact Prod.ext (fcells_inj a x.1 y.1 h.1 e1) (fcells_inj b x.2 y.2 h.2 e2)
theorem keyV_inj {ka : Bool} {k : Sh} (hf : k.flat = true) (h1 : ka = false → k.sz = 1) {x y : k.T} (h : keyV ka k x = keyV ka k y) : x = y := by
  apply fcells_inj k x y hf
  cases ka with
  | true =>
    have : Value.agg (fcells k x).toArray = .agg (fcells k y).toArray := h
    simpa using this
  | false =>
    have hx := fcells_len k x hf
    have hy := fcells_len k y hf
    rw [h1 rfl] at hx hy
    have h' : (fcells k x).headD .nilIface = (fcells k y).headD .nilIface := h
    generalize fcells k x = c at hx h'
    generalize fcells k y = d at hy h'
    match c, d, hx, hy with
    | [u], [v], _, _ => simpa using h'
theorem mapSh_sz {t : TypeId} {ka va : Bool} {k v : Sh} (h : mapSh P T t = some ((ka, va), (k, v))) : ka = false → k.sz = 1 := by
  unfold mapSh at h
  split at h <;> try (cases h; done)
  split at h <;> try (cases h; done)
  split at h <;> try (cases h; done)
  rename_i hb
  simp only [Option.some.injEq, Prod.mk.injEq] at h
  obtain ⟨⟨rfl, rfl⟩, rfl, rfl⟩ := h
  simp only [Bool.and_eq_true] at hb
  rintro rfl
  have hk := hb.1.2
  unfold keyOk at hk
  simp only at hk
  split at hk <;> first | rfl | cases hk
theorem key_ok {M : Nat → Prop} {ka : Bool} {k : Sh} (hf : k.flat = true) {kv : AV} {u : Value} {x : k.T} (h : ofAV ka k kv = some x) (hv : VR C ρ M w kv u) : u = keyV ka k x := by
  unfold ofAV at h
  split at h
  · rename_i l
    obtain ⟨cs, rfl, hl⟩ := hv.ag
    have := RR.fcells k x cs hf (ofLeaves_rep k l x cs h hl)
    rw [this]; rfl
  · split at h <;> try (cases h; done)
    rename_i hok
    have := RR.fcells k x [u] hf (ofLeaves_rep k [_] x [u] h (.cons (hv.toLR hok) .nil))
    show u = (Pev.fcells k x).headD .nilIface
    rw [← this]; rfl
  · cases h
theorem look_out {M : Nat → Prop} {va : Bool} {v : Sh} {z : v.T} {u : Value} {b ok : Bool} (hu : ValR C M w va v z u) : VR C ρ M w (match ok with | true => .tup [toAV va v z, .bool b] | false => toAV va v z) (match ok with | true => .tuple #[u, .bool b] | false => u) := by
  cases ok with
  | true => exact ⟨[u, .bool b], rfl, .cons (VR.toSR' (valR_rel hu) (toAV_not _ _ _)) (.cons rfl .nil)⟩
  | false => exact valR_rel hu
theorem ok_lookup (hf : Fit P T) (h : Rel (T.cf β N M0.L) M0 w0 sl rs ρ F a w) (hd : ∀ d, o.dst = some d → d < a.tmps.size) {t : TypeId} {m k : Operand} {ok : Bool} (hop : o.op = .lookup t m k ok) (he : ev sl rs (step P T o) s r = some (out, s1, r1)) : Goal P T M0 w0 sl rs a w o out := by
  simp only [step, hop] at he
  obtain ⟨mv, s2, r2, h1, h2⟩ := ev_bind _ _ _ _ _ he
  have hm := opd_rel h h1
  obtain ⟨kv, s3, r3, h3, h4⟩ := ev_bind _ _ _ _ _ h2
  have hk := opd_rel h h3
  unfold lookupR at h4
  split at h4 <;> try (simp [ev] at h4; done)
  rename_i ka va k0 v0 hms
  obtain ⟨kt, et, hu, _, _, _, hsh, hK, hz⟩ := mapSh_spec hf hms
  obtain ⟨x, s4, r4, h5, h6⟩ := ev_bind _ _ _ _ _ h4
  obtain ⟨x', e1, e2⟩ := ev_ofO h5
  simp only [Prod.mk.injEq] at e2
  obtain ⟨rfl, _, _⟩ := e2
  have hkey := key_ok hK.flat e1 hk
  simp only at h6
  split at h6 <;> try (simp [ev] at h6; done)
  rename_i y
  rcases VR.rf1 hm with ⟨rfl, hv⟩ | ⟨n, rfl, hn, hv, _⟩
  · rcases ev_br2 h6 with ⟨b, _⟩ | ⟨_, h7⟩
    · cases b
    · obtain rfl := ret_out h7
      have hv : a.eval m = .map none := hv
      obtain ⟨u, q1, q2⟩ := run_lookup_nil (P := P) (C := T.cf β N M0.L) (M := Mof M0 rs F) (w := w) hu hK (hf.tys.get hsh) hz x ok
      clear he h2 h4 h6 h7
      cases ok
      · refine runs_value h hd (v := u) ?_ (look_out (b := false) (ok := false) q2)
        simp only [execOp, hop, hv, hkey, Sem.run_bind, q1]
        rfl
      · refine runs_value h hd (v := .tuple #[u, .bool false]) ?_ (look_out (b := false) (ok := true) q2)
        simp only [execOp, hop, hv, hkey, Sem.run_bind, q1]
        rfl
  · rcases ev_br2 h6 with ⟨_, h7⟩ | ⟨b, _⟩
    · obtain ⟨lk, its, H, hr, h8⟩ := ev_reg h7
      obtain ⟨l, hl, h9⟩ := ev_opt h8
      obtain rfl := ret_out h9
      obtain ⟨_, G, hnode⟩ := h.nodeAt hr (getMap_some hl)
      obtain ⟨b, es, clock, g1, _, g3, g4⟩ := hnode
      simp only [Option.getD_some] at g1
      have hv : a.eval m = .map (some b) := hv.trans g1
      obtain ⟨u, q1, q2⟩ := run_lookup (P := P) hu hK (hf.tys.get hsh) hz g3 g4 x ok
      clear he h2 h4 h6 h7 h8 h9
      cases ok
      · refine runs_value h hd (v := u) ?_ (look_out (b := (lookL k0 v0 x l).isSome) (ok := false) q2)
        simp only [execOp, hop, hv, hkey, Sem.run_bind, q1]
        rfl
      · refine runs_value h hd (v := .tuple #[u, .bool (lookL k0 v0 x l).isSome]) ?_ (look_out (b := (lookL k0 v0 x l).isSome) (ok := true) q2)
        simp only [execOp, hop, hv, hkey, Sem.run_bind, q1]
        rfl
    · cases b
theorem map_new {b : Nat} {es es' : Array MapEntry} {clock clock' : Nat} {M M' : Nat → Prop} {ka va : Bool} {k v : Sh} {l : List (k.T × v.T)} {G : Nat → Prop} {u : Value} (hu : u = .map (some b)) (hG : ∀ k, G k ↔ k = b) (hb : w.heap[b]? = some (.map es clock)) (hM : M b)
    (h : MapR C M w ka va k v l es' clock') (hs : ∀ k, M' k → k < w.heap.size → M k) : NodeR C M' (setBlock w b (.map es' clock')) u G (.map ka va k v l) :=
  ⟨b, es', clock', hu, hG, setBlock_at hb, h.step ((setBlock_keep hb).mono fun i _ g => by subst g; exact hM) hs⟩
section
variable {ka va : Bool} {k v : Sh} {l : List (k.T × v.T)} {es : Array MapEntry} {clock b : Nat} {M : Nat → Prop}
theorem put_find {kt et t : TypeId} (hK : KeyOk P kt ka k) (h : MapR0 C M w ka va k v l es clock) (x : k.T) :
    (∃ i e, idxL k v x l = some i ∧ es.toList[i]? = some e ∧ es[i]? = some e ∧ e.key = keyV ka k x ∧ (Instr.findKey kt (keyV ka k x) es.toList).run P w = .ok (some (i, e.val)) w) ∨
    (idxL k v x l = none ∧ (Instr.findKey kt (keyV ka k x) es.toList).run P w = .ok none w) := by
  have hf := find_ok hK h.ents x
  cases hi : idxL k v x l with
  | none => rw [hi] at hf; exact .inr ⟨rfl, hf⟩
  | some i =>
    left
    obtain ⟨p, h1, h1'⟩ := idxL_some hi
    obtain ⟨e, h2, h3⟩ := h.ents.get i p h1
    rw [hi] at hf
    simp only [Option.bind_some, h2, Option.map_some] at hf
    exact ⟨i, e, rfl, h2, by rw [← Array.getElem?_toList]; exact h2, by rw [h3.1, eqB_eq k _ _ hK.flat h1'], hf⟩
theorem run_update0 {t kt et : TypeId} (hu : P.underlying t = some (.map kt et)) (hK : KeyOk P kt ka k) (h1 : ka = false → k.sz = 1) (hb : w.heap[b]? = some (.map es clock)) (h : MapR0 C M w ka va k v l es clock) (x : k.T) {y : v.T} {u : Value} (hy : ValR C M w va v y u) :
    ∃ es' clock', (Instr.mapUpdate t (.map (some b)) (keyV ka k x) u).run P w = .ok () (setBlock w b (.map es' clock')) ∧ MapR0 C M w ka va k v (putO k v x y l) es' clock' := by
  obtain ⟨p1, p2⟩ := mapR0_put hK.flat h (x := x) hy
  rcases put_find (P := P) (kt := kt) (et := et) (t := t) hK h x with ⟨i, e, q1, q2, q3, q4, q5⟩ | ⟨q1, q2⟩
  · refine ⟨_, _, ?_, p1 i q1⟩
    have hst := stays (P := P) (w := w) (x := x) hK.flat h1
    simp only [Instr.mapUpdate, Sem.run_bind, run_underlying hu, Result.andThen_ok, MapKept.run_getObj_map hb, hK.check, q5, q3, Option.map_some, Option.getD_some, q4, hst, MapKept.run_setObj_map _ hb]
    rfl
  · refine ⟨_, _, ?_, p2 q1⟩
    simp only [Instr.mapUpdate, Sem.run_bind, run_underlying hu, Result.andThen_ok, MapKept.run_getObj_map hb, hK.check, q2, MapKept.run_setObj_map _ hb]
    rfl
theorem run_delete0 {t kt et : TypeId} (hu : P.underlying t = some (.map kt et)) (hK : KeyOk P kt ka k) (hb : w.heap[b]? = some (.map es clock)) (h : MapR0 C M w ka va k v l es clock) (x : k.T) (ty : TypeId) {ts : Array TypeId} (ht : ts[0]? = some t) :
    ∃ es' clock', (Builtin.delete_ ts ty #[.map (some b), keyV ka k x]).run P w = .ok (.tuple #[]) (setBlock w b (.map es' clock')) ∧ MapR0 C M w ka va k v (delL k v x l) es' clock' := by
  obtain ⟨p1, p2⟩ := mapR0_del h (x := x)
  rcases put_find (P := P) (kt := kt) (et := et) (t := t) hK h x with ⟨i, e, q1, q2, q3, q4, q5⟩ | ⟨q1, q2⟩
  · refine ⟨_, _, ?_, p1 i q1⟩
    simp [Builtin.delete_, ht, Sem.run_bind, run_underlying hu, Result.andThen_ok, MapKept.run_getObj_map hb, hK.check, q5, MapKept.run_setObj_map _ hb, setBlock]
  · refine ⟨es, clock, ?_, p2 q1⟩
    simp [Builtin.delete_, ht, Sem.run_bind, run_underlying hu, Result.andThen_ok, MapKept.run_getObj_map hb, hK.check, q2, MapKept.run_setObj_map _ hb, setBlock]
theorem run_delete_nil {t kt et : TypeId} (hu : P.underlying t = some (.map kt et)) (hK : KeyOk P kt ka k) (x : k.T) (ty : TypeId) {ts : Array TypeId} (ht : ts[0]? = some t) :
    (Builtin.delete_ ts ty #[.map none, keyV ka k x]).run P w = .ok (.tuple #[]) w := by
  simp [Builtin.delete_, ht, Sem.run_bind, run_underlying hu, Result.andThen_ok, hK.check]
theorem run_mapEntry0 {t kt et : TypeId} (hu : P.underlying t = some (.map kt et)) (hK : KeyOk P kt ka k) (h1 : ka = false → k.sz = 1) (ht : TyOk P et v) (hz : zeroForm P et va = true) (hb : w.heap[b]? = some (.map es clock)) (h : MapR0 C M w ka va k v l es clock) (x : k.T) :
    ∃ es' clock' e u, (Instr.mapEntry t (.map (some b)) (keyV ka k x)).run P w = .ok (.tuple #[u, .int .i64 (e.born : Int)]) (setBlock w b (.map es' clock')) ∧ MapR0 C M w ka va k v (putO k v x ((lookL k v x l).getD v.dflt) l) es' clock' ∧ ValR C M w va v ((lookL k v x l).getD v.dflt) u ∧ e ∈ es'.toList ∧ e.key = keyV ka k x := by
  rcases put_find (P := P) (kt := kt) (et := et) (t := t) hK h x with ⟨i, e, q1, q2, q3, q4, q5⟩ | ⟨q1, q2⟩
  · obtain ⟨p, g1, g2⟩ := idxL_some q1
    obtain ⟨e', g3, g4⟩ := h.ents.get i p g1
    rw [q2] at g3
    obtain rfl := Option.some.inj g3
    have hl : lookL k v x l = some p.2 := by rw [lookL_idx, q1]; simp [g1]
    rw [hl]
    simp only [Option.getD_some]
    obtain ⟨p1, _⟩ := mapR0_put hK.flat h (x := x) (y := p.2) g4.2
    have hst := stays (P := P) (w := w) (x := x) hK.flat h1
    have hlt : i < es.size := (Array.getElem?_eq_some_iff.1 q3).1
    have hmod : (es.modify i fun e' => { e' with key := keyV ka k x, val := e.val }) = es.modify i fun e' => { e' with key := keyV ka k x } := by
      apply Array.ext_getElem?
      intro j
      rw [Array.getElem?_modify, Array.getElem?_modify]
      by_cases hj : i = j
      · subst hj; rw [if_pos rfl, if_pos rfl, q3]; rfl
      · rw [if_neg hj, if_neg hj]
    refine ⟨_, _, { e with key := keyV ka k x }, e.val, ?_, hmod ▸ p1 i q1, g4.2, ?_, rfl⟩
    · simp only [Instr.mapEntry, Sem.run_bind, run_underlying hu, Result.andThen_ok, MapKept.run_getObj_map hb, hK.check, q5, q3, Option.map_some, Option.getD_some, q4, hst, MapKept.run_setObj_map _ hb]
      rfl
    · refine List.mem_of_getElem? (i := i) ?_
      rw [Array.getElem?_toList, Array.getElem?_modify, if_pos rfl, q3]
      rfl
  · have hl : lookL k v x l = none := by rw [lookL_idx, q1]; rfl
    rw [hl]
    simp only [Option.getD_none]
    obtain ⟨z, hz1, hz2⟩ := zero_rel (C := C) (M := M) (w := w) ht hz
    obtain ⟨_, p2⟩ := mapR0_put hK.flat h (x := x) (y := v.dflt) hz2
    refine ⟨_, _, { key := keyV ka k x, val := z, born := clock }, z, ?_, p2 q1, hz2, by simp, rfl⟩
    simp only [Instr.mapEntry, Sem.run_bind, run_underlying hu, Result.andThen_ok, MapKept.run_getObj_map hb, hK.check, q2, hz1, MapKept.run_setObj_map _ hb]
    rfl
theorem find_born' {e : MapEntry} : ∀ {es : List MapEntry}, (es.map (·.born)).Nodup → e ∈ es → ∃ i, es.findIdx? (fun x => (x.born : Int) == (e.born : Int)) = some i ∧ es[i]? = some e
  | [], _, h => by cases h
  | x :: es, hn, h => by
    rw [List.map_cons, List.nodup_cons] at hn
    rw [List.findIdx?_cons]
    rcases List.mem_cons.1 h with rfl | h
    · exact ⟨0, by simp, rfl⟩
    · have hne : ((x.born : Int) == (e.born : Int)) = false := by
        rw [beq_eq_false_iff_ne]
        intro e'
        exact hn.1 (List.mem_map.2 ⟨e, h, by omega⟩)
      obtain ⟨i, h1, h2⟩ := find_born' hn.2 h
      exact ⟨i + 1, by rw [hne, h1]; rfl, h2⟩
theorem run_entryStore0 {t : TypeId} (hf : k.flat = true) (h1 : ka = false → k.sz = 1) (hb : w.heap[b]? = some (.map es clock)) (h : MapR0 C M w ka va k v l es clock) {x : k.T} {e : MapEntry} (he : e ∈ es.toList) (hk : e.key = keyV ka k x) {y : v.T} {u : Value} (hy : ValR C M w va v y u) :
    ∃ es' clock', (Instr.entryStore t (.map (some b)) (.int .i64 (e.born : Int)) u).run P w = .ok () (setBlock w b (.map es' clock')) ∧ MapR0 C M w ka va k v (putO k v x y l) es' clock' := by
  obtain ⟨i, g1, g2⟩ := find_born' h.nodup he
  have hlen := h.ents.length
  have hil : i < l.length := by rw [hlen]; exact (List.getElem?_eq_some_iff.1 g2).1
  obtain ⟨e', g3, g4⟩ := h.ents.get i _ (List.getElem?_eq_getElem hil)
  rw [g2] at g3
  obtain rfl := Option.some.inj g3
  have hx : l[i].1 = x := keyV_inj hf h1 (g4.1.symm.trans hk)
  have hidx : idxL k v x l = some i := by
    cases hj : idxL k v x l with
    | none =>
      have := idxL_none hj _ (List.getElem_mem hil)
      rw [hx, eqB_self k x hf] at this
      cases this
    | some j =>
      obtain ⟨q, q1, q2⟩ := idxL_some hj
      have hjl := (List.getElem?_eq_some_iff.1 q1).1
      have hq : l[j] = q := (List.getElem?_eq_some_iff.1 q1).2
      rcases Nat.lt_trichotomy i j with hij | hij | hij
      · have := List.pairwise_iff_getElem.1 h.keys i j hil hjl hij
        rw [hx, hq, eqB_symm, q2] at this
        cases this
      · rw [hij]
      · have := List.pairwise_iff_getElem.1 h.keys j i hjl hil hij
        rw [hx, hq, q2] at this
        cases this
  obtain ⟨p1, _⟩ := mapR0_put hf h (x := x) (y := y) hy
  have q3 : es[i]? = some e := by rw [← Array.getElem?_toList]; exact g2
  have hmod : (es.modify i fun e' => { e' with key := keyV ka k x, val := u }) = es.modify i fun e' => { e' with val := u } := by
    apply Array.ext_getElem?
    intro j
    rw [Array.getElem?_modify, Array.getElem?_modify]
    by_cases hj : i = j
    · subst hj; rw [if_pos rfl, if_pos rfl, q3, ← hk]; rfl
    · rw [if_neg hj, if_neg hj]
  refine ⟨_, _, ?_, hmod ▸ p1 i hidx⟩
  have g1' : es.findIdx? (fun x => (x.born : Int) == (e.born : Int)) = some i := by rw [← g1]; cases es; simp
  simp [Instr.entryStore, Sem.run_bind, Result.andThen_ok, MapKept.run_getObj_map hb, asInt, asIntOf, g1', MapKept.run_setObj_map _ hb, setBlock]
theorem run_update {t kt et : TypeId} (hu : P.underlying t = some (.map kt et)) (hK : KeyOk P kt ka k) (h1 : ka = false → k.sz = 1) (hb : w.heap[b]? = some (.map es clock)) (h : MapR C M w ka va k v l es clock) (x : k.T) {y : v.T} {u : Value} (hy : ValR C M w va v y u) :
    ∃ es' clock', (Instr.mapUpdate t (.map (some b)) (keyV ka k x) u).run P w = .ok () (setBlock w b (.map es' clock')) ∧ MapR C M w ka va k v (putL k v x y l) es' clock' := by
  obtain ⟨m, hp, h⟩ := h
  obtain ⟨es', clock', h2, h3⟩ := run_update0 (P := P) hu hK h1 hb h x hy
  exact ⟨es', clock', h2, _, put_perm hK.flat x y hp h.keys, h3⟩
theorem run_delete {t kt et : TypeId} (hu : P.underlying t = some (.map kt et)) (hK : KeyOk P kt ka k) (hb : w.heap[b]? = some (.map es clock)) (h : MapR C M w ka va k v l es clock) (x : k.T) (ty : TypeId) {ts : Array TypeId} (ht : ts[0]? = some t) :
    ∃ es' clock', (Builtin.delete_ ts ty #[.map (some b), keyV ka k x]).run P w = .ok (.tuple #[]) (setBlock w b (.map es' clock')) ∧ MapR C M w ka va k v (delL k v x l) es' clock' := by
  obtain ⟨m, hp, h⟩ := h
  obtain ⟨es', clock', h2, h3⟩ := run_delete0 (P := P) hu hK hb h x ty ht
  exact ⟨es', clock', h2, _, delL_perm hK.flat x hp h.keys, h3⟩
theorem run_mapEntry {t kt et : TypeId} (hu : P.underlying t = some (.map kt et)) (hK : KeyOk P kt ka k) (h1 : ka = false → k.sz = 1) (ht : TyOk P et v) (hz : zeroForm P et va = true) (hb : w.heap[b]? = some (.map es clock)) (h : MapR C M w ka va k v l es clock) (x : k.T) :
    ∃ es' clock' e u, (Instr.mapEntry t (.map (some b)) (keyV ka k x)).run P w = .ok (.tuple #[u, .int .i64 (e.born : Int)]) (setBlock w b (.map es' clock')) ∧ MapR C M w ka va k v (putL k v x ((lookL k v x l).getD v.dflt) l) es' clock' ∧ ValR C M w va v ((lookL k v x l).getD v.dflt) u ∧ e ∈ es'.toList ∧ e.key = keyV ka k x := by
  obtain ⟨m, hp, h⟩ := h
  obtain ⟨es', clock', e, u, h2, h3, h4⟩ := run_mapEntry0 (P := P) hu hK h1 ht hz hb h x
  rw [lookL_perm hK.flat x hp h.keys] at h3 h4
  exact ⟨es', clock', e, u, h2, ⟨_, put_perm hK.flat x _ hp h.keys, h3⟩, h4⟩
theorem run_entryStore {t : TypeId} (hf : k.flat = true) (h1 : ka = false → k.sz = 1) (hb : w.heap[b]? = some (.map es clock)) (h : MapR C M w ka va k v l es clock) {x : k.T} {e : MapEntry} (he : e ∈ es.toList) (hk : e.key = keyV ka k x) {y : v.T} {u : Value} (hy : ValR C M w va v y u) :
    ∃ es' clock', (Instr.entryStore t (.map (some b)) (.int .i64 (e.born : Int)) u).run P w = .ok () (setBlock w b (.map es' clock')) ∧ MapR C M w ka va k v (putL k v x y l) es' clock' := by
  obtain ⟨m, hp, h⟩ := h
  obtain ⟨es', clock', h2, h3⟩ := run_entryStore0 (P := P) hf h1 hb h he hk hy
  exact ⟨es', clock', h2, _, put_perm hf x y hp h.keys, h3⟩
end
end
end Go.Pev
/- The pure evaluator, part Oj: a map's operations, one by one; walks; functions with captured values. Own text, over any program. -/
namespace Go.Pev
open Go.ChangeMaps (setBlock)
section
variable {P : Program} {T : Tabs} {C : Cfg} {M0 : Base} {β : Nat → Value} {N : Nat} {w0 : World} {sl : Nat → Option AV} {rs : Nat → Option RS} {ρ : Nat → Value} {F : Nat → Nat → Prop} {a : Act} {w : World} {o : Oper} {out : Out} {s r s1 r1 : List Nat}
theorem Rel.mapAt (h : Rel C M0 w0 sl rs ρ F a w) {lk : List Nat} {its : List (Nat × It)} {H : List Node} (hr : rs REG = some (.reg lk its H)) {n : Nat} {ka va : Bool} {k v : Sh} {l : List (k.T × v.T)} (hl : H[n]? = some (.map ka va k v l)) :
    n < C.N ∧ ∃ b es clock, C.β n = .map (some b) ∧ w.heap[b]? = some (.map es clock) ∧ MapR C (Mof M0 rs F) w ka va k v l es clock := by
  obtain ⟨hn, G, b, es, clock, h1, _, h3, h4⟩ := h.nodeAt hr hl
  exact ⟨hn, b, es, clock, h1, h3, h4⟩
theorem Rel.mapWrite (h : Rel C M0 w0 sl rs ρ F a w) {lk : List Nat} {its : List (Nat × It)} {H : List Node} (hr : rs REG = some (.reg lk its H)) {n : Nat} {ka va : Bool} {k v : Sh} {l l' : List (k.T × v.T)} (hl : H[n]? = some (.map ka va k v l)) (hw : wrOk lk its n = true)
    {b : Nat} {es es' : Array MapEntry} {clock clock' : Nat} (hb : C.β n = .map (some b)) (hh : w.heap[b]? = some (.map es clock)) (hnew : MapR C (Mof M0 rs F) w ka va k v l' es' clock') :
    Rel C M0 w0 sl (updR rs [(REG, some (.reg lk (unmark its) (H.set n (.map ka va k v l'))))]) ρ F a (setBlock w b (.map es' clock')) := by
  refine h.regWrite hr (List.getElem?_eq_some_iff.1 hl).1 hw (setBlock_keep hh) fun G hG => ?_
  obtain ⟨b2, es2, clock2, q1, q2, q3, q4⟩ := hG.node n _ hl
  rw [hb] at q1
  obtain rfl : b = b2 := by simpa using q1
  exact ⟨fun k hk => (q2 k).2 hk, fun M' hs => map_new hb q2 hh (.inr ⟨REG, _, hr, (hG.fp b).2 (.inl ⟨n, (q2 b).2 rfl⟩)⟩) hnew hs⟩
theorem ok_update (hf : Fit P T) (h : Rel (T.cf β N M0.L) M0 w0 sl rs ρ F a w) (hd : ∀ d, o.dst = some d → d < a.tmps.size) {t : TypeId} {m k x : Operand} (hop : o.op = .mapUpdate t m k x) (he : ev sl rs (step P T o) s r = some (out, s1, r1)) : Goal P T M0 w0 sl rs a w o out := by
  simp only [step, hop] at he
  obtain ⟨mv, s2, r2, h1, h2⟩ := ev_bind _ _ _ _ _ he
  have hm := opd_rel h h1
  obtain ⟨kv, s3, r3, h3, h4⟩ := ev_bind _ _ _ _ _ h2
  have hk := opd_rel h h3
  obtain ⟨xv, s4, r4, h5, h6⟩ := ev_bind _ _ _ _ _ h4
  have hx := opd_rel h h5
  unfold updateR at h6
  split at h6 <;> try (simp [ev] at h6; done)
  rename_i ka va k0 v0 hms
  obtain ⟨kt, et, hu, _, _, _, hsh, hK, hz⟩ := mapSh_spec hf hms
  obtain ⟨key, s5, r5, h7, h8⟩ := ev_bind _ _ _ _ _ h6
  obtain ⟨x', e1, e2⟩ := ev_ofO h7
  simp only [Prod.mk.injEq] at e2
  obtain ⟨rfl, _, _⟩ := e2
  have hkey := key_ok hK.flat e1 hk
  obtain ⟨⟨y, ws⟩, s6, r6, h9, h10⟩ := ev_bind _ _ _ _ _ h8
  simp only at h10
  split at h10 <;> try (simp [ev] at h10; done)
  rename_i z
  obtain ⟨b0, h11⟩ := ev_br h10
  obtain ⟨lk, its, H, hr, h12⟩ := ev_reg h11
  obtain ⟨hw, h13⟩ := ev_br h12
  obtain ⟨l, hl, h14⟩ := ev_opt h13
  have := ev_ret h14
  simp only [Prod.mk.injEq] at this
  obtain ⟨rfl, _, _⟩ := this
  rcases VR.rf1 hm with ⟨rfl, _⟩ | ⟨n, rfl, hn, hv, _⟩
  · cases b0
  simp only [Option.getD_some] at hw hl ⊢
  obtain ⟨hzf, hval, _⟩ := valAV_ok h h9 hx
  have hfz := h.freeze hzf
  have hr' := freeze_reg hzf hr
  obtain ⟨_, b, es, clock, g1, g3, g4⟩ := hfz.mapAt hr' (getMap_some hl)
  have hv : a.eval m = .map (some b) := hv.trans g1
  obtain ⟨es', clock', q1, q2⟩ := run_update (P := P) hu hK (mapSh_sz hms) g3 g4 key hval
  have hrel := hfz.mapWrite hr' (getMap_some hl) hw g1 g3 q2
  rw [updR_cons] at hrel
  refine .inr (.inl ⟨_, ?_, ρ, fzF F ws, β, N, hrel.undef hd⟩)
  simp only [execOp, hop, hv, hkey, Sem.run_bind, q1]
  rfl
theorem ok_delete (hf : Fit P T) (h : Rel (T.cf β N M0.L) M0 w0 sl rs ρ F a w) (hd : ∀ d, o.dst = some d → d < a.tmps.size) {c : Call} (hop : o.op = .call c) (hc : c.callee = .builtin .delete) (he : ev sl rs (step P T o) s r = some (out, s1, r1)) : Goal P T M0 w0 sl rs a w o out := by
  simp only [step, hop, hc] at he
  split at he <;> try (simp [ev] at he; done)
  rename_i m k t ts hca hct
  have ha : c.args = #[m, k] := by rw [← Array.toArray_toList (xs := c.args), hca]
  have ht : c.argTypes[0]? = some t := by rw [← Array.getElem?_toList, hct]; rfl
  obtain ⟨mv, s2, r2, h1, h2⟩ := ev_bind _ _ _ _ _ he
  have hm := opd_rel h h1
  obtain ⟨kv, s3, r3, h3, h4⟩ := ev_bind _ _ _ _ _ h2
  have hk := opd_rel h h3
  unfold deleteR at h4
  split at h4 <;> try (simp [ev] at h4; done)
  rename_i ka va k0 v0 hms
  obtain ⟨kt, et, hu, _, _, _, hsh, hK, hz⟩ := mapSh_spec hf hms
  obtain ⟨key, s5, r5, h7, h8⟩ := ev_bind _ _ _ _ _ h4
  obtain ⟨x', e1, e2⟩ := ev_ofO h7
  simp only [Prod.mk.injEq] at e2
  obtain ⟨rfl, _, _⟩ := e2
  have hkey := key_ok hK.flat e1 hk
  split at h8 <;> try (simp [ev] at h8; done)
  rename_i z
  rcases VR.rf1 hm with ⟨rfl, hv⟩ | ⟨n, rfl, hn, hv, _⟩
  · rcases ev_br2 h8 with ⟨b0, _⟩ | ⟨_, h11⟩
    · cases b0
    · obtain rfl := ret_out h11
      have hv : a.eval m = .map none := hv
      have q1 := run_delete_nil (P := P) (w := w) hu hK key o.type ht
      refine runs_value h hd (v := .tuple #[]) ?_ ⟨[], rfl, .nil⟩
      simp only [execOp, hop, resolve, hc, ha, invoke, builtin, Sem.run_bind, Sem.run_pure, Result.andThen_ok, List.map_toArray, List.map_cons, List.map_nil, hv, hkey, q1]
  · rcases ev_br2 h8 with ⟨_, h11⟩ | ⟨b0, _⟩
    · obtain ⟨lk, its, H, hr, h12⟩ := ev_reg h11
      obtain ⟨hw, h13⟩ := ev_br h12
      obtain ⟨l, hl, h14⟩ := ev_opt h13
      have := ev_ret h14
      simp only [Prod.mk.injEq] at this
      obtain ⟨rfl, _, _⟩ := this
      simp only [Option.getD_some] at hw hl ⊢
      obtain ⟨_, b, es, clock, g1, g3, g4⟩ := h.mapAt hr (getMap_some hl)
      have hv : a.eval m = .map (some b) := hv.trans g1
      obtain ⟨es', clock', q1, q2⟩ := run_delete (P := P) hu hK g3 g4 key o.type ht
      have hrel := h.mapWrite hr (getMap_some hl) hw g1 g3 q2
      refine .inl ⟨.tuple #[], _, ?_, ρ, F, β, N, hrel.put o.dst hd (.tup []) _ ⟨[], rfl, .nil⟩⟩
      simp only [execOp, hop, resolve, hc, ha, invoke, builtin, Sem.run_bind, Sem.run_pure, Result.andThen_ok, List.map_toArray, List.map_cons, List.map_nil, hv, hkey, q1]
    · cases b0
theorem updR_two (p q : Nat × Option RS) (x : Option RS) : updR (updR rs [(p.1, x)]) [p, q] = updR rs [p, q] := by
  funext id
  simp only [updR, get]
  cases Nat.beq p.1 id with
  | true => rfl
  | false => cases Nat.beq q.1 id <;> rfl
theorem Mof_reg {st st' : RS} (hr : rs REG = some st) (k : Nat) (h : Mof M0 (updR rs [(REG, some st')]) F k) : Mof M0 rs F k := by
  rcases h with h0 | ⟨j, q, hj, hF⟩
  · exact .inl h0
  · rw [updR_single] at hj
    split at hj
    · rename_i e; subst e; exact .inr ⟨REG, _, hr, hF⟩
    · exact .inr ⟨j, q, hj, hF⟩
theorem ok_mapEntry (hf : Fit P T) (h : Rel (T.cf β N M0.L) M0 w0 sl rs ρ F a w) (hd : ∀ d, o.dst = some d → d < a.tmps.size) {t : TypeId} {m k : Operand} (hop : o.op = .mapEntry t m k) (he : ev sl rs (step P T o) s r = some (out, s1, r1)) (hnew : NewOk sl rs o.dst out.ws) : Goal P T M0 w0 sl rs a w o out := by
  simp only [step, hop] at he
  split at he <;> try (simp [ev] at he; done)
  rename_i d hdst
  obtain ⟨mv, s2, r2, h1, h2⟩ := ev_bind _ _ _ _ _ he
  have hm := opd_rel h h1
  obtain ⟨kv, s3, r3, h3, h4⟩ := ev_bind _ _ _ _ _ h2
  have hk := opd_rel h h3
  unfold entryR at h4
  split at h4 <;> try (simp [ev] at h4; done)
  rename_i ka va k0 v0 hms
  obtain ⟨kt, et, hu, _, _, _, hsh, hK, hz⟩ := mapSh_spec hf hms
  obtain ⟨key, s5, r5, h7, h8⟩ := ev_bind _ _ _ _ _ h4
  obtain ⟨x', e1, e2⟩ := ev_ofO h7
  simp only [Prod.mk.injEq] at e2
  obtain ⟨rfl, _, _⟩ := e2
  have hkey := key_ok hK.flat e1 hk
  split at h8 <;> try (simp [ev] at h8; done)
  rename_i z
  obtain ⟨bd, h9⟩ := ev_br h8
  obtain ⟨b0, h11⟩ := ev_br h9
  obtain ⟨lk, its, H, hr, h12⟩ := ev_reg h11
  obtain ⟨hw, h13⟩ := ev_br h12
  obtain ⟨l, hl, h14⟩ := ev_opt h13
  have := ev_ret h14
  simp only [Prod.mk.injEq] at this
  obtain ⟨rfl, _, _⟩ := this
  rcases VR.rf1 hm with ⟨rfl, _⟩ | ⟨n, rfl, hn, hv, _⟩
  · cases b0
  simp only [Option.getD_some] at hw hl ⊢
  have hdR : d ≠ REG := fun e => by subst e; rw [Nat.beq_refl] at bd; cases bd
  have hRd : Nat.beq REG d = false := by
    cases hb : Nat.beq REG d with
    | false => rfl
    | true => exact absurd (Nat.eq_of_beq_eq_true hb).symm hdR
  obtain ⟨hfr, _⟩ := hnew.ok0 d .tok hdst (by simp only [get, hRd, Nat.beq_refl])
  obtain ⟨_, b, es, clock, g1, g3, g4⟩ := h.mapAt hr (getMap_some hl)
  have hv : a.eval m = .map (some b) := hv.trans g1
  obtain ⟨es', clock', e, u, q1, q2, q3, q4, q5⟩ := run_mapEntry (P := P) hu hK (mapSh_sz hms) (hf.tys.get hsh) hz g3 g4 key
  have hrel := h.mapWrite hr (getMap_some hl) hw g1 g3 q2
  have hnl := (List.getElem?_eq_some_iff.1 (getMap_some hl)).1
  obtain ⟨ρ', F', hrel2, hρd, hsub⟩ := hrel.regIts (d := d) (v := .int .i64 (e.born : Int)) (x := .mark n ka va k0 v0 key) (w' := setBlock w b (.map es' clock')) (by rw [updR_single, if_pos rfl]) (fresh_reg hfr hr fun p hp => (unmark_mem.1 hp).1) hdR rfl (KeepS.refl _ _)
    (fun G hG ρ' M' hρ hs => by
      obtain ⟨b2, es2, clock2, p1, p2, p3, p4⟩ := hG.node n _ (List.getElem?_set_self hnl)
      have p1' : β n = .map (some b2) := p1
      have g1' : β n = .map (some b) := g1
      rw [g1'] at p1'
      obtain rfl : b = b2 := by simpa using p1'
      have hat : (setBlock w b (.map es' clock')).heap[b]? = some (.map es' clock') := setBlock_at g3
      exact ⟨b, es', clock', e, hn, g1, (p2 b).2 rfl, hat, q4, q5, hρ⟩)
    (fun ρ' _ k hk => by cases hk)
  rw [updR_two (p := (REG, some (RS.reg lk ((d, It.mark n ka va k0 v0 key) :: unmark its) (H.set n (.map ka va k0 v0 (putL k0 v0 key ((lookL k0 v0 key l).getD v0.dflt) l)))))) (q := (d, some RS.tok))] at hrel2 hsub
  refine .inl ⟨.tuple #[u, .int .i64 (e.born : Int)], _, ?_, ρ', F', β, N, hrel2.put o.dst hd _ _ ⟨[u, .int .i64 (e.born : Int)], rfl, .cons ?_ (.cons hρd.symm .nil)⟩⟩
  · simp only [execOp, hop, hv, hkey, Sem.run_bind, q1]
    rfl
  · refine VR.toSR' (valR_rel ?_) (toAV_not _ _ _)
    refine q3.step ((setBlock_keep g3).mono fun i _ g => ?_) fun k hk hlt => Mof_reg hr k (hsub k hk (by simpa [setBlock] using hlt))
    subst g
    obtain ⟨_, G0, hG0⟩ := h.res REG _ hr
    obtain ⟨b2, es2, clock2, p1, p2, _⟩ := hG0.node n _ (getMap_some hl)
    have p1' : β n = .map (some b2) := p1
    have g1' : β n = .map (some i) := g1
    rw [g1'] at p1'
    obtain rfl : i = b2 := by simpa using p1'
    exact .inr ⟨REG, _, hr, (hG0.fp i).2 (.inl ⟨n, (p2 i).2 rfl⟩)⟩
end
end Go.Pev
/- The pure evaluator, part Ok: entries written, walks begun and read, functions with captured values. Own text, over any program. -/
namespace Go.Pev
open Go.ChangeMaps (setBlock)
section
variable {P : Program} {T : Tabs} {C : Cfg} {M0 : Base} {β : Nat → Value} {N : Nat} {w0 : World} {sl : Nat → Option AV} {rs : Nat → Option RS} {ρ : Nat → Value} {F : Nat → Nat → Prop} {a : Act} {w : World} {o : Oper} {out : Out} {s r s1 r1 : List Nat}
theorem ok_entryStore (hf : Fit P T) (h : Rel (T.cf β N M0.L) M0 w0 sl rs ρ F a w) (hd : ∀ d, o.dst = some d → d < a.tmps.size) {t : TypeId} {m q x : Operand} (hop : o.op = .entryStore t m q x) (he : ev sl rs (step P T o) s r = some (out, s1, r1)) : Goal P T M0 w0 sl rs a w o out := by
  simp only [step, hop] at he
  obtain ⟨mv, s2, r2, h1, h2⟩ := ev_bind _ _ _ _ _ he
  have hm := opd_rel h h1
  obtain ⟨qv, s3, r3, h3, h4⟩ := ev_bind _ _ _ _ _ h2
  have hq := opd_rel h h3
  obtain ⟨xv, s4, r4, h5, h6⟩ := ev_bind _ _ _ _ _ h4
  have hx := opd_rel h h5
  unfold entryStoreR at h6
  split at h6 <;> try (simp [ev] at h6; done)
  rename_i ka va k0 v0 hms
  obtain ⟨kt, et, hu, _, _, _, hsh, hK, hz⟩ := mapSh_spec hf hms
  obtain ⟨⟨y, ws⟩, s6, r6, h9, h10⟩ := ev_bind _ _ _ _ _ h6
  simp only at h10
  split at h10 <;> try (simp [ev] at h10; done)
  rename_i z id
  obtain ⟨b0, h11⟩ := ev_br h10
  obtain ⟨lk, its, H, hr, h12⟩ := ev_reg h11
  split at h12 <;> try (simp [ev] at h12; done)
  rename_i n ka' va' k' v' key hit
  split at h12 <;> try (simp [ev] at h12; done)
  rename_i hk'
  subst hk'
  obtain ⟨hnz, h13⟩ := ev_br h12
  obtain ⟨hw, h14⟩ := ev_br h13
  obtain ⟨l, hl, h15⟩ := ev_opt h14
  split at h15 <;> try (simp [ev] at h15; done)
  rename_i hdec
  obtain ⟨rfl, rfl, rfl⟩ := of_decide_eq_true hdec
  have := ev_ret h15
  simp only [Prod.mk.injEq] at this
  obtain ⟨rfl, _, _⟩ := this
  rcases VR.rf1 hm with ⟨rfl, _⟩ | ⟨n', rfl, hn, hv, _⟩
  · cases b0
  simp only [Option.getD_some] at hw hl hnz ⊢
  obtain rfl := Nat.eq_of_beq_eq_true hnz
  obtain ⟨hzf, hval, _⟩ := valAV_ok h h9 hx
  have hfz := h.freeze hzf
  have hr' := freeze_reg hzf hr
  obtain ⟨_, b, es, clock, g1, g3, g4⟩ := hfz.mapAt hr' (getMap_some hl)
  have hv : a.eval m = .map (some b) := hv.trans g1
  obtain ⟨_, G0, hG0⟩ := hfz.res REG _ hr'
  obtain ⟨b2, es2, clock2, e, _, p1, _, p2, p3, p4, p5⟩ := hG0.walks _ (get_its hit)
  have p1' : β n = .map (some b2) := p1
  have g1' : β n = .map (some b) := g1
  rw [g1'] at p1'
  obtain rfl : b = b2 := by simpa using p1'
  rw [g3] at p2
  obtain ⟨rfl, rfl⟩ : es = es2 ∧ clock = clock2 := by simpa using p2
  have hqv : a.eval q = .int .i64 (e.born : Int) := (show a.eval q = ρ id from hq).trans p5
  obtain ⟨es', clock', q1, q2⟩ := run_entryStore (P := P) (t := t) hK.flat (mapSh_sz hms) g3 g4 p3 p4 hval
  have hrel := hfz.mapWrite hr' (getMap_some hl) hw g1 g3 q2
  rw [updR_cons] at hrel
  refine .inr (.inl ⟨_, ?_, ρ, fzF F ws, β, N, hrel.undef hd⟩)
  simp only [execOp, hop, hv, hqv, Sem.run_bind, q1]
  rfl
theorem rangeWs {d : Nat} {x : It} {lk : List Nat} {its : List (Nat × It)} {H : List Node} (hdR : (!(Nat.beq d REG)) = true) (hnew : NewOk sl rs o.dst [(REG, some (RS.reg lk ((d, x) :: its) H)), (d, some RS.tok)]) (hdst : o.dst = some d) : d ≠ REG ∧ Fresh sl rs d := by
  have h1 : d ≠ REG := fun e => by subst e; rw [Nat.beq_refl] at hdR; cases hdR
  have hRd : Nat.beq REG d = false := by
    cases hb : Nat.beq REG d with
    | false => rfl
    | true => exact absurd (Nat.eq_of_beq_eq_true hb).symm h1
  exact ⟨h1, (hnew.ok0 d .tok hdst (by simp only [get, hRd, Nat.beq_refl])).1⟩
theorem ok_range (hf : Fit P T) (h : Rel (T.cf β N M0.L) M0 w0 sl rs ρ F a w) (hd : ∀ d, o.dst = some d → d < a.tmps.size) {t : TypeId} {m : Operand} (hop : o.op = .range t m) (he : ev sl rs (step P T o) s r = some (out, s1, r1)) (hnew : NewOk sl rs o.dst out.ws) : Goal P T M0 w0 sl rs a w o out := by
  simp only [step, hop] at he
  split at he <;> try (simp [ev] at he; done)
  rename_i d hdst
  obtain ⟨mv, s2, r2, h1, h2⟩ := ev_bind _ _ _ _ _ he
  have hm := opd_rel h h1
  unfold rangeR at h2
  split at h2 <;> try (simp [ev] at h2; done)
  rename_i z
  split at h2 <;> try (simp [ev] at h2; done)
  rename_i ka va k0 v0 hms
  obtain ⟨kt, et, hu, _, _, _, hsh, hK, hz⟩ := mapSh_spec hf hms
  obtain ⟨bd, h3⟩ := ev_br h2
  obtain ⟨lk, its, H, hr, h4⟩ := ev_reg h3
  have fin : ∀ {ob : Obj} {x : It}, out = ⟨.itr d, [(REG, some (RS.reg lk ((d, x) :: its) H)), (d, some RS.tok)]⟩ → (Instr.range t (a.eval m)).run P w = .ok (.pointer (some ⟨w.heap.size, 0, none⟩)) (w.alloc ob) →
      (∀ G, RegG (T.cf β N M0.L) ρ (Mof M0 rs F) w (F REG) G lk its H → ∀ ρ' M', ρ' d = .pointer (some ⟨w.heap.size, 0, none⟩) → (∀ k, M' k → k < w.heap.size → Mof M0 rs F k) → ItR (T.cf β N M0.L) ρ' M' (w.alloc ob) G d x) →
      (∃ n ka va k v l c p, x = .it n ka va k v l c p) → Goal P T M0 w0 sl rs a w o out := by
    intro ob x ho hrun hx hxi
    subst ho
    obtain ⟨hdR, hfr⟩ := rangeWs bd hnew hdst
    obtain ⟨ρ', F', hrel, hρd, _⟩ := h.regIts hr hfr hdR (v := .pointer (some ⟨w.heap.size, 0, none⟩)) rfl (x := x) (KeepS.alloc w ob) hx (fun ρ' hρ k hk => by
      obtain ⟨n, ka, va, k', v, l, c, p, rfl⟩ := hxi
      simp only [itBlk, hρ, blkV, Option.some.injEq] at hk
      subst hk
      exact ⟨Nat.le_refl _, by simp⟩)
    refine .inl ⟨.pointer (some ⟨w.heap.size, 0, none⟩), _, ?_, ρ', F', β, N, hrel.put o.dst hd (.itr d) _ hρd.symm⟩
    simp only [execOp, hop, Sem.run_bind, hrun]
    rfl
  rcases VR.rf1 hm with ⟨rfl, hv⟩ | ⟨n, rfl, hn, hv, _⟩
  · rcases ev_br2 h4 with ⟨b, _⟩ | ⟨_, h5⟩
    · cases b
    · have := ev_ret h5
      simp only [Prod.mk.injEq] at this
      have hv : a.eval m = .map none := hv
      refine fin (ob := .mapIter none 0 #[] 0) this.1 ?_ (fun G hG ρ' M' hρ hs => ?_) ⟨_, _, _, _, _, _, _, _, rfl⟩
      · simp [Instr.range, run_underlying hu, hv]
      · exact ⟨rfl, w.heap.size, 0, 0, #[], hρ, heap_alloc_new w _, rfl, rfl⟩
  · rcases ev_br2 h4 with ⟨_, h5⟩ | ⟨b, _⟩
    · obtain ⟨l, hl, h6⟩ := ev_opt h5
      have := ev_ret h6
      simp only [Prod.mk.injEq] at this
      simp only [Option.getD_some] at hl this
      obtain ⟨_, b, es, clock, g1, g3, lm, hpm, g4⟩ := h.mapAt hr (getMap_some hl)
      have hv : a.eval m = .map (some b) := hv.trans g1
      refine fin (ob := .mapIter (some b) clock #[] clock) this.1 ?_ (fun G hG ρ' M' hρ hs => ?_) ⟨_, _, _, _, _, _, _, _, rfl⟩
      · simp [Instr.range, run_underlying hu, hv, MapKept.run_getObj_map g3]
      · obtain ⟨b2, es2, clock2, p1, p2, p3, _⟩ := hG.node n _ (getMap_some hl)
        have p1' : β n = .map (some b2) := p1
        have g1' : β n = .map (some b) := g1
        rw [g1'] at p1'
        obtain rfl : b = b2 := by simpa using p1'
        have hk : KeepS (Mof M0 rs F) w (w.alloc (.mapIter (some b) clock #[] clock)) := (KeepS.alloc w _).mono fun _ _ f => f.elim
        refine ⟨rfl, w.heap.size, clock, clock, #[], hρ, b, es, clock, hn, g1, (p2 b).2 rfl, heap_alloc_new w _, ((KeepS.alloc w _).block b (heap_lt g3) (fun f => f)).trans g3, g4.born, ⟨Nat.le_refl _, Nat.le_refl _⟩, g4.nodup, keys_perm hpm g4.keys, ⟨hK.flat, mapSh_sz hms⟩, ?_, fun p hp => by cases hp⟩
        have : es.toList.filter (fun e => !(#[] : Array Nat).contains e.born) = es.toList := List.filter_eq_self.2 fun e _ => by simp
        rw [this]
        exact ⟨lm, hpm, g4.ents.imp fun _ _ he => he.step hk hs⟩
    · cases b
theorem ok_cur (h : Rel (T.cf β N M0.L) M0 w0 sl rs ρ F a w) (hd : ∀ d, o.dst = some d → d < a.tmps.size) {x : Operand} (hop : o.op = .entry x) (he : ev sl rs (step P T o) s r = some (out, s1, r1)) : Goal P T M0 w0 sl rs a w o out := by
  simp only [step, hop] at he
  obtain ⟨xv, s2, r2, h1, h2⟩ := ev_bind _ _ _ _ _ he
  have hx := opd_rel h h1
  unfold curR at h2
  split at h2 <;> try (simp [ev] at h2; done)
  rename_i id
  obtain ⟨lk, its, H, hr, h3⟩ := ev_reg h2
  split at h3 <;> try (simp [ev] at h3; done)
  rename_i n ka va k v left e hit
  obtain rfl := ret_out h3
  obtain ⟨_, G, hG⟩ := h.res REG _ hr
  obtain ⟨_, r, since, last, seen, g1, g2⟩ := hG.walks _ (get_its hit)
  have hv : a.eval x = .pointer (some ⟨r, 0, none⟩) := (show a.eval x = ρ id from hx).trans g1
  cases n with
  | none => obtain ⟨_, _, g3⟩ := g2; cases g3
  | some m =>
    obtain ⟨bm, es, clock, _, _, _, g4, g5, _, _, g8, _, ga, _, gc⟩ := g2
    obtain ⟨e', q1, q2, q3, q4⟩ := gc e rfl
    obtain ⟨sn, rfl⟩ := back_push q3
    subst q4
    have hrun := run_entry_at (P := P) w r bm since sn es last e' g4 g5 q1 g8
    refine runs_value h hd (v := .tuple #[e'.key, e'.val]) ?_ ⟨[e'.key, e'.val], rfl, .cons ?_ (.cons ?_ .nil)⟩
    · simp only [execOp, hop, hv, Sem.run_bind, hrun]
      rfl
    · rw [q2.1]
      exact VR.toSR' (valR_rel (keyV_rel ga.1 ga.2 e.1)) (toAV_not _ _ _)
    · exact VR.toSR' (valR_rel q2.2) (toAV_not _ _ _)
theorem pure1_LR {M : Nat → Prop} {x : AV} {v : Value} (h : x.pure1 = true) (hx : VR C ρ M w x v) : LR C ρ M w x v := by
  cases x <;> first | exact hx | cases h
theorem pure2_not {x : AV} (h : x.pure2 = true) : (∀ l, x ≠ .tup l) ∧ ∀ f l, x ≠ .clo f l := by
  refine ⟨fun l e => ?_, fun f l e => ?_⟩ <;> (subst e; cases h)
theorem ok_makeFunc (h : Rel (T.cf β N M0.L) M0 w0 sl rs ρ F a w) (hd : ∀ d, o.dst = some d → d < a.tmps.size) {f : FuncId} {first caps : Array Operand} (hop : o.op = .makeFunc (.func f) first caps) (he : ev sl rs (step P T o) s r = some (out, s1, r1)) : Goal P T M0 w0 sl rs a w o out := by
  simp only [step, hop] at he
  split at he <;> try (simp [ev] at he; done)
  rename_i hsz
  obtain ⟨l, s2, r2, h1, h2⟩ := ev_bind _ _ _ _ _ he
  have hl := opds_rel h h1
  have hfirst : first = #[] := Array.eq_empty_of_size_eq_zero hsz
  have hrun : (execOp a.eval o).run P w = .ok (.value (.func (.func f) #[] (caps.toList.map a.eval).toArray)) w := by
    have : caps.map a.eval = (caps.toList.map a.eval).toArray := by apply Array.ext'; simp
    simp [execOp, hop, hfirst, Instr.makeFunc, this]
  unfold cloAV at h2
  split at h2
  · obtain rfl := ret_out h2
    have : caps.toList.map a.eval = [] := by
      generalize caps.toList.map a.eval = q at hl
      cases hl; rfl
    rw [this] at hrun
    exact runs_value h hd hrun rfl
  · split at h2
    · rename_i hp
      obtain rfl := ret_out h2
      exact runs_value h hd hrun ⟨_, rfl, hl.imp_mem fun x v hx hv => pure1_LR (List.all_eq_true.1 hp x hx) hv⟩
    · split at h2 <;> try (simp [ev] at h2; done)
      rename_i hp
      obtain rfl := ret_out h2
      exact runs_value h hd hrun ⟨_, rfl, hl.imp_mem fun x v hx hv => VR.toSR' hv (pure2_not (List.all_eq_true.1 hp x hx))⟩
end
end Go.Pev
