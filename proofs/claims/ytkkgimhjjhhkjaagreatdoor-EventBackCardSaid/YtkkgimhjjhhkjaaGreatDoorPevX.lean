/- The pure evaluator, part O: the operations, one by one (5): slices built, stores, append, calls. Own text, over any program. -/
import Derived.Test.YtkkgimhjjhhkjaaGreatDoorPevN
import Derived.Maps.AppendAt
import Derived.ChangeOld
import Derived.Deep.Slices
import Derived.ChangeShapes
import Derived.Carry
import Derived.OneCell
import Derived.Lib.LaidTab
import Derived.Stop.LaidErr
import Derived.LaidHandle
import Derived.RowKit
import Derived.SizedLaws
namespace Go.Pev

section
variable {P : Program} {T : Tabs} {C : Cfg} {M0 : Nat → Prop} {w0 : World} {sl : Nat → Option AV} {rs : Nat → Option RS} {ρ : Nat → Value} {F : Nat → Nat → Prop} {a : Act} {w : World} {o : Oper} {out : Out} {s r s1 r1 : List Nat}

theorem updR_cons (ws : Ws) (p : Nat × Option RS) : updR (updR rs ws) [p] = updR rs (p :: ws) := by
  funext id
  obtain ⟨k, v⟩ := p
  simp only [updR, get]
  split <;> rename_i h
  · split at h
    · rename_i hb; rw [hb] at *; simp_all
    · simp at h
  · split at h
    · simp at h
    · simp

theorem ownsRow_one {e : TypeId} {sz n : Nat} {v : Value} {xs : List Value} (h : w.ownsRow 0 e sz v n xs) : v.oneCell' = true := by
  rcases h.2 with ⟨rfl, _⟩ | ⟨g, cap, cur, rfl, _⟩ <;> rfl

def oldWs : Option Nat → Ws
  | some id => [(id, none)]
  | none => []

/-- A row of one's own takes a new number: made, or made from an old one. -/
theorem Rel.row (h : Rel C M0 w0 sl rs ρ F a w) {d : Nat} (hf : Fresh sl rs d) (old : Option Nat) (hold : ∀ id, old = some id → (rs id).isSome = true) (hne : old ≠ some d)
    {w' : World} {v' : Value} {G : Nat → Prop} (hk : KeepS G w w') (hG : ∀ k, G k → ∃ id, old = some id ∧ F id k)
    {e : TypeId} {s : Sh} {l : List s.T} {css : List (List Value)} (hown : w'.ownsRow 0 e s.sz v' l.length css.flatten) (hcss : All2 (RR C (Mof M0 rs F) w s) l css)
    (hblk : ∀ k, v'.ownBlock = some k → (∃ id, old = some id ∧ F id k) ∨ (w.heap.size ≤ k ∧ k < w'.heap.size)) :
    ∃ ρ' F', Rel C M0 w0 sl (updR rs ((d, some (.row e s l)) :: oldWs old)) ρ' F' a w' ∧ ρ' d = v' ∧ ∀ i, i ≠ d → ρ' i = ρ i := by
  have holdM : ∀ id k, old = some id → F id k → Mof M0 rs F k ∧ w0.heap.size ≤ k ∧ k < w.heap.size := by
    intro id k ho hF
    obtain ⟨st, hst⟩ := Option.isSome_iff_exists.1 (hold id ho)
    exact ⟨.inr ⟨id, st, hst, hF⟩, (h.rng id st k hst hF).1, (h.rng id st k hst hF).2⟩
  have hkM : KeepS (Mof M0 rs F) w w' := hk.mono fun i _ g => by
    obtain ⟨id, ho, hF⟩ := hG i g
    exact (holdM id i ho hF).1
  have hsz := h.keep.size
  refine ⟨fun i => if i = d then v' else ρ i, fun i => if i = d then (fun k => v'.ownBlock = some k) else F i, ?_, by simp, fun i hi => by simp [hi]⟩
  have hget : ∀ id, id ≠ d → old ≠ some id → updR rs ((d, some (.row e s l)) :: oldWs old) id = rs id := by
    intro id hid ho
    have h1 : Nat.beq d id = false := by
      cases hb : Nat.beq d id with
      | false => rfl
      | true => exact absurd (Nat.eq_of_beq_eq_true hb).symm hid
    simp only [updR, get, h1]
    cases old with
    | none => simp [oldWs, get]
    | some i =>
      have h2 : Nat.beq i id = false := by
        cases hb : Nat.beq i id with
        | false => rfl
        | true => exact absurd (by rw [Nat.eq_of_beq_eq_true hb]) ho
      simp [oldWs, get, h2]
  have hgd : updR rs ((d, some (.row e s l)) :: oldWs old) d = some (.row e s l) := by simp [updR, get, Nat.beq_refl]
  have hgo : ∀ id, id ≠ d → old = some id → updR rs ((d, some (.row e s l)) :: oldWs old) id = none := by
    intro id hid ho
    subst ho
    have h1 : Nat.beq d id = false := by
      cases hb : Nat.beq d id with
      | false => rfl
      | true => exact absurd (Nat.eq_of_beq_eq_true hb).symm hid
    simp [updR, get, h1, oldWs, Nat.beq_refl]
  refine h.upd (fun id => id = d ∨ old = some id) hk (fun k g => ?_) (fun id hid => ⟨?_, ?_⟩) (fun t av id ht hm => ?_) (fun id st' hid hst' => ⟨?_, fun i hi => ?_⟩) (fun id st k hid hst hF g => ?_) (fun id st' hid hst' => ?_) (fun id => ?_)
  · obtain ⟨id, ho, hF⟩ := hG k g
    obtain ⟨m, b, _⟩ := holdM id k ho hF
    exact ⟨m, b⟩
  · exact hget id (fun e => hid (.inl e)) (fun e => hid (.inr e))
  · simp only [if_neg (fun e => hid (.inl e))]
  · by_cases e : id = d
    · subst e; rw [hf.slots t av ht] at hm; cases hm
    · simp only [if_neg e]
  · simp only [if_neg (fun e => hid (.inl e))]
  · by_cases e : i = d
    · subst e; rw [hf.res id st' hst'] at hi; cases hi
    · simp only [if_neg e]
  · obtain ⟨i, ho, hFi⟩ := hG k g
    obtain ⟨sti, hsti⟩ := Option.isSome_iff_exists.1 (hold i ho)
    have : i ≠ id := fun e => hid (.inr (e ▸ ho))
    exact h.disj i id sti st k hsti hst this hFi hF
  · rcases hid with rfl | ho
    · rw [hgd] at hst'
      obtain rfl := Option.some.inj hst'
      refine ⟨fun hs => ?_, fun k hk' => ?_⟩
      · simp only [if_true]
        exact ⟨css, by simpa using hown, fun k => by simp, hcss.imp fun x cs hx => RR.step hkM hs s x cs hx⟩
      · simp only [if_true] at hk'
        rcases hblk k hk' with ⟨i, ho, hFi⟩ | ⟨b1, b2⟩
        · obtain ⟨m, c1, c2⟩ := holdM i k ho hFi
          refine ⟨c1, Nat.lt_of_lt_of_le c2 hk.size, fun _ => m, fun j t hj ht => ?_⟩
          simp only [if_neg hj]
          obtain ⟨sti, hsti⟩ := Option.isSome_iff_exists.1 (hold i ho)
          by_cases hij : i = j
          · subst hij; rw [hgo i hj ho] at ht; cases ht
          · rw [hget j hj (fun e => hij (Option.some.inj (ho.symm.trans e)))] at ht
            exact h.disj i j sti t k hsti ht hij hFi
        · refine ⟨by omega, b2, fun hlt => absurd hlt (by omega), fun j t hj ht => ?_⟩
          simp only [if_neg hj]
          intro hF
          by_cases hjo : old = some j
          · rw [hgo j hj hjo] at ht; cases ht
          · rw [hget j hj hjo] at ht
            have := (h.rng j t k ht hF).2
            omega
    · by_cases e' : id = d
      · subst e'; exact absurd ho hne
      · rw [hgo id e' ho] at hst'; cases hst'
  · by_cases e : id = d
    · simp only [if_pos e]; exact ownsRow_one hown
    · simp only [if_neg e]; exact h.one id

theorem Fresh.freeze {d : Nat} (hf : Fresh sl rs d) {ws : Ws} (hz : FreezeWs rs ws) : Fresh sl (updR rs ws) d := by
  refine ⟨hf.slots, fun id st hst => ?_⟩
  simp only [updR] at hst
  cases hg : get ws id with
  | none => rw [hg] at hst; exact hf.res id st hst
  | some q =>
    rw [hg] at hst
    obtain ⟨e, s, l, _, rfl⟩ := hz id q hg
    obtain rfl := Option.some.inj hst
    rfl

theorem litEls_ok (h : Rel C M0 w0 sl rs ρ F a w) {e : TypeId} {st : Sh} : ∀ {n : Nat} {l : List (Nat × AV)} {xs : List st.T} {ws : Ws} {s r s1 r1 : List Nat} {vs : List (Nat × Value)}, ev sl rs (litEls P e st n l) s r = some ((xs, ws), s1, r1) →
    All2 (fun (x : Nat × AV) (y : Nat × Value) => x.1 = y.1 ∧ VR C ρ (Mof M0 rs F) w x.2 y.2) l vs →
    FreezeWs rs ws ∧ vs = (((vs.map (·.2)).zipIdx n).map fun x => (x.2, x.1)) ∧ xs.length = l.length ∧
      ∀ us, FreezeWs rs us → (∀ id q, get ws id = some q → (get us id).isSome) → All2 (RR C (Mof M0 (updR rs us) (fzF F us)) w st) xs (vs.map (·.2.cells.toList))
  | n, [], xs, ws, s, r, s1, r1, vs, he, hx => by
    simp only [litEls] at he
    have := ev_ret he
    simp only [Prod.mk.injEq] at this
    obtain ⟨⟨rfl, rfl⟩, _, _⟩ := this
    cases hx
    exact ⟨FreezeWs.nil, rfl, rfl, fun _ _ _ => .nil⟩
  | n, (i, x) :: l, xs, ws, s, r, s1, r1, vs, he, hx => by
    simp only [litEls] at he
    split at he <;> try (simp [ev] at he; done)
    rename_i hfit
    simp only [Bool.and_eq_true] at hfit
    obtain ⟨⟨y, w1⟩, s2, r2, h1, h2⟩ := ev_bind _ _ _ _ _ he
    obtain ⟨z, s3, r3, h3, h4⟩ := ev_bind _ _ _ _ _ h2
    obtain ⟨⟨zs, w2⟩, s4, r4, h5, h6⟩ := ev_bind _ _ _ _ _ h4
    have := ev_ret h6
    simp only [Prod.mk.injEq] at this
    obtain ⟨⟨rfl, rfl⟩, _, _⟩ := this
    obtain ⟨z', e1, e2⟩ := ev_ofO h3
    simp only [Prod.mk.injEq] at e2
    obtain ⟨rfl, _, _⟩ := e2
    cases hx with
    | cons hx hxs =>
      rename_i v vs
      obtain ⟨hi, hx⟩ := hx
      obtain ⟨cs, c1, c2, _⟩ := aggFit_vr h.one hfit.2 hx
      obtain ⟨z1, f1⟩ := dataLs_ok h h1 c2
      obtain ⟨z2, g1, g2, f2⟩ := litEls_ok h h5 hxs
      refine ⟨z1.append z2, ?_, by simp [g2], fun us hz hus => ?_⟩
      · have : i = n := Nat.eq_of_beq_eq_true hfit.1
        simp only [List.map_cons, List.zipIdx_cons]
        rw [← g1]
        obtain ⟨v1, v2⟩ := v
        simp only at hi
        rw [← hi, this]
      · have q1 := f1 us hz fun id q hq => hus id q (by rw [get_append, hq])
        have q2 := f2 us hz fun id q hq => by
          cases hw : get w1 id with
          | some q' => exact hus id q' (by rw [get_append, hw])
          | none => exact hus id q (by rw [get_append, hw, hq])
        simp only [List.map_cons]
        refine .cons ?_ q2
        rw [c1]
        exact ofLeaves_rep st _ _ _ e1 q1

theorem flatten_ext {css : List (List Value)} {n : Nat} (hn : 0 < n) (hc : ∀ c ∈ css, c.length = n) (k : Nat) : css.flatten[k]? = (css[k / n]?).bind fun c => c[k % n]? := by
  have hk : k = k / n * n + k % n := (Nat.div_add_mod' k n).symm
  have hm := Nat.mod_lt k hn
  cases hi : css[k / n]? with
  | none =>
    simp only [Option.bind_none]
    apply List.getElem?_eq_none
    have hl : css.length ≤ k / n := List.getElem?_eq_none_iff.1 hi
    have : css.flatten.length = css.length * n := by
      clear hi hl
      induction css with
      | nil => simp
      | cons c cs ih => simp [List.flatten_cons, hc c List.mem_cons_self, ih fun c h => hc c (List.mem_cons_of_mem _ h), Nat.add_mul]; omega
    rw [this]
    have := Nat.mul_le_mul_right n hl
    omega
  | some c =>
    have hcl := hc c (List.mem_of_getElem? hi)
    simp only [Option.bind_some]
    have hj : c[k % n]? = some c[k % n] := List.getElem?_eq_getElem (by omega)
    rw [hj]
    conv => lhs; rw [hk]
    exact flatten_get hi hc hj

theorem flatten_length {css : List (List Value)} {n : Nat} (hc : ∀ c ∈ css, c.length = n) : css.flatten.length = css.length * n := by
  induction css with
  | nil => simp
  | cons c cs ih => simp [List.flatten_cons, hc c List.mem_cons_self, ih fun c h => hc c (List.mem_cons_of_mem _ h), Nat.add_mul]; omega

theorem blk_alloc_new' (w : World) (o : Obj) : (w.alloc o).heap[w.heap.size]? = some o := Array.getElem?_push_size
theorem ok_buildSlice (hf : Fit P T) (h : Rel T.toCfg M0 w0 sl rs ρ F a w) (hd : ∀ d, o.dst = some d → d < a.tmps.size) {t : TypeId} {n : Nat} {ps : Array (Nat × Operand)} (hop : o.op = .buildSlice t n ps) (he : ev sl rs (step P T o) s r = some (out, s1, r1)) (hnew : NewOk sl rs o.dst out.ws) : Goal P T M0 w0 sl rs a w o out := by
  simp only [step, hop] at he
  split at he <;> try (simp [ev] at he; done)
  rename_i e hel
  split at he <;> try (simp [ev] at he; done)
  rename_i st hst
  by_cases hz0 : n = 0 ∧ ps = #[]
  · obtain ⟨rfl, rfl⟩ := hz0
    rw [if_pos ⟨rfl, rfl⟩] at he
    split at he <;> try (simp [ev] at he; done)
    rename_i d hdst
    have := ev_ret he
    simp only [Prod.mk.injEq] at this
    obtain ⟨rfl, _, _⟩ := this
    have hrun : (Instr.buildSlice t 0 #[]).run P w = .ok (.slice (some ⟨w.heap.size, 0, none⟩) 0 0) (w.alloc (.cells #[] e)) := by
      obtain ⟨ti, z, hi, hsz, hz, hzc⟩ := (hf.tys.get hst).info
      simp [Instr.buildSlice, run_underlying (elemOf_spec hel), sizeOf, typeInfo, hi, Instr.fill, newRow]
      rw [show Array.map (fun x => (default : Value)) (Array.range 0) = #[] from Array.eq_empty_of_size_eq_zero (by simp)]
    obtain ⟨hfr, hmw, _⟩ := hnew.ok d (.row e st []) hdst (by simp [get, Nat.beq_refl])
    obtain ⟨ρ', F', hrel, hρ, _⟩ := h.row hfr none (fun _ h => by cases h) (by simp) (e := e) (v' := .slice (some ⟨w.heap.size, 0, none⟩) 0 0) (KeepS.alloc w (.cells #[] e)) (fun _ g => g.elim) (s := st) (l := []) (css := [])
      ⟨by simp, .inr ⟨w.heap.size, 0, #[], rfl, Nat.zero_le _, blk_alloc_new' w _, Nat.le_refl _, Nat.zero_le _, by simp, by simp⟩⟩ .nil (fun k hk => by
        simp only [Value.ownBlock, Option.some.injEq] at hk
        subst hk
        exact .inr ⟨Nat.le_refl _, by simp⟩)
    refine .inl ⟨.slice (some ⟨w.heap.size, 0, none⟩) 0 0, w.alloc (.cells #[] e), ?_, ρ', F', ?_⟩
    · simp only [execOp, hop, Sem.run_bind]
      simp only [Array.map_empty, hrun]
      rfl
    · refine hrel.put o.dst hd (.own d) _ ?_
      simp only [VR, SR, LR]
      exact hρ.symm
  rw [if_neg hz0] at he
  split at he <;> try (simp [ev] at he; done)
  rename_i hn
  obtain ⟨l, s2, r2, h1, h2⟩ := ev_bind _ _ _ _ _ he
  split at h2 <;> try (simp [ev] at h2; done)
  rename_i hlen
  obtain ⟨⟨xs, ws⟩, s3, r3, h3, h4⟩ := ev_bind _ _ _ _ _ h2
  simp only at h4
  split at h4 <;> try (simp [ev] at h4; done)
  rename_i d hdst
  have := ev_ret h4
  simp only [Prod.mk.injEq] at this
  obtain ⟨rfl, _, _⟩ := this
  have hparts := partsOf_rel h h1
  obtain ⟨z1, g1, g2, f1⟩ := litEls_ok h h3 hparts
  have hcss := f1 ws z1 (fun id q hq => by simp [hq])
  generalize hvs : ps.toList.map (fun p => (p.1, a.eval p.2)) = vs at hparts g1 hcss
  obtain ⟨ti, z, hi, hsz, hz, hzc⟩ := (hf.tys.get hst).info
  have hpl := hparts.length
  have hvl : vs.length = n := by omega
  have hcl : ∀ c ∈ vs.map (·.2.cells.toList), c.length = st.sz := fun c hc => by
    obtain ⟨x, _, hx⟩ := hcss.mem_right c hc
    exact RR.len st x c hx
  have hszp := st.sz_pos
  have hnpos : 0 < n * st.sz := Nat.mul_pos hn.2 hszp
  have hn1 : n ≤ n * st.sz := Nat.le_mul_of_pos_right n hszp
  obtain ⟨r0, hr1, hr2, hr3⟩ := Great.fill_dense hszp (vs.map (·.2)) 0 ((Array.range (n * ti.size)).map (z.cells[· % z.cells.size]!)) (fun v hv => by
    obtain ⟨p, hp, rfl⟩ := List.mem_map.1 hv
    have := hcl p.2.cells.toList (List.mem_map.2 ⟨p, hp, rfl⟩)
    simpa using this) (by simp [hvl, hsz])
  have hflat : r0.toList = (vs.map (·.2.cells.toList)).flatten := by
    apply List.ext_getElem?
    intro k
    have := hr3 k
    simp only [Nat.zero_mul, Nat.zero_le, true_and, Nat.zero_add, List.length_map, hvl, Nat.sub_zero] at this
    rw [Array.getElem?_toList, this, flatten_ext hszp hcl k]
    have hsz0 : r0.size = n * st.sz := by rw [hr2]; simp [hsz]
    by_cases hk : k < n * st.sz
    · rw [if_pos hk]
      simp only [List.getElem?_map]
      cases vs[k / st.sz]? with
      | none => rfl
      | some p => simp
    · rw [if_neg hk]
      have h0 : (vs.map (·.2.cells.toList))[k / st.sz]? = none := by
        apply List.getElem?_eq_none
        simp only [List.length_map, hvl]
        exact (Nat.le_div_iff_mul_le hszp).2 (by omega)
      rw [h0]
      simp [hsz]
      omega
  have hparts2 : (ps.map fun (i, x) => (i, a.eval x)).toList = ((vs.map (·.2)).zipIdx 0).map fun x => (x.2, x.1) := by
    rw [← g1, ← hvs]; simp
  have hrun := run_buildSlice (P := P) w t e n (ps.map fun (i, x) => (i, a.eval x)) r0 ti z (elemOf_spec hel) hi hz (by rw [hsz]; omega) (by rw [hsz]; omega) (by rw [hparts2, hsz] at *; exact hr1)
  obtain ⟨hfr, hmw, _⟩ := hnew.ok d (.row e st xs) hdst (by simp [get, Nat.beq_refl])
  obtain ⟨ρ', F', hrel, hρ, _⟩ := (h.freeze z1).row (hfr.freeze z1) none (fun _ h => by cases h) (by simp) (e := e) (v' := .slice (some ⟨w.heap.size, 0, none⟩) n n) (KeepS.alloc w (.cells r0 e)) (fun _ g => g.elim) (l := xs) (css := vs.map (·.2.cells.toList)) ⟨by rw [flatten_length hcl]; simp [hvl, g2, hlen], .inr ⟨w.heap.size, n, r0, by rw [g2, hlen], Nat.zero_le _, heap_alloc_new w _, by omega, by simp only [maxLen]; omega, by rw [hr2]; simp [hsz], by
    rw [← hflat, g2, hlen]
    apply List.take_of_length_le
    simp [hr2, hsz]⟩⟩ hcss (fun k hk => by
    simp only [Value.ownBlock, Option.some.injEq] at hk
    subst hk
    exact .inr ⟨Nat.le_refl _, by simp⟩)
  · refine .inl ⟨.slice (some ⟨w.heap.size, 0, none⟩) n n, w.alloc (.cells r0 e), ?_, ρ', F', ?_⟩
    · simp only [execOp, hop, Sem.run_bind, hrun]
      rfl
    · rw [show updR (updR rs ws) ((d, some (.row e st xs)) :: oldWs none) = updR rs ((d, some (.row e st xs)) :: ws) from updR_cons ws _] at hrel
      refine hrel.put o.dst hd (.own d) _ ?_
      simp only [VR, SR, LR]
      exact hρ.symm

theorem KeepS.setRow (w : World) (g : Nat) (cs : Array Value) : KeepS (fun k => k = g) w (w.setRow g cs) :=
  ⟨rfl, rfl, rfl, by simp [World.setRow], fun k _ hk => setRow_other w g k _ hk⟩

theorem run_store {t : TypeId} {st : Sh} (ht : TyOk P t st) {b off : Nat} {cells : Array Value} {u : TypeId} (hg : w.heap[b]? = some (.cells cells u (0, 0))) {v : Value} {vs : List Value} (hv : v.cells = vs.toArray) (hl : vs.length = st.sz) (hfit : off + vs.length ≤ cells.size) (h1 : ∀ x ∈ vs, x.oneCell' = true) :
    (Instr.storeAt t (.pointer (some ⟨b, off, none⟩)) v).run P w = .ok () (w.setRow b (cells.toList.take off ++ vs ++ cells.toList.drop (off + vs.length)).toArray) := by
  obtain ⟨ti, z, hi, hsz, _⟩ := ht.info
  have := run_storeCells_at P b off u vs 0 cells w hg (by simpa using hfit) h1
  simp only [Nat.add_zero] at this
  simp [Instr.storeAt, Instr.sureAddr, storeVar, sizeOf, typeInfo, hi, hv, hl, hsz, this]

theorem LRs.one (h1 : ∀ id, (ρ id).oneCell' = true) {M : Nat → Prop} {l : List AV} {vs : List Value} (h : All2 (LR C ρ M w) l vs) (ho : ∀ x ∈ l, okLeaf x = true) : ∀ u ∈ vs, u.oneCell' = true := by
  intro u hu
  obtain ⟨x, hx, hr⟩ := h.mem_right u hu
  exact hr.one (ho x hx) fun id _ => h1 id

theorem splice_all {l v : List AV} {off : Nat} (hl : ∀ x ∈ l, okLeaf x = true) (hv : ∀ x ∈ v, okLeaf x = true) : ∀ x ∈ splice l off v, okLeaf x = true := by
  intro x hx
  unfold splice at hx
  simp only [List.mem_append] at hx
  rcases hx with (h | h) | h
  · exact hl x (List.mem_of_mem_take h)
  · exact hv x h
  · exact hl x (List.mem_of_mem_drop h)

theorem set_flatten {sz : Nat} (off : Nat) (vs : List Value) (hv : off + vs.length ≤ sz) : ∀ (css : List (List Value)) (i : Nat) (c : List Value), css[i]? = some c → (∀ c ∈ css, c.length = sz) →
    (css.set i (c.take off ++ vs ++ c.drop (off + vs.length))).flatten = css.flatten.take (i * sz + off) ++ vs ++ css.flatten.drop (i * sz + off + vs.length)
  | [], i, c, h, _ => by simp at h
  | c0 :: css, 0, c, h, hc => by
    obtain rfl : c0 = c := by simpa using h
    have hl := hc c0 List.mem_cons_self
    simp only [List.set_cons_zero, List.flatten_cons, Nat.zero_mul, Nat.zero_add]
    rw [List.take_append_of_le_length (by omega), List.drop_append_of_le_length (by omega)]
    simp
  | c0 :: css, i + 1, c, h, hc => by
    have hl := hc c0 List.mem_cons_self
    have ih := set_flatten off vs hv css i c (by simpa using h) (fun c h => hc c (List.mem_cons_of_mem _ h))
    simp only [List.set_cons_succ, List.flatten_cons]
    have e1 : (i + 1) * sz + off = c0.length + (i * sz + off) := by rw [hl, Nat.succ_mul]; omega
    rw [ih, e1, List.take_length_add_append, show c0.length + (i * sz + off) + vs.length = c0.length + (i * sz + off + vs.length) by omega, List.drop_length_add_append]
    simp

theorem All2.set {α β : Type} {r : α → β → Prop} : ∀ {l : List α} {m : List β}, All2 r l m → ∀ (i : Nat) {x : α} {y : β}, r x y → All2 r (l.set i x) (m.set i y)
  | _, _, .nil, _, _, _, _ => .nil
  | _, _, .cons _ t, 0, _, _, h => .cons h t
  | _, _, .cons h0 t, i + 1, _, _, h => .cons h0 (t.set i h)

theorem Rel.undef (h : Rel C M0 w0 sl rs ρ F a w) {dst : Option Nat} (hd : ∀ d, dst = some d → d < a.tmps.size) : Rel C M0 w0 (updS sl dst .undef) rs ρ F (a.put dst Go.undef) w := h.put dst hd .undef Go.undef rfl

/-- A store into a variable of one's own. -/
theorem Rel.box (h : Rel C M0 w0 sl rs ρ F a w) {id : Nat} {t : TypeId} {cs : List AV} (hid : rs id = some (.box t cs)) {b : Nat} (hb : ρ id = .pointer (some ⟨b, 0, none⟩)) {v : List AV} {vs : List Value} {off : Nat}
    (hv : All2 (LR C ρ (Mof M0 rs F) w) v vs) (hvo : ∀ x ∈ v, okLeaf x = true) (hfit : off + v.length ≤ cs.length) :
    ∃ cells : Array Value, w.heap[b]? = some (.cells cells t (0, 0)) ∧ off + vs.length ≤ cells.size ∧
      Rel C M0 w0 sl (updR rs [(id, some (.box t (splice cs off v)))]) ρ F a (w.setRow b (cells.toList.take off ++ vs ++ cells.toList.drop (off + vs.length)).toArray) := by
  obtain ⟨b', cells, e1, e2, e3, e4, e5⟩ := h.res id _ hid
  rw [hb] at e1
  obtain rfl : b = b' := by simpa using e1
  have hl1 := e4.length
  have hl2 := hv.length
  have hbF : F id b := (e2 b).2 rfl
  have hbM : Mof M0 rs F b := .inr ⟨id, _, hid, hbF⟩
  have hr := h.rng id _ b hid hbF
  refine ⟨cells, e3, by simp at hl1; omega, ?_⟩
  have hk := KeepS.setRow w b (cells.toList.take off ++ vs ++ cells.toList.drop (off + vs.length)).toArray
  have hkM : KeepS (Mof M0 rs F) w (w.setRow b (cells.toList.take off ++ vs ++ cells.toList.drop (off + vs.length)).toArray) := hk.mono fun i _ g => by subst g; exact hbM
  refine h.upd (fun i => i = id) hk (fun k g => by subst g; exact ⟨hbM, hr.1⟩) (fun i hi => ⟨by rw [updR_single, if_neg (Ne.symm hi)], rfl⟩) (fun _ _ _ _ _ => rfl) (fun _ _ _ _ => ⟨rfl, fun _ _ => rfl⟩)
    (fun i st k hi hst hF g => by subst g; exact h.disj id i _ st k hid hst (Ne.symm hi) hbF hF) (fun i st hi hst => ?_) h.one
  subst hi
  rw [updR_single, if_pos rfl] at hst
  obtain rfl := Option.some.inj hst
  refine ⟨fun hs => ⟨b, _, hb, e2, setRow_heap w b cells _ t _ e3, ?_, splice_all e5 hvo⟩, fun k hF => ?_⟩
  · dsimp only
    exact LRs.step (splice_rel e4 hv off) hkM hs fun _ _ => rfl
  · have := h.rng i _ k hid hF
    refine ⟨this.1, by rw [show (w.setRow b _).heap.size = w.heap.size by simp [World.setRow]]; exact this.2, fun _ => .inr ⟨i, _, hid, hF⟩, fun j t' hj ht => ?_⟩
    rw [updR_single, if_neg (Ne.symm hj)] at ht
    exact h.disj i j _ t' k hid ht (Ne.symm hj) hF

/-- A store into an element of a row of one's own. -/
theorem Rel.elt (h : Rel C M0 w0 sl rs ρ F a w) {id : Nat} {e : TypeId} {st : Sh} {l : List st.T} (hid : rs id = some (.row e st l)) {g n c : Nat} (hg : ρ id = .slice (some ⟨g, 0, none⟩) n c) {v : List AV} {vs : List Value} {off i : Nat} {y x : st.T}
    (hy : l[i]? = some y) (hv : All2 (LR C ρ (Mof M0 rs F) w) v vs) (_ : ∀ x ∈ v, okLeaf x = true) (hfit : off + v.length ≤ st.sz) (hx : ofLeaves st (splice (leaves st y) off v) = some x) :
    ∃ cells : Array Value, w.heap[g]? = some (.cells cells e (0, 0)) ∧ i * st.sz + off + vs.length ≤ cells.size ∧
      Rel C M0 w0 sl (updR rs [(id, some (.row e st (l.set i x)))]) ρ F a (w.setRow g (cells.toList.take (i * st.sz + off) ++ vs ++ cells.toList.drop (i * st.sz + off + vs.length)).toArray) := by
  obtain ⟨css, ⟨hlen, hown⟩, hF, hel⟩ := h.res id _ hid
  have hi : i < l.length := (List.getElem?_eq_some_iff.1 hy).1
  rcases hown with ⟨hv0, hn0⟩ | ⟨g', cap, cur, hv0, hbase, hgh, hnc, hcm, hcs, htake⟩
  · omega
  have hv1 := hg
  rw [hv0] at hg
  obtain ⟨rfl, rfl, rfl⟩ : g' = g ∧ l.length = n ∧ cap = c := by simpa using hg
  obtain ⟨ci, hci, hri⟩ := hel.get i y hy
  have hcl : ∀ c ∈ css, c.length = st.sz := fun c hc => by
    obtain ⟨x, _, hx⟩ := hel.mem_right c hc
    exact RR.len st x c hx
  have hl2 := hv.length
  have hi1 : (i + 1) * st.sz ≤ l.length * st.sz := Nat.mul_le_mul_right _ hi
  rw [Nat.succ_mul] at hi1
  have hc1 : l.length * st.sz ≤ cap * st.sz := Nat.mul_le_mul_right _ hnc
  have hbF : F id g' := (hF g').2 (by rw [hv0]; rfl)
  have hbM : Mof M0 rs F g' := .inr ⟨id, _, hid, hbF⟩
  have hr := h.rng id _ g' hid hbF
  have hpl : i * st.sz + off + vs.length ≤ l.length * st.sz := by omega
  refine ⟨cur, hgh, by omega, ?_⟩
  have hk := KeepS.setRow w g' (cur.toList.take (i * st.sz + off) ++ vs ++ cur.toList.drop (i * st.sz + off + vs.length)).toArray
  have hkM : KeepS (Mof M0 rs F) w (w.setRow g' (cur.toList.take (i * st.sz + off) ++ vs ++ cur.toList.drop (i * st.sz + off + vs.length)).toArray) := hk.mono fun i _ g => by subst g; exact hbM
  refine h.upd (fun i => i = id) hk (fun k g => by subst g; exact ⟨hbM, hr.1⟩) (fun i hi => ⟨by rw [updR_single, if_neg (Ne.symm hi)], rfl⟩) (fun _ _ _ _ _ => rfl) (fun _ _ _ _ => ⟨rfl, fun _ _ => rfl⟩)
    (fun i st k hi hst hF g => by subst g; exact h.disj id i _ st k hid hst (Ne.symm hi) hbF hF) (fun j stj hj hst => ?_) h.one
  subst hj
  rw [updR_single, if_pos rfl] at hst
  obtain rfl := Option.some.inj hst
  have hsf := set_flatten off vs (by omega : off + vs.length ≤ st.sz) css i ci hci hcl
  have hcur : cur.toList = css.flatten ++ cur.toList.drop (l.length * st.sz) := by rw [← htake, List.take_append_drop]
  refine ⟨fun hs => ⟨css.set i (ci.take off ++ vs ++ ci.drop (off + vs.length)), ⟨?_, .inr ⟨g', cap, _, by simpa using hv0, hbase, setRow_heap w g' cur _ e _ hgh, by simpa using hnc, hcm, ?_, ?_⟩⟩, hF, ?_⟩, fun k hF' => ?_⟩
  · rw [hsf]
    simp only [List.length_append, List.length_take, List.length_drop, hlen, List.length_set]
    omega
  · simp only [List.size_toArray, List.length_append, List.length_take, List.length_drop, Array.length_toList, hcs]
    omega
  · simp only [List.length_set]
    rw [hsf]
    generalize cur.toList.drop (l.length * st.sz) = rest at hcur
    rw [hcur, List.take_append_of_le_length (l₁ := css.flatten) (by omega), List.drop_append_of_le_length (l₁ := css.flatten) (by omega), ← List.append_assoc]
    apply List.take_left'
    simp only [List.length_append, List.length_take, List.length_drop, hlen]
    omega
  · refine (hel.imp fun x cs hx => RR.step hkM hs st x cs hx).set i ?_
    have hsp := splice_rel (leaves_rel (ρ := ρ) st y ci hri) hv off
    exact RR.step hkM hs st x _ (ofLeaves_rep st _ x _ hx hsp)
  · have := h.rng j _ k hid hF'
    refine ⟨this.1, by rw [show (w.setRow g' _).heap.size = w.heap.size by simp [World.setRow]]; exact this.2, fun _ => .inr ⟨j, _, hid, hF'⟩, fun j2 t' hj ht => ?_⟩
    rw [updR_single, if_neg (Ne.symm hj)] at ht
    exact h.disj j j2 _ t' k hid ht (Ne.symm hj) hF'

theorem dataLs_one {xs ys : List AV} {ws : Ws} {s r s1 r1 : List Nat} (he : ev sl rs (dataLs xs) s r = some ((ys, ws), s1, r1)) (hx : ∀ x ∈ xs, okLeaf x = true) : ys.length = xs.length ∧ ∀ y ∈ ys, okLeaf y = true := by
  induction xs generalizing ys ws s r s1 r1 with
  | nil =>
    simp only [dataLs] at he
    have := ev_ret he
    simp only [Prod.mk.injEq] at this
    obtain ⟨⟨rfl, rfl⟩, _, _⟩ := this
    exact ⟨rfl, fun _ h => by simp at h⟩
  | cons x xs ih =>
    simp only [dataLs] at he
    obtain ⟨⟨y, w1⟩, s2, r2, h1, h2⟩ := ev_bind _ _ _ _ _ he
    obtain ⟨⟨l, w2⟩, s3, r3, h3, h4⟩ := ev_bind _ _ _ _ _ h2
    have := ev_ret h4
    simp only [Prod.mk.injEq] at this
    obtain ⟨⟨rfl, rfl⟩, _, _⟩ := this
    obtain ⟨e1, e2⟩ := ih h3 fun x h => hx x (List.mem_cons_of_mem _ h)
    refine ⟨by simp [e1], fun z hz => ?_⟩
    rcases List.mem_cons.1 hz with rfl | hz
    · by_cases ho : ∃ id, x = .own id
      · obtain ⟨id, rfl⟩ := ho
        simp only [dataL] at h1
        obtain ⟨st, h5, h6⟩ := ev_res h1
        cases st <;> try (simp [ev] at h6; done)
        all_goals
          have := ev_ret h6
          simp only [Prod.mk.injEq] at this
          obtain ⟨⟨rfl, _⟩, _, _⟩ := this
          rfl
      · have hd : dataL x = .ret (x, []) := by cases x <;> first | rfl | exact absurd ⟨_, rfl⟩ ho
        rw [hd] at h1
        have := ev_ret h1
        simp only [Prod.mk.injEq] at this
        obtain ⟨⟨rfl, _⟩, _, _⟩ := this
        exact hx z List.mem_cons_self
    · exact e2 z hz

theorem ok_store (hf : Fit P T) (h : Rel T.toCfg M0 w0 sl rs ρ F a w) (hd : ∀ d, o.dst = some d → d < a.tmps.size) {t : TypeId} {x y : Operand} (hop : o.op = .store t x y) (he : ev sl rs (step P T o) s r = some (out, s1, r1)) : Goal P T M0 w0 sl rs a w o out := by
  simp only [step, hop] at he
  split at he <;> try (simp [ev] at he; done)
  rename_i st hst
  have hty := hf.tys.get hst
  obtain ⟨av, s2, r2, h1, h2⟩ := ev_bind _ _ _ _ _ he
  have hx := opd_rel h h1
  obtain ⟨yv, s3, r3, h3, h4⟩ := ev_bind _ _ _ _ _ h2
  have hy := opd_rel h h3
  have core : ∀ {l : List AV} {vs : List Value} {s4 r4 : List Nat}, (a.eval y).cells = vs.toArray → All2 (LR T.toCfg ρ (Mof M0 rs F) w) l vs → ev sl rs (step.storeAt st av l) s4 r4 = some (out, s1, r1) → Goal P T M0 w0 sl rs a w o out := by
    intro l vs s4 r4 hcv hl hev
    unfold step.storeAt at hev
    split at hev <;> try (simp [ev] at hev; done)
    rename_i hlen
    obtain ⟨hlen, hok⟩ := hlen
    have hok' := List.all_eq_true.1 hok
    have hll := hl.length
    split at hev <;> try (simp [ev] at hev; done)
    · rename_i id off
      obtain ⟨q, h5, h6⟩ := ev_res hev
      split at h6 <;> try (simp [ev] at h6; done)
      rename_i t' cs
      split at h6 <;> try (simp [ev] at h6; done)
      rename_i hfit
      have := ev_ret h6
      simp only [Prod.mk.injEq] at this
      obtain ⟨rfl, _, _⟩ := this
      simp only [VR, SR, LR] at hx
      obtain ⟨b, e6, e7⟩ := hx
      obtain ⟨cells, g1, g2, g3⟩ := h.box h5 e6 hl hok' hfit
      refine .inr (.inl ⟨_, ?_, ρ, F, g3.undef hd⟩)
      simp only [execOp, hop, e7, Sem.run_bind, run_store hty g1 hcv (by omega) g2 (LRs.one h.one hl hok')]
      rfl
    · rename_i id sz i off
      obtain ⟨q, h5, h6⟩ := ev_res hev
      split at h6 <;> try (simp [ev] at h6; done)
      rename_i e s0 l0
      obtain ⟨⟨v', ws⟩, s5, r5, h7, h8⟩ := ev_bind _ _ _ _ _ h6
      simp only at h8
      split at h8 <;> try (simp [ev] at h8; done)
      rename_i hfit
      split at h8 <;> try (simp [ev] at h8; done)
      rename_i x0 hx0 hnone
      obtain ⟨b1, h9⟩ := ev_br h8
      obtain ⟨b2, h10⟩ := ev_br h9
      simp only [decide_eq_true_eq] at b1 b2
      have := ev_ret h10
      simp only [Prod.mk.injEq] at this
      obtain ⟨rfl, _, _⟩ := this
      simp only [VR, SR, LR] at hx
      obtain ⟨g, n, c, e6, e7⟩ := hx
      obtain ⟨rfl, hfit⟩ := hfit
      obtain ⟨z1, f1⟩ := dataLs_ok h h7 hl
      have hl' := f1 ws z1 (fun id q hq => by simp [hq])
      obtain ⟨hlen', hok2⟩ := dataLs_one h7 hok'
      have hi : i.toNat < l0.length := by omega
      have hgi : getI l0 i s0.dflt = l0[i.toNat] := by simp [getI, hi]
      rw [hgi] at hx0
      obtain ⟨cells, g1, g2, g3⟩ := (h.freeze z1).elt (id := id) (e := e) (st := s0) (l := l0) (by simp [updR, hnone, h5]) e6 (i := i.toNat) (List.getElem?_eq_getElem hi) hl' hok2 hfit hx0
      rw [updR_cons] at g3
      refine .inr (.inl ⟨_, ?_, ρ, _, g3.undef hd⟩)
      simp only [execOp, hop, e7, Sem.run_bind, run_store hty g1 hcv (by omega) g2 (LRs.one h.one hl hok')]
      rfl
  split at h4 <;> try (simp [ev] at h4; done)
  · obtain ⟨cs, hv, hl⟩ := hy.ag
    exact core (by rw [hv]; rfl) hl h4
  · split at h4 <;> try (simp [ev] at h4; done)
    rename_i hok
    have hl := hy.toLR hok
    exact core (vs := [a.eval y]) (cells_one (hl.one hok fun id _ => h.one id)) (.cons hl .nil) h4

theorem RR.one {M : Nat → Prop} {s : Sh} {x : s.T} {cs : List Value} (h : RR C M w s x cs) : ∀ u ∈ cs, u.oneCell' = true :=
  LRs.one (ρ := fun _ => .nilIface) (fun _ => rfl) (leaves_rel s x cs h) (leaves_ok s x)

theorem run_append_none (t ty e : TypeId) (i : TypeInfo) (ht : P.underlying t = some (.slice e)) (hi : P.info? e = some i) {size : Nat} {v : Value} {n : Nat} {xs : List Value} (hown : w.ownsRow 0 e size v n xs) (c : Nat) :
    (Builtin.append_ #[t, t] ty #[v, .slice none 0 c]).run P w = .ok v w := by
  rcases hown.2 with ⟨rfl, rfl⟩ | ⟨g, cap, cur, rfl, _, _, hnc, _⟩
  · simp [Builtin.append_, run_underlying ht, sizeOf, typeInfo, hi, Builtin.lenOf, Builtin.firstCells]
  · simp [Builtin.append_, run_underlying ht, sizeOf, typeInfo, hi, Builtin.lenOf, Builtin.firstCells, loadCells, hnc, storeCells]

theorem zeroCells_len (s : Sh) : (zeroCells s).length = s.sz := by
  rw [← (zleaves_rel (C := ⟨0, 0, 0, []⟩) (ρ := fun _ => .nilIface) (M := fun _ => False) (w := default) s).length, zleaves_len]

theorem ok_append (hf : Fit P T) (h : Rel T.toCfg M0 w0 sl rs ρ F a w) (hd : ∀ d, o.dst = some d → d < a.tmps.size) {c : Call} (hop : o.op = .call c) (hc : c.callee = .builtin .append) (he : ev sl rs (step P T o) s r = some (out, s1, r1)) (hnew : NewOk sl rs o.dst out.ws) : Goal P T M0 w0 sl rs a w o out := by
  simp only [step, hop, hc] at he
  split at he <;> try (simp [ev] at he; done)
  rename_i x y t t' hca hct
  have ha : c.args = #[x, y] := by rw [← Array.toArray_toList (xs := c.args), hca]
  have ht : c.argTypes = #[t, t'] := by rw [← Array.toArray_toList (xs := c.argTypes), hct]
  split at he <;> try (simp [ev] at he; done)
  rename_i htt
  subst htt
  split at he <;> try (simp [ev] at he; done)
  rename_i e hel
  split at he <;> try (simp [ev] at he; done)
  rename_i hby
  split at he <;> try (simp [ev] at he; done)
  rename_i st hst
  obtain ⟨xv, s2, r2, h1, h2⟩ := ev_bind _ _ _ _ _ he
  have hx := opd_rel h h1
  obtain ⟨yv, s3, r3, h3, h4⟩ := ev_bind _ _ _ _ _ h2
  have hy := opd_rel h h3
  obtain ⟨ys, s4, r4, h5, h6⟩ := ev_bind _ _ _ _ _ h4
  obtain ⟨A, cy, cssy, hyv, hyr, hyn, hyc⟩ := appSrc_ok h hy h5
  obtain ⟨ti, z, hi, hsz, hz, hzc⟩ := (hf.tys.get hst).info
  have hbts : bytesOf' P e = ti.bytes := by simp [bytesOf', hi]
  have hcl : ∀ c ∈ cssy, c.length = st.sz := fun c hc => by
    obtain ⟨x, _, hx⟩ := hyr.mem_right c hc
    exact RR.len st x c hx
  have core : ∀ {xs : List st.T} {cssx : List (List Value)} {old : Option Nat} {d : Nat}, w.ownsRow 0 e st.sz (a.eval x) xs.length cssx.flatten → All2 (RR T.toCfg (Mof M0 rs F) w st) xs cssx → (∀ id, old = some id → (rs id).isSome = true) → old ≠ some d →
      (∀ k, (a.eval x).ownBlock = some k → ∃ id, old = some id ∧ F id k) → (xs.length + ys.length) * bytesOf' P e ≤ 140737488355328 → o.dst = some d → Fresh sl rs d → Goal P T M0 w0 sl rs a w o ⟨.own d, (d, some (.row e st (xs ++ ys))) :: oldWs old⟩ := by
    intro xs cssx old d hown hxr hold hne hblk hlim hdst hfr
    have hrun : ∃ v' w', (Builtin.append_ #[t', t'] o.type #[a.eval x, a.eval y]).run P w = .ok v' w' ∧ w'.ownsRow 0 e st.sz v' (xs.length + ys.length) (cssx.flatten ++ cssy.flatten) ∧ w.grownBy w' (a.eval x).ownBlock ∧
        (v'.ownBlock = (a.eval x).ownBlock ∨ v'.ownBlock = some w.heap.size) ∧ (v'.ownBlock = some w.heap.size → w.heap.size < w'.heap.size ∨ v'.ownBlock = (a.eval x).ownBlock) := by
      cases A with
      | none =>
        have hn := hyn rfl
        subst hn
        cases hyr
        refine ⟨a.eval x, w, ?_, by simpa using hown, ⟨rfl, rfl, rfl, Nat.le_refl _, fun _ _ _ => rfl⟩, .inl rfl, fun _ => .inr rfl⟩
        rw [hyv]
        exact run_append_none t' o.type e ti (elemOf_spec hel) hi hown cy
      | some ad =>
        have hb1 : xs.length + ys.length ≤ (xs.length + ys.length) * bytesOf' P e := Nat.le_mul_of_pos_right _ (Nat.pos_of_ne_zero hby)
        obtain ⟨v', w', q1, q2, q3, q4, q5⟩ := run_append_own_at (P := P) w 0 t' o.type e ti z st.sz ti.bytes (elemOf_spec hel) hi hz hsz rfl (by rw [hzc]; simp [zeroCells_len]) st.sz_pos (a.eval x) xs.length cssx.flatten hown
          ad ys.length cy cssy.flatten (by rw [flatten_length hcl, hyr.length]) (hyc ad rfl) (fun u hu => by
            obtain ⟨cs, hcs, huc⟩ := List.mem_flatten.1 hu
            obtain ⟨x, _, hx⟩ := hyr.mem_right cs hcs
            exact hx.one u huc) (by simp only [maxLen]; omega) (by rw [← hbts]; exact hlim) (Nat.zero_le _)
        refine ⟨v', w', by rw [hyv]; exact q1, q2, q3, q5, fun hb => ?_⟩
        left
        have := World.ownsRow.lt q2 _ hb
        exact this.2
    obtain ⟨v', w', q1, q2, q3, q4, q5⟩ := hrun
    obtain ⟨ρ', F', hrel, hρ, _⟩ := h.row hfr old hold hne (v' := v') (KeepS.of_grown q3) (fun k hk => hblk k hk.symm) (e := e) (s := st) (l := xs ++ ys) (css := cssx ++ cssy) (by rw [List.flatten_append, List.length_append]; exact q2) (hxr.append hyr) (fun k hk => by
      rcases q4 with q4 | q4
      · exact .inl (hblk k (q4 ▸ hk))
      · rcases q5 q4 with q5 | q5
        · rw [q4] at hk
          obtain rfl := Option.some.inj hk
          exact .inr ⟨Nat.le_refl _, q5⟩
        · exact .inl (hblk k (q5 ▸ hk)))
    refine .inl ⟨v', w', ?_, ρ', F', ?_⟩
    · simp only [execOp, hop, resolve, hc, ha, ht, invoke, builtin, Sem.run_bind, Sem.run_pure, Result.andThen_ok, List.map_toArray, List.map_cons, List.map_nil, q1]
    · refine hrel.put o.dst hd (.own d) _ ?_
      simp only [VR, SR, LR]
      exact hρ.symm
  split at h6 <;> try (simp [ev] at h6; done)
  · obtain ⟨b1, h7⟩ := ev_br h6
    split at h7 <;> try (simp [ev] at h7; done)
    rename_i d hdst
    have := ev_ret h7
    simp only [Prod.mk.injEq] at this
    obtain ⟨rfl, _, _⟩ := this
    simp only [VR, SR, LR] at hx
    obtain ⟨hfr, _, _⟩ := hnew.ok d (.row e st ys) hdst (by simp [get, Nat.beq_refl])
    refine core (xs := []) (cssx := []) (old := none) (d := d) ?_ .nil (fun _ h => by cases h) (by simp) (fun k hk => ?_) ?_ hdst hfr
    · rw [hx]; exact World.ownsRow_nil w 0 e st.sz
    · rw [hx] at hk; cases hk
    · simp only [appLim, decide_eq_true_eq] at b1; simpa using b1
  · rename_i id
    obtain ⟨q, h7, h8⟩ := ev_res h6
    split at h8 <;> try (simp [ev] at h8; done)
    rename_i e' s' l'
    split at h8 <;> try (simp [ev] at h8; done)
    rename_i hee
    subst hee
    split at h8 <;> try (simp [ev] at h8; done)
    rename_i xs hcast
    obtain ⟨ee, rfl⟩ := castL_some hcast
    subst ee
    obtain ⟨b1, h9⟩ := ev_br h8
    split at h9 <;> try (simp [ev] at h9; done)
    rename_i d hdst
    have := ev_ret h9
    simp only [Prod.mk.injEq] at this
    obtain ⟨rfl, _, _⟩ := this
    simp only [VR, SR, LR] at hx
    obtain ⟨hfr, _, _⟩ := hnew.ok d (.row e' s' (l' ++ ys)) hdst (by simp [get, Nat.beq_refl])
    obtain ⟨css, hown, hF, hel2⟩ := h.res id _ h7
    have hidd : some id ≠ some d := by
      intro e
      obtain rfl := Option.some.inj e
      cases x with
      | tmp t1 =>
        simp only [opd] at h1
        obtain ⟨a1, g1, g2⟩ := ev_slot h1
        have := ev_ret g2
        simp only [Prod.mk.injEq] at this
        obtain ⟨rfl, _, _⟩ := this
        have := hfr.slots t1 _ g1
        simp [AV.ment, AV.ment2, AV.ment1, Nat.beq_refl] at this
      | const v =>
        simp only [opd] at h1
        obtain ⟨a1, g1, g2⟩ := ev_ofO h1
        simp only [Prod.mk.injEq] at g2
        obtain ⟨rfl, _, _⟩ := g2
        unfold constAV at g1
        split at g1 <;> simp at g1
      | func f =>
        simp only [opd] at h1
        have := ev_ret h1
        simp at this
      | global g => simp [opd, ev] at h1
    refine core (xs := l') (cssx := css) (old := some id) (d := d) (hx ▸ hown) hel2 (fun i h' => by obtain rfl := Option.some.inj h'; simp [h7]) hidd (fun k hk => ⟨id, rfl, (hF k).2 (hx ▸ hk)⟩) ?_ hdst hfr
    simp only [appLim, decide_eq_true_eq] at b1; exact b1

theorem ment2_of {x : AV} {id : Nat} (h : x.ment id = false) : x.ment2 id = false := by cases x <;> first | exact h | rfl

/-- Entering this function's code. -/
def EnterOk (P : Program) (g : Nat) : Prop := ∀ args w, (callFunc g args).run P w = .ok (.enter g args) w

/-- errors.As, at a variable of the caller's own. -/
structure AsOk (P : Program) (T : Tabs) : Prop where
  enter : EnterOk P (T.asF - 1)
  calls : ∀ (M : Nat → Prop) (w : World) (e : Err) (v : Value) (t : TypeId) (b : Nat) (u : TypeId) (old : Value) (r : Option AV), Glob T.toCfg M w → M b → w.heap[b]? = some (.cells #[old] u (0, 0)) → Rob M w (fun w => ErrV T.toCfg w e v) → asSem T t e = some r →
    Calls P (T.asF - 1) #[v, .iface t (.pointer (some ⟨b, 0, none⟩))] w fun ev w' => match r with
      | none => ev = .returned (.bool false) ∧ KeepS (fun _ => False) w w'
      | some l => ev = .returned (.bool true) ∧ KeepS (fun k => k = b) w w' ∧ ∃ nv, w'.heap[b]? = some (.cells #[nv] u (0, 0)) ∧ LR T.toCfg (fun _ => .nilIface) M w' l nv

structure SpecsOk (P : Program) (T : Tabs) : Prop where
  specs : ∀ g sp, get T.specs g = some sp → EnterOk P g ∧ CSpecOk P T.toCfg g sp
  as : T.asF = 0 ∨ AsOk P T

theorem Rel.globM (h : Rel C M0 w0 sl rs ρ F a w) : Glob C (Mof M0 rs F) w := by
  intro p hp
  obtain ⟨h1, hlt, h2⟩ := h.glob p hp
  refine ⟨GV.step (h.keep.block p.1 hlt (fun f => f)) h1, Nat.lt_of_lt_of_le hlt h.keep.size, ?_⟩
  rintro (h0 | ⟨id, st, hst, hF⟩)
  · exact h2 h0
  · have := (h.rng id st p.1 hst hF).1; omega

theorem asSem_leaf {t : TypeId} {e : Err} {l : AV} (h : asSem T t e = some (some l)) : okLeaf l = true ∧ ∀ id, l.ment1 id = false := by
  unfold asSem at h
  split at h
  · split at h <;> simp at h
    subst h; exact ⟨rfl, fun _ => rfl⟩
  · split at h <;> try (simp at h; done)
    split at h <;> simp at h
    subst h; exact ⟨rfl, fun _ => rfl⟩

theorem exec_callT {c : Call} (hop : o.op = .call c) {x : Operand} {g : Nat} (hc : c.callee = .value x) (e1 : a.eval x = .func (.func g) #[] #[]) (hent : EnterOk P g) : (execOp a.eval o).run P w = .ok (.enter g (c.args.toList.map a.eval).toArray) w := by
  have e2 : c.args.map a.eval = (c.args.toList.map a.eval).toArray := by apply Array.ext'; simp
  simp only [execOp, hop, resolve, hc, e1, Deferred.ofValue, invoke, Sem.run_bind, Sem.run_pure, Result.andThen_ok, e2]
  have := hent (c.args.toList.map a.eval).toArray w
  simpa using this
theorem exec_call {c : Call} (hop : o.op = .call c) {g : Nat} (hc : c.callee = .value (.func g)) (hent : EnterOk P g) : (execOp a.eval o).run P w = .ok (.enter g (c.args.toList.map a.eval).toArray) w := exec_callT hop hc rfl hent

theorem ok_as (hsp : AsOk P T) (h : Rel T.toCfg M0 w0 sl rs ρ F a w) (hd : ∀ d, o.dst = some d → d < a.tmps.size) {c : Call} (hop : o.op = .call c) {x y : Operand} (hc : c.callee = .value (.func (T.asF - 1))) (hargs : c.args.toList = [x, y]) {e : Err} {t : TypeId} {id : Nat} {u : TypeId} {old : AV} {r : Option AV}
    (hx : VR T.toCfg ρ (Mof M0 rs F) w (.err e) (a.eval x)) (hy : VR T.toCfg ρ (Mof M0 rs F) w (.iref t id 0) (a.eval y)) (hid : rs id = some (.box u [old])) (hr : asSem T t e = some r)
    (hout : out = match r with | none => ⟨.bool false, []⟩ | some l => ⟨.bool true, [(id, some (.box u [l]))]⟩) : Goal P T M0 w0 sl rs a w o out := by
  simp only [VR, SR, LR] at hx hy
  obtain ⟨b, hb1, hb2⟩ := hy
  obtain ⟨b', cells, r1, r2, r3, r4, r5⟩ := h.res id _ hid
  rw [hb1] at r1
  obtain rfl : b = b' := by simpa using r1
  obtain ⟨c0, hc0⟩ : ∃ c0, cells = #[c0] := by
    have hl := r4
    generalize hcl : cells.toList = cl at hl
    cases hl with | cons a1 t1 => cases t1; exact ⟨_, by apply Array.ext'; rw [hcl]⟩
  subst hc0
  have hFb : F id b := (r2 b).2 rfl
  have hbM : Mof M0 rs F b := .inr ⟨id, _, hid, hFb⟩
  have hrng := h.rng id _ b hid hFb
  have hcall := hsp.calls (Mof M0 rs F) w e (a.eval x) t b u c0 r h.globM hbM r3 hx hr
  refine .inr (.inr ⟨T.asF - 1, (c.args.toList.map a.eval).toArray, w, exec_call hop hc hsp.enter, ?_⟩)
  have hargs2 : (c.args.toList.map a.eval).toArray = #[a.eval x, .iface t (.pointer (some ⟨b, 0, none⟩))] := by rw [hargs]; simp [hb2]
  rw [hargs2]
  refine hcall.mono fun ev w' hh => ?_
  cases r with
  | none =>
    obtain ⟨rfl, hk⟩ := hh
    subst hout
    refine ⟨_, rfl, ρ, F, ?_⟩
    rw [updR_nil]
    exact (h.world hk).put o.dst hd (.bool false) _ rfl
  | some l =>
    obtain ⟨rfl, hk, nv, hnv, hl⟩ := hh
    subst hout
    obtain ⟨ho, hm⟩ := asSem_leaf hr
    refine ⟨_, rfl, ρ, F, ?_⟩
    refine Rel.put ?_ o.dst hd (.bool true) _ rfl
    refine h.upd (fun i => i = id) hk (fun k g => by subst g; exact ⟨hbM, hrng.1⟩) (fun i hi => ⟨by rw [updR_single, if_neg (Ne.symm hi)], rfl⟩) (fun _ _ _ _ _ => rfl) (fun _ _ _ _ => ⟨rfl, fun _ _ => rfl⟩)
      (fun i st k hi hst hF g => by subst g; exact h.disj id i _ st k hid hst (Ne.symm hi) hFb hF) (fun i st hi hst => ?_) h.one
    subst hi
    rw [updR_single, if_pos rfl] at hst
    obtain rfl := Option.some.inj hst
    refine ⟨fun _ => ⟨b, _, hb1, r2, hnv, .cons (hl.step (KeepS.refl _ _) (fun k hk' _ => ?_) fun i hi => by rw [hm i] at hi; cases hi) .nil, by intro z hz; rw [List.mem_singleton.1 hz]; exact ho⟩, fun k hF => ?_⟩
    · rcases hk' with h0 | ⟨j, st, hj, hF⟩
      · exact .inl h0
      · by_cases hij : i = j
        · subst hij; exact .inr ⟨i, _, hid, hF⟩
        · rw [updR_single, if_neg hij] at hj; exact .inr ⟨j, st, hj, hF⟩
    · have := h.rng i _ k hid hF
      refine ⟨this.1, Nat.lt_of_lt_of_le this.2 hk.size, fun _ => .inr ⟨i, _, hid, hF⟩, fun j t' hj ht => ?_⟩
      rw [updR_single, if_neg (Ne.symm hj)] at ht
      exact h.disj i j _ t' k hid ht (Ne.symm hj) hF

theorem ev_ofTree {α : Type} {k : AV → Rd α} {z : α × List Nat × List Nat} : ∀ {t : Tree} {s r : List Nat}, ev sl rs (Rd.ofTree t k) s r = some z → ∃ res, t.get = some res ∧ ev sl rs (k res) s r = some z
  | .ret a, _, _, h => ⟨a, rfl, h⟩
  | .fail, _, _, h => by simp [Rd.ofTree, ev] at h
  | .br b x y, s, r, h => by
    simp only [Rd.ofTree, ev] at h
    cases b with
    | true => exact ev_ofTree (t := x) h
    | false => exact ev_ofTree (t := y) h
  | .opt _ none f, s, r, h => by cases h
  | .opt _ (some a) f, s, r, h => ev_ofTree (t := f a) h

theorem ok_callG (hsp : SpecsOk P T) (h : Rel T.toCfg M0 w0 sl rs ρ F a w) (hd : ∀ d, o.dst = some d → d < a.tmps.size) {c : Call} (hop : o.op = .call c) {x : Operand} {g : Nat} (hc : c.callee = .value x) (hx : a.eval x = .func (.func g) #[] #[])
    (he : ev sl rs (match P.funcs[g]? with
        | some fn => match get T.specs g with
          | some sp => (opds c.args.toList).bind fun as => (normArgs P T fn.params.toList as).bind fun (vs, ws) => Rd.ofTree (sp.f vs) fun r => match r.pure with
              | true => .ret ⟨r, match r.flat with | true => [] | false => ws⟩
              | false => .fail
          | none => .fail
        | none => .fail : Rd Out) s r = some (out, s1, r1)) : Goal P T M0 w0 sl rs a w o out := by
  split at he <;> try (simp [ev] at he; done)
  rename_i fn hfn
  split at he <;> try (simp [ev] at he; done)
  rename_i sp hg
  obtain ⟨as, s2, r2, h1, h2⟩ := ev_bind _ _ _ _ _ he
  obtain ⟨⟨vs, ws⟩, s3, r3, h3, h4⟩ := ev_bind _ _ _ _ _ h2
  simp only at h4
  obtain ⟨res, hres, h4⟩ := ev_ofTree h4
  split at h4 <;> try (simp [ev] at h4; done)
  rename_i hpure
  have := ev_ret h4
  simp only [Prod.mk.injEq] at this
  obtain ⟨rfl, _, _⟩ := this
  obtain ⟨hent, hspec⟩ := hsp.specs g sp hg
  obtain ⟨z1, m1, f1⟩ := normArgs_ok h h3 (opds_rel h h1)
  have hargs := f1 ws z1 (fun id q hq => by simp [hq])
  have hfz := h.freeze z1
  have hMlt : ∀ k, Mof M0 (updR rs ws) (fzF F ws) k → k < w.heap.size := by
    rintro k (h0 | ⟨id, st, hst, hF⟩)
    · exact Nat.lt_of_lt_of_le (h.m0 k h0) h.keep.size
    · exact (hfz.rng id st k hst hF).2
  have hcall := hspec vs res hres (Mof M0 (updR rs ws) (fzF F ws)) w (c.args.toList.map a.eval) hMlt hfz.globM (hargs.imp_mem fun y v hy hv => hv.step (KeepS.refl _ _) (fun _ h _ => h) fun id hid => by rw [ment2_of (m1 y hy id)] at hid; cases hid)
  refine .inr (.inr ⟨g, (c.args.toList.map a.eval).toArray, w, ?_, hcall.mono fun e w' hh => ?_⟩)
  · exact exec_callT hop hc hx hent
  · obtain ⟨v, rfl, hv, hk⟩ := hh
    refine ⟨v, rfl, ?_⟩
    by_cases hflat : res.flat = true
    · simp only [hflat]
      refine ⟨ρ, F, ?_⟩
      rw [updR_nil]
      exact (h.world hk).put o.dst hd res v (hv.flat hflat)
    · have hflat' : res.flat = false := by simpa using hflat
      simp only [hflat']
      refine ⟨ρ, fzF F ws, (hfz.world hk).put o.dst hd res v (hv.step (KeepS.refl _ _) (fun _ h _ => h) fun id hid => by rw [pure_ment hpure id] at hid; cases hid)⟩

theorem ok_call (hsp : SpecsOk P T) (h : Rel T.toCfg M0 w0 sl rs ρ F a w) (hd : ∀ d, o.dst = some d → d < a.tmps.size) {c : Call} (hop : o.op = .call c) {g : Nat} (hc : c.callee = .value (.func g)) (he : ev sl rs (step P T o) s r = some (out, s1, r1)) : Goal P T M0 w0 sl rs a w o out := by
  simp only [step, hop, hc] at he
  split at he
  · rename_i hbeq
    have hgas := Nat.eq_of_beq_eq_true hbeq
    have hAs : AsOk P T := hsp.as.resolve_left (by omega)
    obtain rfl : g = T.asF - 1 := by omega
    split at he <;> try (simp [ev] at he; done)
    rename_i x y hargs
    obtain ⟨xv, s2, r2, h1, h2⟩ := ev_bind _ _ _ _ _ he
    have hx := opd_rel h h1
    split at h2 <;> try (simp [ev] at h2; done)
    rename_i e
    obtain ⟨yv, s3, r3, h3, h4⟩ := ev_bind _ _ _ _ _ h2
    have hy := opd_rel h h3
    split at h4 <;> try (simp [ev] at h4; done)
    rename_i t id
    obtain ⟨q, h5, h6⟩ := ev_res h4
    split at h6 <;> try (simp [ev] at h6; done)
    rename_i u old
    split at h6
    · rename_i ht
      simp only [ev] at h6
      cases hh : errHead e with
      | none =>
        rw [hh] at h6
        simp only [Option.isSome] at h6
        have has : asSem T t e = some none := by
          unfold asSem; rw [ht]
          match e, hh with
          | none, _ => rfl
          | some ([], n), _ => rfl
        exact ok_as hAs h hd hop hc hargs hx hy h5 has (ret_out (sl := sl) (rs := rs) h6)
      | some z =>
        rw [hh] at h6
        simp only [Option.isSome] at h6
        have has : asSem T t e = some (some (.elt FSh z 0)) := by
          unfold asSem; rw [ht]
          match e, hh with
          | some (p :: ps, n), hh => obtain rfl := Option.some.inj hh; rfl
        have := ev_ret (sl := sl) (rs := rs) h6
        simp only [Prod.mk.injEq] at this
        exact ok_as hAs h hd hop hc hargs hx hy h5 has this.1
    · rename_i ht
      split at h6 <;> try (simp [ev] at h6; done)
      rename_i ht2
      simp only [ev] at h6
      match e, h6, hx with
      | none, h6, hx =>
        have has : asSem T t none = some none := by unfold asSem; rw [ht]; dsimp only; rw [ht2]
        exact ok_as hAs h hd hop hc hargs hx hy h5 has (ret_out (sl := sl) (rs := rs) h6)
      | some z, h6, hx =>
        have has : asSem T t (some z) = some (some (.int .i64 z.2)) := by unfold asSem; rw [ht]; dsimp only; rw [ht2]
        have := ev_ret (sl := sl) (rs := rs) h6
        simp only [Prod.mk.injEq] at this
        exact ok_as hAs h hd hop hc hargs hx hy h5 has this.1
  exact ok_callG hsp h hd hop hc rfl he

theorem ok_callT (hsp : SpecsOk P T) (h : Rel T.toCfg M0 w0 sl rs ρ F a w) (hd : ∀ d, o.dst = some d → d < a.tmps.size) {c : Call} (hop : o.op = .call c) {t : Nat} (hc : c.callee = .value (.tmp t)) (he : ev sl rs (step P T o) s r = some (out, s1, r1)) : Goal P T M0 w0 sl rs a w o out := by
  simp only [step, hop, hc] at he
  obtain ⟨xv, s2, r2, h1, h2⟩ := ev_bind _ _ _ _ _ he
  have hx := opd_rel h h1
  split at h2 <;> try (simp [ev] at h2; done)
  rename_i g
  simp only [VR, SR, LR] at hx
  exact ok_callG hsp h hd hop hc hx h2

end

end Go.Pev
/- The pure evaluator, part P: any operation; a region's operations in the text's order. Own text, over any program. -/
namespace Go.Pev

section
variable {P : Program} {T : Tabs} {M0 : Nat → Prop} {w0 : World} {sl : Nat → Option AV} {rs : Nat → Option RS} {ρ : Nat → Value} {F : Nat → Nat → Prop} {a : Act} {w : World} {o : Oper} {out : Out} {s r s1 r1 : List Nat}

theorem step_ok (hf : Fit P T) (hsp : SpecsOk P T) (h : Rel T.toCfg M0 w0 sl rs ρ F a w) (hd : ∀ d, o.dst = some d → d < a.tmps.size) (he : ev sl rs (step P T o) s r = some (out, s1, r1)) (hnew : NewOk sl rs o.dst out.ws) : Goal P T M0 w0 sl rs a w o out := by
  cases hop : o.op with
  | move x => exact ok_move h hd (.inl hop) (by simpa only [step, hop] using he)
  | assign x => exact ok_move h hd (.inr hop) (by simpa only [step, hop] using he)
  | pick c x y => exact ok_pick h hd hop he
  | alloc t => exact ok_alloc hf h hd hop he hnew
  | box t x => exact ok_box h hd hop he hnew
  | build t ps => exact ok_build hf h hd hop he
  | buildSlice t n ps => exact ok_buildSlice hf h hd hop he hnew
  | load t x => exact ok_load hf h hd hop he
  | store t x y => exact ok_store hf h hd hop he
  | nilCheck x => exact ok_nilCheck h hd hop he
  | binOp op t x y t' => exact ok_binOp hf h hd hop he
  | unOp u t x => exact ok_unOp h hd hop he
  | convert src dst x => exact ok_convert h hd hop he
  | makeInterface t x => exact ok_makeInterface h hd hop hf he
  | fieldAddr t x j => exact ok_fieldAddr hf h hd hop he
  | field t x j => exact ok_field hf h hd hop he
  | indexAddr t x i => exact ok_indexAddr hf h hd hop he
  | index t x i => exact ok_index h hd hop he
  | slice t x lo hi m => cases m with
    | none => exact ok_slice hf h hd hop he
    | some m => simp [step, hop, ev] at he
  | extract x i => exact ok_extract h hd hop he
  | call c =>
    cases hc : c.callee with
    | builtin b => cases b <;> first | exact ok_len h hd hop hc he | exact ok_minmax h hd hop (.inl hc) he | exact ok_minmax h hd hop (.inr hc) he | exact ok_append hf h hd hop hc he hnew | (simp [step, hop, hc, ev] at he; done)
    | value f => cases f <;> first | exact ok_call hsp h hd hop hc he | exact ok_callT hsp h hd hop hc he | (simp [step, hop, hc, ev] at he; done)
    | invoke x n => simp [step, hop, hc, ev] at he
  | _ => simp [step, hop, ev] at he

/-! ### what 'evalOps' shows of each operation -/

/-- The slots that the guard reads, when it lets the operation run. -/
def GoOk (ops : Array Oper) (o : Oper) (sl : Nat → Option AV) (s0 : List Nat) : Prop :=
  (o.guard = none ∧ s0 = []) ∨ ∃ g want t, o.guard = some (g, want) ∧ (ops[g]?).bind (·.dst) = some t ∧ sl t = some (.bool want) ∧ s0 = [t]
def SkipOk (ops : Array Oper) (o : Oper) (sl : Nat → Option AV) (t : Nat) : Prop :=
  ∃ g want, o.guard = some (g, want) ∧ (ops[g]?).bind (·.dst) = some t ∧ (sl t = some .undef ∨ sl t = some (.bool !want))

/-- One operation, at these slots and things. -/
inductive Did (P : Program) (T : Tabs) (ops : Array Oper) (o : Oper) (sl : Nat → Option AV) (rs : Nat → Option RS) : Tr → Prop
  | go {s0 s r : List Nat} {out : Out} (hg : GoOk ops o sl s0) (he : ev sl rs (step P T o) s0 [] = some (out, s, r)) : Did P T ops o sl rs ⟨o.dst, s, r, out.v, out.ws⟩
  | skip {t : Nat} (hg : SkipOk ops o sl t) : Did P T ops o sl rs ⟨o.dst, [t], [], .undef, []⟩

/-- The new number, if the operation makes a thing. -/
def NewAt (tr : Tr) (d : Nat) (st : RS) : Prop := tr.dst = some d ∧ get tr.ws d = some (some st)

theorem wanted_go {ops : Array Oper} (h : Rel T.toCfg M0 w0 sl rs ρ F a w) {s0 : List Nat} (hg : GoOk ops o sl s0) : Region.wanted o (yielded ops a.tmps) = true := by
  rcases hg with ⟨hg, _⟩ | ⟨g, want, t, hg, ht, hs, _⟩
  · simp [Region.wanted, hg]
  · obtain ⟨v, e1, e2⟩ := h.slots t _ hs
    simp only [VR, SR, LR] at e2
    subst e2
    simp [Region.wanted, hg, yielded, ht, e1]
theorem wanted_skip {ops : Array Oper} (h : Rel T.toCfg M0 w0 sl rs ρ F a w) {t : Nat} (hg : SkipOk ops o sl t) : Region.wanted o (yielded ops a.tmps) = false := by
  obtain ⟨g, want, hg, ht, hs⟩ := hg
  rcases hs with hs | hs
  · obtain ⟨v, e1, e2⟩ := h.slots t _ hs
    simp only [VR, SR, LR] at e2
    subst e2
    simp [Region.wanted, hg, yielded, ht, e1, Go.undef]
  · obtain ⟨v, e1, e2⟩ := h.slots t _ hs
    simp only [VR, SR, LR] at e2
    subst e2
    simp [Region.wanted, hg, yielded, ht, e1]

/-- One operation of a region: whatever comes after it. -/
theorem did_ok (hf : Fit P T) (hsp : SpecsOk P T) {ops : Array Oper} {i : Nat} (ho : ops[i]? = some o) (h : RelE T M0 w0 sl rs a w) (hd : ∀ d, o.dst = some d → d < a.tmps.size) {tr : Tr} (hdid : Did P T ops o sl rs tr)
    (hnew : ∀ d st, NewAt tr d st → Fresh sl rs d ∧ Ws.ment d tr.ws = false ∧ st.ment d = false) {K : Act → World → Prop} {Q : Exit → Act → World → Prop}
    (hK : ∀ a' w', a'.tmps.size = a.tmps.size → RelE T M0 w0 (updS sl tr.dst tr.v) (updR rs tr.ws) a' w' → K a' w') : wpOp P ops Q i K a w := by
  obtain ⟨ρ, F, h⟩ := h
  unfold wpOp
  simp only [ho]
  have hput : ∀ v, (a.put o.dst v).tmps.size = a.tmps.size := fun v => by cases o.dst <;> simp [Act.put]
  cases hdid with
  | go hg he =>
    rw [if_pos (wanted_go h hg)]
    exact .inl ((step_ok hf hsp h hd he ⟨fun d st e1 e2 => hnew d st ⟨e1, e2⟩⟩).wp fun v w' hr => hK _ _ (hput v) hr)
  | skip hg =>
    rw [if_neg (by rw [wanted_skip h hg]; simp)]
    refine hK _ _ (hput _) ⟨ρ, F, ?_⟩
    rw [updR_nil]
    exact h.undef hd

/-! ### environments as functions -/

/-- As 'E', for all that is asked of it. -/
structure Same (E E2 : Env) : Prop where
  sl : get E2.sl = get E.sl
  ment : ∀ d, slMent d E2.sl = slMent d E.sl
  rs : E2.rs = E.rs

theorem Same.refl (E : Env) : Same E E := ⟨rfl, fun _ => rfl, rfl⟩

theorem get_cons {α : Type} (k : Nat) (v : α) (l : List (Nat × α)) (t : Nat) : get ((k, v) :: l) t = if k = t then some v else get l t := by
  simp only [get]
  by_cases h : k = t
  · subst h; simp [Nat.beq_refl]
  · rw [if_neg h]
    split
    · rename_i hb; exact absurd (Nat.eq_of_beq_eq_true hb) h
    · rfl

theorem same_bool {E : Env} {t : Nat} {b : Bool} (h : get E.sl t = some (.bool b)) : Same E ⟨(t, .bool b) :: E.sl, E.rs⟩ := by
  refine ⟨?_, fun d => by simp [slMent, AV.ment, AV.ment2, AV.ment1], rfl⟩
  funext i
  rw [get_cons]
  split
  · rename_i e; subst e; exact h.symm
  · rfl

/-- An environment holds no more than these slots and things do, and is read as they are. -/
inductive OpFact (P : Program) (T : Tabs) (ops : Array Oper) (o : Oper) (E : Env) (tr : Tr) (E1 : Env) : Prop
  | mk (E2 : Env) (hs : Same E E2) (hd : Did P T ops o (get E.sl) (getR E.rs) tr) (hn : okNew E2 tr.dst tr.ws = true) (h1 : E1 = upd E2 tr.dst ⟨tr.v, tr.ws⟩)

inductive Runs (P : Program) (T : Tabs) (ops : Array Oper) : List Oper → Env → List Tr → Env → Prop
  | nil {E} : Runs P T ops [] E [] E
  | cons {o rest E tr E1 trs E'} : OpFact P T ops o E tr E1 → Runs P T ops rest E1 trs E' → Runs P T ops (o :: rest) E (tr :: trs) E'

theorem evalOp_fact {ops : Array Oper} {E : Env} {k : Env → Tr → R} {res : AV} (h : evalOp P T ops o E k = some res) : ∃ tr E1, OpFact P T ops o E tr E1 ∧ k E1 tr = some res := by
  have go : ∀ {E2 : Env} {s0 : List Nat}, Same E E2 → GoOk ops o (get E.sl) s0 → evalOp.go P T o k E2 s0 = some res → ∃ tr E1, OpFact P T ops o E tr E1 ∧ k E1 tr = some res := by
    intro E2 s0 hs hg h
    unfold evalOp.go at h
    obtain ⟨out, s1, r1, h1, h2⟩ := run_ev _ _ _ _ _ _ h
    split at h2 <;> try (cases h2; done)
    rename_i hn
    refine ⟨_, _, .mk E2 hs (.go hg (out := out) (s := s1) (r := r1) ?_) hn rfl, h2⟩
    rw [hs.sl, hs.rs] at h1
    exact h1
  have skip : ∀ {E2 : Env} {t : Nat}, Same E E2 → SkipOk ops o (get E.sl) t → evalOp.skip o k E2 [t] = some res → ∃ tr E1, OpFact P T ops o E tr E1 ∧ k E1 tr = some res := by
    intro E2 t hs hg h
    unfold evalOp.skip at h
    exact ⟨_, _, .mk E2 hs (.skip hg) (by unfold okNew; cases o.dst <;> simp [get]) rfl, h⟩
  unfold evalOp at h
  split at h
  · rename_i hg
    exact go (Same.refl E) (.inl ⟨hg, rfl⟩) h
  · rename_i g want hg
    split at h <;> try (cases h; done)
    rename_i t ht
    split at h <;> try (cases h; done)
    · rename_i b hb
      unfold evalOp.br at h
      cases b <;> cases want <;> simp only [cond_true, cond_false] at h
      · exact go (same_bool hb) (.inr ⟨g, _, t, hg, ht, hb, rfl⟩) h
      · exact skip (same_bool hb) ⟨g, _, hg, ht, .inr hb⟩ h
      · exact skip (same_bool hb) ⟨g, _, hg, ht, .inr hb⟩ h
      · exact go (same_bool hb) (.inr ⟨g, _, t, hg, ht, hb, rfl⟩) h
    · rename_i hu
      exact skip (Same.refl E) ⟨g, _, hg, ht, .inl hu⟩ h

theorem evalOps_runs {ops : Array Oper} : ∀ {l : List Oper} {E : Env} {acc : List Tr} {k : Env → List Tr → R} {res : AV}, evalOps P T ops l E acc k = some res → ∃ trs E', Runs P T ops l E trs E' ∧ k E' (trs.reverse ++ acc) = some res
  | [], E, acc, k, res, h => ⟨[], E, .nil, h⟩
  | o :: l, E, acc, k, res, h => by
    simp only [evalOps] at h
    obtain ⟨tr, E1, h1, h2⟩ := evalOp_fact h
    obtain ⟨trs, E', h3, h4⟩ := evalOps_runs h2
    exact ⟨tr :: trs, E', .cons h1 h3, by simpa using h4⟩

theorem upd_sl (E : Env) (dst : Option Nat) (out : Out) : get (upd E dst out).sl = updS (get E.sl) dst out.v := by
  funext t
  cases dst with
  | none => simp [upd, updS]
  | some d => simp only [upd, get_cons, updS, Option.some.injEq]
theorem upd_rs (E : Env) (dst : Option Nat) (out : Out) : getR (upd E dst out).rs = updR (getR E.rs) out.ws := by
  funext id
  simp only [upd, getR, updR, get_append]
  cases get out.ws id with
  | none => rfl
  | some q => cases q <;> rfl

theorem get_mem {α : Type} {l : List (Nat × α)} {t : Nat} {x : α} (h : get l t = some x) : (t, x) ∈ l := by
  induction l with
  | nil => simp [get] at h
  | cons p l ih =>
    obtain ⟨k, v⟩ := p
    rw [get_cons] at h
    split at h
    · rename_i e; subst e; obtain rfl := Option.some.inj h; exact List.mem_cons_self
    · exact List.mem_cons_of_mem _ (ih h)

theorem slMent_get {d : Nat} {l : List (Nat × AV)} (h : slMent d l = false) {t : Nat} {av : AV} (ht : get l t = some av) : av.ment d = false := by
  have := get_mem ht
  unfold slMent at h
  rw [List.any_eq_false] at h
  simpa using h _ this

theorem wsMent_mem {d : Nat} {l : Ws} (h : Ws.ment d l = false) {id : Nat} {st : RS} (ht : (id, some st) ∈ l) : st.ment d = false := by
  induction l with
  | nil => simp at ht
  | cons p l ih =>
    obtain ⟨k, q⟩ := p
    cases q with
    | none =>
      simp only [Ws.ment] at h
      rcases List.mem_cons.1 ht with e | ht
      · cases e
      · exact ih h ht
    | some r =>
      simp only [Ws.ment, Bool.or_eq_false_iff] at h
      rcases List.mem_cons.1 ht with e | ht
      · cases e; exact h.1
      · exact ih h.2 ht

theorem getR_mem {l : List (Nat × Option RS)} {id : Nat} {st : RS} (h : getR l id = some st) : (id, some st) ∈ l := by
  unfold getR at h
  split at h
  · rename_i r hg; obtain rfl := Option.some.inj h; exact get_mem hg
  · cases h

theorem okNew_fresh {E E2 : Env} (hs : Same E E2) {tr : Tr} (h : okNew E2 tr.dst tr.ws = true) {d : Nat} {st : RS} (hn : NewAt tr d st) : (slMent d E.sl = false ∧ rsMent d E.rs = false) ∧ Ws.ment d tr.ws = false ∧ st.ment d = false := by
  obtain ⟨e1, e2⟩ := hn
  unfold okNew at h
  rw [e1] at h
  simp only [e2, Bool.and_eq_true, Bool.not_eq_true'] at h
  rw [hs.ment, hs.rs] at h
  exact ⟨h.1.1, h.1.2, h.2⟩

theorem fresh_of {E : Env} {d : Nat} (h : slMent d E.sl = false ∧ rsMent d E.rs = false) : Fresh (get E.sl) (getR E.rs) d :=
  ⟨fun _ _ ht => slMent_get h.1 ht, fun _ _ ht => wsMent_mem h.2 (getR_mem ht)⟩

abbrev RelEnv (T : Tabs) (M0 : Nat → Prop) (w0 : World) (E : Env) (a : Act) (w : World) : Prop := RelE T M0 w0 (get E.sl) (getR E.rs) a w

theorem OpFact.next {ops : Array Oper} {E E1 : Env} {tr : Tr} (h : OpFact P T ops o E tr E1) : get E1.sl = updS (get E.sl) tr.dst tr.v ∧ getR E1.rs = updR (getR E.rs) tr.ws := by
  obtain ⟨E2, hs, hd, hn, rfl⟩ := h
  rw [upd_sl, upd_rs, hs.sl, hs.rs]
  exact ⟨rfl, rfl⟩

/-- A region without a draw. -/
theorem runs_ok (hf : Fit P T) (hsp : SpecsOk P T) {ops : Array Oper} {Q : Exit → Act → World → Prop} : ∀ {n : Nat} {l : List Oper} {E E' : Env} {trs : List Tr} {a : Act} {w : World}, (∀ j, l[j]? = ops[n + j]?) → (∀ o ∈ l, ∀ d, o.dst = some d → d < a.tmps.size) → Runs P T ops l E trs E' → RelEnv T M0 w0 E a w →
    (∀ a' w', a'.tmps.size = a.tmps.size → RelEnv T M0 w0 E' a' w' → Q .normal a' w') → wpOps P ops Q (List.range' n l.length) a w
  | n, [], E, E', trs, a, w, _, _, hr, h, hQ => by cases hr; simp only [List.length_nil, List.range'_zero, wpOps]; exact hQ a w rfl h
  | n, o :: l, E, E', trs, a, w, hops, hd, hr, h, hQ => by
    cases hr with | cons hfact hruns => ?_
    rename_i tr E1 trs
    have h0 : ops[n]? = some o := by simpa using (hops 0).symm
    simp only [List.length_cons, List.range'_succ]
    rw [wpOps_cons]
    obtain ⟨q1, q2⟩ := hfact.next
    obtain ⟨E2, hs, hdid, hn, hE1⟩ := hfact
    refine did_ok hf hsp h0 h (hd o List.mem_cons_self) hdid (fun d st hnew => ?_) fun a' w' hsz hr => ?_
    · obtain ⟨g1, g2⟩ := okNew_fresh hs hn hnew
      exact ⟨fresh_of g1, g2⟩
    · rw [← q1, ← q2] at hr
      refine runs_ok hf hsp (n := n + 1) (fun j => ?_) (fun o' ho' d hd' => ?_) hruns hr fun a2 w2 hsz2 hr2 => hQ a2 w2 (hsz2.trans hsz) hr2
      · have := hops (j + 1)
        rw [show n + 1 + j = n + (j + 1) by omega]
        simpa using this
      · rw [hsz]; exact hd o' (List.mem_cons_of_mem _ ho') d hd'

end

end Go.Pev
/- The pure evaluator, part Q: regions that draw their order. Own text, over any program. -/
namespace Go.Pev

/-! ### what a set of operations has written -/

def mixS (sl : Nat → Option AV) (f : Nat → Bool) : List Tr → Nat → Option AV
  | [] => sl
  | tr :: r => mixS (if f 0 then updS sl tr.dst tr.v else sl) (fun j => f (j + 1)) r
def mixR (rs : Nat → Option RS) (f : Nat → Bool) : List Tr → Nat → Option RS
  | [] => rs
  | tr :: r => mixR (if f 0 then updR rs tr.ws else rs) (fun j => f (j + 1)) r

theorem updS_ne {sl : Nat → Option AV} {dst : Option Nat} {v : AV} {t : Nat} (h : dst ≠ some t) : updS sl dst v t = sl t := by simp [updS, h]
theorem updS_eq {sl : Nat → Option AV} {v : AV} {t : Nat} : updS sl (some t) v t = some v := by simp [updS]
theorem updR_ne {rs : Nat → Option RS} {ws : Ws} {id : Nat} (h : get ws id = none) : updR rs ws id = rs id := by simp [updR, h]
theorem updR_eq {rs : Nat → Option RS} {ws : Ws} {id : Nat} {q : Option RS} (h : get ws id = some q) : updR rs ws id = q := by simp [updR, h]

theorem mixS_congr : ∀ {trs : List Tr} {sl sl' : Nat → Option AV} {f g : Nat → Bool} {t : Nat}, sl t = sl' t → (∀ j tr, trs[j]? = some tr → tr.dst = some t → f j = g j) → mixS sl f trs t = mixS sl' g trs t
  | [], _, _, _, _, _, h, _ => h
  | tr :: r, sl, sl', f, g, t, h, hw => by
    simp only [mixS]
    refine mixS_congr ?_ fun j tr' h1 h2 => hw (j + 1) tr' (by simpa using h1) h2
    by_cases hd : tr.dst = some t
    · have := hw 0 tr (by simp) hd
      rw [this]
      cases g 0
      · simpa using h
      · simp [updS, hd]
    · cases f 0 <;> cases g 0 <;> simp [updS_ne hd, h]

theorem mixR_congr : ∀ {trs : List Tr} {rs rs' : Nat → Option RS} {f g : Nat → Bool} {id : Nat}, rs id = rs' id → (∀ j tr, trs[j]? = some tr → get tr.ws id ≠ none → f j = g j) → mixR rs f trs id = mixR rs' g trs id
  | [], _, _, _, _, _, h, _ => h
  | tr :: r, rs, rs', f, g, id, h, hw => by
    simp only [mixR]
    refine mixR_congr ?_ fun j tr' h1 h2 => hw (j + 1) tr' (by simpa using h1) h2
    by_cases hd : get tr.ws id = none
    · cases f 0 <;> cases g 0 <;> simp [updR_ne hd, h]
    · have := hw 0 tr (by simp) hd
      rw [this]
      cases g 0
      · simpa using h
      · obtain ⟨q, hq⟩ := Option.ne_none_iff_exists'.1 hd
        simp [updR_eq hq]

theorem mixS_none : ∀ {trs : List Tr} {sl : Nat → Option AV}, mixS sl (fun _ => false) trs = sl
  | [], _ => rfl
  | _ :: r, sl => by simp only [mixS]; exact mixS_none (trs := r)
theorem mixR_none : ∀ {trs : List Tr} {rs : Nat → Option RS}, mixR rs (fun _ => false) trs = rs
  | [], _ => rfl
  | _ :: r, rs => by simp only [mixR]; exact mixR_none (trs := r)

theorem mixS_last : ∀ {trs : List Tr} {sl : Nat → Option AV} {f : Nat → Bool} {i t : Nat} {tr : Tr}, trs[i]? = some tr → tr.dst = some t → f i = true → (∀ j x, i < j → trs[j]? = some x → x.dst = some t → f j = false) → mixS sl f trs t = some tr.v
  | [], _, _, _, _, _, h, _, _, _ => by simp at h
  | x :: r, sl, f, 0, t, tr, h, hd, hf, hl => by
    obtain rfl : x = tr := by simpa using h
    simp only [mixS, hf, if_true]
    rw [mixS_congr (g := fun _ => false) rfl fun j y h1 h2 => hl (j + 1) y (by omega) (by simpa using h1) h2, mixS_none, hd, updS_eq]
  | x :: r, sl, f, i + 1, t, tr, h, hd, hf, hl => by
    simp only [mixS]
    exact mixS_last (i := i) (by simpa using h) hd hf fun j y hj h1 h2 => hl (j + 1) y (by omega) (by simpa using h1) h2
theorem mixR_last : ∀ {trs : List Tr} {rs : Nat → Option RS} {f : Nat → Bool} {i id : Nat} {tr : Tr} {q : Option RS}, trs[i]? = some tr → get tr.ws id = some q → f i = true → (∀ j x, i < j → trs[j]? = some x → get x.ws id ≠ none → f j = false) → mixR rs f trs id = q
  | [], _, _, _, _, _, _, h, _, _, _ => by simp at h
  | x :: r, rs, f, 0, id, tr, q, h, hd, hf, hl => by
    obtain rfl : x = tr := by simpa using h
    simp only [mixR, hf, if_true]
    rw [mixR_congr (g := fun _ => false) rfl fun j y h1 h2 => hl (j + 1) y (by omega) (by simpa using h1) h2, mixR_none, updR_eq hd]
  | x :: r, rs, f, i + 1, id, tr, q, h, hd, hf, hl => by
    simp only [mixR]
    exact mixR_last (i := i) (by simpa using h) hd hf fun j y hj h1 h2 => hl (j + 1) y (by omega) (by simpa using h1) h2

theorem mixS_mem : ∀ {trs : List Tr} {sl : Nat → Option AV} {f : Nat → Bool} {t : Nat} {av : AV}, mixS sl f trs t = some av → sl t = some av ∨ ∃ j tr, trs[j]? = some tr ∧ f j = true ∧ tr.dst = some t ∧ tr.v = av
  | [], _, _, _, _, h => .inl h
  | x :: r, sl, f, t, av, h => by
    simp only [mixS] at h
    rcases mixS_mem h with h | ⟨j, tr, h1, h2, h3, h4⟩
    · by_cases hf : f 0 = true
      · simp only [hf, if_true] at h
        by_cases hd : x.dst = some t
        · rw [hd, updS_eq] at h
          exact .inr ⟨0, x, by simp, hf, hd, Option.some.inj h⟩
        · rw [updS_ne hd] at h; exact .inl h
      · simp only [hf] at h; exact .inl h
    · exact .inr ⟨j + 1, tr, by simpa using h1, h2, h3, h4⟩
theorem mixR_mem : ∀ {trs : List Tr} {rs : Nat → Option RS} {f : Nat → Bool} {id : Nat} {st : RS}, mixR rs f trs id = some st → rs id = some st ∨ ∃ j tr, trs[j]? = some tr ∧ f j = true ∧ get tr.ws id = some (some st)
  | [], _, _, _, _, h => .inl h
  | x :: r, rs, f, id, st, h => by
    simp only [mixR] at h
    rcases mixR_mem h with h | ⟨j, tr, h1, h2, h3⟩
    · by_cases hf : f 0 = true
      · simp only [hf, if_true] at h
        cases hd : get x.ws id with
        | none => rw [updR_ne hd] at h; exact .inl h
        | some q =>
          rw [updR_eq hd] at h
          exact .inr ⟨0, x, by simp, hf, by rw [hd, h]⟩
      · simp only [hf] at h; exact .inl h
    · exact .inr ⟨j + 1, tr, by simpa using h1, h2, h3⟩

/-! ### what a run shows of each operation -/

section
variable {P : Program} {T : Tabs} {M0 : Nat → Prop} {w0 : World} {ops : Array Oper}

structure NewFact (E : Env) (trs : List Tr) (i : Nat) (tr : Tr) (d : Nat) (st : RS) : Prop where
  sl : slMent d E.sl = false
  rs : rsMent d E.rs = false
  old : ∀ j x, j < i → trs[j]? = some x → (x.dst ≠ none → x.v.ment d = false) ∧ ∀ id st, get x.ws id = some (some st) → st.ment d = false
  ws : Ws.ment d tr.ws = false
  st : st.ment d = false

theorem wsMent_append {d : Nat} : ∀ {x y : Ws}, Ws.ment d (x ++ y) = false → Ws.ment d x = false ∧ Ws.ment d y = false
  | [], _, h => ⟨rfl, h⟩
  | (k, none) :: x, y, h => by
    simp only [List.cons_append, Ws.ment] at h ⊢
    exact wsMent_append h
  | (k, some r) :: x, y, h => by
    simp only [List.cons_append, Ws.ment, Bool.or_eq_false_iff] at h ⊢
    obtain ⟨h1, h2⟩ := wsMent_append h.2
    exact ⟨⟨h.1, h1⟩, h2⟩

theorem NewFact.lift {E E2 : Env} {trs : List Tr} {tr0 : Tr} {i : Nat} {tr : Tr} {d : Nat} {st : RS} (hs : Same E E2) (h : NewFact (upd E2 tr0.dst ⟨tr0.v, tr0.ws⟩) trs i tr d st) : NewFact E (tr0 :: trs) (i + 1) tr d st := by
  have h2 := wsMent_append h.rs
  have hsl := h.sl
  have h1 : (tr0.dst ≠ none → tr0.v.ment d = false) ∧ slMent d E.sl = false := by
    rw [← hs.ment d]
    simp only [upd] at hsl
    cases hd : tr0.dst with
    | none => rw [hd] at hsl; exact ⟨fun h => absurd rfl h, hsl⟩
    | some k =>
      rw [hd] at hsl
      simp only [slMent, List.any_cons, Bool.or_eq_false_iff] at hsl
      exact ⟨fun _ => hsl.1, hsl.2⟩
  refine ⟨h1.2, ?_, fun j x hj hx => ?_, h.ws, h.st⟩
  · rw [← hs.rs]; exact h2.2
  · cases j with
    | zero =>
      obtain rfl : tr0 = x := by simpa using hx
      exact ⟨h1.1, fun id st hg => wsMent_mem h2.1 (get_mem hg)⟩
    | succ j => exact h.old j x (by omega) (by simpa using hx)

theorem runs_at : ∀ {l : List Oper} {E E' : Env} {trs : List Tr}, Runs P T ops l E trs E' → l.length = trs.length ∧ get E'.sl = mixS (get E.sl) (fun _ => true) trs ∧ getR E'.rs = mixR (getR E.rs) (fun _ => true) trs ∧
    ∀ i o tr, l[i]? = some o → trs[i]? = some tr → Did P T ops o (mixS (get E.sl) (fun j => decide (j < i)) trs) (mixR (getR E.rs) (fun j => decide (j < i)) trs) tr ∧ tr.dst = o.dst ∧
      ∀ d st, NewAt tr d st → NewFact E trs i tr d st
  | [], E, E', trs, h => by cases h; exact ⟨rfl, rfl, rfl, fun i o tr h => by simp at h⟩
  | o :: l, E, E', trs, h => by
    cases h with | cons hfact hruns => ?_
    rename_i tr E1 trs
    obtain ⟨q1, q2⟩ := hfact.next
    obtain ⟨E2, hs, hdid, hn, hE1⟩ := hfact
    obtain ⟨e1, e2, e3, e4⟩ := runs_at hruns
    refine ⟨by simp [e1], by rw [e2, q1]; simp [mixS], by rw [e3, q2]; simp [mixR], fun i o' tr' h1 h2 => ?_⟩
    cases i with
    | zero =>
      obtain rfl : o = o' := by simpa using h1
      obtain rfl : tr = tr' := by simpa using h2
      refine ⟨?_, by cases hdid <;> rfl, fun d st hnew => ?_⟩
      · simp only [Nat.not_lt_zero, decide_false, mixS_none, mixR_none]
        exact hdid
      · obtain ⟨g1, g2, g3⟩ := okNew_fresh hs hn hnew
        exact ⟨g1.1, g1.2, fun j x hj => absurd hj (Nat.not_lt_zero _), g2, g3⟩
    | succ i =>
      obtain ⟨f1, f2, f3⟩ := e4 i o' tr' (by simpa using h1) (by simpa using h2)
      have c1 : mixS (get E.sl) (fun j => decide (j < i + 1)) (tr :: trs) = mixS (get E1.sl) (fun j => decide (j < i)) trs := by
        simp only [mixS, q1, Nat.zero_lt_succ, decide_true, if_true, Nat.add_lt_add_iff_right]
      have c2 : mixR (getR E.rs) (fun j => decide (j < i + 1)) (tr :: trs) = mixR (getR E1.rs) (fun j => decide (j < i)) trs := by
        simp only [mixR, q2, Nat.zero_lt_succ, decide_true, if_true, Nat.add_lt_add_iff_right]
      rw [c1, c2]
      refine ⟨f1, f2, fun d st hnew => ?_⟩
      have hf := f3 d st hnew
      rw [hE1] at hf
      exact hf.lift hs

/-! ### operations that may come up in either order -/

structure Far (x y : Tr) : Prop where
  ds : ∀ t, x.dst = some t → t ∉ y.rdS ∧ y.dst ≠ some t
  sd : ∀ t, y.dst = some t → t ∉ x.rdS
  wr : ∀ id, get x.ws id ≠ none → id ∉ y.rdR ∧ get y.ws id = none
  rw : ∀ id, get y.ws id ≠ none → id ∉ x.rdR
  n1 : ∀ d st, NewAt x d st → y.v.ment d = false ∧ Ws.ment d y.ws = false
  n2 : ∀ d st, NewAt y d st → x.v.ment d = false ∧ Ws.ment d x.ws = false

theorem Far.symm {x y : Tr} (h : Far x y) : Far y x :=
  ⟨fun t ht => ⟨h.sd t ht, fun e => (h.ds t e).2 ht⟩, fun t ht => (h.ds t ht).1,
   fun id hid => ⟨h.rw id hid, by cases hg : get x.ws id with
     | none => rfl
     | some q => exact absurd (h.wr id (by simp [hg])).2 hid⟩, fun id hid => (h.wr id hid).1, h.n2, h.n1⟩

theorem meets_false {a b : List Nat} (h : meets a b = false) : ∀ x, x ∈ a → x ∉ b := by
  intro x hx hb
  unfold meets at h
  rw [List.any_eq_false] at h
  have := h x hx
  simp only [Bool.not_eq_true, List.any_eq_false] at this
  have := this x hb
  rw [Nat.beq_refl] at this
  cases this

theorem wids_mem {ws : Ws} {id : Nat} (h : get ws id ≠ none) : id ∈ wids ws := by
  obtain ⟨q, hq⟩ := Option.ne_none_iff_exists'.1 h
  exact List.mem_map.2 ⟨_, get_mem hq, rfl⟩

theorem apart_far {x y : Tr} (h : apart x y = true) : Far x y := by
  unfold apart at h
  simp only [Bool.and_eq_true, Bool.not_eq_true'] at h
  obtain ⟨⟨⟨⟨⟨h1, h2⟩, h3⟩, h4⟩, h5⟩, h6⟩ := h
  have dm : ∀ {z : Tr} {t : Nat}, z.dst = some t → t ∈ dsts z := fun {z t} hz => by simp [dsts, hz]
  have nm : ∀ {z : Tr} {d : Nat} {st : RS}, NewAt z d st → d ∈ news z := fun {z d st} hz => by simp [news, hz.1, hz.2]
  refine ⟨fun t ht => ?_, fun t ht hx => meets_false h2 t hx (dm ht), fun id hid => ?_, fun id hid hx => meets_false h4 id hx (wids_mem hid), fun d st hn => ?_, fun d st hn => ?_⟩
  · have := meets_false h1 t (dm ht)
    exact ⟨fun hm => this (List.mem_append_left _ hm), fun hm => this (List.mem_append_right _ (dm hm))⟩
  · have := meets_false h3 id (wids_mem hid)
    refine ⟨fun hm => this (List.mem_append_left _ hm), ?_⟩
    cases hg : get y.ws id with
    | none => rfl
    | some q => exact absurd (List.mem_append_right _ (wids_mem (by simp [hg]))) this
  · rw [List.any_eq_false] at h5
    have := h5 d (nm hn)
    simpa [trMent] using this
  · rw [List.any_eq_false] at h6
    have := h6 d (nm hn)
    simpa [trMent] using this

section
variable {E : Env} {trs : List Tr} {i : Nat} {tr : Tr} {f : Nat → Bool} {o : Oper}

theorem mix_reads_S {sl : Nat → Option AV} (hi : trs[i]? = some tr) (hfi : f i = false) (hfar : ∀ j x, trs[j]? = some x → j ≠ i → f j ≠ decide (j < i) → Far x tr) (t : Nat) (ht : t ∈ tr.rdS) : mixS sl f trs t = mixS sl (fun j => decide (j < i)) trs t := by
  refine mixS_congr rfl fun j x hj hx => ?_
  by_cases hji : j = i
  · subst hji; simp [hfi]
  · by_cases hq : f j = decide (j < i)
    · exact hq
    · exact absurd ht (((hfar j x hj hji hq).ds t hx).1)
theorem mix_reads_R {rs : Nat → Option RS} (hi : trs[i]? = some tr) (hfi : f i = false) (hfar : ∀ j x, trs[j]? = some x → j ≠ i → f j ≠ decide (j < i) → Far x tr) (id : Nat) (ht : id ∈ tr.rdR) : mixR rs f trs id = mixR rs (fun j => decide (j < i)) trs id := by
  refine mixR_congr rfl fun j x hj hx => ?_
  by_cases hji : j = i
  · subst hji; simp [hfi]
  · by_cases hq : f j = decide (j < i)
    · exact hq
    · exact absurd ht (((hfar j x hj hji hq).wr id hx).1)

theorem Did.near {sl sl' : Nat → Option AV} {rs rs' : Nat → Option RS} (h : Did P T ops o sl rs tr) (hs : ∀ t ∈ tr.rdS, sl' t = sl t) (hr : ∀ id ∈ tr.rdR, rs' id = rs id) : Did P T ops o sl' rs' tr := by
  cases h with
  | go hg he =>
    refine .go ?_ (ev_local _ _ _ _ _ _ he hs hr)
    rcases hg with hg | ⟨g, want, t, h1, h2, h3, rfl⟩
    · exact .inl hg
    · exact .inr ⟨g, want, t, h1, h2, by rw [hs t ((ev_sub _ _ _ _ _ _ he).1 t List.mem_cons_self)]; exact h3, rfl⟩
  | skip hg =>
    refine .skip ?_
    obtain ⟨g, want, h1, h2, h3⟩ := hg
    rw [← hs _ List.mem_cons_self] at h3
    exact ⟨g, want, h1, h2, h3⟩

theorem mix_next_S {sl : Nat → Option AV} (hi : trs[i]? = some tr) (hfi : f i = false) (hfar : ∀ j x, trs[j]? = some x → j ≠ i → f j ≠ decide (j < i) → Far x tr) : updS (mixS sl f trs) tr.dst tr.v = mixS sl (fun j => f j || decide (j = i)) trs := by
  funext t
  by_cases hd : tr.dst = some t
  · rw [hd, updS_eq]
    refine (mixS_last hi hd (by simp) fun j x hj hx hxd => ?_).symm
    have hji : j ≠ i := by omega
    have : f j = false := by
      cases hfj : f j with
      | false => rfl
      | true => exact absurd hd ((hfar j x hx hji (by simp [hfj]; omega)).ds t hxd).2
    simp [this, hji]
  · rw [updS_ne hd]
    refine mixS_congr rfl fun j x hj hx => ?_
    by_cases hji : j = i
    · subst hji; rw [hi] at hj; obtain rfl := Option.some.inj hj; exact absurd hx hd
    · simp [hji]
theorem mix_next_R {rs : Nat → Option RS} (hi : trs[i]? = some tr) (hfi : f i = false) (hfar : ∀ j x, trs[j]? = some x → j ≠ i → f j ≠ decide (j < i) → Far x tr) : updR (mixR rs f trs) tr.ws = mixR rs (fun j => f j || decide (j = i)) trs := by
  funext id
  cases hd : get tr.ws id with
  | some q =>
    rw [updR_eq hd]
    refine (mixR_last hi hd (by simp) fun j x hj hx hxd => ?_).symm
    have hji : j ≠ i := by omega
    have : f j = false := by
      cases hfj : f j with
      | false => rfl
      | true =>
        have := ((hfar j x hx hji (by simp [hfj]; omega)).wr id hxd).2
        rw [hd] at this; cases this
    simp [this, hji]
  | none =>
    rw [updR_ne hd]
    refine mixR_congr rfl fun j x hj hx => ?_
    by_cases hji : j = i
    · subst hji; rw [hi] at hj; obtain rfl := Option.some.inj hj; exact absurd hd hx
    · simp [hji]

theorem mix_fresh (hi : trs[i]? = some tr) (hfi : f i = false) (hfar : ∀ j x, trs[j]? = some x → j ≠ i → f j ≠ decide (j < i) → Far x tr) {d : Nat} {st : RS} (hn : NewAt tr d st) (h : NewFact E trs i tr d st) : Fresh (mixS (get E.sl) f trs) (mixR (getR E.rs) f trs) d := by
  refine ⟨fun t av ht => ?_, fun id s hs => ?_⟩
  · rcases mixS_mem ht with ht | ⟨j, x, hx, hfj, hxd, rfl⟩
    · exact slMent_get h.sl ht
    · by_cases hji : j = i
      · subst hji; rw [hfi] at hfj; cases hfj
      · by_cases hlt : j < i
        · exact (h.old j x hlt hx).1 (by simp [hxd])
        · exact ((hfar j x hx hji (by simp [hfj]; omega)).n2 d st hn).1
  · rcases mixR_mem hs with hs | ⟨j, x, hx, hfj, hxd⟩
    · exact wsMent_mem h.rs (getR_mem hs)
    · by_cases hji : j = i
      · subst hji; rw [hfi] at hfj; cases hfj
      · by_cases hlt : j < i
        · exact (h.old j x hlt hx).2 id s hxd
        · exact wsMent_mem ((hfar j x hx hji (by simp [hfj]; omega)).n2 d st hn).2 (get_mem hxd)
end

/-! ### what must come first -/

/-- Edges go back alone. -/
def backGo : Nat → List Oper → Bool
  | _, [] => true
  | n, o :: r => o.after.toList.all (fun e => !Region.binds .any e || Nat.blt e.on n) && backGo (n + 1) r

theorem backGo_at : ∀ {l : List Oper} {n : Nat}, backGo n l = true → ∀ i o, l[i]? = some o → ∀ e ∈ o.after.toList, Region.binds .any e = true → e.on < n + i
  | [], _, _, i, o, h, _, _, _ => by simp at h
  | x :: r, n, hb, 0, o, h, e, he, hbi => by
    obtain rfl : x = o := by simpa using h
    simp only [backGo, Bool.and_eq_true, List.all_eq_true] at hb
    have := hb.1 e he
    rw [hbi] at this
    simpa [Nat.blt_eq] using this
  | x :: r, n, hb, i + 1, o, h, e, he, hbi => by
    simp only [backGo, Bool.and_eq_true] at hb
    have := backGo_at hb.2 i o (by simpa using h) e he hbi
    omega

theorem fold_bits {done : List Nat} {n : Nat} : ∀ {es : List Edge} {m : Nat} {i : Nat}, ((es.foldl (fun m e => match Region.binds .any e, Nat.blt e.on n with
      | true, true => m ||| (1 <<< e.on) ||| (done.getD (n - 1 - e.on) 0)
      | _, _ => m) m).testBit i = true) → m.testBit i = true ∨ ∃ e ∈ es, Region.binds .any e = true ∧ e.on < n ∧ (i = e.on ∨ (done.getD (n - 1 - e.on) 0).testBit i = true)
  | [], m, i, h => .inl h
  | e :: es, m, i, h => by
    rw [List.foldl_cons] at h
    rcases fold_bits h with h | ⟨e', he', h1, h2, h3⟩
    · split at h
      · rename_i hb hl
        simp only [Nat.testBit_or, Bool.or_eq_true] at h
        have hl' : e.on < n := by simpa [Nat.blt_eq] using hl
        rcases h with (h | h) | h
        · exact .inl h
        · refine .inr ⟨e, List.mem_cons_self, hb, hl', .inl ?_⟩
          simp only [Nat.testBit_shiftLeft, Bool.and_eq_true, decide_eq_true_eq] at h
          obtain ⟨h1, h2⟩ := h
          rcases Nat.eq_zero_or_pos (i - e.on) with hz | hz
          · omega
          · rw [Nat.testBit_one_eq_true_iff_self_eq_zero] at h2; omega
        · exact .inr ⟨e, List.mem_cons_self, hb, hl', .inr h⟩
      · exact .inl h
    · exact .inr ⟨e', List.mem_cons_of_mem _ he', h1, h2, h3⟩

theorem predsGo_at : ∀ {l : List Oper} {done : List Nat}, ∃ rest, predsGo l done = done.reverse ++ rest ∧ rest.length = l.length ∧
    ∀ k o, l[k]? = some o → ∀ i, (((done.reverse ++ rest).getD (done.length + k) 0).testBit i = true) → ∃ e ∈ o.after.toList, Region.binds .any e = true ∧ e.on < done.length + k ∧ (i = e.on ∨ ((done.reverse ++ rest).getD e.on 0).testBit i = true)
  | [], done => ⟨[], by simp [predsGo], rfl, fun k o h => by simp at h⟩
  | x :: r, done => by
    simp only [predsGo]
    generalize hm : x.after.toList.foldl (fun m e => match Region.binds .any e, Nat.blt e.on done.length with
      | true, true => m ||| (1 <<< e.on) ||| (done.getD (done.length - 1 - e.on) 0)
      | _, _ => m) 0 = m
    obtain ⟨rest, h1, h2, h3⟩ := predsGo_at (l := r) (done := m :: done)
    have hl : (m :: done).reverse ++ rest = done.reverse ++ m :: rest := by simp
    rw [hl] at h1 h3
    refine ⟨m :: rest, h1, by simp [h2], fun k o hk i hi => ?_⟩
    cases k with
    | zero =>
      obtain rfl : x = o := by simpa using hk
      have : (done.reverse ++ m :: rest).getD (done.length + 0) 0 = m := by simp [List.getD_eq_getElem?_getD]
      rw [this, ← hm] at hi
      rcases fold_bits hi with hi | ⟨e, he, b1, b2, b3⟩
      · simp at hi
      · refine ⟨e, he, b1, by omega, b3.imp_right fun h => ?_⟩
        have : (done.reverse ++ m :: rest).getD e.on 0 = done.getD (done.length - 1 - e.on) 0 := by
          simp only [List.getD_eq_getElem?_getD]
          rw [List.getElem?_append_left (by simpa using b2), List.getElem?_reverse b2]
        rw [this]; exact h
    | succ k =>
      have e1 : (m :: done).length + k = done.length + (k + 1) := by simp; omega
      have := h3 k o (by simpa using hk) i (by rw [e1]; exact hi)
      rw [e1] at this
      exact this

theorem apartAll_at {x : Tr} {i : Nat} : ∀ {r : List Tr} {ps : List Nat}, apartAll x i r ps = true → ∀ (k : Nat) (y : Tr), r[k]? = some y → ∃ p : Nat, ps[k]? = some p ∧ (p.testBit i = true ∨ apart x y = true)
  | [], _, _, k, y, h => by simp at h
  | z :: r, [], h, _, _, _ => by simp [apartAll] at h
  | z :: r, p :: ps, h, 0, y, hy => by
    obtain rfl : z = y := by simpa using hy
    simp only [apartAll, Bool.and_eq_true, Bool.or_eq_true] at h
    exact ⟨p, by simp, h.1⟩
  | z :: r, p :: ps, h, k + 1, y, hy => by
    simp only [apartAll, Bool.and_eq_true] at h
    obtain ⟨q, h1, h2⟩ := apartAll_at h.2 k y (by simpa using hy)
    exact ⟨q, by simpa using h1, h2⟩

theorem drawOkGo_at : ∀ {trs : List Tr} {ps : List Nat} {n : Nat}, drawOkGo n trs ps = true → ∀ (a b : Nat) (x y : Tr), a < b → trs[a]? = some x → trs[b]? = some y → ∃ p : Nat, ps[b]? = some p ∧ (p.testBit (n + a) = true ∨ apart x y = true)
  | [], _, _, _, a, b, x, y, _, h, _ => by simp at h
  | z :: r, [], _, h, _, _, _, _, _, _, _ => by simp [drawOkGo] at h
  | z :: r, p :: ps, n, h, 0, b, x, y, hab, hx, hy => by
    obtain rfl : z = x := by simpa using hx
    simp only [drawOkGo, Bool.and_eq_true] at h
    obtain ⟨b, rfl⟩ : ∃ c, b = c + 1 := ⟨b - 1, by omega⟩
    obtain ⟨q, h1, h2⟩ := apartAll_at h.1 b y (by simpa using hy)
    exact ⟨q, by simpa using h1, by simpa using h2⟩
  | z :: r, p :: ps, n, h, a + 1, b, x, y, hab, hx, hy => by
    simp only [drawOkGo, Bool.and_eq_true] at h
    obtain ⟨b, rfl⟩ : ∃ c, b = c + 1 := ⟨b - 1, by omega⟩
    obtain ⟨q, h1, h2⟩ := drawOkGo_at h.2 a b x y (by omega) (by simpa using hx) (by simpa using hy)
    exact ⟨q, by simpa using h1, by rw [show n + (a + 1) = n + 1 + a by omega]; exact h2⟩

/-- Closed: what must come before a listed one is listed. -/
def Closed (ops : Array Oper) (f : Nat → Bool) : Prop := ∀ j o, f j = true → ops[j]? = some o → ∀ e ∈ o.after.toList, Region.binds .any e = true → f e.on = true

theorem closed_pred {f : Nat → Bool} (hc : Closed ops f) : ∀ (j : Nat) (o : Oper), ops[j]? = some o → (∀ e ∈ o.after.toList, Region.binds .any e = true → f e.on = true) → ∀ i, ((predsGo ops.toList []).getD j 0).testBit i = true → f i = true := by
  obtain ⟨rest, h1, h2, h3⟩ := predsGo_at (l := ops.toList) (done := [])
  simp only [List.reverse_nil, List.nil_append, List.length_nil, Nat.zero_add] at h1 h3
  rw [h1]
  intro j
  induction j using Nat.strongRecOn with
  | _ j ih =>
    intro o ho hall i hi
    obtain ⟨e, he, hb, hlt, hor⟩ := h3 j o (by simpa using ho) i hi
    have hfe := hall e he hb
    rcases hor with rfl | hor
    · exact hfe
    · have hlo : e.on < ops.size := Nat.lt_trans hlt (Array.getElem?_eq_some_iff.1 ho).1
      have hoe : ops[e.on]? = some ops[e.on] := Array.getElem?_eq_getElem hlo
      exact ih e.on hlt ops[e.on] hoe (fun e' he' hb' => hc e.on _ hfe hoe e' he' hb') i hor

end

end Go.Pev
/- The pure evaluator, part R: regions, code, loops, functions. Own text, over any program. -/
namespace Go.Pev

section
variable {P : Program} {T : Tabs} {M0 : Nat → Prop} {w0 : World} {ops : Array Oper}

theorem count_set : ∀ {l : List Bool} {i : Nat}, l[i]? = some false → (l.set i true).count false + 1 = l.count false
  | [], _, h => by simp at h
  | b :: l, 0, h => by
    obtain rfl : b = false := by simpa using h
    simp
  | b :: l, i + 1, h => by
    have := count_set (l := l) (i := i) (by simpa using h)
    simp only [List.set_cons_succ, List.count_cons]
    omega

/-- A region that draws its order. -/
theorem any_ok (hf : Fit P T) (hsp : SpecsOk P T) {E E' : Env} {trs : List Tr} (hr : Runs P T ops ops.toList E trs E') (hdraw : drawOk ops.toList trs = true) (hback : backGo 0 ops.toList = true) {Q : Exit → Act → World → Prop} {N : Nat} (hdst : ∀ o ∈ ops.toList, ∀ d, o.dst = some d → d < N)
    (hQ : ∀ a w, a.tmps.size = N → RelEnv T M0 w0 E' a w → Q .normal a w) : ∀ (fuel : Nat) (listed : Array Bool) (a : Act) (w : World), listed.size = ops.size → listed.toList.count false ≤ fuel → Closed ops (fun j => listed.getD j false) → a.tmps.size = N →
      RelE T M0 w0 (mixS (get E.sl) (fun j => listed.getD j false) trs) (mixR (getR E.rs) (fun j => listed.getD j false) trs) a w → wpAny P .any ops Q fuel listed a w := by
  obtain ⟨hlen, hE1, hE2, hat⟩ := runs_at hr
  have hlen' : trs.length = ops.size := by rw [← hlen]; simp
  have hall : ∀ listed : Array Bool, listed.size = ops.size → Closed ops (fun j => listed.getD j false) → Region.ready .any ops listed = [] → ∀ j, j < ops.size → listed.getD j false = true := by
    intro listed hsz hc hrd j
    induction j using Nat.strongRecOn with
    | _ j ih =>
      intro hj
      cases hlj : listed.getD j false with
      | true => rfl
      | false =>
        have hmem : j ∈ Region.ready .any ops listed := by
          unfold Region.ready
          refine List.mem_filter.2 ⟨List.mem_range.2 hj, ?_⟩
          have hoj : ops[j]? = some ops[j] := Array.getElem?_eq_getElem hj
          have h1 : listed.getD j true = false := by
            have hj' : j < listed.size := by omega
            simp only [Array.getD_eq_getD_getElem?, Array.getElem?_eq_getElem hj', Option.getD_some] at hlj ⊢
            exact hlj
          simp only [h1, hoj, Option.map_some, Option.getD_some, Bool.not_false, Bool.true_and]
          rw [Array.all_eq_true_iff_forall_mem]
          intro e he
          cases hb : Region.binds .any e with
          | false => rfl
          | true =>
            have hlt := backGo_at hback j ops[j] (by simp) e (by simpa using he) hb
            simp only [Nat.zero_add] at hlt
            have := ih e.on hlt (by omega)
            simp [this]
        rw [hrd] at hmem
        simp at hmem
  have hend : ∀ (listed : Array Bool) (a : Act) (w : World), listed.size = ops.size → Closed ops (fun j => listed.getD j false) → a.tmps.size = N →
      RelE T M0 w0 (mixS (get E.sl) (fun j => listed.getD j false) trs) (mixR (getR E.rs) (fun j => listed.getD j false) trs) a w → Region.ready .any ops listed = [] → Q .normal a w := by
    intro listed a w hsz hc hN h hrd
    have hl := hall listed hsz hc hrd
    have hlt : ∀ {j : Nat} {x : Tr}, trs[j]? = some x → j < ops.size := fun {j x} hx => by rw [← hlen']; exact (List.getElem?_eq_some_iff.1 hx).1
    have e1 : mixS (get E.sl) (fun j => listed.getD j false) trs = get E'.sl := by
      rw [hE1]; funext t
      exact mixS_congr rfl fun j x hx _ => hl j (hlt hx)
    have e2 : mixR (getR E.rs) (fun j => listed.getD j false) trs = getR E'.rs := by
      rw [hE2]; funext t
      exact mixR_congr rfl fun j x hx _ => hl j (hlt hx)
    rw [e1, e2] at h
    exact hQ a w hN h
  intro fuel
  induction fuel with
  | zero =>
    intro listed a w hsz hcount hc hN h
    have hrd : Region.ready .any ops listed = [] := by
      have h0 : false ∉ listed.toList := List.count_eq_zero.1 (by omega)
      unfold Region.ready
      rw [List.filter_eq_nil_iff]
      intro j hj
      have hj' : j < listed.size := by have := List.mem_range.1 hj; omega
      have : listed[j] = true := by
        cases hlj : listed[j] with
        | true => rfl
        | false => exact absurd (by rw [← hlj]; simp) h0
      simp [Array.getD_eq_getD_getElem?, Array.getElem?_eq_getElem hj', this]
    exact ⟨hrd, hend listed a w hsz hc hN h hrd⟩
  | succ fuel ih =>
    intro listed a w hsz hcount hc hN h
    refine ⟨hend listed a w hsz hc hN h, fun i hi => ?_⟩
    unfold Region.ready at hi
    obtain ⟨hir, hi⟩ := List.mem_filter.1 hi
    have hilt := List.mem_range.1 hir
    have hoi : ops[i]? = some ops[i] := Array.getElem?_eq_getElem hilt
    have hil : i < listed.size := by omega
    simp only [Array.getD_eq_getD_getElem?, Array.getElem?_eq_getElem hil, Option.getD_some, hoi, Option.map_some, Bool.and_eq_true, Bool.not_eq_true'] at hi
    obtain ⟨hi1, hi2⟩ := hi
    rw [Array.all_eq_true_iff_forall_mem] at hi2
    have hpre : ∀ e ∈ ops[i].after.toList, Region.binds .any e = true → listed.getD e.on false = true := fun e he hb => by
      have := hi2 e (by simpa using he)
      rw [hb] at this
      simpa [Array.getD_eq_getD_getElem?] using this
    have hfi : listed.getD i false = false := by simp [Array.getD_eq_getD_getElem?, Array.getElem?_eq_getElem hil, hi1]
    obtain ⟨tr, htr⟩ : ∃ tr, trs[i]? = some tr := ⟨trs[i], List.getElem?_eq_getElem (by omega)⟩
    obtain ⟨hdid, hdsteq, hnew⟩ := hat i ops[i] tr (by simp) htr
    have hfar : ∀ j x, trs[j]? = some x → j ≠ i → listed.getD j false ≠ decide (j < i) → Far x tr := by
      intro j x hx hji hne
      have hjlt : j < ops.size := by rw [← hlen']; exact (List.getElem?_eq_some_iff.1 hx).1
      rcases Nat.lt_or_gt_of_ne hji with hlt | hgt
      · obtain ⟨p, hp, hor⟩ := drawOkGo_at hdraw j i x tr hlt hx htr
        simp only [Nat.zero_add] at hor
        rcases hor with hb | hap
        · have := closed_pred hc i ops[i] hoi hpre j (by rw [List.getD_eq_getElem?_getD, hp]; exact hb)
          exact absurd this (by rw [decide_eq_true hlt] at hne; exact hne)
        · exact apart_far hap
      · obtain ⟨p, hp, hor⟩ := drawOkGo_at hdraw i j tr x hgt htr hx
        simp only [Nat.zero_add] at hor
        have hlj : listed.getD j false = true := by
          have h0 : decide (j < i) = false := by simp; omega
          rw [h0] at hne
          simpa using hne
        rcases hor with hb | hap
        · have hoj : ops[j]? = some ops[j] := Array.getElem?_eq_getElem hjlt
          have := closed_pred hc j ops[j] hoj (fun e he hbi => hc j _ hlj hoj e he hbi) i (by rw [List.getD_eq_getElem?_getD, hp]; exact hb)
          simp only [hfi] at this; cases this
        · exact (apart_far hap).symm
    have hdid2 := hdid.near (mix_reads_S (f := fun j => listed.getD j false) htr hfi hfar) (mix_reads_R (f := fun j => listed.getD j false) htr hfi hfar)
    refine did_ok hf hsp hoi h (fun d hd => by rw [hN]; exact hdst ops[i] (by simp) d hd) hdid2 (fun d st hn => ⟨mix_fresh (f := fun j => listed.getD j false) htr hfi hfar hn (hnew d st hn), (hnew d st hn).ws, (hnew d st hn).st⟩) fun a' w' hsz' h' => ?_
    have hset : (fun j => (listed.setIfInBounds i true).getD j false) = fun j => listed.getD j false || decide (j = i) := by
      funext j
      by_cases hj : j = i
      · subst hj; simp [Array.getD_eq_getD_getElem?, hil]
      · simp [Array.getD_eq_getD_getElem?, Array.getElem?_setIfInBounds_ne (Ne.symm hj), hj]
    rw [mix_next_S (f := fun j => listed.getD j false) htr hfi hfar, mix_next_R (f := fun j => listed.getD j false) htr hfi hfar] at h'
    refine ih _ a' w' (by simpa using hsz) ?_ ?_ (hsz'.trans hN) (by rw [hset]; exact h')
    · have := count_set (l := listed.toList) (i := i) (by simp [hil, hi1])
      simp only [Array.toList_setIfInBounds]
      omega
    · rw [hset]
      intro j o hj ho e he hb
      simp only [Bool.or_eq_true, decide_eq_true_eq] at hj ⊢
      rcases hj with hj | rfl
      · exact .inl (hc j o hj ho e he hb)
      · rw [hoi] at ho
        obtain rfl := Option.some.inj ho
        exact .inl (hpre e he hb)

/-! ### code -/

/-- The static side: every slot is one of the frame's; edges go back. -/
def opsOk (N : Nat) (l : List Oper) : Bool := l.all (fun o => match o.dst with | some d => Nat.blt d N | none => true) && backGo 0 l
def codeOk (N : Nat) : Code → Bool
  | .region _ ops _ => opsOk N ops.toList
  | .seq a b => codeOk N a && codeOk N b
  | .cond _ x y => codeOk N x && codeOk N y
  | .block _ c => codeOk N c
  | .loop c => codeOk N c
  | _ => true

theorem opsOk_dst {N : Nat} {l : List Oper} (h : opsOk N l = true) : ∀ o ∈ l, ∀ d, o.dst = some d → d < N := by
  intro o ho d hd
  simp only [opsOk, Bool.and_eq_true, List.all_eq_true] at h
  have := h.1 o ho
  rw [hd] at this
  simpa [Nat.blt_eq] using this

theorem region_ok (hf : Fit P T) (hsp : SpecsOk P T) (hm : P.follows .mixedOrders = true) {A : Anns} {id : Nat} {draw : Bool} {E : Env} {k : Exit → Env → R} {res : AV} {N : Nat} (hok : opsOk N ops.toList = true) (h : evalC P T A (.region id ops draw) E k = some res) {a : Act} {w : World} (hN : a.tmps.size = N) (hr : RelEnv T M0 w0 E a w) :
    (Code.region id ops draw).wp P (fun x a' w' => ∃ E', k x E' = some res ∧ RelEnv T M0 w0 E' a' w' ∧ a'.tmps.size = N) a w := by
  simp only [evalC] at h
  obtain ⟨trs, E', h1, h2⟩ := evalOps_runs h
  have hd := opsOk_dst hok
  cases draw with
  | false =>
    refine wp_region ?_
    have := runs_ok (P := P) (T := T) (M0 := M0) (w0 := w0) hf hsp (ops := ops) (n := 0) (l := ops.toList) (Q := fun x a' w' => ∃ E', k x E' = some res ∧ RelEnv T M0 w0 E' a' w' ∧ a'.tmps.size = N) (by simp) (fun o ho d hd' => by rw [hN]; exact hd o ho d hd') h1 hr (fun a' w' hsz hr' => ⟨E', h2, hr', hsz.trans hN⟩)
    rw [List.range_eq_range']
    simpa using this
  | true =>
    simp only [List.append_nil, List.reverse_reverse] at h2
    split at h2 <;> try (cases h2; done)
    rename_i hdraw
    simp only [opsOk, Bool.and_eq_true] at hok
    refine wp_region_any hm ?_
    obtain ⟨ρ, F, hrel⟩ := hr
    have h0 : (fun j => (Array.replicate ops.size false).getD j false) = fun _ => false := by
      funext j
      simp only [Array.getD_eq_getD_getElem?, Array.getElem?_replicate]
      split <;> rfl
    refine any_ok (N := N) hf hsp h1 hdraw hok.2 hd (fun a' w' hsz hr' => ⟨E', h2, hr', hsz⟩) ops.size _ a _ (by simp) ?_ ?_ hN ?_
    · simp only [Array.toList_replicate]
      exact Nat.le_trans (List.count_le_length) (by simp)
    · rw [h0]; intro j o hj; cases hj
    · rw [h0, mixS_none, mixR_none]
      exact ⟨ρ, F, hrel.world (KeepS.drew w)⟩

end

end Go.Pev
/- The pure evaluator, part S: loops' heads, code, functions. Own text, over any program. -/
namespace Go.Pev

section
variable {P : Program} {T : Tabs} {C : Cfg} {M0 : Nat → Prop} {w0 : World} {sl sl' : Nat → Option AV} {rs rs' : Nat → Option RS} {ρ : Nat → Value} {F : Nat → Nat → Prop} {a : Act} {w : World} {ops : Array Oper}

theorem keepL_get {α : Type} {l : List (Nat × α)} : ∀ {ts : List Nat} {t : Nat} {x : α}, get (keepL l ts) t = some x → get l t = some x
  | [], _, _, h => by simp [keepL, get] at h
  | k :: r, t, x, h => by
    simp only [keepL] at h
    split at h
    · rename_i y hy
      rw [get_cons] at h
      split at h
      · rename_i e; subst e; rw [hy, h]
      · exact keepL_get h
    · exact keepL_get h

theorem keepR_get {l : List (Nat × Option RS)} : ∀ {ts : List Nat} {t : Nat} {x : Option RS}, get (keepR l ts) t = some x → get l t = some x
  | [], _, _, h => by simp [keepR, get] at h
  | k :: r, t, x, h => by
    simp only [keepR] at h
    split at h
    · rename_i y hy
      rw [get_cons] at h
      split at h
      · rename_i e; subst e; rw [hy, h]
      · exact keepR_get h
    · exact keepR_get h

theorem getR_keep {l : List (Nat × Option RS)} {ts : List Nat} {id : Nat} {st : RS} (h : getR (keepR l ts) id = some st) : getR l id = some st := by
  unfold getR at h ⊢
  split at h
  · rename_i r hg; rw [keepR_get hg]; exact h
  · cases h

theorem fresh_id {E : Env} {id : Nat} (h : freshId E id = true) : Fresh (get E.sl) (getR E.rs) id := by
  unfold freshId at h
  simp only [Bool.and_eq_true, Bool.not_eq_true'] at h
  exact fresh_of h

theorem asOwn_ok {E : Env} {id : Nat} {e : TypeId} {x : AV} {ws : Ws} {v : Value} (h : Rel T.toCfg M0 w0 (get E.sl) (getR E.rs) ρ F a w) (hx : LR T.toCfg ρ (Mof M0 (getR E.rs) F) w x v) (hm : ∀ i, x.ment1 i = true → i ≠ id) (he : asOwn T E x id e = some ws) :
    ∃ ρ' F', Rel T.toCfg M0 w0 (get E.sl) (updR (getR E.rs) ws) ρ' F' a w ∧ ρ' id = v ∧ (∀ i, i ≠ id → ρ' i = ρ i) ∧ ∀ b, (∃ t cs, getR E.rs b = some (.box t cs)) → b ≠ id → updR (getR E.rs) ws b = getR E.rs b := by
  unfold asOwn at he
  split at he <;> try (cases he; done)
  · rename_i y
    split at he <;> try (cases he; done)
    rename_i e' s l hr hf
    obtain rfl := Option.some.inj he
    have hyi : y ≠ id := hm y (by simp [AV.ment1, Nat.beq_refl])
    obtain ⟨css, hown, hF, hrr⟩ := h.res y _ hr
    simp only [LR] at hx
    obtain ⟨ρ', F', g1, g2, g3⟩ := h.row (fresh_id hf) (some y) (fun i hi => by obtain rfl := Option.some.inj hi; simp [hr]) (by simpa using hyi) (w' := w) (v' := ρ y) (KeepS.refl (fun _ => False) w) (fun _ g => g.elim) hown hrr (fun k hk => .inl ⟨y, rfl, (hF k).2 hk⟩)
    refine ⟨ρ', F', g1, by rw [g2, hx], g3, fun b hb hbi => ?_⟩
    obtain ⟨t, cs, hb⟩ := hb
    simp only [updR, get_cons]
    rw [if_neg (Ne.symm hbi), if_neg (fun e => by subst e; rw [hr] at hb; cases hb)]
    rfl
  · split at he <;> try (cases he; done)
    rename_i s hs hf
    obtain rfl := Option.some.inj he
    simp only [LR] at hx
    obtain ⟨ρ', F', g1, g2, g3⟩ := h.row (fresh_id hf) none (fun _ h => by cases h) (by simp) (w' := w) (v' := .slice none 0 0) (KeepS.refl (fun _ => False) w) (fun _ g => g.elim) (e := e) (s := s) (l := []) (css := []) (World.ownsRow_nil w 0 e s.sz) .nil (fun k hk => by cases hk)
    refine ⟨ρ', F', g1, by rw [g2, hx], g3, fun b _ hbi => ?_⟩
    simp only [updR, get_cons]
    rw [if_neg (Ne.symm hbi)]
    rfl

theorem getR_append (ws : Ws) (rs : List (Nat × Option RS)) : getR (ws ++ rs) = updR (getR rs) ws := by
  funext id
  simp only [getR, updR, get_append]
  cases get ws id with
  | none => rfl
  | some q => cases q <;> rfl

theorem get_cons_updS {l : List (Nat × AV)} {t : Nat} {x : AV} : get ((t, x) :: l) = updS (get l) (some t) x := by
  funext i
  simp only [get_cons, updS, Option.some.injEq]

theorem datB_ok {E : Env} {b : Nat} {s : Sh} {t : TypeId} {cs cs' : List AV} {ws : Ws} (h : Rel T.toCfg M0 w0 (get E.sl) (getR E.rs) ρ F a w) (hb : getR E.rs b = some (.box t cs)) (hn : datCells E s cs = some (cs', ws)) : RelEnv T M0 w0 ⟨E.sl, (b, some (.box t cs')) :: ws ++ E.rs⟩ a w := by
  unfold datCells at hn
  split at hn <;> try (cases hn; done)
  rename_i l ws' _ _ hl
  split at hn <;> try (cases hn; done)
  rename_i d hd
  obtain ⟨rfl, rfl⟩ := Prod.mk.inj (Option.some.inj hn)
  obtain ⟨blk, cells, r1, r2, r3, r4, r5⟩ := h.res b _ hb
  obtain ⟨z1, f1⟩ := dataLs_ok h hl r4
  have hnew := leaves_rel (ρ := ρ) s d cells.toList (ofLeaves_rep s l d cells.toList hd (f1 ws' z1 fun id q hq => by simp [hq]))
  have g1 := h.freeze z1
  have hwb : get ws' b = none := by
    cases hg : get ws' b with
    | none => rfl
    | some r => obtain ⟨e, s', l', e1, _⟩ := z1 b r hg; rw [hb] at e1; cases e1
  have hb' : updR (getR E.rs) ws' b = some (.box t cs) := by simp only [updR, hwb]; exact hb
  obtain ⟨blk', cells', q1, q2, q3, q4, q5⟩ := g1.res b _ hb'
  obtain rfl : blk = blk' := by rw [r1] at q1; simpa using q1
  have hce : cells = cells' := by rw [r3] at q3; simpa using q3
  subst hce
  refine ⟨ρ, fzF F ws', ?_⟩
  have hget : getR ((b, some (RS.box t (leaves s d))) :: (ws' ++ E.rs)) = updR (updR (getR E.rs) ws') [(b, some (.box t (leaves s d)))] := by
    rw [updR_cons]
    exact getR_append ((b, some (RS.box t (leaves s d))) :: ws') E.rs
  simp only [List.cons_append]
  rw [hget]
  refine g1.upd (G := fun _ => False) (fun i => i = b) (KeepS.refl _ _) (fun _ g => g.elim) (fun i hi => ⟨by rw [updR_single, if_neg (Ne.symm hi)], rfl⟩) (fun _ _ _ _ _ => rfl) (fun _ _ _ _ => ⟨rfl, fun _ _ => rfl⟩) (fun _ _ _ _ _ _ g => g) (fun i st hi hst => ?_) g1.one
  subst hi
  rw [updR_single, if_pos rfl] at hst
  obtain rfl := Option.some.inj hst
  refine ⟨fun hs => ⟨blk, cells, q1, q2, r3, LRs.step hnew (KeepS.refl _ _) hs fun _ _ => rfl, leaves_ok s d⟩, fun k hF => ?_⟩
  have := g1.rng i _ k hb' hF
  refine ⟨this.1, this.2, fun _ => .inr ⟨i, _, hb', hF⟩, fun j t' hj ht => ?_⟩
  rw [updR_single, if_neg (Ne.symm hj)] at ht
  exact g1.disj i j _ t' k hb' ht (Ne.symm hj) hF

theorem prep1_ok {E E' : Env} {an : An} (he : prep1 T E an = some E') (h : RelEnv T M0 w0 E a w) : RelEnv T M0 w0 E' a w := by
  obtain ⟨ρ, F, h⟩ := h
  cases an with
  | keep ss ks =>
    simp only [prep1, Option.some.injEq] at he
    subst he
    exact ⟨ρ, F, h.sub (fun t av ht => keepL_get ht) fun id st hst => getR_keep hst⟩
  | datB b s =>
    simp only [prep1] at he
    split at he <;> try (cases he; done)
    rename_i t cs hb
    split at he <;> try (cases he; done)
    rename_i cs' ws hn
    obtain rfl := Option.some.inj he
    exact datB_ok h hb hn
  | dat t s =>
    simp only [prep1] at he
    split at he <;> try (cases he; done)
    rename_i x hx
    split at he <;> try (cases he; done)
    rename_i y ws hn
    obtain rfl := Option.some.inj he
    obtain ⟨v, e1, e2⟩ := h.slots t x hx
    unfold datNorm at hn
    split at hn <;> try (cases hn; done)
    rename_i l ws' _ _ hl
    split at hn <;> try (cases hn; done)
    rename_i d hd
    have key : ∀ cs : List Value, All2 (LR T.toCfg ρ (Mof M0 (getR E.rs) F) w) x.lv cs → FreezeWs (getR E.rs) ws' ∧ All2 (LR T.toCfg ρ (Mof M0 (updR (getR E.rs) ws') (fzF F ws')) w) (leaves s d) cs := by
      intro cs hcs
      obtain ⟨z1, f1⟩ := dataLs_ok h hl hcs
      exact ⟨z1, leaves_rel s d cs (ofLeaves_rep s l d cs hd (f1 ws' z1 fun id q hq => by simp [hq]))⟩
    have fin : ∀ {z : AV}, FreezeWs (getR E.rs) ws' → VR T.toCfg ρ (Mof M0 (updR (getR E.rs) ws') (fzF F ws')) w z v → RelEnv T M0 w0 ⟨(t, z) :: E.sl, ws' ++ E.rs⟩ a w := by
      intro z hz hv
      refine ⟨ρ, fzF F ws', ?_⟩
      rw [getR_append, get_cons_updS]
      exact (h.freeze hz).slot e1 hv
    split at hn
    · rename_i m
      obtain ⟨rfl, rfl⟩ := Prod.mk.inj (Option.some.inj hn)
      obtain ⟨cs, rfl, hcs⟩ := e2.ag
      obtain ⟨k1, k2⟩ := key cs hcs
      exact fin k1 ⟨cs, rfl, k2⟩
    · rename_i hb
      split at hn <;> try (cases hn; done)
      rename_i hok hlv
      obtain ⟨rfl, rfl⟩ := Prod.mk.inj (Option.some.inj hn)
      have hlr := e2.toLR hok
      have hbv : x.lv = [x] := by cases x <;> first | rfl | exact absurd rfl (hb _)
      obtain ⟨k1, k2⟩ := key [v] (by rw [hbv]; exact .cons hlr .nil)
      rw [hlv] at k2
      cases k2 with | cons k2 _ => exact fin k1 k2.toVR
  | ownS t id e =>
    simp only [prep1] at he
    split at he <;> try (cases he; done)
    rename_i x hx
    split at he
    · obtain rfl := Option.some.inj he
      exact ⟨ρ, F, h⟩
    · rename_i hno
      split at he <;> try (cases he; done)
      rename_i ws hws
      obtain rfl := Option.some.inj he
      obtain ⟨v, e1, e2⟩ := h.slots t x hx
      have hxl : okLeaf x = true := by
        unfold asOwn at hws
        split at hws <;> first | rfl | (cases hws; done)
      have hm : ∀ i, x.ment1 i = true → i ≠ id := by
        intro i hi e'
        subst e'
        unfold asOwn at hws
        split at hws <;> try (cases hws; done)
        · rename_i y
          have := Nat.eq_of_beq_eq_true hi
          subst this
          simp [isOwn, Nat.beq_refl] at hno
        · simp [AV.ment1] at hi
      obtain ⟨ρ', F', g1, g2, _⟩ := asOwn_ok h (e2.toLR hxl) hm hws
      refine ⟨ρ', F', ?_⟩
      rw [getR_append]
      rw [get_cons_updS]
      refine g1.slot e1 ?_
      simp only [VR, SR, LR]
      exact g2.symm
  | ownB b off id e =>
    simp only [prep1] at he
    split at he <;> try (cases he; done)
    rename_i t cs hb
    split at he <;> try (cases he; done)
    rename_i x hx
    split at he
    · obtain rfl := Option.some.inj he
      exact ⟨ρ, F, h⟩
    · rename_i hno
      split at he <;> try (cases he; done)
      rename_i ws hws
      split at he <;> try (cases he; done)
      rename_i hoff
      obtain rfl := Option.some.inj he
      obtain ⟨blk, cells, r1, r2, r3, r4, r5⟩ := h.res b _ hb
      rw [List.head?_drop] at hx
      obtain ⟨v, hv, hxr⟩ := r4.get off x hx
      have hm : ∀ i, x.ment1 i = true → i ≠ id := by
        intro i hi e'
        subst e'
        unfold asOwn at hws
        split at hws <;> try (cases hws; done)
        · rename_i y
          have := Nat.eq_of_beq_eq_true hi
          subst this
          simp [isOwn, Nat.beq_refl] at hno
        · simp [AV.ment1] at hi
      obtain ⟨hoff, hbid⟩ := hoff
      obtain ⟨ρ', F', g1, g2, g3, g4⟩ := asOwn_ok h hxr hm hws
      have hb' := (g4 b ⟨t, cs, hb⟩ hbid).trans hb
      obtain ⟨blk', cells', q1, q2, q3, q4, q5⟩ := g1.res b _ hb'
      have hbb : blk' = blk := by
        rw [g3 b hbid, r1] at q1
        simpa using q1.symm
      subst hbb
      rw [r3] at q3
      obtain rfl : cells = cells' := by simpa using q3
      refine ⟨ρ', F', ?_⟩
      have hget : getR ((b, some (RS.box t (splice cs off [AV.own id]))) :: (ws ++ E.rs)) = updR (updR (getR E.rs) ws) [(b, some (.box t (splice cs off [AV.own id])))] := by
        rw [updR_cons]
        exact getR_append ((b, some (RS.box t (splice cs off [AV.own id]))) :: ws) E.rs
      simp only [List.cons_append]
      rw [hget]
      have hcell : cells.toList = cells.toList.take off ++ [v] ++ cells.toList.drop (off + 1) := by
        have hlt : off < cells.toList.length := by rw [← r4.length]; exact hoff
        have hv' : cells.toList[off] = v := by
          have := List.getElem?_eq_getElem hlt
          rw [hv] at this
          exact (Option.some.inj this).symm
        rw [← hv', List.append_assoc, List.singleton_append, ← List.drop_eq_getElem_cons hlt, List.take_append_drop]
      have hnew : All2 (LR T.toCfg ρ' (Mof M0 (updR (getR E.rs) ws) F') w) (splice cs off [AV.own id]) cells.toList := by
        have := splice_rel q4 (v := [.own id]) (vs := [v]) (.cons (by simp only [LR]; exact g2.symm) .nil) off
        simp only [List.length_singleton] at this
        rw [← hcell] at this
        exact this
      refine g1.upd (G := fun _ => False) (fun i => i = b) (KeepS.refl _ _) (fun _ g => g.elim) (fun i hi => ⟨by rw [updR_single, if_neg (Ne.symm hi)], rfl⟩) (fun _ _ _ _ _ => rfl) (fun _ _ _ _ => ⟨rfl, fun _ _ => rfl⟩) (fun _ _ _ _ _ _ g => g) (fun i st hi hst => ?_) g1.one
      subst hi
      rw [updR_single, if_pos rfl] at hst
      obtain rfl := Option.some.inj hst
      refine ⟨fun hs => ⟨blk', cells, q1, q2, r3, LRs.step hnew (KeepS.refl _ _) hs fun _ _ => rfl, splice_all q5 (by simp [okLeaf])⟩, fun k hF => ?_⟩
      have := g1.rng i _ k hb' hF
      refine ⟨this.1, this.2, fun _ => .inr ⟨i, _, hb', hF⟩, fun j t' hj ht => ?_⟩
      rw [updR_single, if_neg (Ne.symm hj)] at ht
      exact g1.disj i j _ t' k hb' ht (Ne.symm hj) hF

theorem prep_ok : ∀ {l : List An} {E E' : Env}, prep T l E = some E' → RelEnv T M0 w0 E a w → RelEnv T M0 w0 E' a w
  | [], E, E', he, h => by obtain rfl := Option.some.inj he; exact h
  | an :: l, E, E', he, h => by
    simp only [prep] at he
    split at he <;> try (cases he; done)
    rename_i E1 h1
    exact prep_ok he (prep1_ok h1 h)

/-! ### code -/

/-- Where the code leaves off, the rest of the evaluation holds. -/
abbrev Post (T : Tabs) (M0 : Nat → Prop) (w0 : World) (N : Nat) (k : Exit → Env → R) (res : AV) : Exit → Act → World → Prop :=
  fun x a w => ∃ E, k x E = some res ∧ RelEnv T M0 w0 E a w ∧ a.tmps.size = N

def Fine (P : Program) (T : Tabs) (A : Anns) (N : Nat) (c : Code) : Prop :=
  ∀ (M0 : Nat → Prop) (w0 : World) (E : Env) (k : Exit → Env → R) (res : AV) (a : Act) (w : World), evalC P T A c E k = some res → RelEnv T M0 w0 E a w → a.tmps.size = N → c.wp P (Post T M0 w0 N k res) a w

theorem cond_rel {E : Env} {x : Operand} {b : Bool} (h : RelEnv T M0 w0 E a w) (hc : condAV E x = some b) : a.eval x = .bool b := by
  obtain ⟨ρ, F, h⟩ := h
  unfold condAV at hc
  split at hc
  · split at hc <;> try (cases hc; done)
    rename_i t b' hb
    obtain rfl := Option.some.inj hc
    obtain ⟨v, e1, e2⟩ := h.slots _ _ hb
    simp only [VR, SR, LR] at e2
    subst e2
    simp [Act.eval, Array.getD_eq_getD_getElem?, e1]
  · obtain rfl := Option.some.inj hc; rfl
  · cases hc

theorem loop_rounds {A : Anns} {N : Nat} {c : Code} (ih : Fine P T A N c) {an : List An} {k : Exit → Env → R} {res : AV} : ∀ {n : Nat} {E : Env} {a : Act} {w : World}, loopE (prep T an) (evalC P T A c) n E k = some res → RelEnv T M0 w0 E a w → a.tmps.size = N → Code.rounds P c (Post T M0 w0 N k res) n a w
  | 0, E, a, w, h, _, _ => by simp [loopE] at h
  | n + 1, E, a, w, h, hr, hN => by
    simp only [loopE] at h
    rw [rounds_succ]
    refine wp_mono (ih M0 w0 E _ res a w h hr hN) fun x a' w' hq => ?_
    obtain ⟨E', h1, h2, h3⟩ := hq
    cases x with
    | normal =>
      simp only at h1
      split at h1 <;> try (cases h1; done)
      rename_i E2 hE2
      exact loop_rounds ih h1 (prep_ok hE2 h2) h3
    | _ => exact ⟨E', h1, h2, h3⟩

/-- The loops that are told in one step run so. -/
def OrcOk (P : Program) (T : Tabs) (A : Anns) (c : Code) : Prop := ∀ o, orcOf A c = some o → ∀ E k r, o E k = some r → ∃ n, loopE (prep T (annOf A c)) (evalC P T A c) n E (outK T A c k) = some r

theorem outK_ok {A : Anns} {N : Nat} {c : Code} {k : Exit → Env → R} {res : AV} {x : Exit} {a : Act} {w : World} (h : Post T M0 w0 N (outK T A c k) res x a w) : Post T M0 w0 N k res x a w := by
  obtain ⟨E, h1, h2, h3⟩ := h
  unfold outK at h1
  cases hA : annOut A c with
  | none => rw [hA] at h1; exact ⟨E, h1, h2, h3⟩
  | some l =>
    rw [hA] at h1
    simp only at h1
    split at h1 <;> try (cases h1; done)
    rename_i E' hE'
    exact ⟨E', h1, prep_ok hE' h2, h3⟩

theorem evalC_ok (hf : Fit P T) (hsp : SpecsOk P T) (hm : P.follows .mixedOrders = true) {A : Anns} {N : Nat} : ∀ c : Code, codeOk N c = true → (∀ c' ∈ loopsOf c, OrcOk P T A c') → Fine P T A N c
  | .skip, _, _ => fun M0 w0 E k res a w h hr hN => wp_skip ⟨E, h, hr, hN⟩
  | .region id ops draw, hok, _ => fun M0 w0 E k res a w h hr hN => region_ok hf hsp hm hok h hN hr
  | .seq x y, hok, ho => fun M0 w0 E k res a w h hr hN => by
    simp only [codeOk, Bool.and_eq_true] at hok
    simp only [evalC] at h
    refine wp_seq (wp_mono (evalC_ok hf hsp hm x hok.1 (fun c h => ho c (List.mem_append_left _ h)) M0 w0 E _ res a w h hr hN) fun e a' w' hq => ?_)
    obtain ⟨E', h1, h2, h3⟩ := hq
    cases e with
    | normal => exact evalC_ok hf hsp hm y hok.2 (fun c h => ho c (List.mem_append_right _ h)) M0 w0 E' k res a' w' h1 h2 h3
    | _ => exact ⟨E', h1, h2, h3⟩
  | .cond c x y, hok, ho => fun M0 w0 E k res a w h hr hN => by
    simp only [codeOk, Bool.and_eq_true] at hok
    simp only [evalC] at h
    split at h <;> try (cases h; done)
    rename_i b hb
    refine wp_cond (cond_rel hr hb) ?_
    cases b with
    | true => exact evalC_ok hf hsp hm x hok.1 (fun c h => ho c (List.mem_append_left _ h)) M0 w0 E k res a w h hr hN
    | false => exact evalC_ok hf hsp hm y hok.2 (fun c h => ho c (List.mem_append_right _ h)) M0 w0 E k res a w h hr hN
  | .block id c, hok, ho => fun M0 w0 E k res a w h hr hN => by
    simp only [evalC] at h
    refine wp_block (wp_mono (evalC_ok hf hsp hm c hok ho M0 w0 E _ res a w h hr hN) fun e a' w' hq => ?_)
    obtain ⟨E', h1, h2, h3⟩ := hq
    cases e with
    | exit i =>
      simp only [Exit.inBlock]
      simp only at h1
      split at h1
      · rename_i hb
        rw [if_pos (Nat.eq_of_beq_eq_true hb)]
        exact ⟨E', h1, h2, h3⟩
      · rename_i hb
        rw [if_neg (fun e => by subst e; rw [Nat.beq_refl] at hb; cases hb)]
        exact ⟨E', h1, h2, h3⟩
    | _ => exact ⟨E', h1, h2, h3⟩
  | .loop c, hok, ho => fun M0 w0 E k res a w h hr hN => by
    simp only [evalC] at h
    split at h <;> try (cases h; done)
    rename_i E' hE'
    have ih := evalC_ok hf hsp hm c hok (fun c' h => ho c' (List.mem_cons_of_mem _ h))
    split at h
    · rename_i o hoc
      obtain ⟨n, hn⟩ := ho c List.mem_cons_self o hoc _ _ _ h
      exact wp_mono (wp_loop_rounds n (loop_rounds ih hn (prep_ok hE' hr) hN)) fun _ _ _ => outK_ok
    · exact wp_mono (wp_loop_rounds A.N (loop_rounds ih h (prep_ok hE' hr) hN)) fun _ _ _ => outK_ok
  | .exit id, _, _ => fun M0 w0 E k res a w h hr hN => wp_exit ⟨E, h, hr, hN⟩
  | .ret, _, _ => fun M0 w0 E k res a w h hr hN => wp_ret ⟨E, h, hr, hN⟩
  | .rangeFunc .., _, _ => fun M0 w0 E k res a w h hr hN => by simp [evalC] at h
  | .scope _, _, _ => fun M0 w0 E k res a w h hr hN => by simp [evalC] at h
  | .label _, _, _ => fun M0 w0 E k res a w h hr hN => by simp [evalC] at h
  | .goto _, _, _ => fun M0 w0 E k res a w h hr hN => by simp [evalC] at h
  | .refuse _, _, _ => fun M0 w0 E k res a w h hr hN => by simp [evalC] at h

theorem codeOk_mono {N N' : Nat} (hN : N ≤ N') : ∀ c : Code, codeOk N c = true → codeOk N' c = true
  | .region _ ops _, h => by
    simp only [codeOk, opsOk, Bool.and_eq_true, List.all_eq_true] at h ⊢
    refine ⟨fun o ho => ?_, h.2⟩
    have := h.1 o ho
    cases hd : o.dst with
    | none => rfl
    | some d =>
      rw [hd] at this
      simp only [Nat.blt_eq] at this ⊢
      omega
  | .seq a b, h => by
    simp only [codeOk, Bool.and_eq_true] at h ⊢
    exact ⟨codeOk_mono hN a h.1, codeOk_mono hN b h.2⟩
  | .cond _ a b, h => by
    simp only [codeOk, Bool.and_eq_true] at h ⊢
    exact ⟨codeOk_mono hN a h.1, codeOk_mono hN b h.2⟩
  | .block _ c, h => by simp only [codeOk] at h ⊢; exact codeOk_mono hN c h
  | .loop c, h => by simp only [codeOk] at h ⊢; exact codeOk_mono hN c h
  | .skip, _ => rfl
  | .exit _, _ => rfl
  | .ret, _ => rfl
  | .rangeFunc .., _ => rfl
  | .scope _, _ => rfl
  | .label _, _ => rfl
  | .goto _, _ => rfl
  | .refuse _, _ => rfl

/-! ### a function's end -/

theorem mof0 : ∀ k, M0 k → k < w.heap.size → Mof M0 rs F k := fun _ h _ => .inl h

theorem dataV_ok {E : Env} (h : Rel C M0 w0 (get E.sl) (getR E.rs) ρ F a w) {x y : AV} {v : Value} (he : dataV E x = some y) (hx : LR C ρ (Mof M0 (getR E.rs) F) w x v) : LR C ρ M0 w y v := by
  unfold dataV at he
  split at he
  · rename_i id
    simp only [LR] at hx
    subst hx
    split at he <;> try (cases he; done)
    · rename_i e s l hr
      obtain rfl := Option.some.inj he
      have hz : FreezeWs (getR E.rs) [(id, some (.fro s l))] := fun i q hi => by
        rw [get_single] at hi
        split at hi
        · rename_i e'; subst e'; obtain rfl := Option.some.inj hi; exact ⟨e, s, l, hr, rfl⟩
        · cases hi
      have h2 := h.freeze hz
      have h3 := h2.res id (.fro s l) (by rw [updR_single, if_pos rfl])
      obtain ⟨A, c, g1, g2, g3⟩ := h3.1
      exact ⟨A, c, g1, g2, g3.step (KeepS.refl _ _) mof0⟩
    · rename_i s l hr
      obtain rfl := Option.some.inj he
      obtain ⟨⟨A, c, g1, g2, g3⟩, _⟩ := h.res id _ hr
      exact ⟨A, c, g1, g2, g3.step (KeepS.refl _ _) mof0⟩
  · obtain rfl := Option.some.inj he
    exact hx.step (KeepS.refl _ _) mof0 fun _ _ => rfl

theorem dataVs_ok {E : Env} (h : Rel C M0 w0 (get E.sl) (getR E.rs) ρ F a w) : ∀ {xs ys : List AV} {vs : List Value}, dataVs E xs = some ys → All2 (LR C ρ (Mof M0 (getR E.rs) F) w) xs vs → All2 (LR C ρ M0 w) ys vs
  | [], ys, vs, he, hx => by
    simp only [dataVs, Option.some.injEq] at he
    subst he; cases hx; exact .nil
  | x :: xs, ys, vs, he, hx => by
    simp only [dataVs] at he
    split at he <;> try (cases he; done)
    rename_i y l h1 h2
    obtain rfl := Option.some.inj he
    cases hx with
    | cons hx hxs => exact .cons (dataV_ok h h1 hx) (dataVs_ok h h2 hxs)

def resOne (tmps : Array Value) : ResultVar → Sem Value
  | .tmp t => pure (tmps.getD t Go.undef)
  | .cell a t => do loadVar t (← asAddr (tmps.getD a Go.undef))

theorem finOne_ok {E : Env} (h : Rel T.toCfg M0 w0 (get E.sl) (getR E.rs) ρ F a w) {t : TypeId} {rv : ResultVar} {av : AV} (hf : Fit P T) (he : finOne P T E t rv = some av) :
    ∃ v, (resOne a.tmps rv).run P w = .ok v w ∧ SR T.toCfg (fun _ => .nilIface) M0 w av v := by
  have fin : ∀ {l : List AV} {vs : List Value} {v : Value}, normAV P T t l = some av → All2 (LR T.toCfg ρ M0 w) l vs → v.cells = vs.toArray → ((∃ x, aggOf P t = some true ∧ v = .agg x) ∨ (aggOf P t = some false ∧ vs = [v])) → SR T.toCfg (fun _ => .nilIface) M0 w av v := by
    intro l vs v hn hl hv hs
    obtain ⟨h1, h2⟩ := normAV_rel hn hl hv hs
    exact h1.step (KeepS.refl _ _) (fun _ h _ => h) fun id hid => by rw [ment2_of (h2 id)] at hid; cases hid
  cases rv with
  | tmp i =>
    simp only [finOne] at he
    split at he <;> try (cases he; done)
    rename_i x hx
    split at he <;> try (cases he; done)
    rename_i l hfit hl
    obtain ⟨v, e1, e2⟩ := h.slots i x hx
    obtain ⟨cs, c1, c2, c3⟩ := aggFit_vr h.one hfit e2
    exact ⟨v, by simp [resOne, Array.getD_eq_getD_getElem?, e1], fin he (dataVs_ok h hl c2) c1 c3⟩
  | cell i t' =>
    simp only [finOne] at he
    split at he <;> try (cases he; done)
    rename_i id hi
    split at he <;> try (cases he; done)
    rename_i u cs hr
    split at he <;> try (cases he; done)
    rename_i hut
    obtain ⟨rfl, rfl⟩ := hut
    split at he <;> try (cases he; done)
    rename_i l hl
    obtain ⟨v, e1, e2⟩ := h.slots i _ hi
    simp only [VR, SR, LR] at e2
    obtain ⟨b, b1, b2⟩ := e2
    obtain ⟨b', cells, r1, r2, r3, r4, r5⟩ := h.res id _ hr
    rw [b1] at r1
    obtain rfl : b = b' := by simpa using r1
    have hd := dataVs_ok h hl r4
    have hcell : ∀ j u, cells.toList[j]? = some u → w.cell? ((⟨b, 0, none⟩ : Addr).add j) = some u := fun j u hj => by
      rw [addr_at]
      simp only [World.cell?, r3, Option.isSome_none, Bool.false_eq_true, if_false]
      simpa using hj
    have hn := he
    unfold normAV at he
    split at he <;> try (cases he; done)
    rename_i s hs
    split at he <;> try (cases he; done)
    rename_i x hx
    have hrr := ofLeaves_rep s l x cells.toList hx hd
    have hlen := RR.len s x _ hrr
    have hlv := leaves_len s x
    unfold aggAV at he
    have e1' : a.tmps.getD i Go.undef = .pointer (some ⟨b, 0, none⟩) := by simp [Array.getD_eq_getD_getElem?, e1, b2]
    split at he
    · rename_i hagg
      obtain ⟨ti, z, hti, hsz, _⟩ := (hf.tys.get hs).info
      have hload := run_loadCells_list (P := P) w ⟨b, 0, none⟩ cells.toList hcell
      rw [hlen] at hload
      refine ⟨.agg cells, ?_, fin hn hd (by simp [Value.cells]) (.inl ⟨_, hagg, rfl⟩)⟩
      simp only [resOne, e1', asAddr, loadVar, Sem.run_bind, Sem.run_pure, Result.andThen_ok, aggOf_true hagg, if_true, sizeOf, typeInfo, run_program, hti, hsz, hload]
    · rename_i y hagg hy
      rw [hy] at hlv
      have hl1 : cells.toList.length = 1 := by rw [hlen, ← hlv]; rfl
      obtain ⟨c0, hc0⟩ : ∃ c0, cells.toList = [c0] := by
        cases hcl : cells.toList with
        | nil => rw [hcl] at hl1; simp at hl1
        | cons c r => rw [hcl] at hl1; simp at hl1; exact ⟨c, by rw [hl1]⟩
      have := hcell 0 c0 (by rw [hc0]; rfl)
      rw [addr_at] at this
      refine ⟨c0, ?_, fin hn hd (by rw [hc0]; exact cells_one (RR.one hrr c0 (by rw [hc0]; exact List.mem_cons_self))) (.inr ⟨hagg, hc0⟩)⟩
      simp only [resOne, e1', asAddr, loadVar, Sem.run_bind, Sem.run_pure, Result.andThen_ok, aggOf_false hagg, Bool.false_eq_true, if_false, run_load, this]
    · cases he

theorem finAll_ok {E : Env} (h : Rel T.toCfg M0 w0 (get E.sl) (getR E.rs) ρ F a w) (hf : Fit P T) : ∀ {ts : List TypeId} {rvs : List ResultVar} {avs : List AV}, finAll P T E ts rvs = some avs →
    ∃ vs, (rvs.mapM (resOne a.tmps)).run P w = .ok vs w ∧ All2 (SR T.toCfg (fun _ => .nilIface) M0 w) avs vs
  | [], [], avs, he => by
    simp only [finAll, Option.some.injEq] at he
    subst he
    exact ⟨[], by simp, .nil⟩
  | [], _ :: _, _, he => by simp [finAll] at he
  | _ :: _, [], _, he => by simp [finAll] at he
  | t :: ts, rv :: rvs, avs, he => by
    simp only [finAll] at he
    split at he <;> try (cases he; done)
    rename_i x l h1 h2
    obtain rfl := Option.some.inj he
    obtain ⟨v, e1, e2⟩ := finOne_ok h hf h1
    obtain ⟨vs, e3, e4⟩ := finAll_ok h hf h2
    exact ⟨v :: vs, by simp [List.mapM_cons, e1, e3], .cons e2 e4⟩

def resVal : List Value → Value
  | [v] => v
  | vs => .tuple vs.toArray

theorem results_run {fn : Func} {tmps : Array Value} {vs : List Value} (h : (fn.results.toList.mapM (resOne tmps)).run P w = .ok vs w) :
    (results fn tmps).run P w = .ok (resVal vs) w := by
  have e : results fn tmps = (do
      let vs ← fn.results.mapM (resOne tmps)
      pure (if h : vs.size = 1 then vs[0] else .tuple vs)) := by
    unfold results
    congr 1
  rw [e, Array.mapM_eq_mapM_toList]
  simp only [map_eq_pure_bind, Sem.run_bind, h, Result.andThen_ok, Sem.run_pure]
  match vs with
  | [] => rfl
  | [v] => rfl
  | v :: u :: r => simp [resVal]

/-! ### functions -/

def fnOk (P : Program) (f : Nat) : Bool :=
  match P.funcs[f]? with
  | some fn => match fn.body with
    | some c => codeOk fn.ntmps c
    | none => false
  | none => false

theorem argSl_get : ∀ {args : List AV} {n t : Nat} {x : AV}, get (argSl n args) t = some x → n ≤ t ∧ args[t - n]? = some x
  | [], n, t, x, h => by simp [argSl, get] at h
  | y :: r, n, t, x, h => by
    simp only [argSl] at h
    rw [get_cons] at h
    split at h
    · rename_i e; subst e; obtain rfl := Option.some.inj h; exact ⟨Nat.le_refl _, by simp⟩
    · rename_i hne
      obtain ⟨h1, h2⟩ := argSl_get h
      refine ⟨by omega, ?_⟩
      rw [show t - n = (t - (n + 1)) + 1 by omega]
      simpa using h2

/-- What the evaluator says, the function does. -/
theorem evalF_ok (hf : Fit P T) (hsp : SpecsOk P T) (hm : P.follows .mixedOrders = true) {A : Anns} {f : Nat} (hfn : fnOk P f = true) (hO : ∀ c ∈ loopsF P f, OrcOk P T A c) {args : List AV} {res : AV} (h : evalF P T A f args = some res) : Contract P T.toCfg f args res := by
  intro M w vs hM hglob hargs
  unfold evalF at h
  unfold fnOk at hfn
  unfold loopsF at hO
  split at h <;> try (cases h; done)
  rename_i fn hfu
  rw [hfu] at hfn hO
  simp only at hfn hO
  split at h <;> try (cases h; done)
  rename_i c hb
  rw [hb] at hfn hO
  simp only at hfn hO
  have hsz : (vs.toArray ++ Array.replicate (fn.ntmps - vs.toArray.size) Go.undef).size = vs.length + (fn.ntmps - vs.length) := by simp
  have hok : codeOk (vs.length + (fn.ntmps - vs.length)) c = true := codeOk_mono (by omega) c hfn
  refine calls_of_wp hfu hb ?_
  have hrel : RelEnv T M w ⟨argSl 0 args, []⟩ { tmps := vs.toArray ++ Array.replicate (fn.ntmps - vs.toArray.size) Go.undef, defers := [] } w := by
    refine ⟨fun _ => .nilIface, fun _ _ => False, ⟨KeepS.refl _ _, hM, fun t av ht => ?_, fun id st hst => ?_, fun id st k hst => ?_, fun i j s t k hi => ?_, fun _ => rfl, rfl, hglob⟩⟩
    · obtain ⟨_, h2⟩ := argSl_get ht
      simp only [Nat.sub_zero] at h2
      obtain ⟨v, h3, h4⟩ := hargs.get t av h2
      refine ⟨v, ?_, h4.toVR.step (KeepS.refl _ _) ?_ fun _ _ => rfl⟩
      · rw [Array.getElem?_append_left (by simpa using (List.getElem?_eq_some_iff.1 h3).1)]
        simpa using h3
      · rintro k (h0 | ⟨id, st, hst, _⟩) _
        · exact h0
        · simp [getR, get] at hst
    · simp [getR, get] at hst
    · simp [getR, get] at hst
    · simp [getR, get] at hi
  refine wp_mono (evalC_ok hf hsp hm c hok hO M w _ _ res _ w h hrel hsz) fun x a' w' hq => ?_
  obtain ⟨E', h1, ⟨ρ, F, h2⟩, _⟩ := hq
  have key : finish.fin P T fn E' = some res → a'.defers = [] ∧ ∃ v, (results fn a'.tmps).run P w' = .ok v w' ∧ ∃ v', Ending.returned v = .returned v' ∧ VR T.toCfg (fun _ => .nilIface) M w' res v' ∧ KeepS (fun _ => False) w w' := by
    intro hfin
    unfold finish.fin at hfin
    refine ⟨h2.defers, ?_⟩
    split at hfin <;> try (cases hfin; done)
    · rename_i x hx
      obtain rfl := Option.some.inj hfin
      obtain ⟨vs', g1, g2⟩ := finAll_ok h2 hf hx
      refine ⟨_, results_run g1, _, rfl, ?_, h2.keep⟩
      cases g2 with
      | cons g3 g4 => cases g4; exact g3.toVR
    · rename_i l hne hx
      obtain rfl := Option.some.inj hfin
      obtain ⟨vs', g1, g2⟩ := finAll_ok h2 hf hx
      refine ⟨_, results_run g1, _, rfl, ?_, h2.keep⟩
      have hv : resVal vs' = .tuple vs'.toArray := by
        cases g2 with
        | nil => rfl
        | cons g3 g4 => cases g4 with
          | nil => exact absurd rfl (hne _)
          | cons _ _ => rfl
      rw [hv]
      exact ⟨vs', rfl, g2⟩
  unfold finish at h1
  cases x with
  | normal => exact key h1
  | ret => exact key h1
  | _ => cases h1

/-- No loop is told in one step. -/
theorem noOrc {A : Anns} (h : A.orc = []) (f : Nat) : ∀ c ∈ loopsF P f, OrcOk P T A c := by
  intro c _ o ho
  unfold orcOf at ho
  split at ho
  · rw [h] at ho; simp [get] at ho
  · cases ho

end

end Go.Pev
/- The pure evaluator, part T: a statement's arguments as data; what is read behind the call. Own text, over any program. -/
namespace Go.Pev

section
variable {H : Type} {enc : TypeId × Value → H} {P : Program} {w w' : World} {base : Nat} {spare : Nat → Bool} {held : Bool} {C : Cfg}

def argFs (P : Program) (chk : TypeId → Sh → Bool) : List Field → Sh → Nat → Bool
  | [], _, _ => false
  | f :: fs, s, off => match fs, s with
    | [], s => Nat.beq f.offset off && chk f.type s && Nat.beq (P.cellsOf f.type) s.sz
    | g :: fs, .pair a b => Nat.beq f.offset off && chk f.type a && Nat.beq (P.cellsOf f.type) a.sz && argFs P chk (g :: fs) b (off + a.sz)
    | _ :: _, _ => false
/-- A type of arguments has this shape. -/
def argShp (P : Program) : Nat → TypeId → Sh → Bool
  | 0, _, _ => false
  | d + 1, t, s => match P.underlying t with
    | some (.int k) => decide (s = .int k)
    | some .bool => decide (s = .bool)
    | some .string => decide (s = .str)
    | some (.slice e) => match s with
      | .sl s' => argShp P d e s' && Nat.beq (P.cellsOf e) s'.sz
      | _ => false
    | some (.struct fs) => argFs P (argShp P d) fs.toList s 0 && Nat.beq (P.cellsOf t) s.sz
    | _ => false

theorem cells_rob {a : Addr} {n : Nat} {cs : List Value} (h : w.cells? base a n = some cs) : Rob (fun _ => False) w (fun w => ∀ j u, cs[j]? = some u → w.cell? (a.add j) = some u) := by
  intro w' hw j u hj
  obtain ⟨_, hl, hc⟩ := World.cells?_some h
  have hjn : j < n := by rw [← hl]; exact (List.getElem?_eq_some_iff.1 hj).1
  have h1 := (hc j hjn).trans hj
  exact (World.cell?_of_block (hw.block _ (World.block_lt_of_cell? w _ h1) (fun f => f))).trans h1

theorem all2_of {α β : Type} {r : α → β → Prop} : ∀ (n : Nat), (∀ i, i < n → ∃ a b, r a b) → ∀ (Q : Nat → α → β → Prop), (∀ i, i < n → ∃ a b, r a b ∧ Q i a b) → ∃ (l : List α) (m : List β), l.length = n ∧ All2 r l m ∧ ∀ i, i < n → ∃ a b, l[i]? = some a ∧ m[i]? = some b ∧ Q i a b
  | 0, _, _, _ => ⟨[], [], rfl, .nil, fun i hi => absurd hi (Nat.not_lt_zero _)⟩
  | n + 1, h0, Q, h => by
    obtain ⟨l, m, h1, h2, h3⟩ := all2_of n (fun i hi => h0 i (by omega)) (fun i a b => Q (i + 1) a b) (fun i hi => h (i + 1) (by omega))
    obtain ⟨a, b, h4, h5⟩ := h 0 (by omega)
    refine ⟨a :: l, b :: m, by simp [h1], .cons h4 h2, fun i hi => ?_⟩
    cases i with
    | zero => exact ⟨a, b, by simp, by simp, h5⟩
    | succ i => obtain ⟨a', b', g1, g2, g3⟩ := h3 i (by omega); exact ⟨a', b', by simpa using g1, by simpa using g2, g3⟩

/-- Integers of their kinds, strings no longer than any is. -/
def wfS : (s : Sh) → s.T → Prop
  | .int k, x => (Lit.int k x).wf = true
  | .str, x => x.size ≤ maxLen
  | .sl s, l => ∀ x ∈ l, wfS s x
  | .pair a b, x => wfS a x.1 ∧ wfS b x.2
  | _, _ => True

theorem All2.left {α β : Type} {r : α → β → Prop} {p : α → Prop} : ∀ {l : List α} {m : List β}, All2 (fun x y => r x y ∧ p x) l m → All2 r l m ∧ ∀ x ∈ l, p x
  | _, _, .nil => ⟨.nil, fun _ h => by cases h⟩
  | _, _, .cons h t => ⟨.cons h.1 t.left.1, fun x hx => by
    rcases List.mem_cons.1 hx with rfl | hx
    · exact h.2
    · exact t.left.2 x hx⟩

theorem fields_RR {d : Nat} (ih : ∀ (t : TypeId) (s : Sh) (fuel : Nat) (cs : List Value) (x : DataW H × List MemPlace), argShp P d t s = true → DataW.trod enc P w base spare held fuel t cs = some x → ∃ y : s.T, RR C (fun _ => False) w s y cs ∧ wfS s y) {n : Nat} {cs : List Value} :
    ∀ (fs : List Field) (s : Sh) (off : Nat), argFs P (argShp P d) fs s off = true → cs.length = off + s.sz → (∀ f ∈ fs, ∃ x, DataW.trod enc P w base spare held n f.type ((cs.drop f.offset).take (P.cellsOf f.type)) = some x) → ∃ y : s.T, RR C (fun _ => False) w s y (cs.drop off) ∧ wfS s y
  | [], _, _, h, _, _ => by simp [argFs] at h
  | [f], s, off, h, hl, hx => by
    simp only [argFs, Bool.and_eq_true] at h
    obtain ⟨⟨h1, h2⟩, h3⟩ := h
    obtain ⟨x, hx⟩ := hx f List.mem_cons_self
    have e1 := Nat.eq_of_beq_eq_true h1
    have e3 := Nat.eq_of_beq_eq_true h3
    obtain ⟨y, hy, hw⟩ := ih _ _ _ _ _ h2 hx
    rw [e1, e3, List.take_of_length_le (by simp; omega)] at hy
    exact ⟨y, hy, hw⟩
  | f :: g :: fs, s, off, h, hl, hx => by
    cases s <;> simp only [argFs] at h <;> try (cases h; done)
    rename_i a b
    simp only [Bool.and_eq_true] at h
    obtain ⟨⟨⟨h1, h2⟩, h3⟩, h4⟩ := h
    have e1 := Nat.eq_of_beq_eq_true h1
    have e3 := Nat.eq_of_beq_eq_true h3
    obtain ⟨x, hx0⟩ := hx f List.mem_cons_self
    obtain ⟨y, hy, hw⟩ := ih _ _ _ _ _ h2 hx0
    rw [e1, e3] at hy
    obtain ⟨z, hz, hv⟩ := fields_RR ih (g :: fs) b (off + a.sz) h4 (by simp only [Sh.sz] at hl; omega) (fun f hf => hx f (List.mem_cons_of_mem _ hf))
    exact ⟨(y, z), ⟨hy, by rw [List.drop_drop]; exact hz⟩, hw, hv⟩

theorem trod_RR : ∀ (d : Nat) (t : TypeId) (s : Sh) (fuel : Nat) (cs : List Value) (x : DataW H × List MemPlace), argShp P d t s = true → DataW.trod enc P w base spare held fuel t cs = some x → ∃ y : s.T, RR C (fun _ => False) w s y cs ∧ wfS s y
  | 0, _, _, _, _, _, h, _ => by simp [argShp] at h
  | d + 1, t, s, fuel, cs, x, h, hx => by
    simp only [argShp] at h
    split at h
    · rename_i k hu
      have hs : s = .int k := by simpa using h
      subst hs
      obtain ⟨n, hn, _, hw⟩ := DataW.trod_int hu hx
      exact ⟨n, hn, hw⟩
    · rename_i hu
      have hs : s = .bool := by simpa using h
      subst hs
      have key : ∃ b : Bool, cs = [.bool b] := by
        cases fuel with
        | zero => simp [DataW.trod] at hx
        | succ n =>
          unfold DataW.trod at hx
          rw [hu] at hx
          split at hx <;> simp_all
      obtain ⟨n, hn⟩ := key
      exact ⟨n, hn, trivial⟩
    · rename_i hu
      have hs : s = .str := by simpa using h
      subst hs
      obtain ⟨n, hn, _, hw⟩ := DataW.trod_string hu hx
      exact ⟨n, hn, hw⟩
    · rename_i e hu
      split at h <;> try (cases h; done)
      rename_i s'
      simp only [Bool.and_eq_true] at h
      obtain ⟨h1, h2⟩ := h
      have e2 := Nat.eq_of_beq_eq_true h2
      rcases Deep.open_slice hu hx with ⟨rfl, _⟩ | ⟨a, len, cap, m, n, D, Pl, rfl, hb, hl, hm, hmm, rfl, hel⟩
      · exact ⟨[], ⟨none, 0, rfl, Nat.le_refl _, .inl rfl⟩, fun _ h => by cases h⟩
      · have hlm : len ≤ m := by rw [hmm]; split <;> omega
        have each : ∀ i, i < len → ∃ (y : s'.T) (cs' : List Value), (RR C (fun _ => False) w s' y cs' ∧ wfS s' y) ∧ w.cells? base (a.add (i * s'.sz)) s'.sz = some cs' := by
          intro i hi
          obtain ⟨cs', g1, g2⟩ := hel i (by omega)
          obtain ⟨y, hy⟩ := trod_RR d e s' n cs' _ h1 g2
          rw [e2] at g1
          exact ⟨y, cs', hy, g1⟩
        obtain ⟨l, css, q1, q2, q3⟩ := all2_of (r := fun y cs' => RR C (fun _ => False) w s' y cs' ∧ wfS s' y) len (fun i hi => let ⟨y, cs', h, _⟩ := each i hi; ⟨y, cs', h⟩) (fun i _ cs' => w.cells? base (a.add (i * s'.sz)) s'.sz = some cs') (fun i hi => let ⟨y, cs', h, h'⟩ := each i hi; ⟨y, cs', h, h'⟩)
        obtain ⟨q2, q4⟩ := q2.left
        refine ⟨l, ⟨some a, cap, by rw [q1], by rw [q1]; exact hl, .inr ⟨a, css, rfl, q2, ?_⟩⟩, q4⟩
        intro w' hw j u hj
        have hcl : ∀ c ∈ css, c.length = s'.sz := fun c hc => by
          obtain ⟨x, _, hx⟩ := q2.mem_right c hc
          exact RR.len s' x c hx
        rw [flatten_ext s'.sz_pos hcl] at hj
        cases hi : css[j / s'.sz]? with
        | none => rw [hi] at hj; cases hj
        | some c =>
          rw [hi] at hj
          have hlt : j / s'.sz < len := by
            have := (List.getElem?_eq_some_iff.1 hi).1
            rw [← q2.length, q1] at this
            exact this
          obtain ⟨_, b, _, g2, g3⟩ := q3 _ hlt
          rw [hi] at g2
          obtain rfl := Option.some.inj g2
          have := cells_rob g3 w' hw (j % s'.sz) u hj
          rw [addr_add, Nat.div_add_mod'] at this
          exact this
    · rename_i fs hu
      simp only [Bool.and_eq_true] at h
      obtain ⟨h1, h2⟩ := h
      obtain ⟨xs, n, rfl, rfl, hlen, hxl, hf⟩ := DataW.trod_struct hu hx
      have e2 := Nat.eq_of_beq_eq_true h2
      obtain ⟨y, hy, hw⟩ := fields_RR (C := C) (n := n) (cs := cs) (fun t s fuel cs x => trod_RR d t s fuel cs x) fs.toList s 0 h1 (by omega) (fun f hfm => by
        obtain ⟨i, hi⟩ := List.getElem?_of_mem hfm
        have hi' : fs[i]? = some f := by simpa using hi
        have := hf i f hi'
        have hlt : i < xs.length := by rw [hxl]; exact (Array.getElem?_eq_some_iff.1 hi').1
        rw [List.getElem?_eq_getElem hlt] at this
        exact ⟨_, this⟩)
      exact ⟨y, by simpa using hy, hw⟩
    · cases h

theorem sameAt_keep (hk : KeepS (fun _ => False) w w') {p : MemPlace} (hb : p.block < w.heap.size) : w.sameAt w' p := by
  cases p with
  | cell b off => exact World.cell?_of_block (a := ⟨b, off, none⟩) (hk.block b hb (fun f => f))
  | map b => exact hk.block b hb (fun f => f)

theorem trodAll_keep (hk : KeepS (fun _ => False) w w') : ∀ {ts : List TypeId} {vs : List Value} {ds : List (DataW H)} {ps : List MemPlace}, DataW.TrodAll enc P w base spare held ts vs ds ps → DataW.TrodAll enc P w' base spare held ts vs ds ps
  | [], [], [], _, h => h
  | _ :: _, _ :: _, _ :: _, _, ⟨p, q, ⟨n, h1⟩, h2, h3⟩ => ⟨p, q, ⟨n, DataW.trod_carry n _ _ _ h1 fun x hx => sameAt_keep hk (DataW.trod_lt n _ _ _ h1 x hx)⟩, trodAll_keep hk h2, h3⟩
  | [], [], _ :: _, _, h => h.elim
  | [], _ :: _, _, _, h => h.elim
  | _ :: _, [], _, _, h => h.elim
  | _ :: _, _ :: _, [], _, h => h.elim

theorem keptBut_keep (hk : KeepS (fun _ => False) w w') (may : MemPlace → Prop) : w.keptBut w' may :=
  ⟨hk.os, hk.output, fun i hi => by rw [hk.block i hi (fun f => f)]; exact (World.keptBut_refl w may).2.2 i hi⟩

/-- The arguments read as they did, behind a call that writes nothing of theirs. -/
theorem trodAll_after (hl : laidOutB P = true) (hk : KeepS (fun _ => False) w w') : ∀ {ts : List TypeId} {vs : List Value} {ds : List (DataW H)} {ps : List MemPlace}, (∀ t ∈ ts, P.readableRec t = true ∧ t < P.types.size) → DataW.TrodAll enc P w 0 (fun _ => true) true ts vs ds ps → DataW.TrodAll enc P w' 0 (fun b => decide (b < w.heap.size)) true ts vs ds ps
  | [], [], [], _, _, h => h
  | t :: ts, v :: vs, d :: ds, ps, hr, ⟨p, q, h1, h2, h3⟩ => ⟨p, q, RowKit.Below.trod hl (hr t List.mem_cons_self).1 (hr t List.mem_cons_self).2 h1 hk.below (fun x hx => by obtain ⟨n, hn⟩ := h1; exact DataW.trod_lt n _ _ _ hn x hx),
      trodAll_after hl hk (fun t ht => hr t (List.mem_cons_of_mem _ ht)) h2, h3⟩
  | [], [], _ :: _, _, _, h => h.elim
  | [], _ :: _, _, _, _, h => h.elim
  | _ :: _, [], _, _, _, h => h.elim
  | _ :: _, _ :: _, [], _, _, h => h.elim

end

end Go.Pev
/- The pure evaluator, part U: a contract holds beside package variables too; what errors.As leaves in its target. Own text, over any program. -/
namespace Go.Pev

section
variable {C : Cfg} {g : List (Nat × GV)} {M : Nat → Prop} {w : World}

theorem ErrAt_glob : ∀ (ps : List (Int × Int)) (n : Int) (v : Value), ErrAt { C with glob := g } w ps n v = ErrAt C w ps n v
  | [], _, _ => rfl
  | p :: ps, n, v => by simp only [ErrAt, ErrAt_glob ps]

theorem ErrV_glob (e : Err) (v : Value) : ErrV { C with glob := g } w e v = ErrV C w e v := by
  cases e with
  | none => rfl
  | some x => obtain ⟨ps, n⟩ := x; exact ErrAt_glob ps n v

theorem All2.congr {α β : Type} {r r' : α → β → Prop} (h : ∀ a b, r a b = r' a b) (l : List α) (m : List β) : All2 r l m = All2 r' l m := by
  rw [show r = r' from funext fun a => funext fun b => h a b]

theorem RR_glob : ∀ (s : Sh) (x : s.T) (cs : List Value), RR { C with glob := g } M w s x cs = RR C M w s x cs
  | .int _, _, _ => rfl
  | .bool, _, _ => rfl
  | .str, _, _ => rfl
  | .err, x, cs => by simp only [RR, ErrV_glob]
  | .ptr, _, _ => rfl
  | .pt s, x, cs => by simp only [RR, RR_glob s]
  | .sl s, x, cs => by
    simp only [RR]
    simp only [All2.congr (fun a b => RR_glob s a b)]
  | .pair a b, x, cs => by simp only [RR, RR_glob a, RR_glob b]

theorem RowR_glob (s : Sh) (A : Option Addr) (x : List s.T) : RowR { C with glob := g } M w s A x = RowR C M w s A x := by
  simp only [RowR, All2.congr (fun a b => RR_glob s a b)]

variable {ρ : Nat → Value}
theorem LR_glob (a : AV) (v : Value) : LR { C with glob := g } ρ M w a v = LR C ρ M w a v := by
  cases a <;> simp only [LR, ErrV_glob, RowR_glob, RR_glob]

theorem SR_glob (a : AV) (v : Value) : SR { C with glob := g } ρ M w a v = SR C ρ M w a v := by
  cases a <;> simp only [SR, All2.congr (fun a b => LR_glob a b), LR_glob]

theorem VR_glob (a : AV) (v : Value) : VR { C with glob := g } ρ M w a v = VR C ρ M w a v := by
  cases a <;> simp only [VR, All2.congr (fun a b => SR_glob a b), SR_glob]

/-- A contract holds beside more package variables. -/
theorem Contract.glob {P : Program} {f : Nat} {args : List AV} {res : AV} (h : Contract P C f args res) (hsub : ∀ p ∈ C.glob, p ∈ g) : Contract P { C with glob := g } f args res := by
  intro M w vs hM hg ha
  rw [All2.congr (fun x v => SR_glob x v)] at ha
  refine (h M w vs hM (fun p hp => hg p (hsub p hp)) ha).mono fun e w' ⟨v, h1, h2, h3⟩ => ⟨v, h1, ?_, h3⟩
  rw [VR_glob]
  exact h2

/-- One more callee. -/
theorem SpecsOk.cons {P : Program} {T : Tabs} (hs : SpecsOk P T) {f : Nat} {sp : CSpec} (h : EnterOk P f ∧ CSpecOk P T.toCfg f sp) : SpecsOk P { T with specs := (f, sp) :: T.specs } :=
  ⟨(fun f' sp' hg => by
    rw [show Pev.get ({ T with specs := (f, sp) :: T.specs } : Tabs).specs f' = if f = f' then some sp else Pev.get T.specs f' from get_cons _ _ _ _] at hg
    split at hg
    · rename_i e; subst e; obtain rfl := Option.some.inj hg; exact h
    · exact hs.specs f' sp' hg), hs.as.imp id fun h => ⟨h.enter, h.calls⟩⟩

/-- A fault that goes on to be one lies in none of the blocks that may be written. -/
theorem Rob.fault {p : Int × Int} {ps : List (Int × Int)} {n : Int} {v : Value} (h : Rob M w (fun w => ErrAt C w (p :: ps) n v)) :
    ∃ b u, v = .iface C.fptr (.pointer (some ⟨b, 0, none⟩)) ∧ w.heap[b]? = some (.cells #[.int .i64 p.1, .int .i64 p.2, u] C.fault (0, 0)) ∧ ¬ M b ∧ b < w.heap.size ∧ Rob M w (fun w => ErrAt C w ps n u) := by
  obtain ⟨b, u, h1, h2, h3⟩ := h.now
  have hlt : b < w.heap.size := by
    rcases Nat.lt_or_ge b w.heap.size with h | h
    · exact h
    · rw [Array.getElem?_eq_none h] at h2; cases h2
  have hnM : ¬ M b := by
    intro hM
    obtain ⟨b2, u2, g1, g2, _⟩ := h (w.setRow b #[]) ((KeepS.setRow w b #[]).mono fun k _ e => e ▸ hM)
    rw [h1] at g1
    obtain rfl : b = b2 := by simpa using g1
    have e : (w.setRow b #[]).heap[b]? = some (.cells #[] C.fault (0, 0)) := by simp [World.setRow, Array.getElem?_modify, h2]
    rw [e] at g2
    simp at g2
  refine ⟨b, u, h1, h2, hnM, hlt, fun w2 hk => ?_⟩
  obtain ⟨b2, u2, g1, g2, g3⟩ := h w2 hk
  rw [h1] at g1
  obtain rfl : b = b2 := by simpa using g1
  rw [hk.block b hlt hnM, h2] at g2
  obtain rfl : u = u2 := by simpa using g2
  exact g3

/-- The first fault of an error, as the target of errors.As gets it. -/
theorem Rob.elt {ρ : Nat → Value} {p : Int × Int} {ps : List (Int × Int)} {n : Int} {b : Nat} {u : Value} (h2 : w.heap[b]? = some (.cells #[.int .i64 p.1, .int .i64 p.2, u] C.fault (0, 0))) (hnM : ¬ M b) (hlt : b < w.heap.size) (h : Rob M w (fun w => ErrAt C w ps n u)) :
    LR C ρ M w (.elt FSh (p, some (ps, n)) 0) (.pointer (some ⟨b, 0, none⟩)) := by
  refine ⟨⟨b, 0, none⟩, [.int .i64 p.1, .int .i64 p.2, u], rfl, ⟨⟨rfl, rfl⟩, u, rfl, h⟩, fun w2 hk j x hj => ?_⟩
  rw [addr_at]
  simp only [World.cell?, hk.block b hlt hnM, h2, Option.isSome_none, Bool.false_eq_true, if_false]
  simpa using hj
end
end Go.Pev
/- The pure evaluator, part V: what a row's listed variables give. Own text, over any program. -/
namespace Go.Pev
open Go.RowKit Go.ChangeShapes

theorem GV.of_var {P : Program} {W : World} {n : String} {g : Nat} {cs : List Value} (hg : P.globalNamed n = some g) (h : W.var? P n = some cs.toArray) : (GV.is cs).ok W g := by
  unfold World.var? at h
  simp only [hg, Option.bind_some] at h
  split at h
  · rename_i cs' t fr hh
    obtain rfl := Option.some.inj h
    exact ⟨t, fr, hh⟩
  · cases h
theorem GV.to_var {P : Program} {W : World} {n : String} {g : Nat} {cs : List Value} (hg : P.globalNamed n = some g) (h : (GV.is cs).ok W g) : W.var? P n = some cs.toArray := by
  obtain ⟨t, fr, h⟩ := h
  simp [World.var?, hg, h]
theorem GV.face_of_head {P : Program} {n nm : String} {d : DataW Unit} {r : List (String × DataW Unit)} {W : World} {g : Nat} {ti : TypeId} {ms : Array (String × TypeId)}
    (h : laidMet P ((n, .iface nm d) :: r) W) (hg : P.globalNamed n = some g) (ht : (P.globals[g]?).map (·.type) = some ti) (hi : P.underlying ti = some (.interface ms)) : GV.face.ok W g := by
  obtain ⟨ps, ⟨g0, t0, cs0, f0, p0, q0, hg0, ht0, hv0, hd0, _, e0⟩, _, hrows⟩ := h
  obtain rfl := Option.some.inj (hg.symm.trans hg0)
  obtain rfl := Option.some.inj (ht.symm.trans ht0)
  obtain ⟨l0⟩ := cs0
  obtain ⟨_, u, v, rfl, _, _⟩ := iface_of_trod hi hd0
  obtain ⟨t, fr, hh⟩ := GV.of_var (cs := [.iface u v]) hg hv0
  exact ⟨u, v, t, fr, hh⟩
theorem GV.lt {W : World} {g : Nat} : ∀ {x : GV}, x.ok W g → g < W.heap.size
  | .is _, ⟨_, _, h⟩ => by
    rcases Nat.lt_or_ge g W.heap.size with h' | h'
    · exact h'
    · rw [Array.getElem?_eq_none h'] at h; cases h
  | .face, ⟨_, _, _, _, h⟩ => by
    rcases Nat.lt_or_ge g W.heap.size with h' | h'
    · exact h'
    · rw [Array.getElem?_eq_none h'] at h; cases h
  | .num, ⟨_, h⟩ => World.block_lt_of_cell? _ ⟨g, 0, none⟩ h
theorem Glob.none {C : Cfg} {W : World} (h : C.glob = []) : Glob C (fun _ => False) W := by intro p hp; rw [h] at hp; cases hp
theorem Glob.cons {C : Cfg} {W : World} {g : Nat} {x : GV} {l : List (Nat × GV)} (hx : x.ok W g) (h : Glob { C with glob := l } (fun _ => False) W) : Glob { C with glob := (g, x) :: l } (fun _ => False) W := by
  intro p hp
  rcases List.mem_cons.1 hp with rfl | hp
  · exact ⟨hx, GV.lt hx, fun h => h⟩
  · exact h p hp
/-- A handle's one cell. -/
theorem GV.of_handle {P : Program} {W : World} {n : String} {nm : List UInt8} {d : DataW Unit} {g : Nat} {u ty : TypeId} (hd : d.handleName? = some nm) (hf : d.funcsIn?.isNone = true) (hg : P.globalNamed n = some g) (hrt : (P.cutTypes.find? (·.1 == "internal/reflectlite.rtype")).map (·.2) = some u)
    (hone : ((List.range P.types.size).filter fun t => P.rowNamed t nm) = [ty]) (h : handlesMet P [(n, d)] W) : (GV.is [.iface u (.agg #[typeHandle P ty])]).ok W g := by
  have h2 := h _ (List.mem_singleton.2 rfl)
  dsimp only at h2
  cases hfi : d.funcsIn? with
  | some x => rw [hfi] at hf; cases hf
  | none =>
    rw [hfi] at h2
    obtain ⟨name, u', ty', e1, e2, e3, e4, e5⟩ := h2
    obtain rfl := Option.some.inj (hd.symm.trans e1)
    obtain rfl := Option.some.inj (hrt.symm.trans e2)
    have hm : ty' ∈ (List.range P.types.size).filter fun t => P.rowNamed t nm := List.mem_filter.2 ⟨List.mem_range.2 e3, e4⟩
    rw [hone] at hm
    obtain rfl := List.mem_singleton.1 hm
    exact GV.of_var hg e5
end Go.Pev
namespace Go
variable {H : Type} {enc : TypeId × Value → H}
/-- The wrap of a row that lists variables, with the world's shape kept for the walk. -/
theorem returnsInHanded_and_shaped {a : Assume} {C : Checked} {os : Os} {f : FuncId} {fn : Func} {s : ChangeSpec} {conds : List PathCond} {apart fresh handsOn again : Bool} {X : World → Array Value → Prop}
    (hX : ∀ (w w' : World) (args : Array Value), w.heap = w'.heap → X w args → X w' args)
    (own : ownKnob C.prog.godebug = none) (started : os.Started) (noInit : C.prog.inits.idxOf? f = none) (hfn : C.prog.funcs[f]? = some fn)
    (witness : ∃ (w : World) (tape : Tape) (i : Input), w.os = os ∧ (w.forCall tape i).Shaped C.prog ∧ i.vars = [] ∧ Input.okWide C.prog (w.forCall tape i) .any w.heap.size f i ∧
      ((s.pre enc C.prog fn conds apart (w.forCall tape i).memory i.args ∧ X (w.forCall tape i).memory i.args) ∧ sizedMet enc C.prog fn (OpenSpec.ofChange s) apart (w.forCall tape i).memory i.args) ∧ a.holds C.prog (lone (Frame.enter C.prog f i.args .normal) [] (w.forCall tape i)))
    (contract : ∀ (W : World) (base : Nat) (args : Array Value) (ds gs : List (DataW H)) (before : List MemPlace),
      (∀ (j : Nat) t v, fn.params[j]? = some t → args[j]? = some v → Value.okWide C.prog W .any base t v) →
      DataW.Whole enc C.prog fn.params.toList s.vars apart W args.toList ds gs before →
      conds.all (PathCond.test C.prog ⟨fn.params.toList, ds, s.plain.varTypes C.prog, gs⟩) = true →
      (DataW.weightsEach C.prog (fn.params.toList ++ s.plain.varTypes C.prog) (ds ++ gs)).all (· ≤ reachBytes) = true → X W args → W.ShapedOpen C.prog →
      a.holds C.prog (lone (Frame.enter C.prog f args .normal) [] W) →
      Calls C.prog f args W fun e W' => ∃ v, e = .returned v ∧ s.post enc C.prog fn apart fresh handsOn again W args v W') :
    ReturnsInHanded a C os f .any (fun w args => (s.pre enc C.prog fn conds apart w args ∧ X w args) ∧ sizedMet enc C.prog fn (OpenSpec.ofChange s) apart w args) (s.post enc C.prog fn apart fresh handsOn again) := by
  refine returnsInHanded_of_calls own started noInit witness ?_
  intro w tape i _ hsh _ hok hpre hholds
  obtain ⟨_, _, _, fn', hfn', _, _, _, _, hval⟩ := hok
  have e : fn' = fn := Option.some.inj (hfn'.symm.trans hfn)
  subst e
  obtain ⟨⟨⟨ds, gs, before, hw, hc⟩, hx⟩, hz⟩ := hpre
  have hw' := DataW.Whole.of_heap (w' := w.forCall tape i) (by rfl) hw
  refine (contract (w.forCall tape i) w.heap.size i.args ds gs before hval hw' hc (hz.weights hw) (hX _ _ _ (by rfl) hx) hsh hholds).mono fun e W' ⟨v, he, hp⟩ => ?_
  subst he
  exact ChangeSpec.post_blind hp
end Go
/- The pure evaluator, part W: trees over plain data; loops and functions told by them, once for all. Own text, over any program. -/
namespace Go.Pev

/-- Trees: an answer, a next round, branches; what another one answered. -/
inductive LT (S Q : Type) : Type 1 where
  | ret (q : Q)
  | next (s : S)
  | fail
  | br (b : Bool) (x y : LT S Q)
  | opt {α : Type} (o : Option α) (k : α → LT S Q)
  | alt {α β : Type} (o : α ⊕ β) (k : α → LT S Q) (l : β → LT S Q)

def LT.run {S Q : Type} {ρ : Type} : LT S Q → (Q → Option ρ) → (S → Option ρ) → Option ρ
  | .ret q, f, _ => f q
  | .next s, _, g => g s
  | .fail, _, _ => none
  | .br b x y, f, g => cond b (x.run f g) (y.run f g)
  | .opt o k, f, g => match o with
    | some a => (k a).run f g
    | none => none
  | .alt o k l, f, g => match o with
    | .inl a => (k a).run f g
    | .inr a => (l a).run f g

/-- A function's tree: no rounds. -/
abbrev FT (Q : Type) := LT Empty Q
def LT.fin {Q : Type} (t : FT Q) : Option Q := t.run some (fun e => nomatch e)

def LT.loop {S Q : Type} (bd : S → LT S Q) : Nat → S → Option Q
  | 0, _ => none
  | n + 1, s => (bd s).run some (LT.loop bd n)
/-- More rounds than any loop here goes. -/
def FUEL : Nat := 1000000000000

theorem LT.run_ok {S Q ρ : Type} {f : Q → Option ρ} {g : S → Option ρ} {g0 : S → Option Q} {res : Option ρ} : ∀ (t : LT S Q) (q : Q), (∀ s, g0 s = some q → g s = f q) → t.run some g0 = some q → t.run f g = f q
  | .ret q, q', _, h => by
    simp only [LT.run, Option.some.injEq] at h ⊢
    rw [h]
  | .next s, q', hg, h => hg s h
  | .fail, _, _, h => by cases h
  | .br b x y, q', hg, h => by
    cases b
    · exact LT.run_ok (res := res) y q' hg h
    · exact LT.run_ok (res := res) x q' hg h
  | .opt none k, q', hg, h => by cases h
  | .opt (some a) k, q', hg, h => LT.run_ok (res := res) (k a) q' hg h
  | .alt (.inl a) k l, q', hg, h => LT.run_ok (res := res) (k a) q' hg h
  | .alt (.inr a) k l, q', hg, h => LT.run_ok (res := res) (l a) q' hg h

/-! ### patterns of environments -/

inductive Pat where
  | d (s : Sh)
  | ag (s : Sh)
  | elt (s : Sh) (off : Nat)
  | pel (s : Sh)
  | own (id : Nat)
  | ref (id off : Nat)
  | fn (f : Nat)
  | nsl
  | nilp
  | oth
  | undef
inductive RPat where
  | box (t : TypeId) (ps : List Pat)
  | row (e : TypeId) (s : Sh)
  | fro (s : Sh)

def leaf1 : (s : Sh) → s.T → AV
  | .int k, x => .int k x
  | .bool, x => .bool x
  | .str, x => .str x
  | .err, x => .err x
  | .ptr, _ => .nilp
  | .pt s, x => .pel s x
  | .sl s, x => .sl s x
  | .pair a b, x => .ag (leaves a x.1 ++ leaves b x.2)
/-- The strict inverse. -/
def unleaf1 : (s : Sh) → AV → Option s.T
  | .int k, a => match a with | .int k' n => (if k' = k then some n else none) | _ => none
  | .bool, a => match a with | .bool b => some b | _ => none
  | .str, a => match a with | .str b => some b | _ => none
  | .err, a => match a with | .err b => some b | _ => none
  | .ptr, a => match a with | .nilp => some () | _ => none
  | .pt s, a => match a with | .pel s' x => castP s' s x | _ => none
  | .sl s, a => match a with | .sl s' x => castL s' s x | _ => none
  | .pair _ _, _ => none
def unleaves : (s : Sh) → List AV → Option s.T
  | .int k, l => match l with | [a] => unleaf1 (.int k) a | _ => none
  | .bool, l => match l with | [a] => unleaf1 .bool a | _ => none
  | .str, l => match l with | [a] => unleaf1 .str a | _ => none
  | .err, l => match l with | [a] => unleaf1 .err a | _ => none
  | .ptr, l => match l with | [a] => unleaf1 .ptr a | _ => none
  | .pt s, l => match l with | [a] => unleaf1 (.pt s) a | _ => none
  | .sl s, l => match l with | [a] => unleaf1 (.sl s) a | _ => none
  | .pair a b, l => match unleaves a (l.take a.sz), unleaves b (l.drop a.sz) with
    | some x, some y => some (x, y)
    | _, _ => none
/-- A value of this shape: a struct is a bundle. -/
def encA (s : Sh) (x : s.T) : AV := leaf1 s x
def decA (s : Sh) (a : AV) : Option s.T :=
  match s with
  | .pair u v => match a with | .ag l => unleaves (.pair u v) l | _ => none
  | s => unleaf1 s a

theorem unleaf1_ok : ∀ (s : Sh) (a : AV) (x : s.T), unleaf1 s a = some x → a = leaf1 s x
  | .int k, a, x, h => by
    simp only [unleaf1] at h
    split at h <;> simp at h
    obtain ⟨rfl, rfl⟩ := h
    rfl
  | .bool, a, x, h => by simp only [unleaf1] at h; split at h <;> simp at h; subst h; rfl
  | .str, a, x, h => by simp only [unleaf1] at h; split at h <;> simp at h; subst h; rfl
  | .err, a, x, h => by simp only [unleaf1] at h; split at h <;> simp at h; subst h; rfl
  | .ptr, a, x, h => by simp only [unleaf1] at h; split at h <;> simp at h; rfl
  | .pt s, a, x, h => by
    simp only [unleaf1] at h
    split at h <;> try (cases h; done)
    obtain ⟨e, rfl⟩ := castP_some h
    subst e; rfl
  | .sl s, a, x, h => by
    simp only [unleaf1] at h
    split at h <;> try (cases h; done)
    obtain ⟨e, rfl⟩ := castL_some h
    subst e; rfl
  | .pair _ _, a, x, h => by cases h

theorem unleaves_ok : ∀ (s : Sh) (l : List AV) (x : s.T), unleaves s l = some x → l = leaves s x
  | .int k, l, x, h => by
    simp only [unleaves] at h
    split at h <;> try (cases h; done)
    rw [unleaf1_ok _ _ _ h]; rfl
  | .bool, l, x, h => by
    simp only [unleaves] at h
    split at h <;> try (cases h; done)
    rw [unleaf1_ok _ _ _ h]; rfl
  | .str, l, x, h => by
    simp only [unleaves] at h
    split at h <;> try (cases h; done)
    rw [unleaf1_ok _ _ _ h]; rfl
  | .err, l, x, h => by
    simp only [unleaves] at h
    split at h <;> try (cases h; done)
    rw [unleaf1_ok _ _ _ h]; rfl
  | .ptr, l, x, h => by
    simp only [unleaves] at h
    split at h <;> try (cases h; done)
    rw [unleaf1_ok _ _ _ h]; rfl
  | .pt s, l, x, h => by
    simp only [unleaves] at h
    split at h <;> try (cases h; done)
    rw [unleaf1_ok _ _ _ h]; rfl
  | .sl s, l, x, h => by
    simp only [unleaves] at h
    split at h <;> try (cases h; done)
    rw [unleaf1_ok _ _ _ h]; rfl
  | .pair a b, l, x, h => by
    simp only [unleaves] at h
    split at h <;> simp at h
    rename_i y z hy hz
    subst h
    show l = leaves a y ++ leaves b z
    rw [← unleaves_ok a _ _ hy, ← unleaves_ok b _ _ hz, List.take_append_drop]

theorem decA_ok {s : Sh} {a : AV} {x : s.T} (h : decA s a = some x) : a = encA s x := by
  unfold decA at h
  split at h
  · rename_i u v
    split at h <;> try (cases h; done)
    rw [unleaves_ok _ _ _ h]
    rfl
  · exact unleaf1_ok _ _ _ h

def Pat.TX : Pat → Type → Type
  | .d s, X => s.T × X
  | .ag s, X => s.T × X
  | .elt s _, X => s.T × X
  | .pel s, X => Option s.T × X
  | _, X => X
def PTX : List Pat → Type → Type
  | [], X => X
  | p :: l, X => p.TX (PTX l X)
def STX : List (Nat × Pat) → Type → Type
  | [], X => X
  | p :: l, X => p.2.TX (STX l X)
def RTX : List (Nat × RPat) → Type → Type
  | [], X => X
  | (_, .box _ ps) :: l, X => PTX ps (RTX l X)
  | (_, .row _ s) :: l, X => List s.T × RTX l X
  | (_, .fro s) :: l, X => List s.T × RTX l X
structure EP where
  sl : List (Nat × Pat)
  rs : List (Nat × RPat)
def EP.T (e : EP) : Type := STX e.sl (RTX e.rs Unit)

def Pat.enc {X : Type} : (p : Pat) → p.TX X → AV × X
  | .d s, x => (leaf1 s x.1, x.2)
  | .ag s, x => (.ag (leaves s x.1), x.2)
  | .elt s off, x => (.elt s x.1 off, x.2)
  | .pel s, x => (.pel s x.1, x.2)
  | .own id, x => (.own id, x)
  | .ref id off, x => (.ref id off, x)
  | .fn f, x => (.fn f, x)
  | .nsl, x => (.nsl, x)
  | .nilp, x => (.nilp, x)
  | .oth, x => (.oth, x)
  | .undef, x => (.undef, x)
def Pat.dec {X : Type} : (p : Pat) → AV → X → Option (p.TX X)
  | .d s, a, y => match unleaf1 s a with | some x => some (x, y) | none => none
  | .ag s, a, y => match a with | .ag l => (match unleaves s l with | some x => some (x, y) | none => none) | _ => none
  | .elt s off, a, y => match a with | .elt s' x off' => (match Nat.beq off' off with | true => (match castE s' s x with | some x => some (x, y) | none => none) | false => none) | _ => none
  | .pel s, a, y => match a with | .pel s' x => (match castP s' s x with | some x => some (x, y) | none => none) | _ => none
  | .own id, a, y => match a with | .own i => (match Nat.beq i id with | true => some y | false => none) | _ => none
  | .ref id off, a, y => match a with | .ref i o => (match Nat.beq i id with | true => (match Nat.beq o off with | true => some y | false => none) | false => none) | _ => none
  | .fn f, a, y => match a with | .fn i => (match Nat.beq i f with | true => some y | false => none) | _ => none
  | .nsl, a, y => match a with | .nsl => some y | _ => none
  | .nilp, a, y => match a with | .nilp => some y | _ => none
  | .oth, a, y => match a with | .oth => some y | _ => none
  | .undef, a, y => match a with | .undef => some y | _ => none

theorem beq_true {a b : Nat} (h : Nat.beq a b = true) : a = b := Nat.eq_of_beq_eq_true h

theorem Pat.dec_ok {X : Type} : ∀ (p : Pat) (a : AV) (y : X) (z : p.TX X), p.dec a y = some z → p.enc z = (a, y)
  | .d s, a, y, z, h => by
    change (match unleaf1 s a with | some x => some (x, y) | none => none : Option (s.T × X)) = some z at h
    split at h <;> try (cases h; done)
    rename_i x hx
    obtain rfl := Option.some.inj h
    rw [unleaf1_ok _ _ _ hx]; rfl
  | .ag s, a, y, z, h => by
    change (match (generalizing := false) a with | .ag l => (match unleaves s l with | some x => some (x, y) | none => none) | _ => none : Option (s.T × X)) = some z at h
    split at h <;> try (cases h; done)
    split at h <;> try (cases h; done)
    rename_i x hx
    obtain rfl := Option.some.inj h
    rw [unleaves_ok _ _ _ hx]; rfl
  | .elt s off, a, y, z, h => by
    change (match (generalizing := false) a with | .elt s' x off' => (match Nat.beq off' off with | true => (match castE s' s x with | some x => some (x, y) | none => none) | false => none) | _ => none : Option (s.T × X)) = some z at h
    split at h <;> try (cases h; done)
    split at h <;> try (cases h; done)
    split at h <;> try (cases h; done)
    rename_i hb _ x hx
    obtain rfl := Option.some.inj h
    obtain ⟨e, rfl⟩ := castE_some hx
    subst e
    rw [beq_true hb]; rfl
  | .pel s, a, y, z, h => by
    change (match (generalizing := false) a with | .pel s' x => (match castP s' s x with | some x => some (x, y) | none => none) | _ => none : Option (Option s.T × X)) = some z at h
    split at h <;> try (cases h; done)
    split at h <;> try (cases h; done)
    rename_i x hx
    obtain rfl := Option.some.inj h
    obtain ⟨e, rfl⟩ := castP_some hx
    subst e; rfl
  | .own id, a, y, z, h => by
    change (match (generalizing := false) a with | .own i => (match Nat.beq i id with | true => some y | false => none) | _ => none : Option X) = some z at h
    split at h <;> try (cases h; done)
    split at h <;> try (cases h; done)
    rename_i hb
    obtain rfl := Option.some.inj h
    rw [beq_true hb]; rfl
  | .ref id off, a, y, z, h => by
    change (match (generalizing := false) a with | .ref i o => (match Nat.beq i id with | true => (match Nat.beq o off with | true => some y | false => none) | false => none) | _ => none : Option X) = some z at h
    split at h <;> try (cases h; done)
    split at h <;> try (cases h; done)
    split at h <;> try (cases h; done)
    rename_i hb _ hb2
    obtain rfl := Option.some.inj h
    rw [beq_true hb, beq_true hb2]; rfl
  | .fn f, a, y, z, h => by
    change (match (generalizing := false) a with | .fn i => (match Nat.beq i f with | true => some y | false => none) | _ => none : Option X) = some z at h
    split at h <;> try (cases h; done)
    split at h <;> try (cases h; done)
    rename_i hb
    obtain rfl := Option.some.inj h
    rw [beq_true hb]; rfl
  | .nsl, a, y, z, h => by
    change (match (generalizing := false) a with | .nsl => some y | _ => none : Option X) = some z at h
    split at h <;> try (cases h; done)
    obtain rfl := Option.some.inj h
    rfl
  | .nilp, a, y, z, h => by
    change (match (generalizing := false) a with | .nilp => some y | _ => none : Option X) = some z at h
    split at h <;> try (cases h; done)
    obtain rfl := Option.some.inj h
    rfl
  | .oth, a, y, z, h => by
    change (match (generalizing := false) a with | .oth => some y | _ => none : Option X) = some z at h
    split at h <;> try (cases h; done)
    obtain rfl := Option.some.inj h
    rfl
  | .undef, a, y, z, h => by
    change (match (generalizing := false) a with | .undef => some y | _ => none : Option X) = some z at h
    split at h <;> try (cases h; done)
    obtain rfl := Option.some.inj h
    rfl

def encP {X : Type} : (l : List Pat) → PTX l X → List AV × X
  | [], x => ([], x)
  | p :: l, x => ((p.enc x).1 :: (encP l (p.enc x).2).1, (encP l (p.enc x).2).2)
def decP {X : Type} : (l : List Pat) → List AV → X → Option (PTX l X)
  | [], m, y => match m with | [] => some y | _ => none
  | p :: l, m, y => match m with | a :: m => (match decP l m y with | some z => p.dec a z | none => none) | _ => none
theorem decP_ok {X : Type} : ∀ (l : List Pat) (m : List AV) (y : X) (z : PTX l X), decP l m y = some z → encP l z = (m, y)
  | [], m, y, z, h => by
    unfold decP at h
    split at h <;> try (cases h; done)
    obtain rfl := Option.some.inj h
    rfl
  | p :: l, m, y, z, h => by
    unfold decP at h
    split at h <;> try (cases h; done)
    split at h <;> try (cases h; done)
    rename_i a m _ z' hz
    have h1 := Pat.dec_ok p a z' z h
    have h2 := decP_ok l m y z' hz
    simp only [encP, h1, h2]
def encS {X : Type} : (l : List (Nat × Pat)) → STX l X → List (Nat × AV) × X
  | [], x => ([], x)
  | p :: l, x => ((p.1, (p.2.enc x).1) :: (encS l (p.2.enc x).2).1, (encS l (p.2.enc x).2).2)
def decS {X : Type} : (l : List (Nat × Pat)) → List (Nat × AV) → X → Option (STX l X)
  | [], m, y => match m with | [] => some y | _ => none
  | p :: l, m, y => match m with
    | (t, a) :: m => (match Nat.beq t p.1 with | true => (match decS l m y with | some z => p.2.dec a z | none => none) | false => none)
    | _ => none
theorem decS_ok {X : Type} : ∀ (l : List (Nat × Pat)) (m : List (Nat × AV)) (y : X) (z : STX l X), decS l m y = some z → encS l z = (m, y)
  | [], m, y, z, h => by
    unfold decS at h
    split at h <;> try (cases h; done)
    obtain rfl := Option.some.inj h
    rfl
  | p :: l, m, y, z, h => by
    unfold decS at h
    split at h <;> try (cases h; done)
    split at h <;> try (cases h; done)
    split at h <;> try (cases h; done)
    rename_i t a m _ hb _ z' hz
    have h1 := Pat.dec_ok p.2 a z' z h
    have h2 := decS_ok l m y z' hz
    simp only [encS, h1, h2, beq_true hb]
def encR {X : Type} : (l : List (Nat × RPat)) → RTX l X → List (Nat × Option RS) × X
  | [], x => ([], x)
  | (id, .box t ps) :: l, x => ((id, some (.box t (encP ps x).1)) :: (encR l (encP ps x).2).1, (encR l (encP ps x).2).2)
  | (id, .row e s) :: l, x => ((id, some (.row e s x.1)) :: (encR l x.2).1, (encR l x.2).2)
  | (id, .fro s) :: l, x => ((id, some (.fro s x.1)) :: (encR l x.2).1, (encR l x.2).2)
def decR {X : Type} : (l : List (Nat × RPat)) → List (Nat × Option RS) → X → Option (RTX l X)
  | [], m, y => match m with | [] => some y | _ => none
  | (id, .box t ps) :: l, m, y => match m with
    | (i, some (.box t' cs)) :: m => (match Nat.beq i id with | true => (match Nat.beq t' t with | true => (match decR l m y with | some z => decP ps cs z | none => none) | false => none) | false => none)
    | _ => none
  | (id, .row e s) :: l, m, y => match m with
    | (i, some (.row e' s' x)) :: m => (match Nat.beq i id with | true => (match Nat.beq e' e with | true => (match castL s' s x with | some x => (match decR l m y with | some z => some (x, z) | none => none) | none => none) | false => none) | false => none)
    | _ => none
  | (id, .fro s) :: l, m, y => match m with
    | (i, some (.fro s' x)) :: m => (match Nat.beq i id with | true => (match castL s' s x with | some x => (match decR l m y with | some z => some (x, z) | none => none) | none => none) | false => none)
    | _ => none
theorem decR_ok {X : Type} : ∀ (l : List (Nat × RPat)) (m : List (Nat × Option RS)) (y : X) (z : RTX l X), decR l m y = some z → encR l z = (m, y)
  | [], m, y, z, h => by
    unfold decR at h
    split at h <;> try (cases h; done)
    obtain rfl := Option.some.inj h
    rfl
  | (id, .box t ps) :: l, m, y, z, h => by
    unfold decR at h
    split at h <;> try (cases h; done)
    split at h <;> try (cases h; done)
    split at h <;> try (cases h; done)
    split at h <;> try (cases h; done)
    rename_i hb _ ht _ z' hz
    have h1 := decP_ok ps _ _ _ h
    have h2 := decR_ok l _ _ _ hz
    simp only [encR, h1, h2, beq_true hb, beq_true ht]
  | (id, .row e s) :: l, m, y, z, h => by
    unfold decR at h
    split at h <;> try (cases h; done)
    split at h <;> try (cases h; done)
    split at h <;> try (cases h; done)
    split at h <;> try (cases h; done)
    split at h <;> try (cases h; done)
    rename_i hb _ ht _ x hx _ z' hz
    obtain rfl := Option.some.inj h
    obtain ⟨e', rfl⟩ := castL_some hx
    subst e'
    have h2 := decR_ok l _ _ _ hz
    simp only [encR, h2, beq_true hb, beq_true ht]
  | (id, .fro s) :: l, m, y, z, h => by
    unfold decR at h
    split at h <;> try (cases h; done)
    split at h <;> try (cases h; done)
    split at h <;> try (cases h; done)
    split at h <;> try (cases h; done)
    rename_i hb _ x hx _ z' hz
    obtain rfl := Option.some.inj h
    obtain ⟨e', rfl⟩ := castL_some hx
    subst e'
    have h2 := decR_ok l _ _ _ hz
    simp only [encR, h2, beq_true hb]

def EP.enc (e : EP) (x : e.T) : Env := ⟨(encS e.sl x).1, (encR e.rs (encS e.sl x).2).1⟩
def EP.dec (e : EP) (E : Env) : Option e.T := match decR e.rs E.rs () with | some y => decS e.sl E.sl y | none => none
theorem EP.dec_ok {e : EP} {E : Env} {x : e.T} (h : e.dec E = some x) : E = e.enc x := by
  unfold EP.dec at h
  split at h <;> try (cases h; done)
  rename_i y hy
  have h1 := decS_ok _ _ _ _ h
  have h2 := decR_ok _ _ _ _ hy
  unfold EP.enc
  rw [h1, h2]

/-! ### exits -/

def RetT : List (Exit × EP) → Type
  | [] => Empty
  | [p] => p.2.T
  | p :: q :: l => p.2.T ⊕ RetT (q :: l)
def exK : (l : List (Exit × EP)) → (Exit → Env → R) → RetT l → R
  | [], _, q => nomatch q
  | [p], k, q => k p.1 (p.2.enc q)
  | p :: p' :: l, k, q => match q with
    | .inl x => k p.1 (p.2.enc x)
    | .inr y => exK (p' :: l) k y

def genOrc (h : EP) (xs : List (Exit × EP)) (F : h.T → Option (RetT xs)) : Orc := fun E k => match h.dec E with
  | some st => match F st with
    | some q => exK xs k q
    | none => none
  | none => none

theorem LT.loop_ok {S Q : Type} {bd : S → LT S Q} {lo : Nat → S → R} {f : Q → R} (hs : ∀ m st, lo (m + 1) st = (bd st).run f (lo m)) : ∀ (m : Nat) (st : S) (q : Q), LT.loop bd m st = some q → lo m st = f q
  | 0, _, _, h => by cases h
  | m + 1, st, q, h => by
    rw [hs]
    exact LT.run_ok (res := none) (bd st) q (fun s' h' => LT.loop_ok hs m s' q h') h

theorem genOrc_ok {P : Program} {T : Tabs} {A : Anns} {c : Code} {h : EP} {xs : List (Exit × EP)} {F : h.T → Option (RetT xs)} {bd : h.T → LT h.T (RetT xs)} (N : h.T → Nat) (ho : orcOf A c = some (genOrc h xs F))
    (hF : ∀ st q, F st = some q → LT.loop bd (N st) st = some q)
    (hs : ∀ st m k, loopE (prep T (annOf A c)) (evalC P T A c) (m + 1) (h.enc st) (outK T A c k) = (bd st).run (exK xs k) (fun st' => loopE (prep T (annOf A c)) (evalC P T A c) m (h.enc st') (outK T A c k))) : OrcOk P T A c := by
  intro o ho' E k r hr
  obtain rfl : o = genOrc h xs F := by rw [ho] at ho'; exact (Option.some.inj ho').symm
  unfold genOrc at hr
  split at hr <;> try (cases hr; done)
  rename_i st hst
  split at hr <;> try (cases hr; done)
  rename_i q hq
  refine ⟨N st, ?_⟩
  rw [EP.dec_ok hst, ← hr]
  exact LT.loop_ok (lo := fun m st => loopE (prep T (annOf A c)) (evalC P T A c) m (h.enc st) (outK T A c k)) (fun m st => hs st m k) (N st) st q (hF st q hq)

/-- A function's loops, by their places. -/
def loopN (P : Program) (f i : Nat) : Code := match (loopsF P f)[i]? with | some c => c | none => .skip
def OrcsOk (P : Program) (T : Tabs) (A : Anns) : List Code → Prop
  | [] => True
  | c :: l => OrcOk P T A c ∧ OrcsOk P T A l
theorem loopsAll {P : Program} {T : Tabs} {A : Anns} {f : Nat} {l : List Code} (h : loopsF P f = l) (h' : OrcsOk P T A l) : ∀ c ∈ loopsF P f, OrcOk P T A c := by
  rw [h]
  clear h
  induction l with
  | nil => intro c hc; cases hc
  | cons c l ih =>
    intro c' hc
    rcases List.mem_cons.1 hc with rfl | hc
    · exact h'.1
    · exact ih h'.2 c' hc

/-! ### functions -/

def ArgT : List Sh → Type
  | [] => Unit
  | [s] => s.T
  | s :: t :: l => s.T × ArgT (t :: l)
def encArgs : (l : List Sh) → ArgT l → List AV
  | [], _ => []
  | [s], x => [encA s x]
  | s :: t :: l, x => encA s x.1 :: encArgs (t :: l) x.2
def decArgs : (l : List Sh) → List AV → Option (ArgT l)
  | [], m => match m with | [] => some () | _ => none
  | [s], m => match m with | [a] => decA s a | _ => none
  | s :: t :: l, m => match m with
    | a :: m => match decA s a, decArgs (t :: l) m with
      | some x, some y => some (x, y)
      | _, _ => none
    | _ => none
theorem decArgs_ok : ∀ (l : List Sh) (m : List AV) (x : ArgT l), decArgs l m = some x → m = encArgs l x
  | [], m, x, h => by
    unfold decArgs at h
    split at h <;> try (cases h; done)
    rfl
  | [s], [a], x, h => by
    have h' : decA s a = some x := h
    rw [decA_ok h']; rfl
  | [s], [], x, h => by cases h
  | [s], _ :: _ :: _, x, h => by cases h
  | s :: t :: l, m, x, h => by
    unfold decArgs at h
    split at h <;> try (cases h; done)
    split at h <;> try (cases h; done)
    rename_i y z hy hz
    obtain rfl := Option.some.inj h
    rw [decA_ok hy, decArgs_ok (t :: l) _ _ hz]
    rfl
/-- Results: none, one, or a tuple of some. -/
def encRs : (l : List Sh) → ArgT l → AV
  | [s], x => encA s x
  | l, x => .tup (encArgs l x)
def resSh : List Sh → Sh
  | [] => .ptr
  | [s] => s
  | s :: t :: l => .pair s (resSh (t :: l))
/-- Results as one datum, for the trees of callees. -/
def toRes : (l : List Sh) → ArgT l → (resSh l).T
  | [], _ => ()
  | [_], x => x
  | _ :: t :: l, x => (x.1, toRes (t :: l) x.2)
def ofRes : (l : List Sh) → (resSh l).T → ArgT l
  | [], _ => ()
  | [_], x => x
  | _ :: t :: l, x => (x.1, ofRes (t :: l) x.2)
theorem ofRes_toRes : ∀ (l : List Sh) (x : ArgT l), ofRes l (toRes l x) = x
  | [], _ => rfl
  | [_], _ => rfl
  | s :: t :: l, x => by
    show (x.1, ofRes (t :: l) (toRes (t :: l) x.2)) = x
    rw [ofRes_toRes (t :: l) x.2]; rfl

def resOf : (l : List Sh) → Option (ArgT l) → Option (resSh l).T
  | l, o => match o with | some x => some (toRes l x) | none => none
def genSpec (sa sr : List Sh) (F : ArgT sa → Option (resSh sr).T) : CSpec := ⟨fun args => match decArgs sa args with
  | some x => .opt (resSh sr) (F x) fun r => .ret (encRs sr (ofRes sr r))
  | none => .fail⟩

/-- A function that is evaluated to its tree. -/
theorem genSpec_ok {P : Program} {T : Tabs} {A : Anns} {g : Nat} {sa sr : List Sh} {F : ArgT sa → Option (resSh sr).T} {bd : ArgT sa → FT (resSh sr).T} (hf : Fit P T) (hsp : SpecsOk P T) (hm : P.follows .mixedOrders = true) (hfn : fnOk P g = true) (hO : ∀ c ∈ loopsF P g, OrcOk P T A c)
    (hF : ∀ x, F x = (bd x).fin)
    (h : ∀ x, evalF P T A g (encArgs sa x) = (bd x).run (fun r => some (encRs sr (ofRes sr r))) (fun e => nomatch e)) : CSpecOk P T.toCfg g (genSpec sa sr F) := by
  intro args res hr
  unfold genSpec at hr
  simp only at hr
  split at hr <;> try (cases hr; done)
  rename_i x hx
  rw [hF] at hr
  cases hb : (bd x).fin with
  | none => rw [hb] at hr; cases hr
  | some r =>
    rw [hb] at hr
    have hr' : encRs sr (ofRes sr r) = res := Option.some.inj hr
    subst hr'
    rw [decArgs_ok _ _ _ hx]
    refine evalF_ok hf hsp hm hfn hO ?_
    rw [h]
    exact LT.run_ok (res := none) (bd x) r (fun s => nomatch s) hb
end Go.Pev
namespace Go.Pev
/-- A contract by hand, in the form that trees use. -/
theorem handSpec {P : Program} {C : Cfg} {g : Nat} {sa sr : List Sh} {F : ArgT sa → Option (resSh sr).T} (h : ∀ x r, F x = some r → Contract P C g (encArgs sa x) (encRs sr (ofRes sr r))) : CSpecOk P C g (genSpec sa sr F) := by
  intro args res hr
  unfold genSpec at hr
  simp only at hr
  split at hr <;> try (cases hr; done)
  rename_i x hx
  cases hb : F x with
  | none => rw [hb] at hr; cases hr
  | some r =>
    rw [hb] at hr
    have hr' : encRs sr (ofRes sr r) = res := Option.some.inj hr
    subst hr'
    rw [decArgs_ok _ _ _ hx]
    exact h x r hb
theorem oldSpec {P : Program} {C : Cfg} {g : Nat} {sp : CSpec} {sa sr : List Sh} {F : ArgT sa → Option (resSh sr).T} (h : CSpecOk P C g sp) (hF : ∀ x r, F x = some r → (sp.f (encArgs sa x)).get = some (encRs sr (ofRes sr r))) : CSpecOk P C g (genSpec sa sr F) :=
  handSpec fun x r hr => h _ _ (hF x r hr)
end Go.Pev
namespace Go.Pev
/-- A value that no kernel opens. -/
noncomputable def sealed {α : Type} (x : α) : α := Classical.choose (⟨x, rfl⟩ : ∃ y, y = x)
theorem sealed_eq {α : Type} (x : α) : sealed x = x := Classical.choose_spec (⟨x, rfl⟩ : ∃ y, y = x)
end Go.Pev
namespace Go.Pev
def decRs : (l : List Sh) → AV → Option (ArgT l)
  | [s], a => decA s a
  | [], a => match a with | .tup m => decArgs [] m | _ => none
  | s :: t :: l, a => match a with | .tup m => decArgs (s :: t :: l) m | _ => none
theorem decRs_ok : ∀ (l : List Sh) (a : AV) (x : ArgT l), decRs l a = some x → a = encRs l x
  | [s], a, x, h => decA_ok h
  | [], .tup m, x, h => by rw [decArgs_ok _ _ _ (show decArgs [] m = some x from h)]; rfl
  | s :: t :: l, .tup m, x, h => by rw [decArgs_ok _ _ _ (show decArgs (s :: t :: l) m = some x from h)]; rfl
/-- A callee's answer by its elder spec, as data. -/
def ofSpec (sa sr : List Sh) (sp : CSpec) (x : ArgT sa) : Option (resSh sr).T := match (sp.f (encArgs sa x)).get with
  | some r => (match decRs sr r with | some y => some (toRes sr y) | none => none)
  | none => none
noncomputable def sealSpec (sa sr : List Sh) (sp : CSpec) (x : ArgT sa) : Option (resSh sr).T := sealed (ofSpec sa sr sp x)
theorem sealSpec_eq {sa sr : List Sh} {sp : CSpec} {x : ArgT sa} : sealSpec sa sr sp x = ofSpec sa sr sp x := sealed_eq _
theorem sealSpec_ok {P : Program} {C : Cfg} {g : Nat} {sp : CSpec} {sa sr : List Sh} (h : CSpecOk P C g sp) : CSpecOk P C g (genSpec sa sr (sealSpec sa sr sp)) :=
  oldSpec h fun x r hr => by
    rw [sealSpec_eq] at hr
    unfold ofSpec at hr
    split at hr <;> try (cases hr; done)
    rename_i a ha
    split at hr <;> try (cases hr; done)
    rename_i y hy
    obtain rfl := Option.some.inj hr
    rw [ha, decRs_ok _ _ _ hy, ofRes_toRes]
end Go.Pev
/- The pure evaluator, part X: plain laws of trees; arguments of any shape. Own text, over any program. -/
namespace Go.Pev

section
variable {S Q α β : Type}
theorem LT.run_ret {ρ : Type} (q : Q) (f : Q → Option ρ) (g : S → Option ρ) : (LT.ret q : LT S Q).run f g = f q := rfl
theorem LT.run_next {ρ : Type} (s : S) (f : Q → Option ρ) (g : S → Option ρ) : (LT.next s : LT S Q).run f g = g s := rfl
theorem LT.run_fail {ρ : Type} (f : Q → Option ρ) (g : S → Option ρ) : (LT.fail : LT S Q).run f g = none := rfl
theorem LT.run_br {ρ : Type} (b : Bool) (x y : LT S Q) (f : Q → Option ρ) (g : S → Option ρ) : (LT.br b x y).run f g = if b = true then x.run f g else y.run f g := by cases b <;> rfl
theorem LT.run_some {ρ : Type} (a : α) (k : α → LT S Q) (f : Q → Option ρ) (g : S → Option ρ) : (LT.opt (some a) k).run f g = (k a).run f g := rfl
theorem LT.run_opt {ρ : Type} (o : Option α) (k : α → LT S Q) (f : Q → Option ρ) (g : S → Option ρ) : (LT.opt o k).run f g = o.bind fun a => (k a).run f g := by cases o <;> rfl
theorem LT.run_inl {ρ : Type} (a : α) (k : α → LT S Q) (l : β → LT S Q) (f : Q → Option ρ) (g : S → Option ρ) : (LT.alt (.inl a) k l).run f g = (k a).run f g := rfl
theorem LT.run_inr {ρ : Type} (a : β) (k : α → LT S Q) (l : β → LT S Q) (f : Q → Option ρ) (g : S → Option ρ) : (LT.alt (.inr a) k l).run f g = (l a).run f g := rfl
theorem LT.fin_ret (q : Q) : (LT.ret q : FT Q).fin = some q := rfl
theorem LT.fin_fail : (LT.fail : FT Q).fin = none := rfl
theorem LT.fin_br (b : Bool) (x y : FT Q) : (LT.br b x y).fin = if b = true then x.fin else y.fin := by cases b <;> rfl
theorem LT.fin_some (a : α) (k : α → FT Q) : (LT.opt (some a) k : FT Q).fin = (k a).fin := rfl
theorem LT.fin_opt (o : Option α) (k : α → FT Q) : (LT.opt o k : FT Q).fin = o.bind fun a => (k a).fin := by cases o <;> rfl
theorem LT.fin_inl (a : α) (k : α → FT Q) (l : β → FT Q) : (LT.alt (.inl a) k l : FT Q).fin = (k a).fin := rfl
theorem LT.fin_inr (a : β) (k : α → FT Q) (l : β → FT Q) : (LT.alt (.inr a) k l : FT Q).fin = (l a).fin := rfl
theorem LT.loop_succ (bd : S → LT S Q) (n : Nat) (s : S) : LT.loop bd (n + 1) s = (bd s).run some (LT.loop bd n) := rfl
theorem LT.loop_pos (bd : S → LT S Q) {n : Nat} (h : 0 < n) (s : S) : LT.loop bd n s = (bd s).run some (LT.loop bd (n - 1)) := by
  obtain ⟨m, rfl⟩ : ∃ m, n = m + 1 := ⟨n - 1, by omega⟩
  rfl
end

theorem fuel_is : FUEL = 1000000000000 := rfl
theorem i64_wrap (n : Int) (h1 : -9223372036854775808 ≤ n) (h2 : n ≤ 9223372036854775807) : IntKind.i64.wrap n = n := by rw [IntKind.wrap_i64]; omega
theorem appLim_ok {b n m : Nat} (h : (n + m) * b ≤ 140737488355328) : appLim b n m = true := decide_eq_true h
theorem getI_nat {α : Type} (l : List α) (i : Nat) (d : α) : getI l (Int.ofNat i) d = l.getD i d := rfl
theorem getI_cast {α : Type} (l : List α) (i : Nat) (d : α) : getI l (i : Int) d = l.getD i d := rfl
theorem getI_lt {α : Type} {l : List α} {i : Nat} {d : α} (h : i < l.length) : getI l (i : Int) d = l[i] := by
  show l.getD i d = _
  rw [List.getD_eq_getElem?_getD, List.getElem?_eq_getElem h]; rfl
theorem bytes_ext {a b : ByteArray} (h : a.data.toList = b.data.toList) : a = b := by
  rcases a with ⟨⟨l⟩⟩; rcases b with ⟨⟨m⟩⟩
  simp only at h
  rw [h]
theorem bytes_beq (a b : ByteArray) : (a.toList == b.toList) = decide (a = b) := by
  rw [ByteArray.toList_eq a, ByteArray.toList_eq b]
  by_cases h : a = b
  · subst h; simp
  · rw [decide_eq_false h, beq_eq_false_iff_ne]
    exact fun e => h (bytes_ext e)

/-- A struct's shape is a pair. -/
def stOk (P : Program) (t : TypeId) (s : Sh) : Bool := match P.underlying t with
  | some (.struct _) => (match s with | .pair _ _ => true | _ => false)
  | _ => true
open Go.ChangeShapes Go.WideShapes Go.RowKit in
/-- An argument of any shape. -/
theorem open_sh {H : Type} {enc : TypeId × Value → H} {P : Program} {W : World} {base : Nat} {t : TypeId} {s : Sh} {v : Value} {d : DataW H} {ps : List MemPlace} {C : Cfg} (hc : argShp P 8 t s = true) (hst : stOk P t s = true)
    (hv : Value.okWide P W .any base t v) (h : DataW.Trod enc P W 0 (fun _ => true) true t v d ps) : ∃ x : s.T, SR C (fun _ => .nilIface) (fun _ => False) W (encA s x) v ∧ wfS s x := by
  obtain ⟨n, hn⟩ := h
  obtain ⟨y, hy, hw⟩ := trod_RR (C := C) 8 t s n v.cells.toList _ hc hn
  refine ⟨y, ?_, hw⟩
  have hl := leaves_rel (ρ := fun _ => .nilIface) s y _ hy
  simp only [argShp] at hc
  split at hc
  · rename_i k hu
    have hs : s = .int k := by simpa using hc
    subst hs
    obtain ⟨n, rfl⟩ := okWide_int hu hv
    simp only [RR, Value.cells] at hy
    simp at hy
    subst hy
    rfl
  · rename_i hu
    have hs : s = .bool := by simpa using hc
    subst hs
    obtain ⟨n, rfl⟩ := okWide_bool hu hv
    simp only [RR, Value.cells] at hy
    simp at hy
    subst hy
    rfl
  · rename_i hu
    have hs : s = .str := by simpa using hc
    subst hs
    obtain ⟨n, rfl⟩ := okWide_string hu hv
    simp only [RR, Value.cells] at hy
    simp at hy
    subst hy
    rfl
  · rename_i e hu
    split at hc <;> try (cases hc; done)
    rename_i s'
    obtain ⟨a, len, cap, rfl⟩ := okWide_slice hu hv
    simp only [Value.cells] at hl
    cases hl with | cons h1 h2 => exact h1
  · rename_i fs hu
    obtain ⟨cs, rfl, _⟩ := okWide_struct hu hv
    unfold stOk at hst
    rw [hu] at hst
    cases s <;> try (cases hst; done)
    exact ⟨cs.toList, rfl, hl⟩
  · cases hc
/-! ### function values handed over behind the data -/
def fnsEq : List AV → List Nat → Bool
  | [], [] => true
  | a :: l, f :: r => match a with | .fn i => (match Nat.beq i f with | true => fnsEq l r | false => false) | _ => false
  | _, _ => false
theorem fnsEq_ok : ∀ (l : List AV) (r : List Nat), fnsEq l r = true → l = r.map .fn
  | [], [], _ => rfl
  | a :: l, f :: r, h => by
    unfold fnsEq at h
    split at h <;> try (cases h; done)
    split at h <;> try (cases h; done)
    rename_i hb
    rw [fnsEq_ok l r h, Nat.eq_of_beq_eq_true hb]; rfl
  | [], _ :: _, h => by cases h
  | _ :: _, [], h => by cases h
def genSpecX (sa sr : List Sh) (ex : List Nat) (F : ArgT sa → Option (resSh sr).T) : CSpec := ⟨fun args => match fnsEq (args.drop sa.length) ex with
  | true => (match decArgs sa (args.take sa.length) with
    | some x => .opt (resSh sr) (F x) fun r => .ret (encRs sr (ofRes sr r))
    | none => .fail)
  | false => .fail⟩
theorem genSpecX_ok {P : Program} {T : Tabs} {A : Anns} {g : Nat} {sa sr : List Sh} {ex : List Nat} {F : ArgT sa → Option (resSh sr).T} {bd : ArgT sa → FT (resSh sr).T} (hf : Fit P T) (hsp : SpecsOk P T) (hm : P.follows .mixedOrders = true) (hfn : fnOk P g = true) (hO : ∀ c ∈ loopsF P g, OrcOk P T A c)
    (hF : ∀ x, F x = (bd x).fin)
    (h : ∀ x, evalF P T A g (encArgs sa x ++ ex.map .fn) = (bd x).run (fun r => some (encRs sr (ofRes sr r))) (fun e => nomatch e)) : CSpecOk P T.toCfg g (genSpecX sa sr ex F) := by
  intro args res hr
  unfold genSpecX at hr
  simp only at hr
  split at hr <;> try (cases hr; done)
  rename_i he
  split at hr <;> try (cases hr; done)
  rename_i x hx
  rw [hF] at hr
  cases hb : (bd x).fin with
  | none => rw [hb] at hr; cases hr
  | some r =>
    rw [hb] at hr
    have hr' : encRs sr (ofRes sr r) = res := Option.some.inj hr
    subst hr'
    have ha : args = encArgs sa x ++ ex.map .fn := by
      rw [← decArgs_ok _ _ _ hx, ← fnsEq_ok _ _ he, List.take_append_drop]
    rw [ha]
    refine evalF_ok hf hsp hm hfn hO ?_
    rw [h]
    exact LT.run_ok (res := none) (bd x) r (fun s => nomatch s) hb
end Go.Pev
