/- The pure evaluator, part O: the operations, one by one (5): slices built, stores, append, calls. Own text, over any program. -/
import Derived.Test.YtciajnknnoecaaaDoorPevN
import Derived.Maps.AppendAt
namespace Go.Pev

section
variable {P : Program} {T : Tabs} {C : Cfg} {M0 : Nat → Prop} {w0 : World} {sl : Nat → Option AV} {rs : Nat → Option RS} {ρ : Nat → Value} {F : Nat → Nat → Prop} {a : Act} {w : World} {o : Oper} {out : Out} {s r s1 r1 : List Nat}

theorem updR_cons (ws : Ws) (p : Nat × Option RS) : updR (updR rs ws) [p] = updR rs (p :: ws) := by
  funext id
  obtain ⟨k, v⟩ := p
  simp only [updR, get]
  split <;> rename_i h
  · split at h
    · rename_i hb; rw [hb] at *; simp_all
    · simp at h
  · split at h
    · simp at h
    · simp

theorem ownsRow_one {e : TypeId} {sz n : Nat} {v : Value} {xs : List Value} (h : w.ownsRow 0 e sz v n xs) : v.oneCell' = true := by
  rcases h.2 with ⟨rfl, _⟩ | ⟨g, cap, cur, rfl, _⟩ <;> rfl

def oldWs : Option Nat → Ws
  | some id => [(id, none)]
  | none => []

/-- A row of one's own takes a new number: made, or made from an old one. -/
theorem Rel.row (h : Rel C M0 w0 sl rs ρ F a w) {d : Nat} (hf : Fresh sl rs d) (old : Option Nat) (hold : ∀ id, old = some id → (rs id).isSome = true) (hne : old ≠ some d)
    {w' : World} {v' : Value} {G : Nat → Prop} (hk : KeepS G w w') (hG : ∀ k, G k → ∃ id, old = some id ∧ F id k)
    {e : TypeId} {s : Sh} {l : List s.T} {css : List (List Value)} (hown : w'.ownsRow 0 e s.sz v' l.length css.flatten) (hcss : All2 (RR C (Mof M0 rs F) w s) l css)
    (hblk : ∀ k, v'.ownBlock = some k → (∃ id, old = some id ∧ F id k) ∨ (w.heap.size ≤ k ∧ k < w'.heap.size)) :
    ∃ ρ' F', Rel C M0 w0 sl (updR rs ((d, some (.row e s l)) :: oldWs old)) ρ' F' a w' ∧ ρ' d = v' ∧ ∀ i, i ≠ d → ρ' i = ρ i := by
  have holdM : ∀ id k, old = some id → F id k → Mof M0 rs F k ∧ w0.heap.size ≤ k ∧ k < w.heap.size := by
    intro id k ho hF
    obtain ⟨st, hst⟩ := Option.isSome_iff_exists.1 (hold id ho)
    exact ⟨.inr ⟨id, st, hst, hF⟩, (h.rng id st k hst hF).1, (h.rng id st k hst hF).2⟩
  have hkM : KeepS (Mof M0 rs F) w w' := hk.mono fun i _ g => by
    obtain ⟨id, ho, hF⟩ := hG i g
    exact (holdM id i ho hF).1
  have hsz := h.keep.size
  refine ⟨fun i => if i = d then v' else ρ i, fun i => if i = d then (fun k => v'.ownBlock = some k) else F i, ?_, by simp, fun i hi => by simp [hi]⟩
  have hget : ∀ id, id ≠ d → old ≠ some id → updR rs ((d, some (.row e s l)) :: oldWs old) id = rs id := by
    intro id hid ho
    have h1 : Nat.beq d id = false := by
      cases hb : Nat.beq d id with
      | false => rfl
      | true => exact absurd (Nat.eq_of_beq_eq_true hb).symm hid
    simp only [updR, get, h1]
    cases old with
    | none => simp [oldWs, get]
    | some i =>
      have h2 : Nat.beq i id = false := by
        cases hb : Nat.beq i id with
        | false => rfl
        | true => exact absurd (by rw [Nat.eq_of_beq_eq_true hb]) ho
      simp [oldWs, get, h2]
  have hgd : updR rs ((d, some (.row e s l)) :: oldWs old) d = some (.row e s l) := by simp [updR, get, Nat.beq_refl]
  have hgo : ∀ id, id ≠ d → old = some id → updR rs ((d, some (.row e s l)) :: oldWs old) id = none := by
    intro id hid ho
    subst ho
    have h1 : Nat.beq d id = false := by
      cases hb : Nat.beq d id with
      | false => rfl
      | true => exact absurd (Nat.eq_of_beq_eq_true hb).symm hid
    simp [updR, get, h1, oldWs, Nat.beq_refl]
  refine h.upd (fun id => id = d ∨ old = some id) hk (fun k g => ?_) (fun id hid => ⟨?_, ?_⟩) (fun t av id ht hm => ?_) (fun id st' hid hst' => ⟨?_, fun i hi => ?_⟩) (fun id st k hid hst hF g => ?_) (fun id st' hid hst' => ?_) (fun id => ?_)
  · obtain ⟨id, ho, hF⟩ := hG k g
    obtain ⟨m, b, _⟩ := holdM id k ho hF
    exact ⟨m, b⟩
  · exact hget id (fun e => hid (.inl e)) (fun e => hid (.inr e))
  · simp only [if_neg (fun e => hid (.inl e))]
  · by_cases e : id = d
    · subst e; rw [hf.slots t av ht] at hm; cases hm
    · simp only [if_neg e]
  · simp only [if_neg (fun e => hid (.inl e))]
  · by_cases e : i = d
    · subst e; rw [hf.res id st' hst'] at hi; cases hi
    · simp only [if_neg e]
  · obtain ⟨i, ho, hFi⟩ := hG k g
    obtain ⟨sti, hsti⟩ := Option.isSome_iff_exists.1 (hold i ho)
    have : i ≠ id := fun e => hid (.inr (e ▸ ho))
    exact h.disj i id sti st k hsti hst this hFi hF
  · rcases hid with rfl | ho
    · rw [hgd] at hst'
      obtain rfl := Option.some.inj hst'
      refine ⟨fun hs => ?_, fun k hk' => ?_⟩
      · simp only [if_true]
        exact ⟨css, by simpa using hown, fun k => by simp, hcss.imp fun x cs hx => RR.step hkM hs s x cs hx⟩
      · simp only [if_true] at hk'
        rcases hblk k hk' with ⟨i, ho, hFi⟩ | ⟨b1, b2⟩
        · obtain ⟨m, c1, c2⟩ := holdM i k ho hFi
          refine ⟨c1, Nat.lt_of_lt_of_le c2 hk.size, fun _ => m, fun j t hj ht => ?_⟩
          simp only [if_neg hj]
          obtain ⟨sti, hsti⟩ := Option.isSome_iff_exists.1 (hold i ho)
          by_cases hij : i = j
          · subst hij; rw [hgo i hj ho] at ht; cases ht
          · rw [hget j hj (fun e => hij (Option.some.inj (ho.symm.trans e)))] at ht
            exact h.disj i j sti t k hsti ht hij hFi
        · refine ⟨by omega, b2, fun hlt => absurd hlt (by omega), fun j t hj ht => ?_⟩
          simp only [if_neg hj]
          intro hF
          by_cases hjo : old = some j
          · rw [hgo j hj hjo] at ht; cases ht
          · rw [hget j hj hjo] at ht
            have := (h.rng j t k ht hF).2
            omega
    · by_cases e' : id = d
      · subst e'; exact absurd ho hne
      · rw [hgo id e' ho] at hst'; cases hst'
  · by_cases e : id = d
    · simp only [if_pos e]; exact ownsRow_one hown
    · simp only [if_neg e]; exact h.one id

theorem Fresh.freeze {d : Nat} (hf : Fresh sl rs d) {ws : Ws} (hz : FreezeWs rs ws) : Fresh sl (updR rs ws) d := by
  refine ⟨hf.slots, fun id st hst => ?_⟩
  simp only [updR] at hst
  cases hg : get ws id with
  | none => rw [hg] at hst; exact hf.res id st hst
  | some q =>
    rw [hg] at hst
    obtain ⟨e, s, l, _, rfl⟩ := hz id q hg
    obtain rfl := Option.some.inj hst
    rfl

theorem litEls_ok (h : Rel C M0 w0 sl rs ρ F a w) {e : TypeId} {st : Sh} : ∀ {n : Nat} {l : List (Nat × AV)} {xs : List st.T} {ws : Ws} {s r s1 r1 : List Nat} {vs : List (Nat × Value)}, ev sl rs (litEls P e st n l) s r = some ((xs, ws), s1, r1) →
    All2 (fun (x : Nat × AV) (y : Nat × Value) => x.1 = y.1 ∧ VR C ρ (Mof M0 rs F) w x.2 y.2) l vs →
    FreezeWs rs ws ∧ vs = (((vs.map (·.2)).zipIdx n).map fun x => (x.2, x.1)) ∧ xs.length = l.length ∧
      ∀ us, FreezeWs rs us → (∀ id q, get ws id = some q → (get us id).isSome) → All2 (RR C (Mof M0 (updR rs us) (fzF F us)) w st) xs (vs.map (·.2.cells.toList))
  | n, [], xs, ws, s, r, s1, r1, vs, he, hx => by
    simp only [litEls] at he
    have := ev_ret he
    simp only [Prod.mk.injEq] at this
    obtain ⟨⟨rfl, rfl⟩, _, _⟩ := this
    cases hx
    exact ⟨FreezeWs.nil, rfl, rfl, fun _ _ _ => .nil⟩
  | n, (i, x) :: l, xs, ws, s, r, s1, r1, vs, he, hx => by
    simp only [litEls] at he
    split at he <;> try (simp [ev] at he; done)
    rename_i hfit
    simp only [Bool.and_eq_true] at hfit
    obtain ⟨⟨y, w1⟩, s2, r2, h1, h2⟩ := ev_bind _ _ _ _ _ he
    obtain ⟨z, s3, r3, h3, h4⟩ := ev_bind _ _ _ _ _ h2
    obtain ⟨⟨zs, w2⟩, s4, r4, h5, h6⟩ := ev_bind _ _ _ _ _ h4
    have := ev_ret h6
    simp only [Prod.mk.injEq] at this
    obtain ⟨⟨rfl, rfl⟩, _, _⟩ := this
    obtain ⟨z', e1, e2⟩ := ev_ofO h3
    simp only [Prod.mk.injEq] at e2
    obtain ⟨rfl, _, _⟩ := e2
    cases hx with
    | cons hx hxs =>
      rename_i v vs
      obtain ⟨hi, hx⟩ := hx
      obtain ⟨cs, c1, c2, _⟩ := aggFit_vr h.one hfit.2 hx
      obtain ⟨z1, f1⟩ := dataLs_ok h h1 c2
      obtain ⟨z2, g1, g2, f2⟩ := litEls_ok h h5 hxs
      refine ⟨z1.append z2, ?_, by simp [g2], fun us hz hus => ?_⟩
      · have : i = n := Nat.eq_of_beq_eq_true hfit.1
        simp only [List.map_cons, List.zipIdx_cons]
        rw [← g1]
        obtain ⟨v1, v2⟩ := v
        simp only at hi
        rw [← hi, this]
      · have q1 := f1 us hz fun id q hq => hus id q (by rw [get_append, hq])
        have q2 := f2 us hz fun id q hq => by
          cases hw : get w1 id with
          | some q' => exact hus id q' (by rw [get_append, hw])
          | none => exact hus id q (by rw [get_append, hw, hq])
        simp only [List.map_cons]
        refine .cons ?_ q2
        rw [c1]
        exact ofLeaves_rep st _ _ _ e1 q1

theorem flatten_ext {css : List (List Value)} {n : Nat} (hn : 0 < n) (hc : ∀ c ∈ css, c.length = n) (k : Nat) : css.flatten[k]? = (css[k / n]?).bind fun c => c[k % n]? := by
  have hk : k = k / n * n + k % n := (Nat.div_add_mod' k n).symm
  have hm := Nat.mod_lt k hn
  cases hi : css[k / n]? with
  | none =>
    simp only [Option.bind_none]
    apply List.getElem?_eq_none
    have hl : css.length ≤ k / n := List.getElem?_eq_none_iff.1 hi
    have : css.flatten.length = css.length * n := by
      clear hi hl
      induction css with
      | nil => simp
      | cons c cs ih => simp [List.flatten_cons, hc c List.mem_cons_self, ih fun c h => hc c (List.mem_cons_of_mem _ h), Nat.add_mul]; omega
    rw [this]
    have := Nat.mul_le_mul_right n hl
    omega
  | some c =>
    have hcl := hc c (List.mem_of_getElem? hi)
    simp only [Option.bind_some]
    have hj : c[k % n]? = some c[k % n] := List.getElem?_eq_getElem (by omega)
    rw [hj]
    conv => lhs; rw [hk]
    exact flatten_get hi hc hj

theorem flatten_length {css : List (List Value)} {n : Nat} (hc : ∀ c ∈ css, c.length = n) : css.flatten.length = css.length * n := by
  induction css with
  | nil => simp
  | cons c cs ih => simp [List.flatten_cons, hc c List.mem_cons_self, ih fun c h => hc c (List.mem_cons_of_mem _ h), Nat.add_mul]; omega

theorem ok_buildSlice (hf : Fit P T) (h : Rel T.toCfg M0 w0 sl rs ρ F a w) (hd : ∀ d, o.dst = some d → d < a.tmps.size) {t : TypeId} {n : Nat} {ps : Array (Nat × Operand)} (hop : o.op = .buildSlice t n ps) (he : ev sl rs (step P T o) s r = some (out, s1, r1)) (hnew : NewOk sl rs o.dst out.ws) : Goal P T M0 w0 sl rs a w o out := by
  simp only [step, hop] at he
  split at he <;> try (simp [ev] at he; done)
  rename_i e hel
  split at he <;> try (simp [ev] at he; done)
  rename_i st hst
  split at he <;> try (simp [ev] at he; done)
  rename_i hn
  obtain ⟨l, s2, r2, h1, h2⟩ := ev_bind _ _ _ _ _ he
  split at h2 <;> try (simp [ev] at h2; done)
  rename_i hlen
  obtain ⟨⟨xs, ws⟩, s3, r3, h3, h4⟩ := ev_bind _ _ _ _ _ h2
  simp only at h4
  split at h4 <;> try (simp [ev] at h4; done)
  rename_i d hdst
  have := ev_ret h4
  simp only [Prod.mk.injEq] at this
  obtain ⟨rfl, _, _⟩ := this
  have hparts := partsOf_rel h h1
  obtain ⟨z1, g1, g2, f1⟩ := litEls_ok h h3 hparts
  have hcss := f1 ws z1 (fun id q hq => by simp [hq])
  generalize hvs : ps.toList.map (fun p => (p.1, a.eval p.2)) = vs at hparts g1 hcss
  obtain ⟨ti, z, hi, hsz, hz, hzc⟩ := (hf.tys.get hst).info
  have hpl := hparts.length
  have hvl : vs.length = n := by omega
  have hcl : ∀ c ∈ vs.map (·.2.cells.toList), c.length = st.sz := fun c hc => by
    obtain ⟨x, _, hx⟩ := hcss.mem_right c hc
    exact RR.len st x c hx
  have hszp := st.sz_pos
  have hnpos : 0 < n * st.sz := Nat.mul_pos hn.2 hszp
  have hn1 : n ≤ n * st.sz := Nat.le_mul_of_pos_right n hszp
  obtain ⟨r0, hr1, hr2, hr3⟩ := Great.fill_dense hszp (vs.map (·.2)) 0 ((Array.range (n * ti.size)).map (z.cells[· % z.cells.size]!)) (fun v hv => by
    obtain ⟨p, hp, rfl⟩ := List.mem_map.1 hv
    have := hcl p.2.cells.toList (List.mem_map.2 ⟨p, hp, rfl⟩)
    simpa using this) (by simp [hvl, hsz])
  have hflat : r0.toList = (vs.map (·.2.cells.toList)).flatten := by
    apply List.ext_getElem?
    intro k
    have := hr3 k
    simp only [Nat.zero_mul, Nat.zero_le, true_and, Nat.zero_add, List.length_map, hvl, Nat.sub_zero] at this
    rw [Array.getElem?_toList, this, flatten_ext hszp hcl k]
    have hsz0 : r0.size = n * st.sz := by rw [hr2]; simp [hsz]
    by_cases hk : k < n * st.sz
    · rw [if_pos hk]
      simp only [List.getElem?_map]
      cases vs[k / st.sz]? with
      | none => rfl
      | some p => simp
    · rw [if_neg hk]
      have h0 : (vs.map (·.2.cells.toList))[k / st.sz]? = none := by
        apply List.getElem?_eq_none
        simp only [List.length_map, hvl]
        exact (Nat.le_div_iff_mul_le hszp).2 (by omega)
      rw [h0]
      simp [hsz]
      omega
  have hparts2 : (ps.map fun (i, x) => (i, a.eval x)).toList = ((vs.map (·.2)).zipIdx 0).map fun x => (x.2, x.1) := by
    rw [← g1, ← hvs]; simp
  have hrun := run_buildSlice (P := P) w t e n (ps.map fun (i, x) => (i, a.eval x)) r0 ti z (elemOf_spec hel) hi hz (by rw [hsz]; omega) (by rw [hsz]; omega) (by rw [hparts2, hsz] at *; exact hr1)
  obtain ⟨hfr, hmw, _⟩ := hnew.ok d (.row e st xs) hdst (by simp [get, Nat.beq_refl])
  obtain ⟨ρ', F', hrel, hρ, _⟩ := (h.freeze z1).row (hfr.freeze z1) none (fun _ h => by cases h) (by simp) (e := e) (v' := .slice (some ⟨w.heap.size, 0, none⟩) n n) (KeepS.alloc w (.cells r0 e)) (fun _ g => g.elim) (l := xs) (css := vs.map (·.2.cells.toList)) ⟨by rw [flatten_length hcl]; simp [hvl, g2, hlen], .inr ⟨w.heap.size, n, r0, by rw [g2, hlen], Nat.zero_le _, heap_alloc_new w _, by omega, by simp only [maxLen]; omega, by rw [hr2]; simp [hsz], by
    rw [← hflat, g2, hlen]
    apply List.take_of_length_le
    simp [hr2, hsz]⟩⟩ hcss (fun k hk => by
    simp only [Value.ownBlock, Option.some.injEq] at hk
    subst hk
    exact .inr ⟨Nat.le_refl _, by simp⟩)
  · refine .inl ⟨.slice (some ⟨w.heap.size, 0, none⟩) n n, w.alloc (.cells r0 e), ?_, ρ', F', ?_⟩
    · simp only [execOp, hop, Sem.run_bind, hrun]
      rfl
    · rw [show updR (updR rs ws) ((d, some (.row e st xs)) :: oldWs none) = updR rs ((d, some (.row e st xs)) :: ws) from updR_cons ws _] at hrel
      refine hrel.put o.dst hd (.own d) _ ?_
      simp only [VR, SR, LR]
      exact hρ.symm

theorem KeepS.setRow (w : World) (g : Nat) (cs : Array Value) : KeepS (fun k => k = g) w (w.setRow g cs) :=
  ⟨rfl, rfl, rfl, by simp [World.setRow], fun k _ hk => setRow_other w g k _ hk⟩

theorem run_store {t : TypeId} {st : Sh} (ht : TyOk P t st) {b off : Nat} {cells : Array Value} {u : TypeId} (hg : w.heap[b]? = some (.cells cells u (0, 0))) {v : Value} {vs : List Value} (hv : v.cells = vs.toArray) (hl : vs.length = st.sz) (hfit : off + vs.length ≤ cells.size) (h1 : ∀ x ∈ vs, x.oneCell' = true) :
    (Instr.storeAt t (.pointer (some ⟨b, off, none⟩)) v).run P w = .ok () (w.setRow b (cells.toList.take off ++ vs ++ cells.toList.drop (off + vs.length)).toArray) := by
  obtain ⟨ti, z, hi, hsz, _⟩ := ht.info
  have := run_storeCells_at P b off u vs 0 cells w hg (by simpa using hfit) h1
  simp only [Nat.add_zero] at this
  simp [Instr.storeAt, Instr.sureAddr, storeVar, sizeOf, typeInfo, hi, hv, hl, hsz, this]

theorem LRs.one (h1 : ∀ id, (ρ id).oneCell' = true) {M : Nat → Prop} {l : List AV} {vs : List Value} (h : All2 (LR C ρ M w) l vs) (ho : ∀ x ∈ l, okLeaf x = true) : ∀ u ∈ vs, u.oneCell' = true := by
  intro u hu
  obtain ⟨x, hx, hr⟩ := h.mem_right u hu
  exact hr.one (ho x hx) fun id _ => h1 id

theorem splice_all {l v : List AV} {off : Nat} (hl : ∀ x ∈ l, okLeaf x = true) (hv : ∀ x ∈ v, okLeaf x = true) : ∀ x ∈ splice l off v, okLeaf x = true := by
  intro x hx
  unfold splice at hx
  simp only [List.mem_append] at hx
  rcases hx with (h | h) | h
  · exact hl x (List.mem_of_mem_take h)
  · exact hv x h
  · exact hl x (List.mem_of_mem_drop h)

theorem set_flatten {sz : Nat} (off : Nat) (vs : List Value) (hv : off + vs.length ≤ sz) : ∀ (css : List (List Value)) (i : Nat) (c : List Value), css[i]? = some c → (∀ c ∈ css, c.length = sz) →
    (css.set i (c.take off ++ vs ++ c.drop (off + vs.length))).flatten = css.flatten.take (i * sz + off) ++ vs ++ css.flatten.drop (i * sz + off + vs.length)
  | [], i, c, h, _ => by simp at h
  | c0 :: css, 0, c, h, hc => by
    obtain rfl : c0 = c := by simpa using h
    have hl := hc c0 List.mem_cons_self
    simp only [List.set_cons_zero, List.flatten_cons, Nat.zero_mul, Nat.zero_add]
    rw [List.take_append_of_le_length (by omega), List.drop_append_of_le_length (by omega)]
    simp
  | c0 :: css, i + 1, c, h, hc => by
    have hl := hc c0 List.mem_cons_self
    have ih := set_flatten off vs hv css i c (by simpa using h) (fun c h => hc c (List.mem_cons_of_mem _ h))
    simp only [List.set_cons_succ, List.flatten_cons]
    have e1 : (i + 1) * sz + off = c0.length + (i * sz + off) := by rw [hl, Nat.succ_mul]; omega
    rw [ih, e1, List.take_length_add_append, show c0.length + (i * sz + off) + vs.length = c0.length + (i * sz + off + vs.length) by omega, List.drop_length_add_append]
    simp

theorem All2.set {α β : Type} {r : α → β → Prop} : ∀ {l : List α} {m : List β}, All2 r l m → ∀ (i : Nat) {x : α} {y : β}, r x y → All2 r (l.set i x) (m.set i y)
  | _, _, .nil, _, _, _, _ => .nil
  | _, _, .cons _ t, 0, _, _, h => .cons h t
  | _, _, .cons h0 t, i + 1, _, _, h => .cons h0 (t.set i h)

theorem Rel.undef (h : Rel C M0 w0 sl rs ρ F a w) {dst : Option Nat} (hd : ∀ d, dst = some d → d < a.tmps.size) : Rel C M0 w0 (updS sl dst .undef) rs ρ F (a.put dst Go.undef) w := h.put dst hd .undef Go.undef rfl

/-- A store into a variable of one's own. -/
theorem Rel.box (h : Rel C M0 w0 sl rs ρ F a w) {id : Nat} {t : TypeId} {cs : List AV} (hid : rs id = some (.box t cs)) {b : Nat} (hb : ρ id = .pointer (some ⟨b, 0, none⟩)) {v : List AV} {vs : List Value} {off : Nat}
    (hv : All2 (LR C ρ (Mof M0 rs F) w) v vs) (hvo : ∀ x ∈ v, okLeaf x = true) (hfit : off + v.length ≤ cs.length) :
    ∃ cells : Array Value, w.heap[b]? = some (.cells cells t (0, 0)) ∧ off + vs.length ≤ cells.size ∧
      Rel C M0 w0 sl (updR rs [(id, some (.box t (splice cs off v)))]) ρ F a (w.setRow b (cells.toList.take off ++ vs ++ cells.toList.drop (off + vs.length)).toArray) := by
  obtain ⟨b', cells, e1, e2, e3, e4, e5⟩ := h.res id _ hid
  rw [hb] at e1
  obtain rfl : b = b' := by simpa using e1
  have hl1 := e4.length
  have hl2 := hv.length
  have hbF : F id b := (e2 b).2 rfl
  have hbM : Mof M0 rs F b := .inr ⟨id, _, hid, hbF⟩
  have hr := h.rng id _ b hid hbF
  refine ⟨cells, e3, by simp at hl1; omega, ?_⟩
  have hk := KeepS.setRow w b (cells.toList.take off ++ vs ++ cells.toList.drop (off + vs.length)).toArray
  have hkM : KeepS (Mof M0 rs F) w (w.setRow b (cells.toList.take off ++ vs ++ cells.toList.drop (off + vs.length)).toArray) := hk.mono fun i _ g => by subst g; exact hbM
  refine h.upd (fun i => i = id) hk (fun k g => by subst g; exact ⟨hbM, hr.1⟩) (fun i hi => ⟨by rw [updR_single, if_neg (Ne.symm hi)], rfl⟩) (fun _ _ _ _ _ => rfl) (fun _ _ _ _ => ⟨rfl, fun _ _ => rfl⟩)
    (fun i st k hi hst hF g => by subst g; exact h.disj id i _ st k hid hst (Ne.symm hi) hbF hF) (fun i st hi hst => ?_) h.one
  subst hi
  rw [updR_single, if_pos rfl] at hst
  obtain rfl := Option.some.inj hst
  refine ⟨fun hs => ⟨b, _, hb, e2, setRow_heap w b cells _ t _ e3, ?_, splice_all e5 hvo⟩, fun k hF => ?_⟩
  · dsimp only
    exact LRs.step (splice_rel e4 hv off) hkM hs fun _ _ => rfl
  · have := h.rng i _ k hid hF
    refine ⟨this.1, by rw [show (w.setRow b _).heap.size = w.heap.size by simp [World.setRow]]; exact this.2, fun _ => .inr ⟨i, _, hid, hF⟩, fun j t' hj ht => ?_⟩
    rw [updR_single, if_neg (Ne.symm hj)] at ht
    exact h.disj i j _ t' k hid ht (Ne.symm hj) hF

/-- A store into an element of a row of one's own. -/
theorem Rel.elt (h : Rel C M0 w0 sl rs ρ F a w) {id : Nat} {e : TypeId} {st : Sh} {l : List st.T} (hid : rs id = some (.row e st l)) {g n c : Nat} (hg : ρ id = .slice (some ⟨g, 0, none⟩) n c) {v : List AV} {vs : List Value} {off i : Nat} {y x : st.T}
    (hy : l[i]? = some y) (hv : All2 (LR C ρ (Mof M0 rs F) w) v vs) (_ : ∀ x ∈ v, okLeaf x = true) (hfit : off + v.length ≤ st.sz) (hx : ofLeaves st (splice (leaves st y) off v) = some x) :
    ∃ cells : Array Value, w.heap[g]? = some (.cells cells e (0, 0)) ∧ i * st.sz + off + vs.length ≤ cells.size ∧
      Rel C M0 w0 sl (updR rs [(id, some (.row e st (l.set i x)))]) ρ F a (w.setRow g (cells.toList.take (i * st.sz + off) ++ vs ++ cells.toList.drop (i * st.sz + off + vs.length)).toArray) := by
  obtain ⟨css, ⟨hlen, hown⟩, hF, hel⟩ := h.res id _ hid
  have hi : i < l.length := (List.getElem?_eq_some_iff.1 hy).1
  rcases hown with ⟨hv0, hn0⟩ | ⟨g', cap, cur, hv0, hbase, hgh, hnc, hcm, hcs, htake⟩
  · omega
  have hv1 := hg
  rw [hv0] at hg
  obtain ⟨rfl, rfl, rfl⟩ : g' = g ∧ l.length = n ∧ cap = c := by simpa using hg
  obtain ⟨ci, hci, hri⟩ := hel.get i y hy
  have hcl : ∀ c ∈ css, c.length = st.sz := fun c hc => by
    obtain ⟨x, _, hx⟩ := hel.mem_right c hc
    exact RR.len st x c hx
  have hl2 := hv.length
  have hi1 : (i + 1) * st.sz ≤ l.length * st.sz := Nat.mul_le_mul_right _ hi
  rw [Nat.succ_mul] at hi1
  have hc1 : l.length * st.sz ≤ cap * st.sz := Nat.mul_le_mul_right _ hnc
  have hbF : F id g' := (hF g').2 (by rw [hv0]; rfl)
  have hbM : Mof M0 rs F g' := .inr ⟨id, _, hid, hbF⟩
  have hr := h.rng id _ g' hid hbF
  have hpl : i * st.sz + off + vs.length ≤ l.length * st.sz := by omega
  refine ⟨cur, hgh, by omega, ?_⟩
  have hk := KeepS.setRow w g' (cur.toList.take (i * st.sz + off) ++ vs ++ cur.toList.drop (i * st.sz + off + vs.length)).toArray
  have hkM : KeepS (Mof M0 rs F) w (w.setRow g' (cur.toList.take (i * st.sz + off) ++ vs ++ cur.toList.drop (i * st.sz + off + vs.length)).toArray) := hk.mono fun i _ g => by subst g; exact hbM
  refine h.upd (fun i => i = id) hk (fun k g => by subst g; exact ⟨hbM, hr.1⟩) (fun i hi => ⟨by rw [updR_single, if_neg (Ne.symm hi)], rfl⟩) (fun _ _ _ _ _ => rfl) (fun _ _ _ _ => ⟨rfl, fun _ _ => rfl⟩)
    (fun i st k hi hst hF g => by subst g; exact h.disj id i _ st k hid hst (Ne.symm hi) hbF hF) (fun j stj hj hst => ?_) h.one
  subst hj
  rw [updR_single, if_pos rfl] at hst
  obtain rfl := Option.some.inj hst
  have hsf := set_flatten off vs (by omega : off + vs.length ≤ st.sz) css i ci hci hcl
  have hcur : cur.toList = css.flatten ++ cur.toList.drop (l.length * st.sz) := by rw [← htake, List.take_append_drop]
  refine ⟨fun hs => ⟨css.set i (ci.take off ++ vs ++ ci.drop (off + vs.length)), ⟨?_, .inr ⟨g', cap, _, by simpa using hv0, hbase, setRow_heap w g' cur _ e _ hgh, by simpa using hnc, hcm, ?_, ?_⟩⟩, hF, ?_⟩, fun k hF' => ?_⟩
  · rw [hsf]
    simp only [List.length_append, List.length_take, List.length_drop, hlen, List.length_set]
    omega
  · simp only [List.size_toArray, List.length_append, List.length_take, List.length_drop, Array.length_toList, hcs]
    omega
  · simp only [List.length_set]
    rw [hsf]
    generalize cur.toList.drop (l.length * st.sz) = rest at hcur
    rw [hcur, List.take_append_of_le_length (l₁ := css.flatten) (by omega), List.drop_append_of_le_length (l₁ := css.flatten) (by omega), ← List.append_assoc]
    apply List.take_left'
    simp only [List.length_append, List.length_take, List.length_drop, hlen]
    omega
  · refine (hel.imp fun x cs hx => RR.step hkM hs st x cs hx).set i ?_
    have hsp := splice_rel (leaves_rel (ρ := ρ) st y ci hri) hv off
    exact RR.step hkM hs st x _ (ofLeaves_rep st _ x _ hx hsp)
  · have := h.rng j _ k hid hF'
    refine ⟨this.1, by rw [show (w.setRow g' _).heap.size = w.heap.size by simp [World.setRow]]; exact this.2, fun _ => .inr ⟨j, _, hid, hF'⟩, fun j2 t' hj ht => ?_⟩
    rw [updR_single, if_neg (Ne.symm hj)] at ht
    exact h.disj j j2 _ t' k hid ht (Ne.symm hj) hF'

theorem dataLs_one {xs ys : List AV} {ws : Ws} {s r s1 r1 : List Nat} (he : ev sl rs (dataLs xs) s r = some ((ys, ws), s1, r1)) (hx : ∀ x ∈ xs, okLeaf x = true) : ys.length = xs.length ∧ ∀ y ∈ ys, okLeaf y = true := by
  induction xs generalizing ys ws s r s1 r1 with
  | nil =>
    simp only [dataLs] at he
    have := ev_ret he
    simp only [Prod.mk.injEq] at this
    obtain ⟨⟨rfl, rfl⟩, _, _⟩ := this
    exact ⟨rfl, fun _ h => by simp at h⟩
  | cons x xs ih =>
    simp only [dataLs] at he
    obtain ⟨⟨y, w1⟩, s2, r2, h1, h2⟩ := ev_bind _ _ _ _ _ he
    obtain ⟨⟨l, w2⟩, s3, r3, h3, h4⟩ := ev_bind _ _ _ _ _ h2
    have := ev_ret h4
    simp only [Prod.mk.injEq] at this
    obtain ⟨⟨rfl, rfl⟩, _, _⟩ := this
    obtain ⟨e1, e2⟩ := ih h3 fun x h => hx x (List.mem_cons_of_mem _ h)
    refine ⟨by simp [e1], fun z hz => ?_⟩
    rcases List.mem_cons.1 hz with rfl | hz
    · by_cases ho : ∃ id, x = .own id
      · obtain ⟨id, rfl⟩ := ho
        simp only [dataL] at h1
        obtain ⟨st, h5, h6⟩ := ev_res h1
        cases st <;> try (simp [ev] at h6; done)
        all_goals
          have := ev_ret h6
          simp only [Prod.mk.injEq] at this
          obtain ⟨⟨rfl, _⟩, _, _⟩ := this
          rfl
      · have hd : dataL x = .ret (x, []) := by cases x <;> first | rfl | exact absurd ⟨_, rfl⟩ ho
        rw [hd] at h1
        have := ev_ret h1
        simp only [Prod.mk.injEq] at this
        obtain ⟨⟨rfl, _⟩, _, _⟩ := this
        exact hx z List.mem_cons_self
    · exact e2 z hz

theorem ok_store (hf : Fit P T) (h : Rel T.toCfg M0 w0 sl rs ρ F a w) (hd : ∀ d, o.dst = some d → d < a.tmps.size) {t : TypeId} {x y : Operand} (hop : o.op = .store t x y) (he : ev sl rs (step P T o) s r = some (out, s1, r1)) : Goal P T M0 w0 sl rs a w o out := by
  simp only [step, hop] at he
  split at he <;> try (simp [ev] at he; done)
  rename_i st hst
  have hty := hf.tys.get hst
  obtain ⟨av, s2, r2, h1, h2⟩ := ev_bind _ _ _ _ _ he
  have hx := opd_rel h h1
  obtain ⟨yv, s3, r3, h3, h4⟩ := ev_bind _ _ _ _ _ h2
  have hy := opd_rel h h3
  have core : ∀ {l : List AV} {vs : List Value} {s4 r4 : List Nat}, (a.eval y).cells = vs.toArray → All2 (LR T.toCfg ρ (Mof M0 rs F) w) l vs → ev sl rs (step.storeAt st av l) s4 r4 = some (out, s1, r1) → Goal P T M0 w0 sl rs a w o out := by
    intro l vs s4 r4 hcv hl hev
    unfold step.storeAt at hev
    split at hev <;> try (simp [ev] at hev; done)
    rename_i hlen
    obtain ⟨hlen, hok⟩ := hlen
    have hok' := List.all_eq_true.1 hok
    have hll := hl.length
    split at hev <;> try (simp [ev] at hev; done)
    · rename_i id off
      obtain ⟨q, h5, h6⟩ := ev_res hev
      split at h6 <;> try (simp [ev] at h6; done)
      rename_i t' cs
      split at h6 <;> try (simp [ev] at h6; done)
      rename_i hfit
      have := ev_ret h6
      simp only [Prod.mk.injEq] at this
      obtain ⟨rfl, _, _⟩ := this
      simp only [VR, SR, LR] at hx
      obtain ⟨b, e6, e7⟩ := hx
      obtain ⟨cells, g1, g2, g3⟩ := h.box h5 e6 hl hok' hfit
      refine .inr (.inl ⟨_, ?_, ρ, F, g3.undef hd⟩)
      simp only [execOp, hop, e7, Sem.run_bind, run_store hty g1 hcv (by omega) g2 (LRs.one h.one hl hok')]
      rfl
    · rename_i id sz i off
      obtain ⟨q, h5, h6⟩ := ev_res hev
      split at h6 <;> try (simp [ev] at h6; done)
      rename_i e s0 l0
      obtain ⟨⟨v', ws⟩, s5, r5, h7, h8⟩ := ev_bind _ _ _ _ _ h6
      simp only at h8
      split at h8 <;> try (simp [ev] at h8; done)
      rename_i hfit
      split at h8 <;> try (simp [ev] at h8; done)
      rename_i x0 hx0 hnone
      obtain ⟨b1, h9⟩ := ev_br h8
      obtain ⟨b2, h10⟩ := ev_br h9
      simp only [decide_eq_true_eq] at b1 b2
      have := ev_ret h10
      simp only [Prod.mk.injEq] at this
      obtain ⟨rfl, _, _⟩ := this
      simp only [VR, SR, LR] at hx
      obtain ⟨g, n, c, e6, e7⟩ := hx
      obtain ⟨rfl, hfit⟩ := hfit
      obtain ⟨z1, f1⟩ := dataLs_ok h h7 hl
      have hl' := f1 ws z1 (fun id q hq => by simp [hq])
      obtain ⟨hlen', hok2⟩ := dataLs_one h7 hok'
      have hi : i.toNat < l0.length := by omega
      have hgi : getI l0 i s0.dflt = l0[i.toNat] := by simp [getI, hi]
      rw [hgi] at hx0
      obtain ⟨cells, g1, g2, g3⟩ := (h.freeze z1).elt (id := id) (e := e) (st := s0) (l := l0) (by simp [updR, hnone, h5]) e6 (i := i.toNat) (List.getElem?_eq_getElem hi) hl' hok2 hfit hx0
      rw [updR_cons] at g3
      refine .inr (.inl ⟨_, ?_, ρ, _, g3.undef hd⟩)
      simp only [execOp, hop, e7, Sem.run_bind, run_store hty g1 hcv (by omega) g2 (LRs.one h.one hl hok')]
      rfl
  split at h4 <;> try (simp [ev] at h4; done)
  · obtain ⟨cs, hv, hl⟩ := hy.ag
    exact core (by rw [hv]; rfl) hl h4
  · split at h4 <;> try (simp [ev] at h4; done)
    rename_i hok
    have hl := hy.toLR hok
    exact core (vs := [a.eval y]) (cells_one (hl.one hok fun id _ => h.one id)) (.cons hl .nil) h4

theorem RR.one {M : Nat → Prop} {s : Sh} {x : s.T} {cs : List Value} (h : RR C M w s x cs) : ∀ u ∈ cs, u.oneCell' = true :=
  LRs.one (ρ := fun _ => .nilIface) (fun _ => rfl) (leaves_rel s x cs h) (leaves_ok s x)

theorem run_append_none (t ty e : TypeId) (i : TypeInfo) (ht : P.underlying t = some (.slice e)) (hi : P.info? e = some i) {size : Nat} {v : Value} {n : Nat} {xs : List Value} (hown : w.ownsRow 0 e size v n xs) (c : Nat) :
    (Builtin.append_ #[t, t] ty #[v, .slice none 0 c]).run P w = .ok v w := by
  rcases hown.2 with ⟨rfl, rfl⟩ | ⟨g, cap, cur, rfl, _, _, hnc, _⟩
  · simp [Builtin.append_, run_underlying ht, sizeOf, typeInfo, hi, Builtin.lenOf, Builtin.firstCells]
  · simp [Builtin.append_, run_underlying ht, sizeOf, typeInfo, hi, Builtin.lenOf, Builtin.firstCells, loadCells, hnc, storeCells]

theorem zeroCells_len (s : Sh) : (zeroCells s).length = s.sz := by
  rw [← (zleaves_rel (C := ⟨0, 0, 0, []⟩) (ρ := fun _ => .nilIface) (M := fun _ => False) (w := default) s).length, zleaves_len]

theorem ok_append (hf : Fit P T) (h : Rel T.toCfg M0 w0 sl rs ρ F a w) (hd : ∀ d, o.dst = some d → d < a.tmps.size) {c : Call} (hop : o.op = .call c) (hc : c.callee = .builtin .append) (he : ev sl rs (step P T o) s r = some (out, s1, r1)) (hnew : NewOk sl rs o.dst out.ws) : Goal P T M0 w0 sl rs a w o out := by
  simp only [step, hop, hc] at he
  split at he <;> try (simp [ev] at he; done)
  rename_i x y t t' hca hct
  have ha : c.args = #[x, y] := by rw [← Array.toArray_toList (xs := c.args), hca]
  have ht : c.argTypes = #[t, t'] := by rw [← Array.toArray_toList (xs := c.argTypes), hct]
  split at he <;> try (simp [ev] at he; done)
  rename_i htt
  subst htt
  split at he <;> try (simp [ev] at he; done)
  rename_i e hel
  split at he <;> try (simp [ev] at he; done)
  rename_i hby
  split at he <;> try (simp [ev] at he; done)
  rename_i st hst
  obtain ⟨xv, s2, r2, h1, h2⟩ := ev_bind _ _ _ _ _ he
  have hx := opd_rel h h1
  obtain ⟨yv, s3, r3, h3, h4⟩ := ev_bind _ _ _ _ _ h2
  have hy := opd_rel h h3
  obtain ⟨ys, s4, r4, h5, h6⟩ := ev_bind _ _ _ _ _ h4
  obtain ⟨A, cy, cssy, hyv, hyr, hyn, hyc⟩ := appSrc_ok h hy h5
  obtain ⟨ti, z, hi, hsz, hz, hzc⟩ := (hf.tys.get hst).info
  have hbts : bytesOf' P e = ti.bytes := by simp [bytesOf', hi]
  have hcl : ∀ c ∈ cssy, c.length = st.sz := fun c hc => by
    obtain ⟨x, _, hx⟩ := hyr.mem_right c hc
    exact RR.len st x c hx
  have core : ∀ {xs : List st.T} {cssx : List (List Value)} {old : Option Nat} {d : Nat}, w.ownsRow 0 e st.sz (a.eval x) xs.length cssx.flatten → All2 (RR T.toCfg (Mof M0 rs F) w st) xs cssx → (∀ id, old = some id → (rs id).isSome = true) → old ≠ some d →
      (∀ k, (a.eval x).ownBlock = some k → ∃ id, old = some id ∧ F id k) → (xs.length + ys.length) * bytesOf' P e ≤ 140737488355328 → o.dst = some d → Fresh sl rs d → Goal P T M0 w0 sl rs a w o ⟨.own d, (d, some (.row e st (xs ++ ys))) :: oldWs old⟩ := by
    intro xs cssx old d hown hxr hold hne hblk hlim hdst hfr
    have hrun : ∃ v' w', (Builtin.append_ #[t', t'] o.type #[a.eval x, a.eval y]).run P w = .ok v' w' ∧ w'.ownsRow 0 e st.sz v' (xs.length + ys.length) (cssx.flatten ++ cssy.flatten) ∧ w.grownBy w' (a.eval x).ownBlock ∧
        (v'.ownBlock = (a.eval x).ownBlock ∨ v'.ownBlock = some w.heap.size) ∧ (v'.ownBlock = some w.heap.size → w.heap.size < w'.heap.size ∨ v'.ownBlock = (a.eval x).ownBlock) := by
      cases A with
      | none =>
        have hn := hyn rfl
        subst hn
        cases hyr
        refine ⟨a.eval x, w, ?_, by simpa using hown, ⟨rfl, rfl, rfl, Nat.le_refl _, fun _ _ _ => rfl⟩, .inl rfl, fun _ => .inr rfl⟩
        rw [hyv]
        exact run_append_none t' o.type e ti (elemOf_spec hel) hi hown cy
      | some ad =>
        have hb1 : xs.length + ys.length ≤ (xs.length + ys.length) * bytesOf' P e := Nat.le_mul_of_pos_right _ (Nat.pos_of_ne_zero hby)
        obtain ⟨v', w', q1, q2, q3, q4, q5⟩ := run_append_own_at (P := P) w 0 t' o.type e ti z st.sz ti.bytes (elemOf_spec hel) hi hz hsz rfl (by rw [hzc]; simp [zeroCells_len]) st.sz_pos (a.eval x) xs.length cssx.flatten hown
          ad ys.length cy cssy.flatten (by rw [flatten_length hcl, hyr.length]) (hyc ad rfl) (fun u hu => by
            obtain ⟨cs, hcs, huc⟩ := List.mem_flatten.1 hu
            obtain ⟨x, _, hx⟩ := hyr.mem_right cs hcs
            exact hx.one u huc) (by simp only [maxLen]; omega) (by rw [← hbts]; exact hlim) (Nat.zero_le _)
        refine ⟨v', w', by rw [hyv]; exact q1, q2, q3, q5, fun hb => ?_⟩
        left
        have := World.ownsRow.lt q2 _ hb
        exact this.2
    obtain ⟨v', w', q1, q2, q3, q4, q5⟩ := hrun
    obtain ⟨ρ', F', hrel, hρ, _⟩ := h.row hfr old hold hne (v' := v') (KeepS.of_grown q3) (fun k hk => hblk k hk.symm) (e := e) (s := st) (l := xs ++ ys) (css := cssx ++ cssy) (by rw [List.flatten_append, List.length_append]; exact q2) (hxr.append hyr) (fun k hk => by
      rcases q4 with q4 | q4
      · exact .inl (hblk k (q4 ▸ hk))
      · rcases q5 q4 with q5 | q5
        · rw [q4] at hk
          obtain rfl := Option.some.inj hk
          exact .inr ⟨Nat.le_refl _, q5⟩
        · exact .inl (hblk k (q5 ▸ hk)))
    refine .inl ⟨v', w', ?_, ρ', F', ?_⟩
    · simp only [execOp, hop, resolve, hc, ha, ht, invoke, builtin, Sem.run_bind, Sem.run_pure, Result.andThen_ok, List.map_toArray, List.map_cons, List.map_nil, q1]
    · refine hrel.put o.dst hd (.own d) _ ?_
      simp only [VR, SR, LR]
      exact hρ.symm
  split at h6 <;> try (simp [ev] at h6; done)
  · obtain ⟨b1, h7⟩ := ev_br h6
    split at h7 <;> try (simp [ev] at h7; done)
    rename_i d hdst
    have := ev_ret h7
    simp only [Prod.mk.injEq] at this
    obtain ⟨rfl, _, _⟩ := this
    simp only [VR, SR, LR] at hx
    obtain ⟨hfr, _, _⟩ := hnew.ok d (.row e st ys) hdst (by simp [get, Nat.beq_refl])
    refine core (xs := []) (cssx := []) (old := none) (d := d) ?_ .nil (fun _ h => by cases h) (by simp) (fun k hk => ?_) ?_ hdst hfr
    · rw [hx]; exact World.ownsRow_nil w 0 e st.sz
    · rw [hx] at hk; cases hk
    · simp only [appLim, decide_eq_true_eq] at b1; simpa using b1
  · rename_i id
    obtain ⟨q, h7, h8⟩ := ev_res h6
    split at h8 <;> try (simp [ev] at h8; done)
    rename_i e' s' l'
    split at h8 <;> try (simp [ev] at h8; done)
    rename_i hee
    subst hee
    split at h8 <;> try (simp [ev] at h8; done)
    rename_i xs hcast
    obtain ⟨ee, rfl⟩ := castL_some hcast
    subst ee
    obtain ⟨b1, h9⟩ := ev_br h8
    split at h9 <;> try (simp [ev] at h9; done)
    rename_i d hdst
    have := ev_ret h9
    simp only [Prod.mk.injEq] at this
    obtain ⟨rfl, _, _⟩ := this
    simp only [VR, SR, LR] at hx
    obtain ⟨hfr, _, _⟩ := hnew.ok d (.row e' s' (l' ++ ys)) hdst (by simp [get, Nat.beq_refl])
    obtain ⟨css, hown, hF, hel2⟩ := h.res id _ h7
    have hidd : some id ≠ some d := by
      intro e
      obtain rfl := Option.some.inj e
      cases x with
      | tmp t1 =>
        simp only [opd] at h1
        obtain ⟨a1, g1, g2⟩ := ev_slot h1
        have := ev_ret g2
        simp only [Prod.mk.injEq] at this
        obtain ⟨rfl, _, _⟩ := this
        have := hfr.slots t1 _ g1
        simp [AV.ment, AV.ment2, AV.ment1, Nat.beq_refl] at this
      | const v =>
        simp only [opd] at h1
        obtain ⟨a1, g1, g2⟩ := ev_ofO h1
        simp only [Prod.mk.injEq] at g2
        obtain ⟨rfl, _, _⟩ := g2
        unfold constAV at g1
        split at g1 <;> simp at g1
      | func f =>
        simp only [opd] at h1
        have := ev_ret h1
        simp at this
      | global g => simp [opd, ev] at h1
    refine core (xs := l') (cssx := css) (old := some id) (d := d) (hx ▸ hown) hel2 (fun i h' => by obtain rfl := Option.some.inj h'; simp [h7]) hidd (fun k hk => ⟨id, rfl, (hF k).2 (hx ▸ hk)⟩) ?_ hdst hfr
    simp only [appLim, decide_eq_true_eq] at b1; exact b1

theorem ment2_of {x : AV} {id : Nat} (h : x.ment id = false) : x.ment2 id = false := by cases x <;> first | exact h | rfl

/-- Entering this function's code. -/
def EnterOk (P : Program) (g : Nat) : Prop := ∀ args w, (callFunc g args).run P w = .ok (.enter g args) w

/-- errors.As, at a variable of the caller's own. -/
structure AsOk (P : Program) (T : Tabs) : Prop where
  enter : EnterOk P (T.asF - 1)
  calls : ∀ (M : Nat → Prop) (w : World) (e : Err) (v : Value) (t : TypeId) (b : Nat) (u : TypeId) (old : Value) (r : Option AV), Glob T.toCfg M w → M b → w.heap[b]? = some (.cells #[old] u (0, 0)) → Rob M w (fun w => ErrV T.toCfg w e v) → asSem T t e = some r →
    Calls P (T.asF - 1) #[v, .iface t (.pointer (some ⟨b, 0, none⟩))] w fun ev w' => match r with
      | none => ev = .returned (.bool false) ∧ KeepS (fun _ => False) w w'
      | some l => ev = .returned (.bool true) ∧ KeepS (fun k => k = b) w w' ∧ ∃ nv, w'.heap[b]? = some (.cells #[nv] u (0, 0)) ∧ LR T.toCfg (fun _ => .nilIface) M w' l nv

structure SpecsOk (P : Program) (T : Tabs) : Prop where
  specs : ∀ g sp, get T.specs g = some sp → EnterOk P g ∧ CSpecOk P T.toCfg g sp
  as : T.asF = 0 ∨ AsOk P T

theorem Rel.globM (h : Rel C M0 w0 sl rs ρ F a w) : Glob C (Mof M0 rs F) w := by
  intro p hp
  obtain ⟨h1, hlt, h2⟩ := h.glob p hp
  refine ⟨GV.step (h.keep.block p.1 hlt (fun f => f)) h1, Nat.lt_of_lt_of_le hlt h.keep.size, ?_⟩
  rintro (h0 | ⟨id, st, hst, hF⟩)
  · exact h2 h0
  · have := (h.rng id st p.1 hst hF).1; omega

theorem asSem_leaf {t : TypeId} {e : Err} {l : AV} (h : asSem T t e = some (some l)) : okLeaf l = true ∧ ∀ id, l.ment1 id = false := by
  unfold asSem at h
  split at h
  · split at h <;> simp at h
    subst h; exact ⟨rfl, fun _ => rfl⟩
  · split at h <;> try (simp at h; done)
    split at h <;> simp at h
    subst h; exact ⟨rfl, fun _ => rfl⟩

theorem exec_call {c : Call} (hop : o.op = .call c) {g : Nat} (hc : c.callee = .value (.func g)) (hent : EnterOk P g) : (execOp a.eval o).run P w = .ok (.enter g (c.args.toList.map a.eval).toArray) w := by
  have e1 : a.eval (.func g) = .func (.func g) #[] #[] := rfl
  have e2 : c.args.map a.eval = (c.args.toList.map a.eval).toArray := by apply Array.ext'; simp
  simp only [execOp, hop, resolve, hc, e1, Deferred.ofValue, invoke, Sem.run_bind, Sem.run_pure, Result.andThen_ok, e2]
  have := hent (c.args.toList.map a.eval).toArray w
  simpa using this

theorem ok_as (hsp : AsOk P T) (h : Rel T.toCfg M0 w0 sl rs ρ F a w) (hd : ∀ d, o.dst = some d → d < a.tmps.size) {c : Call} (hop : o.op = .call c) {x y : Operand} (hc : c.callee = .value (.func (T.asF - 1))) (hargs : c.args.toList = [x, y]) {e : Err} {t : TypeId} {id : Nat} {u : TypeId} {old : AV} {r : Option AV}
    (hx : VR T.toCfg ρ (Mof M0 rs F) w (.err e) (a.eval x)) (hy : VR T.toCfg ρ (Mof M0 rs F) w (.iref t id 0) (a.eval y)) (hid : rs id = some (.box u [old])) (hr : asSem T t e = some r)
    (hout : out = match r with | none => ⟨.bool false, []⟩ | some l => ⟨.bool true, [(id, some (.box u [l]))]⟩) : Goal P T M0 w0 sl rs a w o out := by
  simp only [VR, SR, LR] at hx hy
  obtain ⟨b, hb1, hb2⟩ := hy
  obtain ⟨b', cells, r1, r2, r3, r4, r5⟩ := h.res id _ hid
  rw [hb1] at r1
  obtain rfl : b = b' := by simpa using r1
  obtain ⟨c0, hc0⟩ : ∃ c0, cells = #[c0] := by
    have hl := r4
    generalize hcl : cells.toList = cl at hl
    cases hl with | cons a1 t1 => cases t1; exact ⟨_, by apply Array.ext'; rw [hcl]⟩
  subst hc0
  have hFb : F id b := (r2 b).2 rfl
  have hbM : Mof M0 rs F b := .inr ⟨id, _, hid, hFb⟩
  have hrng := h.rng id _ b hid hFb
  have hcall := hsp.calls (Mof M0 rs F) w e (a.eval x) t b u c0 r h.globM hbM r3 hx hr
  refine .inr (.inr ⟨T.asF - 1, (c.args.toList.map a.eval).toArray, w, exec_call hop hc hsp.enter, ?_⟩)
  have hargs2 : (c.args.toList.map a.eval).toArray = #[a.eval x, .iface t (.pointer (some ⟨b, 0, none⟩))] := by rw [hargs]; simp [hb2]
  rw [hargs2]
  refine hcall.mono fun ev w' hh => ?_
  cases r with
  | none =>
    obtain ⟨rfl, hk⟩ := hh
    subst hout
    refine ⟨_, rfl, ρ, F, ?_⟩
    rw [updR_nil]
    exact (h.world hk).put o.dst hd (.bool false) _ rfl
  | some l =>
    obtain ⟨rfl, hk, nv, hnv, hl⟩ := hh
    subst hout
    obtain ⟨ho, hm⟩ := asSem_leaf hr
    refine ⟨_, rfl, ρ, F, ?_⟩
    refine Rel.put ?_ o.dst hd (.bool true) _ rfl
    refine h.upd (fun i => i = id) hk (fun k g => by subst g; exact ⟨hbM, hrng.1⟩) (fun i hi => ⟨by rw [updR_single, if_neg (Ne.symm hi)], rfl⟩) (fun _ _ _ _ _ => rfl) (fun _ _ _ _ => ⟨rfl, fun _ _ => rfl⟩)
      (fun i st k hi hst hF g => by subst g; exact h.disj id i _ st k hid hst (Ne.symm hi) hFb hF) (fun i st hi hst => ?_) h.one
    subst hi
    rw [updR_single, if_pos rfl] at hst
    obtain rfl := Option.some.inj hst
    refine ⟨fun _ => ⟨b, _, hb1, r2, hnv, .cons (hl.step (KeepS.refl _ _) (fun k hk' _ => ?_) fun i hi => by rw [hm i] at hi; cases hi) .nil, by intro z hz; rw [List.mem_singleton.1 hz]; exact ho⟩, fun k hF => ?_⟩
    · rcases hk' with h0 | ⟨j, st, hj, hF⟩
      · exact .inl h0
      · by_cases hij : i = j
        · subst hij; exact .inr ⟨i, _, hid, hF⟩
        · rw [updR_single, if_neg hij] at hj; exact .inr ⟨j, st, hj, hF⟩
    · have := h.rng i _ k hid hF
      refine ⟨this.1, Nat.lt_of_lt_of_le this.2 hk.size, fun _ => .inr ⟨i, _, hid, hF⟩, fun j t' hj ht => ?_⟩
      rw [updR_single, if_neg (Ne.symm hj)] at ht
      exact h.disj i j _ t' k hid ht (Ne.symm hj) hF

theorem ev_ofTree {α : Type} {k : AV → Rd α} {z : α × List Nat × List Nat} : ∀ {t : Tree} {s r : List Nat}, ev sl rs (Rd.ofTree t k) s r = some z → ∃ res, t.get = some res ∧ ev sl rs (k res) s r = some z
  | .ret a, _, _, h => ⟨a, rfl, h⟩
  | .fail, _, _, h => by simp [Rd.ofTree, ev] at h
  | .br b x y, s, r, h => by
    simp only [Rd.ofTree, ev] at h
    cases b with
    | true => exact ev_ofTree (t := x) h
    | false => exact ev_ofTree (t := y) h

theorem ok_call (hsp : SpecsOk P T) (h : Rel T.toCfg M0 w0 sl rs ρ F a w) (hd : ∀ d, o.dst = some d → d < a.tmps.size) {c : Call} (hop : o.op = .call c) {g : Nat} (hc : c.callee = .value (.func g)) (he : ev sl rs (step P T o) s r = some (out, s1, r1)) : Goal P T M0 w0 sl rs a w o out := by
  simp only [step, hop, hc] at he
  split at he
  · rename_i hbeq
    have hgas := Nat.eq_of_beq_eq_true hbeq
    have hAs : AsOk P T := hsp.as.resolve_left (by omega)
    obtain rfl : g = T.asF - 1 := by omega
    split at he <;> try (simp [ev] at he; done)
    rename_i x y hargs
    obtain ⟨xv, s2, r2, h1, h2⟩ := ev_bind _ _ _ _ _ he
    have hx := opd_rel h h1
    split at h2 <;> try (simp [ev] at h2; done)
    rename_i e
    obtain ⟨yv, s3, r3, h3, h4⟩ := ev_bind _ _ _ _ _ h2
    have hy := opd_rel h h3
    split at h4 <;> try (simp [ev] at h4; done)
    rename_i t id
    obtain ⟨q, h5, h6⟩ := ev_res h4
    split at h6 <;> try (simp [ev] at h6; done)
    rename_i u old
    split at h6 <;> try (simp [ev] at h6; done)
    · rename_i has
      exact ok_as hAs h hd hop hc hargs hx hy h5 has (ret_out h6)
    · rename_i l has
      have := ev_ret h6
      simp only [Prod.mk.injEq] at this
      exact ok_as hAs h hd hop hc hargs hx hy h5 has this.1
  split at he <;> try (simp [ev] at he; done)
  rename_i fn hfn
  split at he <;> try (simp [ev] at he; done)
  rename_i sp hg
  obtain ⟨as, s2, r2, h1, h2⟩ := ev_bind _ _ _ _ _ he
  obtain ⟨⟨vs, ws⟩, s3, r3, h3, h4⟩ := ev_bind _ _ _ _ _ h2
  simp only at h4
  obtain ⟨res, hres, h4⟩ := ev_ofTree h4
  split at h4 <;> try (simp [ev] at h4; done)
  rename_i hpure
  have := ev_ret h4
  simp only [Prod.mk.injEq] at this
  obtain ⟨rfl, _, _⟩ := this
  obtain ⟨hent, hspec⟩ := hsp.specs g sp hg
  obtain ⟨z1, m1, f1⟩ := normArgs_ok h h3 (opds_rel h h1)
  have hargs := f1 ws z1 (fun id q hq => by simp [hq])
  have hfz := h.freeze z1
  have hMlt : ∀ k, Mof M0 (updR rs ws) (fzF F ws) k → k < w.heap.size := by
    rintro k (h0 | ⟨id, st, hst, hF⟩)
    · exact Nat.lt_of_lt_of_le (h.m0 k h0) h.keep.size
    · exact (hfz.rng id st k hst hF).2
  have hcall := hspec vs res hres (Mof M0 (updR rs ws) (fzF F ws)) w (c.args.toList.map a.eval) hMlt hfz.globM (hargs.imp_mem fun y v hy hv => hv.step (KeepS.refl _ _) (fun _ h _ => h) fun id hid => by rw [ment2_of (m1 y hy id)] at hid; cases hid)
  refine .inr (.inr ⟨g, (c.args.toList.map a.eval).toArray, w, ?_, hcall.mono fun e w' hh => ?_⟩)
  · exact exec_call hop hc hent
  · obtain ⟨v, rfl, hv, hk⟩ := hh
    refine ⟨v, rfl, ?_⟩
    by_cases hflat : res.flat = true
    · simp only [hflat]
      refine ⟨ρ, F, ?_⟩
      rw [updR_nil]
      exact (h.world hk).put o.dst hd res v (hv.flat hflat)
    · have hflat' : res.flat = false := by simpa using hflat
      simp only [hflat']
      refine ⟨ρ, fzF F ws, (hfz.world hk).put o.dst hd res v (hv.step (KeepS.refl _ _) (fun _ h _ => h) fun id hid => by rw [pure_ment hpure id] at hid; cases hid)⟩

end

end Go.Pev
