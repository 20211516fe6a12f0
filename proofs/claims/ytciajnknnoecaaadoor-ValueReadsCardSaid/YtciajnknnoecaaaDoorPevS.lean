/- The pure evaluator, part S: loops' heads, code, functions. Own text, over any program. -/
import Derived.Test.YtciajnknnoecaaaDoorPevR
namespace Go.Pev

section
variable {P : Program} {T : Tabs} {C : Cfg} {M0 : Nat → Prop} {w0 : World} {sl sl' : Nat → Option AV} {rs rs' : Nat → Option RS} {ρ : Nat → Value} {F : Nat → Nat → Prop} {a : Act} {w : World} {ops : Array Oper}

theorem keepL_get {α : Type} {l : List (Nat × α)} : ∀ {ts : List Nat} {t : Nat} {x : α}, get (keepL l ts) t = some x → get l t = some x
  | [], _, _, h => by simp [keepL, get] at h
  | k :: r, t, x, h => by
    simp only [keepL] at h
    split at h
    · rename_i y hy
      rw [get_cons] at h
      split at h
      · rename_i e; subst e; rw [hy, h]
      · exact keepL_get h
    · exact keepL_get h

theorem getR_keep {l : List (Nat × Option RS)} {ts : List Nat} {id : Nat} {st : RS} (h : getR (keepL l ts) id = some st) : getR l id = some st := by
  unfold getR at h ⊢
  split at h
  · rename_i r hg; rw [keepL_get hg]; exact h
  · cases h

theorem fresh_id {E : Env} {id : Nat} (h : freshId E id = true) : Fresh (get E.sl) (getR E.rs) id := by
  unfold freshId at h
  simp only [Bool.and_eq_true, Bool.not_eq_true'] at h
  exact fresh_of h

theorem asOwn_ok {E : Env} {id : Nat} {e : TypeId} {x : AV} {ws : Ws} {v : Value} (h : Rel T.toCfg M0 w0 (get E.sl) (getR E.rs) ρ F a w) (hx : LR T.toCfg ρ (Mof M0 (getR E.rs) F) w x v) (hm : ∀ i, x.ment1 i = true → i ≠ id) (he : asOwn T E x id e = some ws) :
    ∃ ρ' F', Rel T.toCfg M0 w0 (get E.sl) (updR (getR E.rs) ws) ρ' F' a w ∧ ρ' id = v ∧ (∀ i, i ≠ id → ρ' i = ρ i) ∧ ∀ b, (∃ t cs, getR E.rs b = some (.box t cs)) → b ≠ id → updR (getR E.rs) ws b = getR E.rs b := by
  unfold asOwn at he
  split at he <;> try (cases he; done)
  · rename_i y
    split at he <;> try (cases he; done)
    rename_i e' s l hr hf
    obtain rfl := Option.some.inj he
    have hyi : y ≠ id := hm y (by simp [AV.ment1, Nat.beq_refl])
    obtain ⟨css, hown, hF, hrr⟩ := h.res y _ hr
    simp only [LR] at hx
    obtain ⟨ρ', F', g1, g2, g3⟩ := h.row (fresh_id hf) (some y) (fun i hi => by obtain rfl := Option.some.inj hi; simp [hr]) (by simpa using hyi) (w' := w) (v' := ρ y) (KeepS.refl (fun _ => False) w) (fun _ g => g.elim) hown hrr (fun k hk => .inl ⟨y, rfl, (hF k).2 hk⟩)
    refine ⟨ρ', F', g1, by rw [g2, hx], g3, fun b hb hbi => ?_⟩
    obtain ⟨t, cs, hb⟩ := hb
    simp only [updR, get_cons]
    rw [if_neg (Ne.symm hbi), if_neg (fun e => by subst e; rw [hr] at hb; cases hb)]
    rfl
  · split at he <;> try (cases he; done)
    rename_i s hs hf
    obtain rfl := Option.some.inj he
    simp only [LR] at hx
    obtain ⟨ρ', F', g1, g2, g3⟩ := h.row (fresh_id hf) none (fun _ h => by cases h) (by simp) (w' := w) (v' := .slice none 0 0) (KeepS.refl (fun _ => False) w) (fun _ g => g.elim) (e := e) (s := s) (l := []) (css := []) (World.ownsRow_nil w 0 e s.sz) .nil (fun k hk => by cases hk)
    refine ⟨ρ', F', g1, by rw [g2, hx], g3, fun b _ hbi => ?_⟩
    simp only [updR, get_cons]
    rw [if_neg (Ne.symm hbi)]
    rfl

theorem getR_append (ws : Ws) (rs : List (Nat × Option RS)) : getR (ws ++ rs) = updR (getR rs) ws := by
  funext id
  simp only [getR, updR, get_append]
  cases get ws id with
  | none => rfl
  | some q => cases q <;> rfl

theorem get_cons_updS {l : List (Nat × AV)} {t : Nat} {x : AV} : get ((t, x) :: l) = updS (get l) (some t) x := by
  funext i
  simp only [get_cons, updS, Option.some.injEq]

theorem prep1_ok {E E' : Env} {an : An} (he : prep1 T E an = some E') (h : RelEnv T M0 w0 E a w) : RelEnv T M0 w0 E' a w := by
  obtain ⟨ρ, F, h⟩ := h
  cases an with
  | keep ss ks =>
    simp only [prep1, Option.some.injEq] at he
    subst he
    exact ⟨ρ, F, h.sub (fun t av ht => keepL_get ht) fun id st hst => getR_keep hst⟩
  | ownS t id e =>
    simp only [prep1] at he
    split at he <;> try (cases he; done)
    rename_i x hx
    split at he
    · obtain rfl := Option.some.inj he
      exact ⟨ρ, F, h⟩
    · rename_i hno
      split at he <;> try (cases he; done)
      rename_i ws hws
      obtain rfl := Option.some.inj he
      obtain ⟨v, e1, e2⟩ := h.slots t x hx
      have hxl : okLeaf x = true := by
        unfold asOwn at hws
        split at hws <;> first | rfl | (cases hws; done)
      have hm : ∀ i, x.ment1 i = true → i ≠ id := by
        intro i hi e'
        subst e'
        unfold asOwn at hws
        split at hws <;> try (cases hws; done)
        · rename_i y
          have := Nat.eq_of_beq_eq_true hi
          subst this
          simp [isOwn, Nat.beq_refl] at hno
        · simp [AV.ment1] at hi
      obtain ⟨ρ', F', g1, g2, _⟩ := asOwn_ok h (e2.toLR hxl) hm hws
      refine ⟨ρ', F', ?_⟩
      rw [getR_append]
      rw [get_cons_updS]
      refine g1.slot e1 ?_
      simp only [VR, SR, LR]
      exact g2.symm
  | ownB b off id e =>
    simp only [prep1] at he
    split at he <;> try (cases he; done)
    rename_i t cs hb
    split at he <;> try (cases he; done)
    rename_i x hx
    split at he
    · obtain rfl := Option.some.inj he
      exact ⟨ρ, F, h⟩
    · rename_i hno
      split at he <;> try (cases he; done)
      rename_i ws hws
      split at he <;> try (cases he; done)
      rename_i hoff
      obtain rfl := Option.some.inj he
      obtain ⟨blk, cells, r1, r2, r3, r4, r5⟩ := h.res b _ hb
      rw [List.head?_drop] at hx
      obtain ⟨v, hv, hxr⟩ := r4.get off x hx
      have hm : ∀ i, x.ment1 i = true → i ≠ id := by
        intro i hi e'
        subst e'
        unfold asOwn at hws
        split at hws <;> try (cases hws; done)
        · rename_i y
          have := Nat.eq_of_beq_eq_true hi
          subst this
          simp [isOwn, Nat.beq_refl] at hno
        · simp [AV.ment1] at hi
      obtain ⟨hoff, hbid⟩ := hoff
      obtain ⟨ρ', F', g1, g2, g3, g4⟩ := asOwn_ok h hxr hm hws
      have hb' := (g4 b ⟨t, cs, hb⟩ hbid).trans hb
      obtain ⟨blk', cells', q1, q2, q3, q4, q5⟩ := g1.res b _ hb'
      have hbb : blk' = blk := by
        rw [g3 b hbid, r1] at q1
        simpa using q1.symm
      subst hbb
      rw [r3] at q3
      obtain rfl : cells = cells' := by simpa using q3
      refine ⟨ρ', F', ?_⟩
      have hget : getR ((b, some (RS.box t (splice cs off [AV.own id]))) :: (ws ++ E.rs)) = updR (updR (getR E.rs) ws) [(b, some (.box t (splice cs off [AV.own id])))] := by
        rw [updR_cons]
        exact getR_append ((b, some (RS.box t (splice cs off [AV.own id]))) :: ws) E.rs
      simp only [List.cons_append]
      rw [hget]
      have hcell : cells.toList = cells.toList.take off ++ [v] ++ cells.toList.drop (off + 1) := by
        have hlt : off < cells.toList.length := by rw [← r4.length]; exact hoff
        have hv' : cells.toList[off] = v := by
          have := List.getElem?_eq_getElem hlt
          rw [hv] at this
          exact (Option.some.inj this).symm
        rw [← hv', List.append_assoc, List.singleton_append, ← List.drop_eq_getElem_cons hlt, List.take_append_drop]
      have hnew : All2 (LR T.toCfg ρ' (Mof M0 (updR (getR E.rs) ws) F') w) (splice cs off [AV.own id]) cells.toList := by
        have := splice_rel q4 (v := [.own id]) (vs := [v]) (.cons (by simp only [LR]; exact g2.symm) .nil) off
        simp only [List.length_singleton] at this
        rw [← hcell] at this
        exact this
      refine g1.upd (G := fun _ => False) (fun i => i = b) (KeepS.refl _ _) (fun _ g => g.elim) (fun i hi => ⟨by rw [updR_single, if_neg (Ne.symm hi)], rfl⟩) (fun _ _ _ _ _ => rfl) (fun _ _ _ _ => ⟨rfl, fun _ _ => rfl⟩) (fun _ _ _ _ _ _ g => g) (fun i st hi hst => ?_) g1.one
      subst hi
      rw [updR_single, if_pos rfl] at hst
      obtain rfl := Option.some.inj hst
      refine ⟨fun hs => ⟨blk', cells, q1, q2, r3, LRs.step hnew (KeepS.refl _ _) hs fun _ _ => rfl, splice_all q5 (by simp [okLeaf])⟩, fun k hF => ?_⟩
      have := g1.rng i _ k hb' hF
      refine ⟨this.1, this.2, fun _ => .inr ⟨i, _, hb', hF⟩, fun j t' hj ht => ?_⟩
      rw [updR_single, if_neg (Ne.symm hj)] at ht
      exact g1.disj i j _ t' k hb' ht (Ne.symm hj) hF

theorem prep_ok : ∀ {l : List An} {E E' : Env}, prep T l E = some E' → RelEnv T M0 w0 E a w → RelEnv T M0 w0 E' a w
  | [], E, E', he, h => by obtain rfl := Option.some.inj he; exact h
  | an :: l, E, E', he, h => by
    simp only [prep] at he
    split at he <;> try (cases he; done)
    rename_i E1 h1
    exact prep_ok he (prep1_ok h1 h)

/-! ### code -/

/-- Where the code leaves off, the rest of the evaluation holds. -/
abbrev Post (T : Tabs) (M0 : Nat → Prop) (w0 : World) (N : Nat) (k : Exit → Env → R) (res : AV) : Exit → Act → World → Prop :=
  fun x a w => ∃ E, k x E = some res ∧ RelEnv T M0 w0 E a w ∧ a.tmps.size = N

def Fine (P : Program) (T : Tabs) (A : Anns) (N : Nat) (c : Code) : Prop :=
  ∀ (M0 : Nat → Prop) (w0 : World) (E : Env) (k : Exit → Env → R) (res : AV) (a : Act) (w : World), evalC P T A c E k = some res → RelEnv T M0 w0 E a w → a.tmps.size = N → c.wp P (Post T M0 w0 N k res) a w

theorem cond_rel {E : Env} {x : Operand} {b : Bool} (h : RelEnv T M0 w0 E a w) (hc : condAV E x = some b) : a.eval x = .bool b := by
  obtain ⟨ρ, F, h⟩ := h
  unfold condAV at hc
  split at hc
  · split at hc <;> try (cases hc; done)
    rename_i t b' hb
    obtain rfl := Option.some.inj hc
    obtain ⟨v, e1, e2⟩ := h.slots _ _ hb
    simp only [VR, SR, LR] at e2
    subst e2
    simp [Act.eval, Array.getD_eq_getD_getElem?, e1]
  · obtain rfl := Option.some.inj hc; rfl
  · cases hc

theorem loop_rounds {A : Anns} {N : Nat} {c : Code} (ih : Fine P T A N c) {an : List An} {k : Exit → Env → R} {res : AV} : ∀ {n : Nat} {E : Env} {a : Act} {w : World}, loopE (prep T an) (evalC P T A c) n E k = some res → RelEnv T M0 w0 E a w → a.tmps.size = N → Code.rounds P c (Post T M0 w0 N k res) n a w
  | 0, E, a, w, h, _, _ => by simp [loopE] at h
  | n + 1, E, a, w, h, hr, hN => by
    simp only [loopE] at h
    rw [rounds_succ]
    refine wp_mono (ih M0 w0 E _ res a w h hr hN) fun x a' w' hq => ?_
    obtain ⟨E', h1, h2, h3⟩ := hq
    cases x with
    | normal =>
      simp only at h1
      split at h1 <;> try (cases h1; done)
      rename_i E2 hE2
      exact loop_rounds ih h1 (prep_ok hE2 h2) h3
    | _ => exact ⟨E', h1, h2, h3⟩

/-- The loops that are told in one step run so. -/
def OrcOk (P : Program) (T : Tabs) (A : Anns) (c : Code) : Prop := ∀ o, orcOf A c = some o → ∀ E k r, o E k = some r → ∃ n, loopE (prep T (annOf A c)) (evalC P T A c) n E (outK T A c k) = some r

theorem outK_ok {A : Anns} {N : Nat} {c : Code} {k : Exit → Env → R} {res : AV} {x : Exit} {a : Act} {w : World} (h : Post T M0 w0 N (outK T A c k) res x a w) : Post T M0 w0 N k res x a w := by
  obtain ⟨E, h1, h2, h3⟩ := h
  unfold outK at h1
  cases hA : annOut A c with
  | none => rw [hA] at h1; exact ⟨E, h1, h2, h3⟩
  | some l =>
    rw [hA] at h1
    simp only at h1
    split at h1 <;> try (cases h1; done)
    rename_i E' hE'
    exact ⟨E', h1, prep_ok hE' h2, h3⟩

theorem evalC_ok (hf : Fit P T) (hsp : SpecsOk P T) (hm : P.follows .mixedOrders = true) {A : Anns} {N : Nat} : ∀ c : Code, codeOk N c = true → (∀ c' ∈ loopsOf c, OrcOk P T A c') → Fine P T A N c
  | .skip, _, _ => fun M0 w0 E k res a w h hr hN => wp_skip ⟨E, h, hr, hN⟩
  | .region id ops draw, hok, _ => fun M0 w0 E k res a w h hr hN => region_ok hf hsp hm hok h hN hr
  | .seq x y, hok, ho => fun M0 w0 E k res a w h hr hN => by
    simp only [codeOk, Bool.and_eq_true] at hok
    simp only [evalC] at h
    refine wp_seq (wp_mono (evalC_ok hf hsp hm x hok.1 (fun c h => ho c (List.mem_append_left _ h)) M0 w0 E _ res a w h hr hN) fun e a' w' hq => ?_)
    obtain ⟨E', h1, h2, h3⟩ := hq
    cases e with
    | normal => exact evalC_ok hf hsp hm y hok.2 (fun c h => ho c (List.mem_append_right _ h)) M0 w0 E' k res a' w' h1 h2 h3
    | _ => exact ⟨E', h1, h2, h3⟩
  | .cond c x y, hok, ho => fun M0 w0 E k res a w h hr hN => by
    simp only [codeOk, Bool.and_eq_true] at hok
    simp only [evalC] at h
    split at h <;> try (cases h; done)
    rename_i b hb
    refine wp_cond (cond_rel hr hb) ?_
    cases b with
    | true => exact evalC_ok hf hsp hm x hok.1 (fun c h => ho c (List.mem_append_left _ h)) M0 w0 E k res a w h hr hN
    | false => exact evalC_ok hf hsp hm y hok.2 (fun c h => ho c (List.mem_append_right _ h)) M0 w0 E k res a w h hr hN
  | .block id c, hok, ho => fun M0 w0 E k res a w h hr hN => by
    simp only [evalC] at h
    refine wp_block (wp_mono (evalC_ok hf hsp hm c hok ho M0 w0 E _ res a w h hr hN) fun e a' w' hq => ?_)
    obtain ⟨E', h1, h2, h3⟩ := hq
    cases e with
    | exit i =>
      simp only [Exit.inBlock]
      simp only at h1
      split at h1
      · rename_i hb
        rw [if_pos (Nat.eq_of_beq_eq_true hb)]
        exact ⟨E', h1, h2, h3⟩
      · rename_i hb
        rw [if_neg (fun e => by subst e; rw [Nat.beq_refl] at hb; cases hb)]
        exact ⟨E', h1, h2, h3⟩
    | _ => exact ⟨E', h1, h2, h3⟩
  | .loop c, hok, ho => fun M0 w0 E k res a w h hr hN => by
    simp only [evalC] at h
    split at h <;> try (cases h; done)
    rename_i E' hE'
    have ih := evalC_ok hf hsp hm c hok (fun c' h => ho c' (List.mem_cons_of_mem _ h))
    split at h
    · rename_i o hoc
      obtain ⟨n, hn⟩ := ho c List.mem_cons_self o hoc _ _ _ h
      exact wp_mono (wp_loop_rounds n (loop_rounds ih hn (prep_ok hE' hr) hN)) fun _ _ _ => outK_ok
    · exact wp_mono (wp_loop_rounds A.N (loop_rounds ih h (prep_ok hE' hr) hN)) fun _ _ _ => outK_ok
  | .exit id, _, _ => fun M0 w0 E k res a w h hr hN => wp_exit ⟨E, h, hr, hN⟩
  | .ret, _, _ => fun M0 w0 E k res a w h hr hN => wp_ret ⟨E, h, hr, hN⟩
  | .rangeFunc .., _, _ => fun M0 w0 E k res a w h hr hN => by simp [evalC] at h
  | .scope _, _, _ => fun M0 w0 E k res a w h hr hN => by simp [evalC] at h
  | .label _, _, _ => fun M0 w0 E k res a w h hr hN => by simp [evalC] at h
  | .goto _, _, _ => fun M0 w0 E k res a w h hr hN => by simp [evalC] at h
  | .refuse _, _, _ => fun M0 w0 E k res a w h hr hN => by simp [evalC] at h

theorem codeOk_mono {N N' : Nat} (hN : N ≤ N') : ∀ c : Code, codeOk N c = true → codeOk N' c = true
  | .region _ ops _, h => by
    simp only [codeOk, opsOk, Bool.and_eq_true, List.all_eq_true] at h ⊢
    refine ⟨fun o ho => ?_, h.2⟩
    have := h.1 o ho
    cases hd : o.dst with
    | none => rfl
    | some d =>
      rw [hd] at this
      simp only [Nat.blt_eq] at this ⊢
      omega
  | .seq a b, h => by
    simp only [codeOk, Bool.and_eq_true] at h ⊢
    exact ⟨codeOk_mono hN a h.1, codeOk_mono hN b h.2⟩
  | .cond _ a b, h => by
    simp only [codeOk, Bool.and_eq_true] at h ⊢
    exact ⟨codeOk_mono hN a h.1, codeOk_mono hN b h.2⟩
  | .block _ c, h => by simp only [codeOk] at h ⊢; exact codeOk_mono hN c h
  | .loop c, h => by simp only [codeOk] at h ⊢; exact codeOk_mono hN c h
  | .skip, _ => rfl
  | .exit _, _ => rfl
  | .ret, _ => rfl
  | .rangeFunc .., _ => rfl
  | .scope _, _ => rfl
  | .label _, _ => rfl
  | .goto _, _ => rfl
  | .refuse _, _ => rfl

/-! ### a function's end -/

theorem mof0 : ∀ k, M0 k → k < w.heap.size → Mof M0 rs F k := fun _ h _ => .inl h

theorem dataV_ok {E : Env} (h : Rel C M0 w0 (get E.sl) (getR E.rs) ρ F a w) {x y : AV} {v : Value} (he : dataV E x = some y) (hx : LR C ρ (Mof M0 (getR E.rs) F) w x v) : LR C ρ M0 w y v := by
  unfold dataV at he
  split at he
  · rename_i id
    simp only [LR] at hx
    subst hx
    split at he <;> try (cases he; done)
    · rename_i e s l hr
      obtain rfl := Option.some.inj he
      have hz : FreezeWs (getR E.rs) [(id, some (.fro s l))] := fun i q hi => by
        rw [get_single] at hi
        split at hi
        · rename_i e'; subst e'; obtain rfl := Option.some.inj hi; exact ⟨e, s, l, hr, rfl⟩
        · cases hi
      have h2 := h.freeze hz
      have h3 := h2.res id (.fro s l) (by rw [updR_single, if_pos rfl])
      obtain ⟨A, c, g1, g2, g3⟩ := h3.1
      exact ⟨A, c, g1, g2, g3.step (KeepS.refl _ _) mof0⟩
    · rename_i s l hr
      obtain rfl := Option.some.inj he
      obtain ⟨⟨A, c, g1, g2, g3⟩, _⟩ := h.res id _ hr
      exact ⟨A, c, g1, g2, g3.step (KeepS.refl _ _) mof0⟩
  · obtain rfl := Option.some.inj he
    exact hx.step (KeepS.refl _ _) mof0 fun _ _ => rfl

theorem dataVs_ok {E : Env} (h : Rel C M0 w0 (get E.sl) (getR E.rs) ρ F a w) : ∀ {xs ys : List AV} {vs : List Value}, dataVs E xs = some ys → All2 (LR C ρ (Mof M0 (getR E.rs) F) w) xs vs → All2 (LR C ρ M0 w) ys vs
  | [], ys, vs, he, hx => by
    simp only [dataVs, Option.some.injEq] at he
    subst he; cases hx; exact .nil
  | x :: xs, ys, vs, he, hx => by
    simp only [dataVs] at he
    split at he <;> try (cases he; done)
    rename_i y l h1 h2
    obtain rfl := Option.some.inj he
    cases hx with
    | cons hx hxs => exact .cons (dataV_ok h h1 hx) (dataVs_ok h h2 hxs)

def resOne (tmps : Array Value) : ResultVar → Sem Value
  | .tmp t => pure (tmps.getD t Go.undef)
  | .cell a t => do loadVar t (← asAddr (tmps.getD a Go.undef))

theorem finOne_ok {E : Env} (h : Rel T.toCfg M0 w0 (get E.sl) (getR E.rs) ρ F a w) {t : TypeId} {rv : ResultVar} {av : AV} (hf : Fit P T) (he : finOne P T E t rv = some av) :
    ∃ v, (resOne a.tmps rv).run P w = .ok v w ∧ SR T.toCfg (fun _ => .nilIface) M0 w av v := by
  have fin : ∀ {l : List AV} {vs : List Value} {v : Value}, normAV P T t l = some av → All2 (LR T.toCfg ρ M0 w) l vs → v.cells = vs.toArray → ((∃ x, aggOf P t = some true ∧ v = .agg x) ∨ (aggOf P t = some false ∧ vs = [v])) → SR T.toCfg (fun _ => .nilIface) M0 w av v := by
    intro l vs v hn hl hv hs
    obtain ⟨h1, h2⟩ := normAV_rel hn hl hv hs
    exact h1.step (KeepS.refl _ _) (fun _ h _ => h) fun id hid => by rw [ment2_of (h2 id)] at hid; cases hid
  cases rv with
  | tmp i =>
    simp only [finOne] at he
    split at he <;> try (cases he; done)
    rename_i x hx
    split at he <;> try (cases he; done)
    rename_i l hfit hl
    obtain ⟨v, e1, e2⟩ := h.slots i x hx
    obtain ⟨cs, c1, c2, c3⟩ := aggFit_vr h.one hfit e2
    exact ⟨v, by simp [resOne, Array.getD_eq_getD_getElem?, e1], fin he (dataVs_ok h hl c2) c1 c3⟩
  | cell i t' =>
    simp only [finOne] at he
    split at he <;> try (cases he; done)
    rename_i id hi
    split at he <;> try (cases he; done)
    rename_i u cs hr
    split at he <;> try (cases he; done)
    rename_i hut
    obtain ⟨rfl, rfl⟩ := hut
    split at he <;> try (cases he; done)
    rename_i l hl
    obtain ⟨v, e1, e2⟩ := h.slots i _ hi
    simp only [VR, SR, LR] at e2
    obtain ⟨b, b1, b2⟩ := e2
    obtain ⟨b', cells, r1, r2, r3, r4, r5⟩ := h.res id _ hr
    rw [b1] at r1
    obtain rfl : b = b' := by simpa using r1
    have hd := dataVs_ok h hl r4
    have hcell : ∀ j u, cells.toList[j]? = some u → w.cell? ((⟨b, 0, none⟩ : Addr).add j) = some u := fun j u hj => by
      rw [addr_at]
      simp only [World.cell?, r3, Option.isSome_none, Bool.false_eq_true, if_false]
      simpa using hj
    have hn := he
    unfold normAV at he
    split at he <;> try (cases he; done)
    rename_i s hs
    split at he <;> try (cases he; done)
    rename_i x hx
    have hrr := ofLeaves_rep s l x cells.toList hx hd
    have hlen := RR.len s x _ hrr
    have hlv := leaves_len s x
    unfold aggAV at he
    have e1' : a.tmps.getD i Go.undef = .pointer (some ⟨b, 0, none⟩) := by simp [Array.getD_eq_getD_getElem?, e1, b2]
    split at he
    · rename_i hagg
      obtain ⟨ti, z, hti, hsz, _⟩ := (hf.tys.get hs).info
      have hload := run_loadCells_list (P := P) w ⟨b, 0, none⟩ cells.toList hcell
      rw [hlen] at hload
      refine ⟨.agg cells, ?_, fin hn hd (by simp [Value.cells]) (.inl ⟨_, hagg, rfl⟩)⟩
      simp only [resOne, e1', asAddr, loadVar, Sem.run_bind, Sem.run_pure, Result.andThen_ok, aggOf_true hagg, if_true, sizeOf, typeInfo, run_program, hti, hsz, hload]
    · rename_i y hagg hy
      rw [hy] at hlv
      have hl1 : cells.toList.length = 1 := by rw [hlen, ← hlv]; rfl
      obtain ⟨c0, hc0⟩ : ∃ c0, cells.toList = [c0] := by
        cases hcl : cells.toList with
        | nil => rw [hcl] at hl1; simp at hl1
        | cons c r => rw [hcl] at hl1; simp at hl1; exact ⟨c, by rw [hl1]⟩
      have := hcell 0 c0 (by rw [hc0]; rfl)
      rw [addr_at] at this
      refine ⟨c0, ?_, fin hn hd (by rw [hc0]; exact cells_one (RR.one hrr c0 (by rw [hc0]; exact List.mem_cons_self))) (.inr ⟨hagg, hc0⟩)⟩
      simp only [resOne, e1', asAddr, loadVar, Sem.run_bind, Sem.run_pure, Result.andThen_ok, aggOf_false hagg, Bool.false_eq_true, if_false, run_load, this]
    · cases he

theorem finAll_ok {E : Env} (h : Rel T.toCfg M0 w0 (get E.sl) (getR E.rs) ρ F a w) (hf : Fit P T) : ∀ {ts : List TypeId} {rvs : List ResultVar} {avs : List AV}, finAll P T E ts rvs = some avs →
    ∃ vs, (rvs.mapM (resOne a.tmps)).run P w = .ok vs w ∧ All2 (SR T.toCfg (fun _ => .nilIface) M0 w) avs vs
  | [], [], avs, he => by
    simp only [finAll, Option.some.injEq] at he
    subst he
    exact ⟨[], by simp, .nil⟩
  | [], _ :: _, _, he => by simp [finAll] at he
  | _ :: _, [], _, he => by simp [finAll] at he
  | t :: ts, rv :: rvs, avs, he => by
    simp only [finAll] at he
    split at he <;> try (cases he; done)
    rename_i x l h1 h2
    obtain rfl := Option.some.inj he
    obtain ⟨v, e1, e2⟩ := finOne_ok h hf h1
    obtain ⟨vs, e3, e4⟩ := finAll_ok h hf h2
    exact ⟨v :: vs, by simp [List.mapM_cons, e1, e3], .cons e2 e4⟩

def resVal : List Value → Value
  | [v] => v
  | vs => .tuple vs.toArray

theorem results_run {fn : Func} {tmps : Array Value} {vs : List Value} (h : (fn.results.toList.mapM (resOne tmps)).run P w = .ok vs w) :
    (results fn tmps).run P w = .ok (resVal vs) w := by
  have e : results fn tmps = (do
      let vs ← fn.results.mapM (resOne tmps)
      pure (if h : vs.size = 1 then vs[0] else .tuple vs)) := by
    unfold results
    congr 1
  rw [e, Array.mapM_eq_mapM_toList]
  simp only [map_eq_pure_bind, Sem.run_bind, h, Result.andThen_ok, Sem.run_pure]
  match vs with
  | [] => rfl
  | [v] => rfl
  | v :: u :: r => simp [resVal]

/-! ### functions -/

def fnOk (P : Program) (f : Nat) : Bool :=
  match P.funcs[f]? with
  | some fn => match fn.body with
    | some c => codeOk fn.ntmps c
    | none => false
  | none => false

theorem argSl_get : ∀ {args : List AV} {n t : Nat} {x : AV}, get (argSl n args) t = some x → n ≤ t ∧ args[t - n]? = some x
  | [], n, t, x, h => by simp [argSl, get] at h
  | y :: r, n, t, x, h => by
    simp only [argSl] at h
    rw [get_cons] at h
    split at h
    · rename_i e; subst e; obtain rfl := Option.some.inj h; exact ⟨Nat.le_refl _, by simp⟩
    · rename_i hne
      obtain ⟨h1, h2⟩ := argSl_get h
      refine ⟨by omega, ?_⟩
      rw [show t - n = (t - (n + 1)) + 1 by omega]
      simpa using h2

/-- What the evaluator says, the function does. -/
theorem evalF_ok (hf : Fit P T) (hsp : SpecsOk P T) (hm : P.follows .mixedOrders = true) {A : Anns} {f : Nat} (hfn : fnOk P f = true) (hO : ∀ c ∈ loopsF P f, OrcOk P T A c) {args : List AV} {res : AV} (h : evalF P T A f args = some res) : Contract P T.toCfg f args res := by
  intro M w vs hM hglob hargs
  unfold evalF at h
  unfold fnOk at hfn
  unfold loopsF at hO
  split at h <;> try (cases h; done)
  rename_i fn hfu
  rw [hfu] at hfn hO
  simp only at hfn hO
  split at h <;> try (cases h; done)
  rename_i c hb
  rw [hb] at hfn hO
  simp only at hfn hO
  have hsz : (vs.toArray ++ Array.replicate (fn.ntmps - vs.toArray.size) Go.undef).size = vs.length + (fn.ntmps - vs.length) := by simp
  have hok : codeOk (vs.length + (fn.ntmps - vs.length)) c = true := codeOk_mono (by omega) c hfn
  refine calls_of_wp hfu hb ?_
  have hrel : RelEnv T M w ⟨argSl 0 args, []⟩ { tmps := vs.toArray ++ Array.replicate (fn.ntmps - vs.toArray.size) Go.undef, defers := [] } w := by
    refine ⟨fun _ => .nilIface, fun _ _ => False, ⟨KeepS.refl _ _, hM, fun t av ht => ?_, fun id st hst => ?_, fun id st k hst => ?_, fun i j s t k hi => ?_, fun _ => rfl, rfl, hglob⟩⟩
    · obtain ⟨_, h2⟩ := argSl_get ht
      simp only [Nat.sub_zero] at h2
      obtain ⟨v, h3, h4⟩ := hargs.get t av h2
      refine ⟨v, ?_, h4.toVR.step (KeepS.refl _ _) ?_ fun _ _ => rfl⟩
      · rw [Array.getElem?_append_left (by simpa using (List.getElem?_eq_some_iff.1 h3).1)]
        simpa using h3
      · rintro k (h0 | ⟨id, st, hst, _⟩) _
        · exact h0
        · simp [getR, get] at hst
    · simp [getR, get] at hst
    · simp [getR, get] at hst
    · simp [getR, get] at hi
  refine wp_mono (evalC_ok hf hsp hm c hok hO M w _ _ res _ w h hrel hsz) fun x a' w' hq => ?_
  obtain ⟨E', h1, ⟨ρ, F, h2⟩, _⟩ := hq
  have key : finish.fin P T fn E' = some res → a'.defers = [] ∧ ∃ v, (results fn a'.tmps).run P w' = .ok v w' ∧ ∃ v', Ending.returned v = .returned v' ∧ VR T.toCfg (fun _ => .nilIface) M w' res v' ∧ KeepS (fun _ => False) w w' := by
    intro hfin
    unfold finish.fin at hfin
    refine ⟨h2.defers, ?_⟩
    split at hfin <;> try (cases hfin; done)
    · rename_i x hx
      obtain rfl := Option.some.inj hfin
      obtain ⟨vs', g1, g2⟩ := finAll_ok h2 hf hx
      refine ⟨_, results_run g1, _, rfl, ?_, h2.keep⟩
      cases g2 with
      | cons g3 g4 => cases g4; exact g3.toVR
    · rename_i l hne hx
      obtain rfl := Option.some.inj hfin
      obtain ⟨vs', g1, g2⟩ := finAll_ok h2 hf hx
      refine ⟨_, results_run g1, _, rfl, ?_, h2.keep⟩
      have hv : resVal vs' = .tuple vs'.toArray := by
        cases g2 with
        | nil => rfl
        | cons g3 g4 => cases g4 with
          | nil => exact absurd rfl (hne _)
          | cons _ _ => rfl
      rw [hv]
      exact ⟨vs', rfl, g2⟩
  unfold finish at h1
  cases x with
  | normal => exact key h1
  | ret => exact key h1
  | _ => cases h1

/-- No loop is told in one step. -/
theorem noOrc {A : Anns} (h : A.orc = []) (f : Nat) : ∀ c ∈ loopsF P f, OrcOk P T A c := by
  intro c _ o ho
  unfold orcOf at ho
  split at ho
  · rw [h] at ho; simp [get] at ho
  · cases ho

end

end Go.Pev
