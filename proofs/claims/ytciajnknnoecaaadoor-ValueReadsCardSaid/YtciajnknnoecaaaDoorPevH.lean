/- The pure evaluator, part H: values as data; what is handed over. Own text, over any program. -/
import Derived.Test.YtciajnknnoecaaaDoorPevG
namespace Go.Pev

section
variable {P : Program} {T : Tabs} {M0 : Nat → Prop} {w0 : World} {sl : Nat → Option AV} {rs : Nat → Option RS} {ρ : Nat → Value} {F : Nat → Nat → Prop} {a : Act} {w : World} {C : Cfg} {M : Nat → Prop}

/-- The relation behind a freeze, as the leaves see it. -/
abbrev fzF (F : Nat → Nat → Prop) (ws : Ws) : Nat → Nat → Prop := fun id => if (get ws id).isSome then (fun _ => False) else F id

theorem freeze_sub (_ : Rel C M0 w0 sl rs ρ F a w) {ws : Ws} (_ : FreezeWs rs ws) : ∀ k, Mof M0 (updR rs ws) (fzF F ws) k → Mof M0 rs F k := by
  rintro k (h0 | ⟨id, st, hst, hF⟩)
  · exact .inl h0
  · by_cases hs : (get ws id).isSome
    · simp only [fzF, hs, if_true] at hF
    · have : get ws id = none := by cases hg : get ws id with | none => rfl | some r => simp [hg] at hs
      simp only [updR, this] at hst
      simp only [fzF, this] at hF
      exact .inr ⟨id, st, hst, by simpa using hF⟩

theorem freeze_LR (h : Rel C M0 w0 sl rs ρ F a w) {ws : Ws} (hz : FreezeWs rs ws) {x : AV} {v : Value} (hx : LR C ρ (Mof M0 rs F) w x v) : LR C ρ (Mof M0 (updR rs ws) (fzF F ws)) w x v :=
  hx.step (KeepS.refl _ _) (fun k hk _ => freeze_sub h hz k hk) fun _ _ => rfl

theorem dataL_ok (h : Rel C M0 w0 sl rs ρ F a w) {x y : AV} {ws : Ws} {s r s1 r1 : List Nat} {v : Value} (he : ev sl rs (dataL x) s r = some ((y, ws), s1, r1)) (hx : LR C ρ (Mof M0 rs F) w x v) :
    FreezeWs rs ws ∧ ∀ us, FreezeWs rs us → (∀ id q, get ws id = some q → (get us id).isSome) → LR C ρ (Mof M0 (updR rs us) (fzF F us)) w y v := by
  by_cases ho : ∃ id, x = .own id
  · obtain ⟨id, rfl⟩ := ho
    simp only [dataL] at he
    obtain ⟨st, h1, h2⟩ := ev_res he
    simp only [LR] at hx
    subst hx
    cases st with
    | row e s0 l =>
      have := ev_ret h2
      simp only [Prod.mk.injEq] at this
      obtain ⟨⟨rfl, rfl⟩, _, _⟩ := this
      refine ⟨fun i q hi => ?_, fun us hz hus => ?_⟩
      · rw [get_single] at hi
        split at hi
        · rename_i e'; subst e'; obtain rfl := Option.some.inj hi; exact ⟨e, s0, l, h1, rfl⟩
        · cases hi
      · have hr := h.freeze hz
        have hid : (get us id).isSome := hus id _ (by rw [get_single, if_pos rfl])
        obtain ⟨q, hq⟩ := Option.isSome_iff_exists.1 hid
        obtain ⟨e', s', l', e1, rfl⟩ := hz id q hq
        rw [h1] at e1
        obtain ⟨rfl, rfl, h3⟩ : e = e' ∧ s0 = s' ∧ HEq l l' := by simpa using e1
        obtain rfl := eq_of_heq h3
        have := hr.res id (.fro s0 l) (by simp [updR, hq])
        exact this.1
    | fro s0 l =>
      have := ev_ret h2
      simp only [Prod.mk.injEq] at this
      obtain ⟨⟨rfl, rfl⟩, _, _⟩ := this
      refine ⟨FreezeWs.nil, fun us hz _ => ?_⟩
      have hr := h.freeze hz
      have hn : get us id = none := by
        cases hq : get us id with
        | none => rfl
        | some q => obtain ⟨e', s', l', e1, _⟩ := hz id q hq; rw [h1] at e1; cases e1
      have := hr.res id (.fro s0 l) (by simp [updR, hn, h1])
      exact this.1
    | box _ _ => simp [ev] at h2
    | obj _ _ _ => simp [ev] at h2
  · have hd : dataL x = .ret (x, []) := by cases x <;> first | rfl | exact absurd ⟨_, rfl⟩ ho
    rw [hd] at he
    have := ev_ret he
    simp only [Prod.mk.injEq] at this
    obtain ⟨⟨rfl, rfl⟩, _, _⟩ := this
    exact ⟨FreezeWs.nil, fun us hz _ => freeze_LR h hz hx⟩

theorem dataLs_ok (h : Rel C M0 w0 sl rs ρ F a w) : ∀ {xs ys : List AV} {ws : Ws} {s r s1 r1 : List Nat} {vs : List Value}, ev sl rs (dataLs xs) s r = some ((ys, ws), s1, r1) → All2 (LR C ρ (Mof M0 rs F) w) xs vs →
    FreezeWs rs ws ∧ ∀ us, FreezeWs rs us → (∀ id q, get ws id = some q → (get us id).isSome) → All2 (LR C ρ (Mof M0 (updR rs us) (fzF F us)) w) ys vs
  | [], ys, ws, s, r, s1, r1, vs, he, hx => by
    simp only [dataLs] at he
    have := ev_ret he
    simp only [Prod.mk.injEq] at this
    obtain ⟨⟨rfl, rfl⟩, _, _⟩ := this
    cases hx
    exact ⟨FreezeWs.nil, fun _ _ _ => .nil⟩
  | x :: xs, ys, ws, s, r, s1, r1, vs, he, hx => by
    simp only [dataLs] at he
    obtain ⟨⟨y, w1⟩, s2, r2, h1, h2⟩ := ev_bind _ _ _ _ _ he
    obtain ⟨⟨l, w2⟩, s3, r3, h3, h4⟩ := ev_bind _ _ _ _ _ h2
    have := ev_ret h4
    simp only [Prod.mk.injEq] at this
    obtain ⟨⟨rfl, rfl⟩, _, _⟩ := this
    cases hx with
    | cons hx hxs =>
      obtain ⟨z1, f1⟩ := dataL_ok h h1 hx
      obtain ⟨z2, f2⟩ := dataLs_ok h h3 hxs
      refine ⟨z1.append z2, fun us hz hus => .cons (f1 us hz fun id q hq => hus id q ?_) (f2 us hz fun id q hq => ?_)⟩
      · rw [get_append, hq]
      · cases hw : get w1 id with
        | some q' => exact hus id q' (by rw [get_append, hw])
        | none => exact hus id q (by rw [get_append, hw, hq])

theorem aggAV_rel {t : TypeId} {l : List AV} {av : AV} (h : aggAV P t l = some av) {vs : List Value} (hl : All2 (LR C ρ M w) l vs) {v : Value} (hv : v.cells = vs.toArray) (hs : (∃ x, aggOf P t = some true ∧ v = .agg x) ∨ (aggOf P t = some false ∧ vs = [v])) : SR C ρ M w av v := by
  unfold aggAV at h
  split at h
  · rename_i h1
    obtain rfl : AV.ag _ = av := Option.some.inj h
    rcases hs with ⟨x, _, rfl⟩ | ⟨h2, _⟩
    · simp only [Value.cells] at hv
      subst hv
      exact ⟨vs, rfl, hl⟩
    · rw [h1] at h2; cases h2
  · rename_i h1
    obtain rfl := Option.some.inj h
    rcases hs with ⟨x, h2, _⟩ | ⟨_, rfl⟩
    · rw [h1] at h2; cases h2
    · cases hl with | cons h1 h2 => exact h1.toSR
  · cases h

/-- A value of a type in its one spelling: reads as the value does. -/
theorem normAV_rel {t : TypeId} {l : List AV} {av : AV} (h : normAV P T t l = some av) {vs : List Value} (hl : All2 (LR C ρ M w) l vs) {v : Value} (hv : v.cells = vs.toArray) (hs : (∃ x, aggOf P t = some true ∧ v = .agg x) ∨ (aggOf P t = some false ∧ vs = [v])) :
    SR C ρ M w av v ∧ (∀ id, av.ment id = false) := by
  unfold normAV at h
  split at h
  · rename_i s hs0
    split at h
    · rename_i x hx
      have hr := leaves_rel (ρ := ρ) s x vs (ofLeaves_rep s l x vs hx hl)
      refine ⟨aggAV_rel h hr hv hs, fun id => ?_⟩
      unfold aggAV at h
      split at h
      · obtain rfl := Option.some.inj h
        simp only [AV.ment, AV.ment2, List.any_eq_false]
        intro y hy; simp [leaves_ment s x id y hy]
      · rename_i y _ hy
        obtain rfl := Option.some.inj h
        have := leaves_ment s x id y (by rw [hy]; exact List.mem_cons_self)
        have hok := leaves_ok s x y (by rw [hy]; exact List.mem_cons_self)
        cases y <;> first | exact this | (simp [okLeaf] at hok)
      · cases h
    · cases h
  · cases h

theorem aggFit_vr (h1 : ∀ id, (ρ id).oneCell' = true) {t : TypeId} {x : AV} {v : Value} (hf : aggFit P t x = true) (hx : VR C ρ M w x v) :
    ∃ cs : List Value, v.cells = cs.toArray ∧ All2 (LR C ρ M w) x.lv cs ∧ ((∃ y, aggOf P t = some true ∧ v = .agg y) ∨ (aggOf P t = some false ∧ cs = [v])) := by
  unfold aggFit at hf
  cases hagg : aggOf P t with
  | none => rw [hagg] at hf; cases hf
  | some b =>
    rw [hagg] at hf
    cases b with
    | true =>
      cases x <;> first | (cases hf; done) | skip
      obtain ⟨cs, rfl, h2⟩ := hx.ag
      exact ⟨cs, rfl, h2, .inl ⟨_, rfl, rfl⟩⟩
    | false =>
      have hf' : okLeaf x = true := by cases x <;> exact hf
      have hl := hx.toLR hf'
      have hlv : x.lv = [x] := by cases x <;> first | rfl | simp [okLeaf] at hf'
      exact ⟨[v], cells_one (hl.one hf' fun id _ => h1 id), by rw [hlv]; exact .cons hl .nil, .inr ⟨rfl, rfl⟩⟩

theorem normArg_ok (h : Rel C M0 w0 sl rs ρ F a w) {t : TypeId} {x y : AV} {ws : Ws} {s r s1 r1 : List Nat} {v : Value} (he : ev sl rs (normArg P T t x) s r = some ((y, ws), s1, r1)) (hx : VR C ρ (Mof M0 rs F) w x v) :
    FreezeWs rs ws ∧ (∀ id, y.ment id = false) ∧ ∀ us, FreezeWs rs us → (∀ id q, get ws id = some q → (get us id).isSome) → SR C ρ (Mof M0 (updR rs us) (fzF F us)) w y v := by
  unfold normArg at he
  split at he
  · rename_i hf
    obtain ⟨⟨l, w1⟩, s2, r2, h1, h2⟩ := ev_bind _ _ _ _ _ he
    obtain ⟨y', s3, r3, h3, h4⟩ := ev_bind _ _ _ _ _ h2
    have := ev_ret h4
    simp only [Prod.mk.injEq] at this
    obtain ⟨⟨rfl, rfl⟩, _, _⟩ := this
    obtain ⟨y'', h5, h6⟩ := ev_ofO h3
    simp only [Prod.mk.injEq] at h6
    obtain ⟨rfl, _, _⟩ := h6
    obtain ⟨cs, hv, hl, hs⟩ := aggFit_vr h.one hf hx
    obtain ⟨z1, f1⟩ := dataLs_ok h h1 hl
    have hm : ∀ id, y.ment id = false := by
      have := f1 ws z1 (fun id q hq => by simp [hq])
      exact (normAV_rel h5 this hv hs).2
    exact ⟨z1, hm, fun us hz hus => (normAV_rel h5 (f1 us hz hus) hv hs).1⟩
  · simp [ev] at he

theorem normArgs_ok (h : Rel C M0 w0 sl rs ρ F a w) : ∀ {ts : List TypeId} {xs ys : List AV} {ws : Ws} {s r s1 r1 : List Nat} {vs : List Value}, ev sl rs (normArgs P T ts xs) s r = some ((ys, ws), s1, r1) → All2 (VR C ρ (Mof M0 rs F) w) xs vs →
    FreezeWs rs ws ∧ (∀ y ∈ ys, ∀ id, y.ment id = false) ∧ ∀ us, FreezeWs rs us → (∀ id q, get ws id = some q → (get us id).isSome) → All2 (SR C ρ (Mof M0 (updR rs us) (fzF F us)) w) ys vs
  | [], [], ys, ws, s, r, s1, r1, vs, he, hx => by
    simp only [normArgs] at he
    have := ev_ret he
    simp only [Prod.mk.injEq] at this
    obtain ⟨⟨rfl, rfl⟩, _, _⟩ := this
    cases hx
    exact ⟨FreezeWs.nil, fun _ hy => by simp at hy, fun _ _ _ => .nil⟩
  | [], _ :: _, _, _, _, _, _, _, _, he, _ => by simp [normArgs, ev] at he
  | _ :: _, [], _, _, _, _, _, _, _, he, _ => by simp [normArgs, ev] at he
  | t :: ts, x :: xs, ys, ws, s, r, s1, r1, vs, he, hx => by
    simp only [normArgs] at he
    obtain ⟨⟨y, w1⟩, s2, r2, h1, h2⟩ := ev_bind _ _ _ _ _ he
    obtain ⟨⟨l, w2⟩, s3, r3, h3, h4⟩ := ev_bind _ _ _ _ _ h2
    have := ev_ret h4
    simp only [Prod.mk.injEq] at this
    obtain ⟨⟨rfl, rfl⟩, _, _⟩ := this
    cases hx with
    | cons hx hxs =>
      obtain ⟨z1, m1, f1⟩ := normArg_ok h h1 hx
      obtain ⟨z2, m2, f2⟩ := normArgs_ok h h3 hxs
      refine ⟨z1.append z2, ?_, fun us hz hus => .cons (f1 us hz fun id q hq => hus id q ?_) (f2 us hz fun id q hq => ?_)⟩
      · intro z hz
        rcases List.mem_cons.1 hz with rfl | hz
        · exact m1
        · exact m2 z hz
      · rw [get_append, hq]
      · cases hw : get w1 id with
        | some q' => exact hus id q' (by rw [get_append, hw])
        | none => exact hus id q (by rw [get_append, hw, hq])

theorem opds_rel (h : Rel T.toCfg M0 w0 sl rs ρ F a w) : ∀ {xs : List Operand} {s r s1 r1 : List Nat} {avs : List AV}, ev sl rs (opds xs) s r = some (avs, s1, r1) → All2 (VR T.toCfg ρ (Mof M0 rs F) w) avs (xs.map a.eval)
  | [], _, _, _, _, _, he => by
    simp only [opds] at he
    have := ev_ret he
    simp only [Prod.mk.injEq] at this
    obtain ⟨rfl, _, _⟩ := this
    exact .nil
  | x :: xs, _, _, _, _, _, he => by
    simp only [opds] at he
    obtain ⟨y, s2, r2, h1, h2⟩ := ev_bind _ _ _ _ _ he
    obtain ⟨l, s3, r3, h3, h4⟩ := ev_bind _ _ _ _ _ h2
    have := ev_ret h4
    simp only [Prod.mk.injEq] at this
    obtain ⟨rfl, _, _⟩ := this
    exact .cons (opd_rel h h1) (opds_rel h h3)

theorem pure_ment1 {x : AV} (h : x.pure1 = true) (id : Nat) : x.ment1 id = false := by cases x <;> first | rfl | simp [AV.pure1] at h
theorem pure_ment2 {x : AV} (h : x.pure2 = true) (id : Nat) : x.ment2 id = false := by
  cases x <;> first | rfl | (simp [AV.pure2, AV.pure1] at h; done) | skip
  simp only [AV.ment2, List.any_eq_false]
  intro y hy
  simp [pure_ment1 (List.all_eq_true.1 h y hy) id]
theorem pure_ment {x : AV} (h : x.pure = true) (id : Nat) : x.ment id = false := by
  cases x <;> first | rfl | (simp [AV.pure, AV.pure2, AV.pure1] at h; done) | skip
  · exact pure_ment2 (x := .ag _) h id
  · simp only [AV.ment, List.any_eq_false]
    intro y hy
    simp [pure_ment2 (List.all_eq_true.1 h y hy) id]

end

/-- What a function does with data: for whatever memory. -/
def Contract (P : Program) (C : Cfg) (g : Nat) (args : List AV) (res : AV) : Prop :=
  ∀ (M : Nat → Prop) (w : World) (vs : List Value), (∀ k, M k → k < w.heap.size) → Glob C M w → All2 (SR C (fun _ => .nilIface) M w) args vs →
    Calls P g vs.toArray w fun e w' => ∃ v, e = .returned v ∧ VR C (fun _ => .nilIface) M w' res v ∧ KeepS (fun _ => False) w w'

def SpecOk (P : Program) (C : Cfg) (g : Nat) (sp : Spec) : Prop := ∀ args res, sp args = some res → Contract P C g args res
def CSpecOk (P : Program) (C : Cfg) (g : Nat) (sp : CSpec) : Prop := ∀ args res, (sp.f args).get = some res → Contract P C g args res
theorem SpecOk.tree {P : Program} {C : Cfg} {g : Nat} {sp : Spec} (h : SpecOk P C g sp) : CSpecOk P C g sp := by
  intro args res hr
  cases hs : sp args with
  | none => simp [hs, Tree.get] at hr
  | some r => rw [show r = res by simpa [hs, Tree.get] using hr] at hs; exact h args res hs

end Go.Pev
