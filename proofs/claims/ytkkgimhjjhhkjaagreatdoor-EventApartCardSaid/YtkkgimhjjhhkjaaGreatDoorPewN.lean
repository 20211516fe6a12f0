/- The pure evaluator, part H: values as data; what is handed over. Own text, over any program. -/
import Derived.Test.YtkkgimhjjhhkjaaGreatDoorPewG
import Derived.Laws.Cover1
import Derived.WideLaws
import Derived.LaidEql
import Derived.Laws.BytesArg
import Derived.Laws.IdiomStrings
import Derived.Laws.StructEq
import Derived.Great.BuildSlice
namespace Go.Pev
section
variable {P : Program} {T : Tabs} {M0 : Base} {β : Nat → Value} {N : Nat} {w0 : World} {sl : Nat → Option AV} {rs : Nat → Option RS} {ρ : Nat → Value} {F : Nat → Nat → Prop} {a : Act} {w : World} {C : Cfg} {M : Nat → Prop}
abbrev fzF (F : Nat → Nat → Prop) (ws : Ws) : Nat → Nat → Prop := fun id => if (get ws id).isSome then (fun _ => False) else F id
theorem freeze_sub (_ : Rel C M0 w0 sl rs ρ F a w) {ws : Ws} (_ : FreezeWs rs ws) : ∀ k, Mof M0 (updR rs ws) (fzF F ws) k → Mof M0 rs F k := by
  rintro k (h0 | ⟨id, st, hst, hF⟩)
  · exact .inl h0
  · by_cases hs : (get ws id).isSome
    · simp only [fzF, hs, if_true] at hF
    · have : get ws id = none := by cases hg : get ws id with | none => rfl | some r => simp [hg] at hs
      simp only [updR, this] at hst
      simp only [fzF, this] at hF
      exact .inr ⟨id, st, hst, by simpa using hF⟩
theorem freeze_LR (h : Rel C M0 w0 sl rs ρ F a w) {ws : Ws} (hz : FreezeWs rs ws) {x : AV} {v : Value} (hx : LR C ρ (Mof M0 rs F) w x v) : LR C ρ (Mof M0 (updR rs ws) (fzF F ws)) w x v :=
  hx.step (KeepS.refl _ _) (fun k hk _ => freeze_sub h hz k hk) fun _ _ => rfl
theorem flatten_take_get {α : Type} {css : List (List α)} {n j : Nat} {u : α} (h : (css.take n).flatten[j]? = some u) : css.flatten[j]? = some u := by
  conv => rhs; rw [← h]
  rw [show css.flatten = (css.take n).flatten ++ (css.drop n).flatten by rw [← List.flatten_append, List.take_append_drop]]
  exact List.getElem?_append_left (List.getElem?_eq_some_iff.1 h).1
theorem dataL_ok (h : Rel C M0 w0 sl rs ρ F a w) {x y : AV} {ws : Ws} {s r s1 r1 : List Nat} {v : Value} (he : ev sl rs (dataL x) s r = some ((y, ws), s1, r1)) (hx : LR C ρ (Mof M0 rs F) w x v) :
    FreezeWs rs ws ∧ ∀ us, FreezeWs rs us → (∀ id q, get ws id = some q → (get us id).isSome) → LR C ρ (Mof M0 (updR rs us) (fzF F us)) w y v := by
  by_cases ho : ∃ id, x = .own id
  · obtain ⟨id, rfl⟩ := ho
    simp only [dataL] at he
    obtain ⟨st, h1, h2⟩ := ev_res he
    simp only [LR] at hx
    subst hx
    cases st with
    | row e s0 l =>
      have := ev_ret h2
      simp only [Prod.mk.injEq] at this
      obtain ⟨⟨rfl, rfl⟩, _, _⟩ := this
      refine ⟨fun i q hi => ?_, fun us hz hus => ?_⟩
      · rw [get_single] at hi
        split at hi
        · rename_i e'; subst e'; obtain rfl := Option.some.inj hi; exact ⟨e, s0, l, h1, rfl⟩
        · cases hi
      · have hr := h.freeze hz
        have hid : (get us id).isSome := hus id _ (by rw [get_single, if_pos rfl])
        obtain ⟨q, hq⟩ := Option.isSome_iff_exists.1 hid
        obtain ⟨e', s', l', e1, rfl⟩ := hz id q hq
        rw [h1] at e1
        obtain ⟨rfl, rfl, h3⟩ : e = e' ∧ s0 = s' ∧ HEq l l' := by simpa using e1
        obtain rfl := eq_of_heq h3
        have := hr.res id (.fro s0 l) (by simp [updR, hq])
        exact this.1
    | fro s0 l =>
      have := ev_ret h2
      simp only [Prod.mk.injEq] at this
      obtain ⟨⟨rfl, rfl⟩, _, _⟩ := this
      refine ⟨FreezeWs.nil, fun us hz _ => ?_⟩
      have hr := h.freeze hz
      have hn : get us id = none := by
        cases hq : get us id with
        | none => rfl
        | some q => obtain ⟨e', s', l', e1, _⟩ := hz id q hq; rw [h1] at e1; cases e1
      have := hr.res id (.fro s0 l) (by simp [updR, hn, h1])
      exact this.1
    | box _ _ => simp [ev] at h2
    | tok => simp [ev] at h2
    | reg _ _ _ => simp [ev] at h2
    | obj _ _ _ => simp [ev] at h2
  by_cases hs : ∃ id n, x = .sub id n
  · obtain ⟨id, n, rfl⟩ := hs
    simp only [dataL] at he
    obtain ⟨st, h1, h2⟩ := ev_res he
    simp only [LR] at hx
    obtain ⟨A0, m0, c0, hρ, rfl⟩ := hx
    have key : ∀ {s0 : Sh} {l : List s0.T} {us : Ws}, n ≤ l.length → ResOk C ρ (Mof M0 (updR rs us) (fzF F us)) w id (fzF F us id) (.fro s0 l) → LR C ρ (Mof M0 (updR rs us) (fzF F us)) w (.sl s0 (l.take n)) (.slice A0 n c0) := by
      intro s0 l us hn hr
      obtain ⟨A, c, e1, e2, e3⟩ := hr.1
      rw [hρ] at e1
      obtain ⟨rfl, rfl, rfl⟩ : A0 = A ∧ m0 = l.length ∧ c0 = c := by simpa using e1
      refine ⟨A0, c0, by rw [List.length_take, Nat.min_eq_left hn], by rw [List.length_take, Nat.min_eq_left hn]; omega, ?_⟩
      rcases e3 with rfl | ⟨ad, css, g1, g2, g3⟩
      · exact .inl (by simp)
      · refine .inr ⟨ad, css.take n, g1, g2.take n, g3.imp fun w' hw j u hj => hw j u ?_⟩
        have hlen : ∀ c ∈ css, c.length = s0.sz := fun c hc => by
          obtain ⟨y, _, hy⟩ := g2.mem_right c hc
          exact RR.len s0 y c hy
        exact flatten_take_get hj
    cases st with
    | row e s0 l =>
      simp only at h2
      obtain ⟨hn, h2⟩ := ev_br h2
      have hn := of_decide_eq_true hn
      have := ev_ret h2
      simp only [Prod.mk.injEq] at this
      obtain ⟨⟨rfl, rfl⟩, _, _⟩ := this
      refine ⟨fun i q hi => ?_, fun us hz hus => ?_⟩
      · rw [get_single] at hi
        split at hi
        · rename_i e'; subst e'; obtain rfl := Option.some.inj hi; exact ⟨e, s0, l, h1, rfl⟩
        · cases hi
      · have hr := h.freeze hz
        have hid : (get us id).isSome := hus id _ (by rw [get_single, if_pos rfl])
        obtain ⟨q, hq⟩ := Option.isSome_iff_exists.1 hid
        obtain ⟨e', s', l', e1, rfl⟩ := hz id q hq
        rw [h1] at e1
        obtain ⟨rfl, rfl, h3⟩ : e = e' ∧ s0 = s' ∧ HEq l l' := by simpa using e1
        obtain rfl := eq_of_heq h3
        exact key hn (hr.res id (.fro s0 l) (by simp [updR, hq]))
    | fro s0 l =>
      simp only at h2
      obtain ⟨hn, h2⟩ := ev_br h2
      have hn := of_decide_eq_true hn
      have := ev_ret h2
      simp only [Prod.mk.injEq] at this
      obtain ⟨⟨rfl, rfl⟩, _, _⟩ := this
      refine ⟨FreezeWs.nil, fun us hz _ => ?_⟩
      have hr := h.freeze hz
      have hn' : get us id = none := by
        cases hq : get us id with
        | none => rfl
        | some q => obtain ⟨e', s', l', e1, _⟩ := hz id q hq; rw [h1] at e1; cases e1
      exact key hn (hr.res id (.fro s0 l) (by simp [updR, hn', h1]))
    | box _ _ => simp [ev] at h2
    | tok => simp [ev] at h2
    | reg _ _ _ => simp [ev] at h2
    | obj _ _ _ => simp [ev] at h2
  · have hd : dataL x = .ret (x, []) := by cases x <;> first | rfl | exact absurd ⟨_, rfl⟩ ho | exact absurd ⟨_, _, rfl⟩ hs
    rw [hd] at he
    have := ev_ret he
    simp only [Prod.mk.injEq] at this
    obtain ⟨⟨rfl, rfl⟩, _, _⟩ := this
    exact ⟨FreezeWs.nil, fun us hz _ => freeze_LR h hz hx⟩
theorem dataLs_ok (h : Rel C M0 w0 sl rs ρ F a w) : ∀ {xs ys : List AV} {ws : Ws} {s r s1 r1 : List Nat} {vs : List Value}, ev sl rs (dataLs xs) s r = some ((ys, ws), s1, r1) → All2 (LR C ρ (Mof M0 rs F) w) xs vs →
    FreezeWs rs ws ∧ ∀ us, FreezeWs rs us → (∀ id q, get ws id = some q → (get us id).isSome) → All2 (LR C ρ (Mof M0 (updR rs us) (fzF F us)) w) ys vs
  | [], ys, ws, s, r, s1, r1, vs, he, hx => by
    simp only [dataLs] at he
    have := ev_ret he
    simp only [Prod.mk.injEq] at this
    obtain ⟨⟨rfl, rfl⟩, _, _⟩ := this
    cases hx
    exact ⟨FreezeWs.nil, fun _ _ _ => .nil⟩
  | x :: xs, ys, ws, s, r, s1, r1, vs, he, hx => by
    simp only [dataLs] at he
    obtain ⟨⟨y, w1⟩, s2, r2, h1, h2⟩ := ev_bind _ _ _ _ _ he
    obtain ⟨⟨l, w2⟩, s3, r3, h3, h4⟩ := ev_bind _ _ _ _ _ h2
    have := ev_ret h4
    simp only [Prod.mk.injEq] at this
    obtain ⟨⟨rfl, rfl⟩, _, _⟩ := this
    cases hx with
    | cons hx hxs =>
      obtain ⟨z1, f1⟩ := dataL_ok h h1 hx
      obtain ⟨z2, f2⟩ := dataLs_ok h h3 hxs
      refine ⟨z1.append z2, fun us hz hus => .cons (f1 us hz fun id q hq => hus id q ?_) (f2 us hz fun id q hq => ?_)⟩
      · rw [get_append, hq]
      · cases hw : get w1 id with
        | some q' => exact hus id q' (by rw [get_append, hw])
        | none => exact hus id q (by rw [get_append, hw, hq])
theorem aggAV_rel {t : TypeId} {l : List AV} {av : AV} (h : aggAV P t l = some av) {vs : List Value} (hl : All2 (LR C ρ M w) l vs) {v : Value} (hv : v.cells = vs.toArray) (hs : (∃ x, aggOf P t = some true ∧ v = .agg x) ∨ (aggOf P t = some false ∧ vs = [v])) : SR C ρ M w av v := by
  unfold aggAV at h
  split at h
  · rename_i h1
    obtain rfl : AV.ag _ = av := Option.some.inj h
    rcases hs with ⟨x, _, rfl⟩ | ⟨h2, _⟩
    · simp only [Value.cells] at hv
      subst hv
      exact ⟨vs, rfl, hl⟩
    · rw [h1] at h2; cases h2
  · rename_i h1
    obtain rfl := Option.some.inj h
    rcases hs with ⟨x, h2, _⟩ | ⟨_, rfl⟩
    · rw [h1] at h2; cases h2
    · cases hl with | cons h1 h2 => exact h1.toSR
  · cases h
theorem normAV_rel {t : TypeId} {l : List AV} {av : AV} (h : normAV P T t l = some av) {vs : List Value} (hl : All2 (LR C ρ M w) l vs) {v : Value} (hv : v.cells = vs.toArray) (hs : (∃ x, aggOf P t = some true ∧ v = .agg x) ∨ (aggOf P t = some false ∧ vs = [v])) :
    SR C ρ M w av v ∧ (∀ id, av.ment id = false) := by
  unfold normAV at h
  split at h
  · rename_i s hs0
    split at h
    · rename_i x hx
      have hr := leaves_rel (ρ := ρ) s x vs (ofLeaves_rep s l x vs hx hl)
      refine ⟨aggAV_rel h hr hv hs, fun id => ?_⟩
      unfold aggAV at h
      split at h
      · obtain rfl := Option.some.inj h
        simp only [AV.ment, AV.ment2, List.any_eq_false]
        intro y hy; simp [leaves_ment s x id y hy]
      · rename_i y _ hy
        obtain rfl := Option.some.inj h
        have := leaves_ment s x id y (by rw [hy]; exact List.mem_cons_self)
        have hok := leaves_ok s x y (by rw [hy]; exact List.mem_cons_self)
        cases y <;> first | exact this | (simp [okLeaf] at hok)
      · cases h
    · cases h
  · cases h
theorem aggFit_vr (h1 : ∀ id, (ρ id).oneCell' = true) (hb : ∀ n, n < C.N → (C.β n).oneCell' = true) {t : TypeId} {x : AV} {v : Value} (hf : aggFit P t x = true) (hx : VR C ρ M w x v) :
    ∃ cs : List Value, v.cells = cs.toArray ∧ All2 (LR C ρ M w) x.lv cs ∧ ((∃ y, aggOf P t = some true ∧ v = .agg y) ∨ (aggOf P t = some false ∧ cs = [v])) := by
  unfold aggFit at hf
  cases hagg : aggOf P t with
  | none => rw [hagg] at hf; cases hf
  | some b =>
    rw [hagg] at hf
    cases b with
    | true =>
      cases x <;> first | (cases hf; done) | skip
      obtain ⟨cs, rfl, h2⟩ := hx.ag
      exact ⟨cs, rfl, h2, .inl ⟨_, rfl, rfl⟩⟩
    | false =>
      have hf' : okLeaf x = true := by cases x <;> exact hf
      have hl := hx.toLR hf'
      have hlv : x.lv = [x] := by cases x <;> first | rfl | simp [okLeaf] at hf'
      exact ⟨[v], cells_one (hl.one hf' hb fun id _ => h1 id), by rw [hlv]; exact .cons hl .nil, .inr ⟨rfl, rfl⟩⟩
theorem normArgD_ok (h : Rel C M0 w0 sl rs ρ F a w) {t : TypeId} {x y : AV} {ws : Ws} {s r s1 r1 : List Nat} {v : Value} (he : ev sl rs (normArgD P T t x) s r = some ((y, ws), s1, r1)) (hx : VR C ρ (Mof M0 rs F) w x v) :
    FreezeWs rs ws ∧ (∀ id, y.ment id = false) ∧ ∀ us, FreezeWs rs us → (∀ id q, get ws id = some q → (get us id).isSome) → SR C ρ (Mof M0 (updR rs us) (fzF F us)) w y v := by
  unfold normArgD at he
  split at he
  · rename_i hf
    obtain ⟨⟨l, w1⟩, s2, r2, h1, h2⟩ := ev_bind _ _ _ _ _ he
    obtain ⟨y', s3, r3, h3, h4⟩ := ev_bind _ _ _ _ _ h2
    have := ev_ret h4
    simp only [Prod.mk.injEq] at this
    obtain ⟨⟨rfl, rfl⟩, _, _⟩ := this
    obtain ⟨y'', h5, h6⟩ := ev_ofO h3
    simp only [Prod.mk.injEq] at h6
    obtain ⟨rfl, _, _⟩ := h6
    obtain ⟨cs, hv, hl, hs⟩ := aggFit_vr h.one h.bone hf hx
    obtain ⟨z1, f1⟩ := dataLs_ok h h1 hl
    have hm : ∀ id, y.ment id = false := by
      have := f1 ws z1 (fun id q hq => by simp [hq])
      exact (normAV_rel h5 this hv hs).2
    exact ⟨z1, hm, fun us hz hus => (normAV_rel h5 (f1 us hz hus) hv hs).1⟩
  · simp [ev] at he
theorem normArg_ok (h : Rel C M0 w0 sl rs ρ F a w) {t : TypeId} {x y : AV} {ws : Ws} {s r s1 r1 : List Nat} {v : Value} (he : ev sl rs (normArg P T t x) s r = some ((y, ws), s1, r1)) (hx : VR C ρ (Mof M0 rs F) w x v) :
    FreezeWs rs ws ∧ (∀ id, y.ment id = false) ∧ ∀ us, FreezeWs rs us → (∀ id q, get ws id = some q → (get us id).isSome) → SR C ρ (Mof M0 (updR rs us) (fzF F us)) w y v := by
  unfold normArg at he
  split at he
  · have := ev_ret he
    simp only [Prod.mk.injEq] at this
    obtain ⟨⟨rfl, rfl⟩, _, _⟩ := this
    exact ⟨FreezeWs.nil, fun _ => rfl, fun _ _ _ => hx⟩
  · exact normArgD_ok h he hx
theorem normArgs_ok (h : Rel C M0 w0 sl rs ρ F a w) : ∀ {ts : List TypeId} {xs ys : List AV} {ws : Ws} {s r s1 r1 : List Nat} {vs : List Value}, ev sl rs (normArgs P T ts xs) s r = some ((ys, ws), s1, r1) → All2 (VR C ρ (Mof M0 rs F) w) xs vs →
    FreezeWs rs ws ∧ (∀ y ∈ ys, ∀ id, y.ment id = false) ∧ ∀ us, FreezeWs rs us → (∀ id q, get ws id = some q → (get us id).isSome) → All2 (SR C ρ (Mof M0 (updR rs us) (fzF F us)) w) ys vs
  | [], [], ys, ws, s, r, s1, r1, vs, he, hx => by
    simp only [normArgs] at he
    have := ev_ret he
    simp only [Prod.mk.injEq] at this
    obtain ⟨⟨rfl, rfl⟩, _, _⟩ := this
    cases hx
    exact ⟨FreezeWs.nil, fun _ hy => by simp at hy, fun _ _ _ => .nil⟩
  | [], _ :: _, _, _, _, _, _, _, _, he, _ => by simp [normArgs, ev] at he
  | _ :: _, [], _, _, _, _, _, _, _, he, _ => by simp [normArgs, ev] at he
  | t :: ts, x :: xs, ys, ws, s, r, s1, r1, vs, he, hx => by
    simp only [normArgs] at he
    obtain ⟨⟨y, w1⟩, s2, r2, h1, h2⟩ := ev_bind _ _ _ _ _ he
    obtain ⟨⟨l, w2⟩, s3, r3, h3, h4⟩ := ev_bind _ _ _ _ _ h2
    have := ev_ret h4
    simp only [Prod.mk.injEq] at this
    obtain ⟨⟨rfl, rfl⟩, _, _⟩ := this
    cases hx with
    | cons hx hxs =>
      obtain ⟨z1, m1, f1⟩ := normArg_ok h h1 hx
      obtain ⟨z2, m2, f2⟩ := normArgs_ok h h3 hxs
      refine ⟨z1.append z2, ?_, fun us hz hus => .cons (f1 us hz fun id q hq => hus id q ?_) (f2 us hz fun id q hq => ?_)⟩
      · intro z hz
        rcases List.mem_cons.1 hz with rfl | hz
        · exact m1
        · exact m2 z hz
      · rw [get_append, hq]
      · cases hw : get w1 id with
        | some q' => exact hus id q' (by rw [get_append, hw])
        | none => exact hus id q (by rw [get_append, hw, hq])
theorem opds_rel (h : Rel (T.cf β N M0.L) M0 w0 sl rs ρ F a w) : ∀ {xs : List Operand} {s r s1 r1 : List Nat} {avs : List AV}, ev sl rs (opds xs) s r = some (avs, s1, r1) → All2 (VR (T.cf β N M0.L) ρ (Mof M0 rs F) w) avs (xs.map a.eval)
  | [], _, _, _, _, _, he => by
    simp only [opds] at he
    have := ev_ret he
    simp only [Prod.mk.injEq] at this
    obtain ⟨rfl, _, _⟩ := this
    exact .nil
  | x :: xs, _, _, _, _, _, he => by
    simp only [opds] at he
    obtain ⟨y, s2, r2, h1, h2⟩ := ev_bind _ _ _ _ _ he
    obtain ⟨l, s3, r3, h3, h4⟩ := ev_bind _ _ _ _ _ h2
    have := ev_ret h4
    simp only [Prod.mk.injEq] at this
    obtain ⟨rfl, _, _⟩ := this
    exact .cons (opd_rel h h1) (opds_rel h h3)
theorem pure_ment1 {x : AV} (h : x.pure1 = true) (id : Nat) : x.ment1 id = false := by cases x <;> first | rfl | simp [AV.pure1] at h
theorem pure_ment2 {x : AV} (h : x.pure2 = true) (id : Nat) : x.ment2 id = false := by
  cases x <;> first | rfl | (simp [AV.pure2, AV.pure1] at h; done) | skip
  all_goals
    simp only [AV.ment2, List.any_eq_false]
    intro y hy
    simp [pure_ment1 (List.all_eq_true.1 h y hy) id]
theorem pure_ment {x : AV} (h : x.pure = true) (id : Nat) : x.ment id = false := by
  cases x <;> first | rfl | (simp [AV.pure, AV.pure2, AV.pure1] at h; done) | skip
  · exact pure_ment2 (x := .ag _) h id
  rotate_right
  · rename_i f l; exact pure_ment2 (x := .fnc f l) h id
  · simp only [AV.ment, List.any_eq_false]
    intro y hy
    simp [pure_ment2 (List.all_eq_true.1 h y hy) id]
  · simp only [AV.ment, List.any_eq_false]
    intro y hy
    simp [pure_ment2 (List.all_eq_true.1 h y hy) id]
end
def Contract0 (P : Program) (C : Cfg) (g : Nat) (args : List AV) (res : AV) : Prop :=
  ∀ (M : Nat → Prop) (w : World) (vs : List Value), (∀ k, M k → k < w.heap.size) → Glob C M w → All2 (SR C (fun _ => .nilIface) M w) args vs →
    Calls P g vs.toArray w fun e w' => ∃ v, e = .returned v ∧ VR C (fun _ => .nilIface) M w' res v ∧ KeepS (fun _ => False) w w'
def outV : AV → AV
  | .outs v _ _ => unrow 8000 v
  | v => v
def outO (ws : Ws) (o : AV) : Ws := match get ws 7000 with
  | some _ => outWs 7000 o
  | none => []
def outH (ws : Ws) (H : List Node) : Ws := match get ws REG with
  | some (some (.reg lk _ _)) => [(REG, some (.reg lk [] H))]
  | _ => []
def outRow (v : AV) : Ws := match rowOf v with
  | [r] => [(8000, some r)]
  | _ => []
def outW (ws : Ws) : AV → Ws
  | .outs v o H => outRow v ++ outO ws o ++ outH ws H
  | _ => []
def Contract (P : Program) (C : Cfg) (g : Nat) (args : List AV) (res : AV) : Prop :=
  ∀ (B : Base) (w : World) (ρ : Nat → Value) (F : Nat → Nat → Prop) (vs : List Value),
    Mem ((C.at B.b0 B.n0).lk B.L) B w (getR (inArgs args).2) ρ F w → All2 (VR ((C.at B.b0 B.n0).lk B.L) ρ (Mof B (getR (inArgs args).2) F) w) (inArgs args).1 vs →
    Calls P g vs.toArray w fun e w' => ∃ v b n ρ' F', e = .returned v ∧ VR ((C.at b n).lk B.L) ρ' (Mof B (getR (outW (inArgs args).2 res)) F') w' (outV res) v ∧ Mem ((C.at b n).lk B.L) B w (getR (outW (inArgs args).2 res)) ρ' F' w'
def SpecOk (P : Program) (C : Cfg) (g : Nat) (sp : Spec) : Prop := ∀ args res, sp args = some res → Contract P C g args res
def CSpecOk (P : Program) (C : Cfg) (g : Nat) (sp : CSpec) : Prop := ∀ args res, (sp.f args).get = some res → Contract P C g args res
theorem SpecOk.tree {P : Program} {C : Cfg} {g : Nat} {sp : Spec} (h : SpecOk P C g sp) : CSpecOk P C g sp := by
  intro args res hr
  cases hs : sp args with
  | none => simp [hs, Tree.get] at hr
  | some r => rw [show r = res by simpa [hs, Tree.get] using hr] at hs; exact h args res hs
end Go.Pev
/- The pure evaluator, part I: the operations, one by one (1). Own text, over any program. -/
namespace Go.Pev
structure NewOk (sl : Nat → Option AV) (rs : Nat → Option RS) (dst : Option Nat) (ws : Ws) : Prop where
  ok0 : ∀ d st, dst = some d → get ws d = some (some st) → Fresh sl rs d ∧ (st = .tok ∨ (Ws.ment d ws = false ∧ st.ment d = false))
theorem NewOk.ok {sl : Nat → Option AV} {rs : Nat → Option RS} {dst : Option Nat} {ws : Ws} (h : NewOk sl rs dst ws) (d : Nat) (st : RS) (h1 : dst = some d) (h2 : get ws d = some (some st)) (hne : st ≠ .tok := by (intro h; cases h)) : Fresh sl rs d ∧ Ws.ment d ws = false ∧ st.ment d = false := by
  obtain ⟨h3, h4⟩ := h.ok0 d st h1 h2
  exact ⟨h3, h4.resolve_left hne⟩
section
variable {P : Program} {T : Tabs} {M0 : Base} {β : Nat → Value} {N : Nat} {w0 : World} {sl : Nat → Option AV} {rs : Nat → Option RS} {ρ : Nat → Value} {F : Nat → Nat → Prop} {a : Act} {w : World} {o : Oper} {out : Out} {s r s1 r1 : List Nat}
abbrev Goal (P : Program) (T : Tabs) (M0 : Base) (w0 : World) (sl : Nat → Option AV) (rs : Nat → Option RS) (a : Act) (w : World) (o : Oper) (out : Out) : Prop :=
  OpRuns P a o w fun v w' => RelE T M0 w0 (updS sl o.dst out.v) (updR rs out.ws) (a.put o.dst v) w'
theorem ret_out {av : AV} (he : ev sl rs (.ret (⟨av, []⟩ : Out)) s r = some (out, s1, r1)) : out = ⟨av, []⟩ := by
  have := ev_ret he
  simp only [Prod.mk.injEq] at this
  exact this.1
theorem ok_move (h : Rel (T.cf β N M0.L) M0 w0 sl rs ρ F a w) (hd : ∀ d, o.dst = some d → d < a.tmps.size) {x : Operand} (hop : o.op = .move x ∨ o.op = .assign x) (he : ev sl rs ((opd x).bind fun v => .ret (⟨v, []⟩ : Out)) s r = some (out, s1, r1)) : Goal P T M0 w0 sl rs a w o out := by
  obtain ⟨v, s2, r2, h1, h2⟩ := ev_bind _ _ _ _ _ he
  obtain rfl := ret_out h2
  refine runs_value h hd (v := a.eval x) ?_ (opd_rel h h1)
  rcases hop with hop | hop <;> simp [execOp, hop]
theorem ok_pick (h : Rel (T.cf β N M0.L) M0 w0 sl rs ρ F a w) (hd : ∀ d, o.dst = some d → d < a.tmps.size) {c x y : Operand} (hop : o.op = .pick c x y) (he : ev sl rs (step P T o) s r = some (out, s1, r1)) : Goal P T M0 w0 sl rs a w o out := by
  simp only [step, hop] at he
  obtain ⟨v, s2, r2, h1, h2⟩ := ev_bind _ _ _ _ _ he
  cases v <;> simp only [ev, reduceCtorEq] at h2
  rename_i b
  have hc := opd_rel h h1
  simp only [VR, SR, LR] at hc
  cases b with
  | true =>
    obtain ⟨v, s3, r3, h3, h4⟩ := ev_bind _ _ _ _ _ h2
    obtain rfl := ret_out h4
    exact runs_value h hd (v := a.eval x) (by simp [execOp, hop, hc, asBool]) (opd_rel h h3)
  | false =>
    obtain ⟨v, s3, r3, h3, h4⟩ := ev_bind _ _ _ _ _ h2
    obtain rfl := ret_out h4
    exact runs_value h hd (v := a.eval y) (by simp [execOp, hop, hc, asBool]) (opd_rel h h3)
theorem box_res {t : TypeId} {l : List AV} {cs : List Value} (hl : All2 (LR (T.cf β N M0.L) ρ (Mof M0 rs F) w) l cs) (hok : ∀ x ∈ l, okLeaf x = true) {d : Nat} {ρ' : Nat → Value} {M' : Nat → Prop} (h1 : ρ' d = .pointer (some ⟨w.heap.size, 0, none⟩))
    (h2 : ∀ id, RS.ment id (.box t l) = true → ρ' id = ρ id) (h3 : ∀ k, M' k → k < w.heap.size → Mof M0 rs F k) : ResOk (T.cf β N M0.L) ρ' M' (w.alloc (.cells cs.toArray t)) d (fun k => k = w.heap.size) (.box t l) :=
  ⟨w.heap.size, cs.toArray, h1, fun _ => Iff.rfl, heap_alloc_new w _, LRs.step hl ((KeepS.alloc w _).mono fun _ _ g => g.elim) h3 h2, hok⟩
theorem ok_alloc (hf : Fit P T) (h : Rel (T.cf β N M0.L) M0 w0 sl rs ρ F a w) (hd : ∀ d, o.dst = some d → d < a.tmps.size) {t : TypeId} (hop : o.op = .alloc t) (hob : T.objs.any (Nat.beq t) = false) (he : ev sl rs (step P T o) s r = some (out, s1, r1)) (hnew : NewOk sl rs o.dst out.ws) : Goal P T M0 w0 sl rs a w o out := by
  simp only [step, hop, hob] at he
  split at he <;> try (simp [ev] at he; done)
  rename_i st hst
  split at he <;> try (simp [ev] at he; done)
  rename_i d hdst
  have := ev_ret he
  simp only [Prod.mk.injEq] at this
  obtain ⟨rfl, _, _⟩ := this
  obtain ⟨i, z, hi, hsz, hz, hzc⟩ := (hf.tys.get hst).info
  obtain ⟨hfr, _, hm⟩ := hnew.ok d _ hdst (by rw [get_single, if_pos rfl])
  refine runs_new h hdst (hd d hdst) hfr (.box t (zleaves st)) (.ref d 0) (.pointer (some ⟨w.heap.size, 0, none⟩)) (.cells (zeroCells st).toArray t) ?_ rfl (.inl rfl) (fun _ => rfl) (fun ρ' M' e1 e2 e3 => box_res (rs := rs) (zleaves_rel st) (zleaves_ok st) e1 e2 e3) hm
  simp [execOp, hop, Instr.alloc, zeroValue, typeInfo, hi, hz, newVar, newRow, hzc]
theorem ok_box (h : Rel (T.cf β N M0.L) M0 w0 sl rs ρ F a w) (hd : ∀ d, o.dst = some d → d < a.tmps.size) {t : TypeId} {x : Operand} (hop : o.op = .box t x) (hob : T.objs.any (Nat.beq t) = false) (hcb : T.caps.any (Nat.beq t) = false) (he : ev sl rs (step P T o) s r = some (out, s1, r1)) (hnew : NewOk sl rs o.dst out.ws) : Goal P T M0 w0 sl rs a w o out := by
  simp only [step, hop, hob, hcb] at he
  obtain ⟨v, s2, r2, h1, h2⟩ := ev_bind _ _ _ _ _ he
  have hx := opd_rel h h1
  split at h2 <;> try (simp [ev] at h2; done)
  · rename_i st l hst hagg
    split at h2 <;> try (simp [ev] at h2; done)
    split at h2 <;> try (simp [ev] at h2; done)
    rename_i hlen _ d hdst
    have := ev_ret h2
    simp only [Prod.mk.injEq] at this
    obtain ⟨rfl, _, _⟩ := this
    obtain ⟨cs, hv, hl⟩ := hx.ag
    obtain ⟨hfr, _, hm⟩ := hnew.ok d _ hdst (by rw [get_single, if_pos rfl])
    refine runs_new h hdst (hd d hdst) hfr (.box t l) (.ref d 0) (.pointer (some ⟨w.heap.size, 0, none⟩)) (.cells cs.toArray t) ?_ rfl (.inl rfl) (fun _ => rfl) (fun ρ' M' e1 e2 e3 => box_res (rs := rs) hl (List.all_eq_true.1 hlen.2) e1 e2 e3) hm
    simp [execOp, hop, Instr.box, newVar, newRow, hv, Value.cells]
  · rename_i st v hst hagg
    split at h2 <;> try (simp [ev] at h2; done)
    split at h2 <;> try (simp [ev] at h2; done)
    rename_i hok _ d hdst
    have := ev_ret h2
    simp only [Prod.mk.injEq] at this
    obtain ⟨rfl, _, _⟩ := this
    have hl := hx.toLR hok.2
    obtain ⟨hfr, _, hm⟩ := hnew.ok d _ hdst (by rw [get_single, if_pos rfl])
    refine runs_new h hdst (hd d hdst) hfr (.box t [_]) (.ref d 0) (.pointer (some ⟨w.heap.size, 0, none⟩)) (.cells #[a.eval x] t) ?_ rfl (.inl rfl) (fun _ => rfl) (fun ρ' M' e1 e2 e3 => box_res (rs := rs) (cs := [a.eval x]) (.cons hl .nil) (by intro y hy; rw [List.mem_singleton.1 hy]; exact hok.2) e1 e2 e3) hm
    have hc := cells_one (hl.one hok.2 h.bone fun id _ => h.one id)
    simp [execOp, hop, Instr.box, newVar, newRow, hc]
theorem ok_load (hf : Fit P T) (h : Rel (T.cf β N M0.L) M0 w0 sl rs ρ F a w) (hd : ∀ d, o.dst = some d → d < a.tmps.size) {t : TypeId} {x : Operand} (hop : o.op = .load t x) (kR : ∀ st av s r, get T.shs t = some st → VR (T.cf β N M0.L) ρ (Mof M0 rs F) w av (a.eval x) → ev sl rs (loadR P T t st av) s r = some (out, s1, r1) → Goal P T M0 w0 sl rs a w o out)
    (he : ev sl rs (step P T o) s r = some (out, s1, r1)) : Goal P T M0 w0 sl rs a w o out := by
  simp only [step, hop] at he
  split at he <;> try (simp [ev] at he; done)
  rename_i st hst
  have hty := hf.tys.get hst
  obtain ⟨v, s2, r2, h1, h2⟩ := ev_bind _ _ _ _ _ he
  have hx := opd_rel h h1
  have fin : ∀ {l : List AV} {vs : List Value} {p : Addr} {off : Nat} {s4 r4 : List Nat}, All2 (LR (T.cf β N M0.L) ρ (Mof M0 rs F) w) l vs → (∀ (j : Nat) (u : Value), vs[j]? = some u → w.cell? (p.add j) = some u) → a.eval x = .pointer (some (p.add off)) →
      ev sl rs ((Rd.ofO (loadAV P t st.sz l off)).bind fun v => .ret (⟨v, []⟩ : Out)) s4 r4 = some (out, s1, r1) → Goal P T M0 w0 sl rs a w o out := by
    intro l vs p off s4 r4 hl hc hp hev
    obtain ⟨av, s5, r5, h5, h6⟩ := ev_bind _ _ _ _ _ hev
    obtain ⟨av', e1, e2⟩ := ev_ofO h5
    simp only [Prod.mk.injEq] at e2
    obtain ⟨rfl, _, _⟩ := e2
    obtain rfl := ret_out h6
    obtain ⟨v, g1, g2⟩ := load_ok hty hl p off hc e1
    exact runs_value h hd (v := v) (by simp [execOp, hop, hp, g1]) g2
  split at h2 <;> try (simp [ev] at h2; done)
  · rename_i id off
    obtain ⟨q, h3, h4⟩ := ev_res h2
    split at h4 <;> try (simp [ev] at h4; done)
    rename_i t' cs
    obtain ⟨b, cells, e1, e2, e3, e4, e5⟩ := h.res id _ h3
    simp only [VR, SR, LR] at hx
    obtain ⟨b', e6, e7⟩ := hx
    rw [e1] at e6
    obtain rfl : b = b' := by simpa using e6
    refine fin e4 (p := ⟨b, 0, none⟩) (off := off) (fun j u hj => ?_) (by rw [e7, addr_at]) h4
    rw [addr_at]
    simp only [World.cell?, e3, Option.isSome_none, Bool.false_eq_true, if_false]
    simpa using hj
  · rename_i s0 x0 off
    simp only [VR, SR, LR] at hx
    obtain ⟨ad, cs, e1, e2, e3⟩ := hx
    exact fin (l := leaves s0 x0) (vs := cs) (p := ad) (off := off) (leaves_rel s0 x0 cs e2) e3.now e1 h2
  · rename_i id sz i off
    obtain ⟨q, h3, h4⟩ := ev_res h2
    split at h4 <;> try (simp [ev] at h4; done)
    rename_i e0 s0 l0
    split at h4 <;> try (simp [ev] at h4; done)
    rename_i hsz
    obtain ⟨b1, h5⟩ := ev_br h4
    obtain ⟨b2, h6⟩ := ev_br h5
    simp only [VR, SR, LR] at hx
    obtain ⟨g, n, c, e1, e2⟩ := hx
    obtain ⟨css, ⟨hlen, hown⟩, hF, hel⟩ := h.res id _ h3
    have hi : i.toNat < l0.length := by simp at b1 b2; omega
    obtain ⟨cs, f1, f2⟩ := row_cells hel (i := i.toNat) (List.getElem?_eq_getElem hi)
    have hgi : getI l0 i s0.dflt = l0[i.toNat] := by simp [getI, hi]
    rw [hgi] at h6
    subst hsz
    refine fin (l := leaves s0 l0[i.toNat]) (vs := cs) (p := ⟨g, i.toNat * s0.sz, none⟩) (off := off) (leaves_rel s0 _ cs f1) (fun j u hj => ?_) ?_ h6
    · have hk := f2 j u hj
      rcases hown with ⟨hv, hn⟩ | ⟨g', cap, cur, hv, _, hg, hnc, _, hcs, htake⟩
      · omega
      · rw [e1] at hv
        obtain ⟨rfl, _⟩ : g = g' ∧ _ := by simpa using hv
        rw [← htake, List.getElem?_take] at hk
        split at hk
        · have ha : ((⟨g, i.toNat * s0.sz, none⟩ : Addr).add j) = ⟨g, i.toNat * s0.sz + j, none⟩ := by rw [← addr_at, addr_add, addr_at]
          rw [ha]
          simp only [World.cell?, hg, Option.isSome_none, Bool.false_eq_true, if_false]
          simpa using hk
        · cases hk
    · rw [e2, ← addr_at g (i.toNat * s0.sz), addr_add, addr_at]
  · exact kR _ _ _ _ hst hx h2
end
end Go.Pev
/- The pure evaluator, part J: the operations, one by one (2). Own text, over any program. -/
namespace Go.Pev
section
variable {P : Program} {T : Tabs} {M0 : Base} {β : Nat → Value} {N : Nat} {w0 : World} {sl : Nat → Option AV} {rs : Nat → Option RS} {ρ : Nat → Value} {F : Nat → Nat → Prop} {a : Act} {w : World} {o : Oper} {out : Out} {s r s1 r1 : List Nat}
theorem ok_nilCheck (h : Rel (T.cf β N M0.L) M0 w0 sl rs ρ F a w) (hd : ∀ d, o.dst = some d → d < a.tmps.size) {x : Operand} (hop : o.op = .nilCheck x) (kR : ∀ av s r, VR (T.cf β N M0.L) ρ (Mof M0 rs F) w av (a.eval x) → ev sl rs (nilR av) s r = some (out, s1, r1) → Goal P T M0 w0 sl rs a w o out) (he : ev sl rs (step P T o) s r = some (out, s1, r1)) : Goal P T M0 w0 sl rs a w o out := by
  simp only [step, hop] at he
  obtain ⟨v, s2, r2, h1, h2⟩ := ev_bind _ _ _ _ _ he
  have hx := opd_rel h h1
  split at h2 <;> try (simp [ev] at h2; done)
  iterate 3
    rotate_left
  · rename_i st y
    cases y with
    | none => cases h2
    | some y =>
      replace h2 : ev sl rs (.ret (⟨.elt st y 0, []⟩ : Out)) s2 r2 = some (out, s1, r1) := h2
      obtain rfl := ret_out h2
      simp only [VR, SR, LR, RR, List.cons.injEq, and_true] at hx
      rcases hx with ⟨hx, _⟩ | ⟨z, ad, ys, hz, e, h1, h2⟩
      · cases hx
      · obtain rfl := Option.some.inj hz
        refine runs_value h hd (v := a.eval x) (by simp [execOp, hop, e]) ⟨ad, ys, by rw [add_zero']; exact e, h1, h2⟩
  · exact kR _ _ _ hx h2
  all_goals
    obtain rfl := ret_out h2
    refine runs_value h hd (v := a.eval x) ?_ hx
    simp only [VR, SR, LR] at hx
  · obtain ⟨b, _, e⟩ := hx; simp [execOp, hop, e]
  · obtain ⟨ad, cs, e, _⟩ := hx; simp [execOp, hop, e]
  · obtain ⟨g, n, c, _, e⟩ := hx; simp [execOp, hop, e]
theorem ok_unOp (h : Rel (T.cf β N M0.L) M0 w0 sl rs ρ F a w) (hd : ∀ d, o.dst = some d → d < a.tmps.size) {u : UnOp} {t : TypeId} {x : Operand} (hop : o.op = .unOp u t x) (he : ev sl rs (step P T o) s r = some (out, s1, r1)) : Goal P T M0 w0 sl rs a w o out := by
  simp only [step, hop] at he
  obtain ⟨v, s2, r2, h1, h2⟩ := ev_bind _ _ _ _ _ he
  have hx := opd_rel h h1
  split at h2 <;> try (simp [ev] at h2; done)
  all_goals
    split at h2 <;> try (simp [ev] at h2; done)
    obtain rfl := ret_out h2
    simp only [VR, SR, LR] at hx
  · exact runs_value h hd (v := .bool _) (by simp [execOp, hop, hx, Op.unary]) rfl
  · exact runs_value h hd (v := .int _ _) (by simp [execOp, hop, hx, Op.unary, Op.intArith]) rfl
theorem ok_extract (h : Rel (T.cf β N M0.L) M0 w0 sl rs ρ F a w) (hd : ∀ d, o.dst = some d → d < a.tmps.size) {x : Operand} {i : Nat} (hop : o.op = .extract x i) (he : ev sl rs (step P T o) s r = some (out, s1, r1)) : Goal P T M0 w0 sl rs a w o out := by
  simp only [step, hop] at he
  obtain ⟨v, s2, r2, h1, h2⟩ := ev_bind _ _ _ _ _ he
  have hx := opd_rel h h1
  split at h2 <;> try (simp [ev] at h2; done)
  rename_i l
  obtain ⟨v, s3, r3, h3, h4⟩ := ev_bind _ _ _ _ _ h2
  obtain rfl := ret_out h4
  obtain ⟨v', e1, e2⟩ := ev_ofO h3
  simp only [Prod.mk.injEq] at e2
  obtain ⟨rfl, _, _⟩ := e2
  obtain ⟨vs, e3, e4⟩ : ∃ vs : List Value, a.eval x = .tuple vs.toArray ∧ All2 (SR (T.cf β N M0.L) ρ (Mof M0 rs F) w) l vs := hx
  obtain ⟨u, e5, e6⟩ := e4.get i _ e1
  exact runs_value h hd (v := u) (by simp [execOp, hop, e3, Instr.extract, e5]) e6.toVR
theorem ok_makeInterface (h : Rel (T.cf β N M0.L) M0 w0 sl rs ρ F a w) (hd : ∀ d, o.dst = some d → d < a.tmps.size) {t : TypeId} {x : Operand} (hop : o.op = .makeInterface t x) (hf : Fit P T) (he : ev sl rs (step P T o) s r = some (out, s1, r1)) : Goal P T M0 w0 sl rs a w o out := by
  simp only [step, hop] at he
  obtain ⟨v, s2, r2, h1, h2⟩ := ev_bind _ _ _ _ _ he
  have hx := opd_rel h h1
  split at h2 <;> try (simp [ev] at h2; done)
  · split at h2 <;> try (simp [ev] at h2; done)
    rename_i n ht
    subst ht
    obtain rfl := ret_out h2
    simp only [VR, SR, LR] at hx
    refine runs_value h hd (v := .iface T.errno (.int .i64 n)) ?_ (fun _ _ => rfl)
    simp [execOp, hop, hx, Instr.makeInterface, underlying, hf.errno]
  · rename_i id off
    split at h2 <;> try (simp [ev] at h2; done)
    rename_i hptr
    have hrun : (execOp a.eval o).run P w = .ok (.value (.iface t (a.eval x))) w := by
      unfold isPtrT at hptr
      split at hptr <;> try (cases hptr; done)
      rename_i pt hpt
      simp [execOp, hop, Instr.makeInterface, underlying, hpt]
    simp only [VR, SR, LR] at hx
    obtain ⟨b, hb1, hb2⟩ := hx
    split at h2
    · rename_i htf
      obtain ⟨q, h3, h4⟩ := ev_res h2
      split at h4 <;> try (simp [ev] at h4; done)
      rename_i u k n e
      split at h4 <;> try (simp [ev] at h4; done)
      rename_i huo
      obtain ⟨rfl, rfl⟩ := huo
      match e, h4, h3 with
      | none, h4, h3 => cases h4
      | some e, h4, h3 =>
      replace h4 : ev sl rs (.ret (⟨.err (some ((k, n) :: e.1, e.2)), [(id, none)]⟩ : Out)) _ _ = some _ := h4
      have := ev_ret h4
      simp only [Prod.mk.injEq] at this
      obtain ⟨rfl, _, _⟩ := this
      obtain ⟨b', cells, r1, r2, r3, r4, r5⟩ := h.res id _ h3
      rw [hb1] at r1
      obtain rfl : b = b' := by simpa using r1
      have hsubr : ∀ i st, updR rs [(id, none)] i = some st → rs i = some st := fun i st hi => by
        simp only [updR, get_single] at hi
        by_cases hid : id = i
        · subst hid; simp at hi
        · simpa [hid] using hi
      have h' := h.sub (fun _ _ ht => ht) hsubr
      have hFb : F id b := (r2 b).2 rfl
      have hrng := h.rng id _ b h3 hFb
      have hnM : ¬ Mof M0 (updR rs [(id, none)]) F b := by
        rintro (h0 | ⟨j, st, hj, hF⟩)
        · exact h.notM0 h3 hFb h0
        · by_cases hij : id = j
          · subst hij; simp [updR, get_single] at hj
          · exact h.disj id j _ st b h3 (hsubr j st hj) hij hFb hF
      obtain ⟨c0, c1, c2, hcells, q0, q1, q2⟩ : ∃ c0 c1 c2, cells.toList = [c0, c1, c2] ∧ c0 = .int .i64 k ∧ c1 = .int .i64 n ∧ LR (T.cf β N M0.L) ρ (Mof M0 rs F) w (.err (some e)) c2 := by
        generalize cells.toList = cl at r4
        cases r4 with | cons a1 t1 => cases t1 with | cons a2 t2 => cases t2 with | cons a3 t3 => cases t3; exact ⟨_, _, _, rfl, a1, a2, a3⟩
      have hce : cells = #[.int .i64 k, .int .i64 n, c2] := by apply Array.ext'; rw [hcells, q0, q1]
      refine .inl ⟨_, w, hrun, ρ, F, β, N, h'.put o.dst hd _ _ ?_⟩
      simp only [VR, SR, LR] at q2 ⊢
      intro w' hw'
      refine ⟨b, c2, by rw [hb2, htf], ?_, ?_⟩
      · rw [hw'.block b hrng.2 hnM, r3, hce]
      · have hsub2 : ∀ k, Mof M0 (updR rs [(id, none)]) F k → k < w.heap.size → Mof M0 rs F k := by
          rintro k (h0 | ⟨j, st, hj, hF⟩) _
          · exact .inl h0
          · exact .inr ⟨j, st, hsubr j st hj, hF⟩
        obtain ⟨ps, c⟩ := e
        exact q2 w' (hw'.mono fun i hi g => hsub2 i g hi)
    · split at h2 <;> try (simp [ev] at h2; done)
      obtain rfl := ret_out h2
      refine runs_value h hd (v := .iface t (a.eval x)) hrun ?_
      simp only [VR, SR, LR]
      exact ⟨b, hb1, by rw [hb2]⟩
theorem fieldOf_spec {t : TypeId} {j off : Nat} {ft : TypeId} (h : fieldOf P t j = some (off, ft)) : ∃ fs f, P.underlying t = some (.struct fs) ∧ fs[j]? = some f ∧ f.offset = off ∧ f.type = ft := by
  unfold fieldOf at h
  split at h
  · rename_i fs hfs
    cases hj : fs[j]? with
    | none => simp [hj] at h
    | some f => simp only [hj, Option.map_some, Option.some.injEq, Prod.mk.injEq] at h; exact ⟨fs, f, hfs, hj, h.1, h.2⟩
  · cases h
theorem run_fieldAt {ft : TypeId} (hz : ∃ st, TyOk P ft st) {t : TypeId} {j off : Nat} (hf : fieldOf P t j = some (off, ft)) (ad : Addr) : (Instr.fieldAt t (.pointer (some ad)) j).run P w = .ok (.pointer (some (ad.add off))) w := by
  obtain ⟨fs, f, e1, e2, e3, e4⟩ := fieldOf_spec hf
  obtain ⟨st, hst⟩ := hz
  obtain ⟨i, z, hi, hsz, _⟩ := hst.info
  have : i.size ≠ 0 := by rw [hsz]; have := st.sz_pos; omega
  simp [Instr.fieldAt, underlying, e1, e2, Instr.sureAddr, fieldPlace, sizeOf, typeInfo, e4, hi, this, e3]
theorem ok_fieldAddr (hf : Fit P T) (h : Rel (T.cf β N M0.L) M0 w0 sl rs ρ F a w) (hd : ∀ d, o.dst = some d → d < a.tmps.size) {t : TypeId} {x : Operand} {j : Nat} (hop : o.op = .fieldAddr t x j) (kR : ∀ off ft av s r, fieldOf P t j = some (off, ft) → (∃ st, TyOk P ft st) → VR (T.cf β N M0.L) ρ (Mof M0 rs F) w av (a.eval x) → ev sl rs (fieldR T t off av) s r = some (out, s1, r1) → Goal P T M0 w0 sl rs a w o out) (he : ev sl rs (step P T o) s r = some (out, s1, r1)) : Goal P T M0 w0 sl rs a w o out := by
  simp only [step, hop] at he
  split at he <;> try (simp [ev] at he; done)
  rename_i off ft hfo
  split at he <;> try (simp [ev] at he; done)
  rename_i st hst
  have hrun := fun ad => run_fieldAt (w := w) ⟨st, hf.tys.get hst⟩ hfo ad
  obtain ⟨v, s2, r2, h1, h2⟩ := ev_bind _ _ _ _ _ he
  have hx := opd_rel h h1
  split at h2 <;> try (simp [ev] at h2; done)
  iterate 3
    rotate_left
  · rename_i s' y
    cases y with
    | none => cases h2
    | some y =>
      replace h2 : ev sl rs (.ret (⟨.elt s' y off, []⟩ : Out)) s2 r2 = some (out, s1, r1) := h2
      obtain rfl := ret_out h2
      simp only [VR, SR, LR, RR, List.cons.injEq, and_true] at hx
      rcases hx with ⟨hx, _⟩ | ⟨z, ad, ys, hz, e, h1, h2⟩
      · cases hx
      · obtain rfl := Option.some.inj hz
        exact runs_value h hd (v := .pointer (some _)) (by simp only [execOp, hop, e, Sem.run_bind, hrun]; rfl) ⟨ad, ys, rfl, h1, h2⟩
  · exact kR _ _ _ _ _ hfo ⟨st, hf.tys.get hst⟩ hx h2
  all_goals obtain rfl := ret_out h2
  · simp only [VR, SR, LR] at hx
    obtain ⟨b, e1, e2⟩ := hx
    refine runs_value h hd (v := .pointer (some _)) (by simp only [execOp, hop, e2, Sem.run_bind, hrun]; rfl) ⟨b, e1, ?_⟩
    rw [← addr_at, addr_add, addr_at]
  · simp only [VR, SR, LR] at hx
    obtain ⟨ad, cs, e1, e2, e3⟩ := hx
    refine runs_value h hd (v := .pointer (some _)) (by simp only [execOp, hop, e1, Sem.run_bind, hrun]; rfl) ⟨ad, cs, ?_, e2, e3⟩
    rw [addr_add]
  · simp only [VR, SR, LR] at hx
    obtain ⟨g, n, c, e1, e2⟩ := hx
    refine runs_value h hd (v := .pointer (some _)) (by simp only [execOp, hop, e2, Sem.run_bind, hrun]; rfl) ⟨g, n, c, e1, ?_⟩
    rw [← addr_at, addr_add, addr_at, Nat.add_assoc]
theorem ok_field (hf : Fit P T) (h : Rel (T.cf β N M0.L) M0 w0 sl rs ρ F a w) (hd : ∀ d, o.dst = some d → d < a.tmps.size) {t : TypeId} {x : Operand} {j : Nat} (hop : o.op = .field t x j) (he : ev sl rs (step P T o) s r = some (out, s1, r1)) : Goal P T M0 w0 sl rs a w o out := by
  simp only [step, hop] at he
  split at he <;> try (simp [ev] at he; done)
  rename_i off ft hfo
  split at he <;> try (simp [ev] at he; done)
  rename_i st hst
  obtain ⟨v, s2, r2, h1, h2⟩ := ev_bind _ _ _ _ _ he
  have hx := opd_rel h h1
  split at h2 <;> try (simp [ev] at h2; done)
  rename_i l
  obtain ⟨v, s3, r3, h3, h4⟩ := ev_bind _ _ _ _ _ h2
  obtain rfl := ret_out h4
  obtain ⟨v', e1, e2⟩ := ev_ofO h3
  simp only [Prod.mk.injEq] at e2
  obtain ⟨rfl, _, _⟩ := e2
  obtain ⟨cs, e3, e4⟩ := hx.ag
  obtain ⟨fs, f, g1, g2, g3, g4⟩ := fieldOf_spec hfo
  obtain ⟨i, z, hi, hsz, _⟩ := (hf.tys.get hst).info
  unfold loadAV at e1
  split at e1
  · rename_i hagg
    split at e1 <;> try (cases e1; done)
    rename_i hle
    obtain rfl := Option.some.inj e1
    refine runs_value h hd (v := .agg ((cs.drop off).take st.sz).toArray) ?_ ⟨_, rfl, (e4.drop off).take st.sz⟩
    simp only [execOp, hop, Instr.field, underlying, g1, g2, e3, asAgg, part, Sem.run_bind, run_program, Result.andThen_ok, Sem.run_pure, g4, aggOf_true hagg, if_true, sizeOf, typeInfo, hi, hsz, g3]
    congr 3
    apply Array.ext'
    simp [List.extract_eq_take_drop]
  · rename_i hagg
    rw [List.head?_drop] at e1
    obtain ⟨u, e5, e6⟩ := e4.get off _ e1
    refine runs_value h hd (v := u) ?_ e6.toVR
    simp [execOp, hop, Instr.field, underlying, g1, g2, e3, asAgg, part, g4, aggOf_false hagg, g3, e5]
  · cases e1
theorem ok_index (h : Rel (T.cf β N M0.L) M0 w0 sl rs ρ F a w) (hd : ∀ d, o.dst = some d → d < a.tmps.size) {t : TypeId} {x i : Operand} (hop : o.op = .index t x i) (he : ev sl rs (step P T o) s r = some (out, s1, r1)) : Goal P T M0 w0 sl rs a w o out := by
  simp only [step, hop] at he
  split at he <;> try (simp [ev] at he; done)
  rename_i hu
  obtain ⟨v, s2, r2, h1, h2⟩ := ev_bind _ _ _ _ _ he
  have hx := opd_rel h h1
  split at h2 <;> try (simp [ev] at h2; done)
  rename_i str
  obtain ⟨vi, s3, r3, h3, h4⟩ := ev_bind _ _ _ _ _ h2
  have hi := opd_rel h h3
  split at h4 <;> try (simp [ev] at h4; done)
  rename_i k n
  obtain ⟨b1, h5⟩ := ev_br h4
  obtain ⟨b2, h6⟩ := ev_br h5
  obtain rfl := ret_out h6
  simp only [decide_eq_true_eq] at b1 b2
  simp only [VR, SR, LR] at hx hi
  have hlt : n.toNat < str.size := by omega
  refine runs_value h hd (v := .int .u8 _) ?_ rfl
  have hl : str.data.toList.getD n.toNat 0 = str[n.toNat] := by
    have h1 : n.toNat < str.data.size := hlt
    have h2 : n.toNat < str.data.toList.length := by simpa using h1
    rw [List.getD_eq_getElem?_getD, List.getElem?_eq_getElem h2]
    rfl
  simp only [execOp, hop, Instr.index, hx, hi, asIntOf, underlying, hu, b1, Sem.run_bind, Sem.run_pure, Result.andThen_ok, run_program, if_true, getElem?_pos str n.toNat hlt, hl]
end
end Go.Pev
/- The pure evaluator, part K: the operations, one by one (3): operators, conversions, slices, indexes, lengths. Own text, over any program. -/
namespace Go.Pev
section
variable {P : Program} {T : Tabs} {M0 : Base} {β : Nat → Value} {N : Nat} {w0 : World} {sl : Nat → Option AV} {rs : Nat → Option RS} {ρ : Nat → Value} {F : Nat → Nat → Prop} {a : Act} {w : World} {o : Oper} {out : Out} {s r s1 r1 : List Nat}
theorem elemOf_spec {t e : TypeId} (h : elemOf' P t = some e) : P.underlying t = some (.slice e) := by
  unfold elemOf' at h
  split at h <;> simp at h
  subst h; assumption
theorem RowR.get {C : Cfg} {M : Nat → Prop} {st : Sh} {A : Option Addr} {x : List st.T} (h : RowR C M w st A x) {i : Nat} (hi : i < x.length) :
    ∃ ad cs, A = some ad ∧ RR C M w st (x[i]) cs ∧ Rob M w (fun w => ∀ j u, cs[j]? = some u → w.cell? ((ad.add (i * st.sz)).add j) = some u) := by
  rcases h with rfl | ⟨ad, css, e1, e2, e3⟩
  · simp at hi
  · obtain ⟨cs, f1, f2⟩ := row_cells e2 (i := i) (List.getElem?_eq_getElem hi)
    refine ⟨ad, cs, e1, f1, fun w' hw j u hj => ?_⟩
    rw [addr_add]
    exact e3 w' hw _ _ (f2 j u hj)
theorem run_indexAt {t e : TypeId} {st : Sh} (he : elemOf' P t = some e) (ht : TyOk P e st) (ad : Addr) (n c : Nat) (k : IntKind) (i : Int) (h0 : 0 ≤ i) (h1 : i < n) :
    (Instr.indexAt t (.slice (some ad) n c) (.int k i)).run P w = .ok (.pointer (some (ad.add (i.toNat * st.sz)))) w := by
  obtain ⟨ti, z, hi, hsz, _⟩ := ht.info
  simp [Instr.indexAt, asIntOf, underlying, elemOf_spec he, h0, h1, sizeOf, typeInfo, hi, hsz]
theorem ok_indexAddr (hf : Fit P T) (h : Rel (T.cf β N M0.L) M0 w0 sl rs ρ F a w) (hd : ∀ d, o.dst = some d → d < a.tmps.size) {t : TypeId} {x i : Operand} (hop : o.op = .indexAddr t x i) (kR : ∀ e st k n av s r, elemOf' P t = some e → get T.shs e = some st → a.eval i = .int k n → VR (T.cf β N M0.L) ρ (Mof M0 rs F) w av (a.eval x) → ev sl rs (indexR e st n av) s r = some (out, s1, r1) → Goal P T M0 w0 sl rs a w o out) (he : ev sl rs (step P T o) s r = some (out, s1, r1)) : Goal P T M0 w0 sl rs a w o out := by
  simp only [step, hop] at he
  split at he <;> try (simp [ev] at he; done)
  rename_i e hel
  split at he <;> try (simp [ev] at he; done)
  rename_i st hst
  obtain ⟨v, s2, r2, h1, h2⟩ := ev_bind _ _ _ _ _ he
  have hx := opd_rel h h1
  obtain ⟨vi, s3, r3, h3, h4⟩ := ev_bind _ _ _ _ _ h2
  have hi := opd_rel h h3
  split at h4 <;> try (simp [ev] at h4; done)
  rename_i k n
  simp only [VR, SR, LR] at hi
  have fin : ∀ {l : List st.T} {A : Option Addr} {c : Nat} {s4 r4 : List Nat}, a.eval x = .slice A l.length c → RowR (T.cf β N M0.L) (Mof M0 rs F) w st A l →
      ev sl rs (.br (decide (0 ≤ n)) (.br (decide (n < l.length)) (.ret (⟨.elt st (getI l n st.dflt) 0, []⟩ : Out)) .fail) .fail) s4 r4 = some (out, s1, r1) → Goal P T M0 w0 sl rs a w o out := by
    intro l A c s4 r4 hv hR hev
    obtain ⟨b1, h5⟩ := ev_br hev
    obtain ⟨b2, h6⟩ := ev_br h5
    obtain rfl := ret_out h6
    simp only [decide_eq_true_eq] at b1 b2
    have hlt : n.toNat < l.length := by omega
    obtain ⟨ad, cs, rfl, f1, f2⟩ := hR.get hlt
    have hg : getI l n st.dflt = l[n.toNat] := by simp [getI, hlt]
    refine runs_value h hd (v := .pointer (some (ad.add (n.toNat * st.sz)))) ?_ ⟨ad.add (n.toNat * st.sz), cs, rfl, ?_, f2⟩
    · simp only [execOp, hop, hv, hi, Sem.run_bind, run_indexAt hel (hf.tys.get hst) ad _ c k n b1 b2]
      rfl
    · rw [hg]; exact f1
  split at h4 <;> try (simp [ev] at h4; done)
  · rename_i s0 l
    split at h4 <;> try (simp [ev] at h4; done)
    rename_i hs
    subst hs
    simp only [VR, SR, LR] at hx
    obtain ⟨A, c, e1, e2, e3⟩ := hx
    exact fin e1 e3 h4
  · rename_i id
    obtain ⟨q, h5, h6⟩ := ev_res h4
    simp only [VR, SR, LR] at hx
    split at h6 <;> try (simp [ev] at h6; done)
    · rename_i e' s0 l
      split at h6 <;> try (simp [ev] at h6; done)
      rename_i hs
      obtain ⟨rfl, rfl⟩ := hs
      obtain ⟨b1, h7⟩ := ev_br h6
      obtain ⟨b2, h8⟩ := ev_br h7
      obtain rfl := ret_out h8
      simp only [decide_eq_true_eq] at b1 b2
      obtain ⟨css, ⟨hlen, hown⟩, hF, hrr⟩ := h.res id _ h5
      rcases hown with ⟨hv, hn⟩ | ⟨g, cap, cur, hv, _⟩
      · omega
      · have hv2 : a.eval x = .slice (some ⟨g, 0, none⟩) l.length cap := hx.trans hv
        refine runs_value h hd (v := .pointer (some ⟨g, n.toNat * s0.sz, none⟩)) ?_ ⟨g, l.length, cap, hv, rfl⟩
        simp only [execOp, hop, hv2, hi, Sem.run_bind, run_indexAt hel (hf.tys.get hst) ⟨g, 0, none⟩ _ cap k n b1 b2, addr_at]
        rfl
    · rename_i s0 l
      split at h6 <;> try (simp [ev] at h6; done)
      rename_i hs
      subst hs
      obtain ⟨⟨A, c, e1, e2, e3⟩, _⟩ := h.res id _ h5
      exact fin (hx.trans e1) e3 h6
  · exact kR _ _ _ _ _ _ _ hel hst hi hx h4
theorem ok_len (h : Rel (T.cf β N M0.L) M0 w0 sl rs ρ F a w) (hd : ∀ d, o.dst = some d → d < a.tmps.size) {c : Call} (hop : o.op = .call c) (hc : c.callee = .builtin .len) (kR : ∀ x t av s r, c.args = #[x] → c.argTypes = #[t] → VR (T.cf β N M0.L) ρ (Mof M0 rs F) w av (a.eval x) → ev sl rs (lenR P T t av) s r = some (out, s1, r1) → Goal P T M0 w0 sl rs a w o out) (he : ev sl rs (step P T o) s r = some (out, s1, r1)) : Goal P T M0 w0 sl rs a w o out := by
  simp only [step, hop, hc] at he
  split at he <;> try (simp [ev] at he; done)
  rename_i x t hca hct
  have ha : c.args = #[x] := by rw [← Array.toArray_toList (xs := c.args), hca]
  have ht : c.argTypes = #[t] := by rw [← Array.toArray_toList (xs := c.argTypes), hct]
  obtain ⟨v, s2, r2, h1, h2⟩ := ev_bind _ _ _ _ _ he
  have hx := opd_rel h h1
  have fin : ∀ (n : Nat) (A : Option Addr) (cp : Nat) (e : TypeId), a.eval x = .slice A n cp → elemOf' P t = some e → Goal P T M0 w0 sl rs a w o ⟨.int .i64 n, []⟩ := by
    intro n A cp e hv hel
    refine runs_value h hd (v := .int .i64 n) ?_ rfl
    simp [execOp, hop, resolve, hc, ha, ht, invoke, builtin, Builtin.len_, underlying, elemOf_spec hel, hv, goInt]
  split at h2 <;> try (simp [ev] at h2; done)
  · split at h2 <;> try (simp [ev] at h2; done)
    rename_i hu
    obtain rfl := ret_out h2
    simp only [VR, SR, LR] at hx
    refine runs_value h hd (v := .int .i64 _) ?_ rfl
    simp [execOp, hop, resolve, hc, ha, ht, invoke, builtin, Builtin.len_, underlying, hu, hx, goInt]
  · split at h2 <;> try (simp [ev] at h2; done)
    rename_i e hu
    obtain rfl := ret_out h2
    exact fin 0 none 0 e hx hu
  · split at h2 <;> try (simp [ev] at h2; done)
    rename_i e hu
    obtain rfl := ret_out h2
    simp only [VR, SR, LR] at hx
    obtain ⟨A, cp, e1, _⟩ := hx
    exact fin _ A cp e e1 hu
  · obtain ⟨q, h5, h6⟩ := ev_res h2
    simp only [VR, SR, LR] at hx
    split at h6 <;> try (simp [ev] at h6; done)
    · split at h6 <;> try (simp [ev] at h6; done)
      rename_i e hu
      obtain rfl := ret_out h6
      obtain ⟨css, ⟨hlen, hown⟩, _⟩ := h.res _ _ h5
      rcases hown with ⟨hv, hn⟩ | ⟨g, cap, cur, hv, _⟩
      · exact fin _ none 0 e (by rw [hx, hv, hn]) hu
      · exact fin _ _ cap e (hx.trans hv) hu
    · split at h6 <;> try (simp [ev] at h6; done)
      rename_i e hu
      obtain rfl := ret_out h6
      obtain ⟨⟨A, cp, e1, _⟩, _⟩ := h.res _ _ h5
      exact fin _ A cp e (hx.trans e1) hu
  · exact kR _ _ _ _ _ ha ht hx h2
theorem appSrc_ok (h : Rel (T.cf β N M0.L) M0 w0 sl rs ρ F a w) {st : Sh} {x : AV} {v : Value} {l : List st.T} (hx : VR (T.cf β N M0.L) ρ (Mof M0 rs F) w x v) (he : ev sl rs (appSrc st x) s r = some (l, s1, r1)) :
    ∃ A c css, v = .slice A l.length c ∧ All2 (RR (T.cf β N M0.L) (Mof M0 rs F) w st) l css ∧ (A = none → l = []) ∧ ∀ ad, A = some ad → ∀ (j : Nat) (u : Value), css.flatten[j]? = some u → w.cell? (ad.add j) = some u := by
  have rowcase : ∀ {s' : Sh} {l' : List s'.T} {A : Option Addr} {c : Nat}, v = .slice A l'.length c → RowR (T.cf β N M0.L) (Mof M0 rs F) w s' A l' → castL s' st l' = some l →
      ∃ A c css, v = .slice A l.length c ∧ All2 (RR (T.cf β N M0.L) (Mof M0 rs F) w st) l css ∧ (A = none → l = []) ∧ ∀ ad, A = some ad → ∀ (j : Nat) (u : Value), css.flatten[j]? = some u → w.cell? (ad.add j) = some u := by
    intro s' l' A c hv hR hc
    obtain ⟨e, rfl⟩ := castL_some hc
    subst e
    rcases hR with rfl | ⟨ad, css, rfl, e2, e3⟩
    · exact ⟨A, c, [], hv, .nil, fun _ => rfl, fun ad _ j u hj => by simp at hj⟩
    · exact ⟨some ad, c, css, hv, e2, (fun h => by cases h), (fun ad' h' => by obtain rfl := Option.some.inj h'; exact e3.now)⟩
  unfold appSrc at he
  split at he <;> try (simp [ev] at he; done)
  · rename_i id
    simp only [VR, SR, LR] at hx
    obtain ⟨q, h5, h6⟩ := ev_res he
    split at h6 <;> try (simp [ev] at h6; done)
    · rename_i e' s' l'
      obtain ⟨l2, e1, e2⟩ := ev_ofO h6
      simp only [Prod.mk.injEq] at e2
      obtain ⟨rfl, _, _⟩ := e2
      obtain ⟨e, rfl⟩ := castL_some e1
      subst e
      obtain ⟨css, ⟨hlen, hown⟩, hF, hrr⟩ := h.res id _ h5
      rcases hown with ⟨hv, hn⟩ | ⟨g, cap, cur, hv, _, hg, hnc, _, hcs, htake⟩
      · have : l' = [] := List.eq_nil_of_length_eq_zero hn
        subst this
        exact ⟨none, 0, [], by rw [hx, hv]; rfl, .nil, fun _ => rfl, fun ad h' => by cases h'⟩
      · refine ⟨some ⟨g, 0, none⟩, cap, css, hx.trans hv, hrr, (fun h' => by cases h'), fun ad h' j u hj => ?_⟩
        obtain rfl := Option.some.inj h'
        rw [addr_at]
        simp only [World.cell?, hg, Option.isSome_none, Bool.false_eq_true, if_false]
        rw [← htake, List.getElem?_take] at hj
        split at hj
        · simpa using hj
        · cases hj
    · rename_i s' l'
      obtain ⟨l2, e1, e2⟩ := ev_ofO h6
      simp only [Prod.mk.injEq] at e2
      obtain ⟨rfl, _, _⟩ := e2
      obtain ⟨⟨A, c, f1, f2, f3⟩, _⟩ := h.res id _ h5
      exact rowcase (hx.trans f1) f3 e1
  · rename_i s' l'
    obtain ⟨l2, e1, e2⟩ := ev_ofO he
    simp only [Prod.mk.injEq] at e2
    obtain ⟨rfl, _, _⟩ := e2
    simp only [VR, SR, LR] at hx
    obtain ⟨A, c, f1, f2, f3⟩ := hx
    exact rowcase f1 f3 e1
  · have := ev_ret he
    simp only [Prod.mk.injEq] at this
    obtain ⟨rfl, _, _⟩ := this
    simp only [VR, SR, LR] at hx
    exact ⟨none, 0, [], hx, .nil, fun _ => rfl, fun ad h' => by cases h'⟩
theorem u8_css {C : Cfg} {M : Nat → Prop} {w : World} : ∀ {l : List Int} {css : List (List Value)}, All2 (RR C M w (.int .u8)) l css → css.flatten = l.map (Value.int .u8)
  | _, _, .nil => rfl
  | _, _, .cons h t => by simp only [RR] at h; subst h; simp [u8_css t]
theorem ok_convert (h : Rel (T.cf β N M0.L) M0 w0 sl rs ρ F a w) (hd : ∀ d, o.dst = some d → d < a.tmps.size) {src dst : TypeId} {x : Operand} (hop : o.op = .convert src dst x) (he : ev sl rs (step P T o) s r = some (out, s1, r1)) : Goal P T M0 w0 sl rs a w o out := by
  simp only [step, hop] at he
  obtain ⟨v, s2, r2, h1, h2⟩ := ev_bind _ _ _ _ _ he
  have hx := opd_rel h h1
  split at h2
  · split at h2 <;> try (simp [ev] at h2; done)
    rename_i hs hdd
    obtain rfl := ret_out h2
    simp only [VR, SR, LR] at hx
    refine runs_value h hd (v := .int _ _) ?_ rfl
    simp [execOp, hop, hx, convert, underlying, hs, hdd, Conv.intToInt]
  · rename_i b
    split at h2 <;> try (simp [ev] at h2; done)
    · rename_i hs hdd
      obtain rfl := ret_out h2
      simp only [VR, SR, LR] at hx
      refine runs_value h hd (v := .string _) ?_ rfl
      simp [execOp, hop, hx, convert, underlying, hs, hdd]
    · rename_i e hs hdd
      split at h2 <;> try (simp [ev] at h2; done)
      rename_i he8
      obtain rfl := ret_out h2
      simp only [VR, SR, LR] at hx
      have hrun := run_bytes_of_string w src dst e b hs hdd he8
      have hk : KeepS (fun _ => False) w (w.drew.alloc (.cells (bytesRow b (grownCap w b.size 0 e)) e ((bytesRow b (grownCap w b.size 0 e)).size, (bytesRow b (grownCap w b.size 0 e)).size + 1))) := (KeepS.drew w).trans (KeepS.alloc _ _)
      refine .inl ⟨.slice (some ⟨w.heap.size, 0, none⟩) b.size (grownCap w b.size 0 e), w.drew.alloc (.cells (bytesRow b (grownCap w b.size 0 e)) e ((bytesRow b (grownCap w b.size 0 e)).size, (bytesRow b (grownCap w b.size 0 e)).size + 1)), ?_, ρ, F, β, N, ?_⟩
      rotate_left
      · rw [updR_nil]
        refine (h.world hk).put o.dst hd (.sl (.int .u8) (u8s b)) (.slice (some ⟨w.heap.size, 0, none⟩) b.size (grownCap w b.size 0 e)) ?_
        have hul : (u8s b).length = b.size := by simp only [u8s, List.length_map, Array.length_toList]; rfl
        refine ⟨some ⟨w.heap.size, 0, none⟩, grownCap w b.size 0 e, by rw [hul], by rw [hul]; exact grownCap_ge w b.size 0 e, .inr ⟨⟨w.heap.size, 0, none⟩, (u8s b).map fun n => [.int .u8 n], rfl, ?_, ?_⟩⟩
        · generalize u8s b = l
          induction l with
          | nil => exact .nil
          | cons n l ih => exact .cons rfl ih
        · intro w' hw' j u hj
          have hb : w.heap.size < (w.drew.alloc (.cells (bytesRow b (grownCap w b.size 0 e)) e ((bytesRow b (grownCap w b.size 0 e)).size, (bytesRow b (grownCap w b.size 0 e)).size + 1))).heap.size := by simp
          have hnM : ¬ Mof M0 rs F w.heap.size := by
            rintro (h0 | ⟨id, st, hst, hF⟩)
            · have := (h.m0 _ h0).1; have := h.keep.size; omega
            · have := (h.rng id st _ hst hF).2; omega
          rw [addr_at]
          have hheap := (hw'.block w.heap.size hb hnM).trans (heap_alloc_new w.drew _)
          simp only [World.cell?, hheap, Option.isSome_none, Bool.false_eq_true, if_false]
          have hfl : ((u8s b).map fun n => [Value.int .u8 n]).flatten = (u8s b).map (Value.int .u8) := by
            generalize u8s b = l
            induction l with
            | nil => rfl
            | cons n l ih => simp [ih]
          rw [hfl] at hj
          have hlt : j < b.size := by
            rw [← hul]
            have := (List.getElem?_eq_some_iff.1 hj).1
            simpa using this
          have hlt' : j < b.data.size := hlt
          simp only [bytesRow]
          rw [Array.getElem?_append_left (by simpa using hlt')]
          simp only [u8s, List.map_map, List.getElem?_map] at hj
          simpa using hj
      · simp only [execOp, hop, hx, Sem.run_bind, hrun]
        rfl
  · split at h2 <;> try (simp [ev] at h2; done)
    rename_i e hel hdd
    split at h2 <;> try (simp [ev] at h2; done)
    rename_i he8
    obtain ⟨(l : List Int), s3, r3, h3, h4⟩ := ev_bind _ _ _ _ _ h2
    obtain rfl := ret_out h4
    obtain ⟨A, c, css, e1, e2, e3, e4⟩ := appSrc_ok h hx h3
    refine runs_value h hd (v := .string _) ?_ rfl
    have hrun : (convert src dst (a.eval x)).run P w = .ok (.string (strOfNums l)) w := by
      rw [e1]
      cases A with
      | none =>
        have hl : l = [] := e3 rfl
        subst hl
        exact run_convert_bytes_nil w src e (elemOf_spec hel) he8 _ _ dst hdd
      | some ad =>
        have hl := run_loadCells_list (P := P) w ad (l.map (Value.int .u8)) (by rw [← u8_css e2]; exact e4 ad rfl)
        rw [List.length_map] at hl
        rw [run_convert_bytes_string w src dst e _ _ c (elemOf_spec hel) he8 hdd, run_bytesToString w _ _ c l hl, foldl_push_bytes]
        simp [strOfNums, ByteArray.empty, ByteArray.emptyWithCapacity]
        rfl
    simp only [execOp, hop, Sem.run_bind, hrun]
    rfl
theorem run_sliceStr {t : TypeId} (hu : P.underlying t = some .string) (st : ByteArray) (lo hi : Option Value) (l h : Int) (hl : lo = none ∧ l = 0 ∨ ∃ k, lo = some (.int k l)) (hh : hi = none ∧ h = st.size ∨ ∃ k, hi = some (.int k h)) (h0 : 0 ≤ l) (h1 : l ≤ h) (h2 : h ≤ st.size) :
    (Instr.sliceAt t (.string st) lo hi none).run P w = .ok (.string (st.extract l.toNat h.toNat)) w := by
  have h3 : 0 ≤ h := by omega
  have hm : max h 0 = h := by omega
  have hn : ¬ h < l := by omega
  rcases hl with ⟨rfl, rfl⟩ | ⟨k, rfl⟩ <;> rcases hh with ⟨rfl, rfl⟩ | ⟨k', rfl⟩ <;>
    simp [hm, Instr.sliceAt, underlying, hu, Instr.slice, Instr.sliceBounds, Instr.sliceBound, asIntOf, h0, h1, h2, h3]
theorem run_sliceRow {t e : TypeId} {se : Sh} (hel : elemOf' P t = some e) (ht : TyOk P e se) (A : Option Addr) (n c : Nat) (hnc : n ≤ c) (lo hi : Option Value) (l h : Int) (hl : lo = none ∧ l = 0 ∨ ∃ k, lo = some (.int k l)) (hh : hi = none ∧ h = n ∨ ∃ k, hi = some (.int k h)) (h0 : 0 ≤ l) (h1 : l ≤ h) (h2 : h ≤ n) :
    (Instr.sliceAt t (.slice A n c) lo hi none).run P w = .ok (.slice (if c = l.toNat then A else A.map (·.add (l.toNat * se.sz))) (h.toNat - l.toNat) (c - l.toNat)) w := by
  obtain ⟨ti, z, hi', hsz, _⟩ := ht.info
  have h3 : 0 ≤ h := by omega
  have h4 : h ≤ c := by omega
  have hm : max h 0 = h := by omega
  have hn : ¬ h < l := by omega
  rcases hl with ⟨rfl, rfl⟩ | ⟨k, rfl⟩ <;> rcases hh with ⟨rfl, rfl⟩ | ⟨k', rfl⟩ <;>
    simp [hm, Instr.sliceAt, underlying, elemOf_spec hel, Instr.slice, Instr.sliceBounds, Instr.sliceBound, asIntOf, h0, h1, h3, h4, sizeOf, typeInfo, hi', hsz]
theorem bound_ok (h : Rel (T.cf β N M0.L) M0 w0 sl rs ρ F a w) {x : Option Operand} {n : Nat} {i : Int} (he : ev sl rs (step.bound x n) s r = some (i, s1, r1)) : (x.map a.eval = none ∧ i = n) ∨ ∃ k, x.map a.eval = some (.int k i) := by
  cases x with
  | none =>
    have := ev_ret he
    simp only [Prod.mk.injEq] at this
    exact .inl ⟨rfl, this.1⟩
  | some y =>
    simp only [step.bound] at he
    obtain ⟨v, s2, r2, h1, h2⟩ := ev_bind _ _ _ _ _ he
    have hx := opd_rel h h1
    split at h2 <;> try (simp [ev] at h2; done)
    rename_i k j
    have := ev_ret h2
    simp only [Prod.mk.injEq] at this
    obtain ⟨rfl, _, _⟩ := this
    simp only [VR, SR, LR] at hx
    exact .inr ⟨k, by simp [hx]⟩
theorem ok_minmax (h : Rel (T.cf β N M0.L) M0 w0 sl rs ρ F a w) (hd : ∀ d, o.dst = some d → d < a.tmps.size) {c : Call} (hop : o.op = .call c) (hc : c.callee = .builtin .min ∨ c.callee = .builtin .max) (he : ev sl rs (step P T o) s r = some (out, s1, r1)) : Goal P T M0 w0 sl rs a w o out := by
  rcases hc with hc | hc
  all_goals
    simp only [step, hop, hc] at he
    split at he <;> try (simp [ev] at he; done)
    rename_i x y hca
    have ha : c.args = #[x, y] := by rw [← Array.toArray_toList (xs := c.args), hca]
    obtain ⟨v, s2, r2, h1, h2⟩ := ev_bind _ _ _ _ _ he
    have hx := opd_rel h h1
    obtain ⟨v', s3, r3, h3, h4⟩ := ev_bind _ _ _ _ _ h2
    have hy := opd_rel h h3
    split at h4 <;> try (simp [ev] at h4; done)
    rename_i k m k' n
    obtain rfl := ret_out h4
    simp only [VR, SR, LR] at hx hy
    refine runs_value h hd (v := .int k _) ?_ rfl
    simp [execOp, hop, resolve, hc, ha, invoke, builtin, Builtin.min_, Builtin.max_, Builtin.min2, Builtin.max2, hx, hy, Bool.cond_decide]
theorem ok_slice (hf : Fit P T) (h : Rel (T.cf β N M0.L) M0 w0 sl rs ρ F a w) (hd : ∀ d, o.dst = some d → d < a.tmps.size) {t : TypeId} {x : Operand} {lo hi : Option Operand} (hop : o.op = .slice t x lo hi none) (kR : ∀ e se l h' hh kh av s r, elemOf' P t = some e → get T.shs e = some se → ((lo.map a.eval = none ∧ l = 0) ∨ ∃ k, lo.map a.eval = some (.int k l)) → hi = some h' → a.eval h' = .int kh hh → VR (T.cf β N M0.L) ρ (Mof M0 rs F) w av (a.eval x) → ev sl rs (subR se l (some hh) av) s r = some (out, s1, r1) → Goal P T M0 w0 sl rs a w o out) (he : ev sl rs (step P T o) s r = some (out, s1, r1)) : Goal P T M0 w0 sl rs a w o out := by
  simp only [step, hop] at he
  obtain ⟨v, s2, r2, h1, h2⟩ := ev_bind _ _ _ _ _ he
  have hx := opd_rel h h1
  split at h2 <;> try (simp [ev] at h2; done)
  · rename_i str
    split at h2 <;> try (simp [ev] at h2; done)
    rename_i hu
    obtain ⟨l, s3, r3, h3, h4⟩ := ev_bind _ _ _ _ _ h2
    obtain ⟨hh, s4, r4, h5, h6⟩ := ev_bind _ _ _ _ _ h4
    obtain ⟨b1, h7⟩ := ev_br h6
    obtain ⟨b2, h8⟩ := ev_br h7
    obtain ⟨b3, h9⟩ := ev_br h8
    obtain rfl := ret_out h9
    simp only [decide_eq_true_eq] at b1 b2 b3
    simp only [VR, SR, LR] at hx
    refine runs_value h hd (v := .string _) ?_ rfl
    have := run_sliceStr (w := w) hu str (lo.map a.eval) (hi.map a.eval) l hh (by simpa using bound_ok h h3) (bound_ok h h5) b1 b2 b3
    simp only [execOp, hop, hx, Sem.run_bind, Option.map_none, this]
    rfl
  · rename_i s0 xs
    split at h2 <;> try (simp [ev] at h2; done)
    rename_i e hel
    split at h2 <;> try (simp [ev] at h2; done)
    rename_i se hse
    split at h2 <;> try (simp [ev] at h2; done)
    rename_i hs
    subst hs
    obtain ⟨l, s3, r3, h3, h4⟩ := ev_bind _ _ _ _ _ h2
    obtain ⟨hh, s4, r4, h5, h6⟩ := ev_bind _ _ _ _ _ h4
    obtain ⟨b1, h7⟩ := ev_br h6
    obtain ⟨b2, h8⟩ := ev_br h7
    obtain ⟨b3, h9⟩ := ev_br h8
    obtain rfl := ret_out h9
    simp only [decide_eq_true_eq] at b1 b2 b3
    simp only [VR, SR, LR] at hx
    obtain ⟨A, c, e1, e2, e3⟩ := hx
    have hlen : ((xs.drop l.toNat).take (hh - l).toNat).length = hh.toNat - l.toNat := by
      simp only [List.length_take, List.length_drop]; omega
    refine runs_value h hd (v := .slice (if c = l.toNat then A else A.map (·.add (l.toNat * s0.sz))) (hh.toNat - l.toNat) (c - l.toNat)) ?_ ⟨_, c - l.toNat, by rw [hlen], by rw [hlen]; omega, ?_⟩
    · have := run_sliceRow (w := w) hel (hf.tys.get hse) A xs.length c e2 (lo.map a.eval) (hi.map a.eval) l hh (by simpa using bound_ok h h3) (bound_ok h h5) b1 b2 b3
      simp only [execOp, hop, e1, Sem.run_bind, Option.map_none, this]
      rfl
    · by_cases hc : c = l.toNat
      · left
        refine List.eq_nil_of_length_eq_zero ?_
        rw [hlen]; omega
      · rw [if_neg hc]
        rcases e3 with rfl | ⟨ad, css, rfl, f2, f3⟩
        · exact .inl (by simp)
        · refine .inr ⟨ad.add (l.toNat * s0.sz), (css.drop l.toNat).take (hh - l).toNat, rfl, (f2.drop _).take _, fun w' hw j u hj => ?_⟩
          rw [addr_add]
          refine f3 w' hw _ _ ?_
          exact flatten_cut (fun c hc => by obtain ⟨z, _, hz⟩ := f2.mem_right c hc; exact RR.len s0 z c hz) hj
  · split at h2 <;> try (simp [ev] at h2; done)
    rename_i e hel
    split at h2 <;> try (simp [ev] at h2; done)
    rename_i se hse
    obtain ⟨l, s3, r3, h3, h4⟩ := ev_bind _ _ _ _ _ h2
    split at h4 <;> try (simp [ev] at h4; done)
    rename_i h'
    obtain ⟨vh, s4, r4, h5, h6⟩ := ev_bind _ _ _ _ _ h4
    have hh := opd_rel h h5
    split at h6 <;> try (simp [ev] at h6; done)
    simp only [VR, SR, LR] at hh
    exact kR _ _ _ _ _ _ _ _ _ hel hse (by simpa using bound_ok h h3) rfl hh hx h6
where
  flatten_cut {css : List (List Value)} {n i m j : Nat} {u : Value} (hn : ∀ c ∈ css, c.length = n) (hj : ((css.drop i).take m).flatten[j]? = some u) : css.flatten[i * n + j]? = some u := by
    induction i generalizing css with
    | zero =>
      simp only [List.drop_zero, Nat.zero_mul, Nat.zero_add] at hj ⊢
      induction m generalizing css j with
      | zero => simp at hj
      | succ m ih =>
        cases css with
        | nil => simp at hj
        | cons c r =>
          simp only [List.take_succ_cons, List.flatten_cons] at hj ⊢
          rw [List.getElem?_append] at hj ⊢
          split
          · rename_i hlt; simpa [hlt] using hj
          · rename_i hlt; rw [if_neg hlt] at hj; exact ih (fun c hc => hn c (List.mem_cons_of_mem _ hc)) hj
    | succ i ih =>
      cases css with
      | nil => simp at hj
      | cons c r =>
        have hc := hn c List.mem_cons_self
        simp only [List.drop_succ_cons] at hj
        simp only [List.flatten_cons]
        rw [List.getElem?_append_right (by rw [hc, Nat.succ_mul]; omega)]
        rw [show (i + 1) * n + j - c.length = i * n + j by rw [hc, Nat.succ_mul]; omega]
        exact ih (fun c hc => hn c (List.mem_cons_of_mem _ hc)) hj
end
end Go.Pev
/- The pure evaluator, part L: operators. Own text, over any program. -/
namespace Go.Pev
theorem fcells_len : ∀ (s : Sh) (x : s.T), s.flat = true → (fcells s x).length = s.sz
  | .int _, _, _ | .bool, _, _ | .str, _, _ => rfl
  | .err, _, h => by simp [Sh.flat] at h
  | .ptr, _, h => by simp [Sh.flat] at h
  | .pt _, _, h => by simp [Sh.flat] at h
  | .sl _, _, h => by simp [Sh.flat] at h
  | .pair a b, x, h => by
    simp only [Sh.flat, Bool.and_eq_true] at h
    simp [fcells, Sh.sz, fcells_len a x.1 h.1, fcells_len b x.2 h.2]
theorem RR.fcells {C : Cfg} {M : Nat → Prop} {w : World} : ∀ (s : Sh) (x : s.T) (cs : List Value), s.flat = true → RR C M w s x cs → cs = Pev.fcells s x
  | .int _, _, _, _, h => h
  | .bool, _, _, _, h => h
  | .str, _, _, _, h => h
  | .err, _, _, hf, _ => by simp [Sh.flat] at hf
  | .ptr, _, _, hf, _ => by simp [Sh.flat] at hf
  | .pt _, _, _, hf, _ => by simp [Sh.flat] at hf
  | .sl _, _, _, hf, _ => by simp [Sh.flat] at hf
  | .pair a b, x, cs, hf, h => by
    simp only [Sh.flat, Bool.and_eq_true] at hf
    have h1 := RR.fcells a x.1 _ hf.1 h.1
    have h2 := RR.fcells b x.2 _ hf.2 h.2
    rw [← List.take_append_drop a.sz cs, h1, h2]
    rfl
def IsVal (P : Program) (t : TypeId) (s : Sh) (x : s.T) (v : Value) : Prop := (aggOf P t = some true ∧ v = .agg (fcells s x).toArray) ∨ (aggOf P t = some false ∧ fcells s x = [v])
section
variable {P : Program} {shs : List (Nat × Sh)} {w : World}
theorem part_ok (ht : TysOk P shs) {t : TypeId} {s : Sh} (hs : get shs t = some s) (hf : s.flat = true) {x : s.T} {v : Value} (hv : IsVal P t s x v) (l r : List Value) : (part t (l ++ (fcells s x ++ r)).toArray l.length).run P w = .ok v w := by
  obtain ⟨i, z, hi, hsz, _⟩ := (ht.get hs).info
  have hlen := fcells_len s x hf
  rcases hv with ⟨ha, rfl⟩ | ⟨ha, h1⟩
  · simp only [part, Sem.run_bind, aggOf_true ha, Result.andThen_ok, if_true, sizeOf, typeInfo, run_program, hi, Sem.run_pure, hsz]
    congr 2
    apply Array.ext'
    simp only [List.extract_toArray, List.toList_toArray, List.extract_eq_take_drop]
    rw [List.drop_left, show l.length + s.sz - l.length = (fcells s x).length by omega, List.take_left]
  · simp only [part, Sem.run_bind, aggOf_false ha, Result.andThen_ok, Bool.false_eq_true, if_false, h1]
    simp
theorem eqFields_ok (ht : TysOk P shs) {chk : TypeId → Sh → Bool} {D : Nat} (ih : ∀ t s, chk t s = true → s.flat = true → ∀ x y, ∃ vx vy, IsVal P t s x vx ∧ IsVal P t s y vy ∧ (Op.equalIn D t vx vy).run P w = .ok (eqB s x y) w) :
    ∀ (fs : List Field) (s : Sh) (off : Nat), eqChkF chk shs fs s off = true → s.flat = true → ∀ (x y : s.T) (l m : List Value), l.length = off → m.length = off →
      (Op.eqFields D (l ++ fcells s x).toArray (m ++ fcells s y).toArray fs).run P w = .ok (eqB s x y) w
  | [], _, _, h, _, _, _, _, _, _, _ => by simp [eqChkF] at h
  | [f], s, off, h, hf, x, y, l, m, hl, hm => by
    simp only [eqChkF, Bool.and_eq_true, bne_iff_ne, ne_eq, beq_iff_eq, decide_eq_true_eq] at h
    obtain ⟨⟨⟨h1, h2⟩, h3⟩, h4⟩ := h
    obtain ⟨vx, vy, e1, e2, e3⟩ := ih _ _ h3 hf x y
    have p1 := part_ok (w := w) ht h4 hf e1 l []
    have p2 := part_ok (w := w) ht h4 hf e2 m []
    rw [List.append_nil, hl] at p1
    rw [List.append_nil, hm] at p2
    simp only [Op.eqFields, ne_eq, h1, not_false_eq_true, if_true, Sem.run_bind, h2, p1, p2, Result.andThen_ok, e3]
    cases eqB s x y <;> simp
  | f :: g :: fs, s, off, h, hf, x, y, l, m, hl, hm => by
    cases s with
    | pair a b =>
      simp only [eqChkF, Bool.and_eq_true, bne_iff_ne, ne_eq, beq_iff_eq, decide_eq_true_eq] at h
      obtain ⟨⟨⟨⟨h1, h2⟩, h3⟩, h4⟩, h5⟩ := h
      simp only [Sh.flat, Bool.and_eq_true] at hf
      obtain ⟨vx, vy, e1, e2, e3⟩ := ih _ _ h3 hf.1 x.1 y.1
      have p1 := part_ok (w := w) ht h4 hf.1 e1 l (fcells b x.2)
      have p2 := part_ok (w := w) ht h4 hf.1 e2 m (fcells b y.2)
      rw [hl] at p1
      rw [hm] at p2
      have rest := eqFields_ok ht ih (g :: fs) b (off + a.sz) h5 hf.2 x.2 y.2 (l ++ fcells a x.1) (m ++ fcells a y.1) (by simp [hl, fcells_len a x.1 hf.1]) (by simp [hm, fcells_len a y.1 hf.1])
      rw [List.append_assoc, List.append_assoc] at rest
      rw [Op.eqFields]
      simp only [ne_eq, h1, not_false_eq_true, if_true, Sem.run_bind, h2, fcells, p1, p2, Result.andThen_ok, e3, eqB]
      cases eqB a x.1 y.1
      · simp
      · simpa using rest
    | _ => simp [eqChkF] at h
theorem eqIn_ok (ht : TysOk P shs) : ∀ (d : Nat) (t : TypeId) (s : Sh), eqChk P shs d t s = true → s.flat = true → ∀ (D : Nat), d ≤ D → ∀ (w : World) (x y : s.T), ∃ vx vy, IsVal P t s x vx ∧ IsVal P t s y vy ∧ (Op.equalIn D t vx vy).run P w = .ok (eqB s x y) w
  | 0, _, _, h, _, _, _, _, _, _ => by simp [eqChk] at h
  | d + 1, t, s, h, hf, D, hD, w, x, y => by
    obtain ⟨D, rfl⟩ : ∃ n, D = n + 1 := ⟨D - 1, by omega⟩
    simp only [eqChk] at h
    split at h
    · rename_i k hu
      have ha : aggOf P t = some false := by simp [aggOf, hu]
      cases s with
      | int k' => exact ⟨_, _, .inr ⟨ha, rfl⟩, .inr ⟨ha, rfl⟩, by simp [Op.equalIn, underlying, hu, eqB]⟩
      | _ => cases h
    · rename_i hu
      have ha : aggOf P t = some false := by simp [aggOf, hu]
      have := of_decide_eq_true h
      subst this
      exact ⟨_, _, .inr ⟨ha, rfl⟩, .inr ⟨ha, rfl⟩, by simp [Op.equalIn, underlying, hu, eqB]⟩
    · rename_i hu
      have ha : aggOf P t = some false := by simp [aggOf, hu]
      have := of_decide_eq_true h
      subst this
      exact ⟨_, _, .inr ⟨ha, rfl⟩, .inr ⟨ha, rfl⟩, by simp [Op.equalIn, underlying, hu, eqB, beq_toListBytes]⟩
    · rename_i fs hu
      simp only [Bool.and_eq_true, Bool.not_eq_true'] at h
      have ha : aggOf P t = some true := by simp [aggOf, hu]
      have hfo : P.fieldsOf t = fs := by simp [Program.fieldsOf, hu]
      refine ⟨_, _, .inl ⟨ha, rfl⟩, .inl ⟨ha, rfl⟩, ?_⟩
      rw [run_equalIn_struct (P := P) w D t _ _ (by rw [hfo]; exact hu) h.1, hfo]
      have := eqFields_ok (w := w) ht (D := D) (fun t s hc hf x y => eqIn_ok ht d t s hc hf D (by omega) w x y) fs.toList s 0 h.2 hf x y [] [] rfl rfl
      simpa using this
    · cases h
theorem eqStruct_ok (ht : TysOk P shs) {t : TypeId} (hok : eqOkB P shs t = true) {s : Sh} (hs : get shs t = some s) (hf : s.flat = true) (x y : s.T) (cx cy : Operand) :
    ((do eqGuard .eql t cx cy (.agg (fcells s x).toArray) (.agg (fcells s y).toArray); binOp .eql t (.agg (fcells s x).toArray) (.agg (fcells s y).toArray)) : Sem Value).run P w = .ok (.bool (eqB s x y)) w ∧
    ((do eqGuard .neq t cx cy (.agg (fcells s x).toArray) (.agg (fcells s y).toArray); binOp .neq t (.agg (fcells s x).toArray) (.agg (fcells s y).toArray)) : Sem Value).run P w = .ok (.bool !(eqB s x y)) w := by
  simp only [eqOkB, hs, Bool.and_eq_true, Bool.not_eq_true', decide_eq_true_eq] at hok
  obtain ⟨⟨h1, h2⟩, h3⟩ := hok
  obtain ⟨vx, vy, e1, e2, e3⟩ := eqIn_ok ht 6 t s h1 hf Op.maxDepth (by decide) w x y
  rcases e1 with ⟨_, rfl⟩ | ⟨e, _⟩
  · rcases e2 with ⟨_, rfl⟩ | ⟨e, _⟩
    · constructor <;> simp [eqGuard, h2, binOp, Op.equal, e3]
    · rw [h3] at e; cases e
  · rw [h3] at e; cases e
end
end Go.Pev
/- The pure evaluator, part M: binary operators, written out. Own text, over any program. -/
namespace Go.Pev
section
variable {P : Program} {T : Tabs} {M0 : Base} {β : Nat → Value} {N : Nat} {w0 : World} {sl : Nat → Option AV} {rs : Nat → Option RS} {ρ : Nat → Value} {F : Nat → Nat → Prop} {a : Act} {w : World} {o : Oper} {out : Out} {s r s1 r1 : List Nat}
theorem intBin_ok {op : BinOp} {k k' : IntKind} {x y : Int} {av : AV} (h : intBin op k x y = some av) (hk : op = .shl ∨ op = .shr ∨ k' = k) (t : TypeId) : ∃ v, (binOp op t (.int k x) (.int k' y)).run P w = .ok v w ∧ ∀ {C : Cfg} {ρ : Nat → Value} {M : Nat → Prop}, VR C ρ M w av v := by
  by_cases hs : op = .shl ∨ op = .shr
  · rcases hs with rfl | rfl <;> simp only [intBin] at h <;> split at h <;> simp at h <;> subst h
    · rename_i n
      refine ⟨.int k _, ?_, rfl⟩
      simp [binOp, Op.shift]
      omega
    · rename_i n
      refine ⟨.int k _, ?_, rfl⟩
      simp [binOp, Op.shift]
      omega
  · have hk' : k' = k := by rcases hk with h | h | h <;> first | exact h | exact absurd (Or.inl h) hs | exact absurd (Or.inr h) hs
    subst hk'
    cases op <;> simp only [intBin] at h <;> try (cases h; done)
    all_goals try (simp at hs; done)
    case quo =>
      split at h <;> simp at h
      subst h
      refine ⟨.int k' _, ?_, rfl⟩
      simp [binOp, Op.intDiv]
      omega
    case rem =>
      split at h <;> simp at h
      subst h
      refine ⟨.int k' _, ?_, rfl⟩
      simp [binOp, Op.intDiv]
      omega
    all_goals (simp only [Option.some.injEq] at h; subst h; refine ⟨_, ?_, rfl⟩; simp [binOp, Op.intArith, Op.intBits, Op.intCmp])
theorem strBin_ok {op : BinOp} {x y : ByteArray} {av : AV} (h : ev sl rs (strBin op x y) s r = some (av, s1, r1)) (t : TypeId) : ∃ v, (binOp op t (.string x) (.string y)).run P w = .ok v w ∧ ∀ {C : Cfg} {ρ : Nat → Value} {M : Nat → Prop}, VR C ρ M w av v := by
  cases op <;> simp only [strBin] at h <;> try (simp [ev] at h; done)
  case add =>
    obtain ⟨b, h2⟩ := ev_br h
    have := ev_ret h2
    simp only [Prod.mk.injEq] at this
    obtain ⟨rfl, _, _⟩ := this
    simp only [decide_eq_true_eq] at b
    refine ⟨.string (x ++ y), ?_, rfl⟩
    have hm : IntKind.i64.max = 9223372036854775807 := by decide
    have : ¬ (((x.size + y.size : Nat) : Int) > IntKind.i64.max) := by rw [hm]; omega
    simp only [binOp, Op.stringOp, this, if_false]
    rfl
  all_goals
    have := ev_ret h
    simp only [Prod.mk.injEq] at this
    obtain ⟨rfl, _, _⟩ := this
    refine ⟨_, ?_, rfl⟩
    simp [binOp, Op.stringOp]
theorem guard_skip {op : BinOp} {t : TypeId} {cx cy : Operand} {u v : Value} (h : (∀ xs ys, u = .agg xs → v = .agg ys → False) ∧ (u = .nilIface → v = .nilIface → (∃ c, cx = .const c) ∨ (∃ c, cy = .const c))) : (eqGuard op t cx cy u v).run P w = .ok () w := by
  obtain ⟨h1, h2⟩ := h
  have rest : ∀ op, op = .eql ∨ op = .neq → (eqGuard op t cx cy u v).run P w = .ok () w := by
    intro op hop
    unfold eqGuard
    rcases hop with rfl | rfl <;> simp only [Bool.not_true, Bool.false_eq_true, if_false]
    all_goals
      split
      · have h3 := h2 rfl rfl
        rcases h3 with ⟨c, rfl⟩ | ⟨c, rfl⟩ <;> simp
      · exact (h1 _ _ rfl rfl).elim
      · rfl
  cases op <;> first | exact rest _ (.inl rfl) | exact rest _ (.inr rfl) | rfl
theorem maxDepth_two : ∃ d, Op.maxDepth = d + 2 := ⟨9998, rfl⟩
theorem isNilC_spec {x : Operand} (h : isNilC x = true) : x = .const .nilIface := by
  unfold isNilC at h
  split at h
  · rfl
  · cases h
theorem errV_some {C : Cfg} {p : List (Int × Int) × Int} {v : Value} (h : ErrV C w (some p) v) : ∃ u x, v = .iface u x := by
  obtain ⟨ps, n⟩ := p
  cases ps with
  | nil => exact ⟨_, _, h⟩
  | cons q ps => obtain ⟨b, u, e, _⟩ := h; exact ⟨_, _, e⟩
theorem isIface_spec {t : TypeId} (h : isIface P t = true) : ∃ ms, P.underlying t = some (.interface ms) := by
  unfold isIface at h
  split at h
  · exact ⟨_, by assumption⟩
  · cases h
theorem run_eq_nil {t : TypeId} (ht : isIface P t = true) {C : Cfg} {e : Err} {v : Value} (h : ErrV C w e v) : (Op.equal t v .nilIface).run P w = .ok e.isNone w ∧ (Op.equal t .nilIface v).run P w = .ok e.isNone w := by
  obtain ⟨ms, hu⟩ := isIface_spec ht
  obtain ⟨md, hmd⟩ := maxDepth_two
  cases e with
  | none => simp only [ErrV] at h; subst h; constructor <;> simp [Op.equal, Op.equalIn, hmd, underlying, hu]
  | some p => obtain ⟨u, x, rfl⟩ := errV_some h; constructor <;> simp [Op.equal, Op.equalIn, hmd, underlying, hu]
theorem run_eq_two {t tn : TypeId} {ms : Array (String × TypeId)} {i : TypeInfo} {k : IntKind} (hi : P.underlying t = some (.interface ms)) (hn : P.underlying tn = some (.int k)) (hinfo : P.info? tn = some i) (hc : i.comparable = true) (d : Nat) (x y : Int) :
    (Op.equalIn (d + 2) t (.iface tn (.int k x)) (.iface tn (.int k y))).run P w = .ok (x == y) w := by
  simp [Op.equalIn, run_underlying hi, run_underlying hn, typeInfo, hinfo, hc]
theorem run_eq_errs (hf : Fit P T) {t : TypeId} (ht : isIface P t = true) {e f : Err} {r : Bool} (he : errEq e f = some r) {u v : Value} (h1 : ErrV (T.cf β N M0.L) w e u) (h2 : ErrV (T.cf β N M0.L) w f v) : (Op.equal t u v).run P w = .ok r w := by
  obtain ⟨ms, hu⟩ := isIface_spec ht
  obtain ⟨md, hmd⟩ := maxDepth_two
  unfold errEq at he
  split at he <;> simp at he <;> subst he
  · simp only [ErrV] at h1; subst h1; obtain ⟨q, x, rfl⟩ := errV_some h2; simp [Op.equal, Op.equalIn, hmd, underlying, hu]
  · simp only [ErrV] at h2; subst h2; obtain ⟨q, x, rfl⟩ := errV_some h1; simp [Op.equal, Op.equalIn, hmd, underlying, hu]
  · simp only [ErrV, ErrAt] at h1 h2
    subst h1; subst h2
    have hc := hf.comp
    cases hi : P.info? T.errno with
    | none => simp [hi] at hc
    | some i =>
      simp only [hi, Option.map_some, Option.some.injEq] at hc
      unfold Op.equal
      rw [hmd]
      exact run_eq_two hu hf.errno hi hc md _ _
  · simp only [ErrV, ErrAt] at h1 h2
    obtain ⟨b, x, rfl, _⟩ := h2
    subst h1
    simp [Op.equal, Op.equalIn, hmd, underlying, hu, hf.ne]
  · simp only [ErrV, ErrAt] at h1 h2
    obtain ⟨b, x, rfl, _⟩ := h1
    subst h2
    simp [Op.equal, Op.equalIn, hmd, underlying, hu, Ne.symm hf.ne]
theorem errV_form {C : Cfg} {e : Err} {v : Value} (h : ErrV C w e v) : v = .nilIface ∨ ∃ u x, v = .iface u x := by
  cases e with
  | none => exact .inl h
  | some p => exact .inr (errV_some h)
theorem run_bin_iface {t : TypeId} {u v : Value} {r : Bool} (hu : u = .nilIface ∨ ∃ q x, u = .iface q x) (hv : v = .nilIface ∨ ∃ q x, v = .iface q x) (h : (Op.equal t u v).run P w = .ok r w) :
    (binOp .eql t u v).run P w = .ok (.bool r) w ∧ (binOp .neq t u v).run P w = .ok (.bool !r) w := by
  rcases hu with rfl | ⟨q, x, rfl⟩ <;> rcases hv with rfl | ⟨q', x', rfl⟩ <;> constructor <;> simp [binOp, h]
set_option maxHeartbeats 2000000 in
theorem run_eq_ptr {t e : TypeId} (hu : P.underlying t = some (.pointer e)) (d : Nat) (p : Addr) :
    (Op.equalIn (d + 2) t (.pointer none) (.pointer none)).run P w = .ok true w ∧ (Op.equalIn (d + 2) t (.pointer (some p)) (.pointer none)).run P w = .ok false w ∧ (Op.equalIn (d + 2) t (.pointer none) (.pointer (some p))).run P w = .ok false w := by
  refine ⟨?_, ?_, ?_⟩ <;> simp only [Op.equalIn, Sem.run_bind, run_underlying hu, Result.andThen_ok, Sem.run_pure, Option.isNone]
theorem ptrEq_ok {op : BinOp} {t : TypeId} {u v : Value} {q : Bool} {av : AV} (h : ev sl rs (ptrEq op (isPtrT P t) q) s r = some (av, s1, r1)) (hq : (u = .pointer none ∧ v = .pointer none ∧ q = true) ∨ (∃ p, u = .pointer (some p) ∧ v = .pointer none ∧ q = false) ∨ (∃ p, u = .pointer none ∧ v = .pointer (some p) ∧ q = false)) :
    ∃ z, (binOp op t u v).run P w = .ok z w ∧ ∀ {C : Cfg} {ρ : Nat → Value} {M : Nat → Prop}, VR C ρ M w av z := by
  unfold ptrEq at h
  split at h <;> try (simp [ev] at h; done)
  rename_i hp
  unfold isPtrT at hp
  split at hp <;> try (cases hp; done)
  rename_i e he
  obtain ⟨md, hmd⟩ := maxDepth_two
  split at h <;> try (simp [ev] at h; done)
  all_goals
    have := ev_ret h
    simp only [Prod.mk.injEq] at this
    obtain ⟨rfl, _, _⟩ := this
    refine ⟨.bool _, ?_, rfl⟩
    rcases hq with ⟨rfl, rfl, rfl⟩ | ⟨p, rfl, rfl, rfl⟩ | ⟨p, rfl, rfl, rfl⟩
    · have := (run_eq_ptr (w := w) he md ⟨0, 0, none⟩).1
      simp only [binOp, Op.equal, hmd, Sem.run_bind, this, Result.andThen_ok, Sem.run_pure]
    · have := (run_eq_ptr (w := w) he md p).2.1
      simp only [binOp, Op.equal, hmd, Sem.run_bind, this, Result.andThen_ok, Sem.run_pure]
    · have := (run_eq_ptr (w := w) he md p).2.2
      simp only [binOp, Op.equal, hmd, Sem.run_bind, this, Result.andThen_ok, Sem.run_pure]
theorem mapEq_ok {op : BinOp} {t : TypeId} {u : Value} {q : Bool} {av : AV} (h : ev sl rs (ptrEq op (isMapT P t) q) s r = some (av, s1, r1)) (hq : (u = .map none ∧ q = true) ∨ (∃ p, u = .map (some p) ∧ q = false)) :
    ∃ z, (binOp op t u (.map none)).run P w = .ok z w ∧ ∀ {C : Cfg} {ρ : Nat → Value} {M : Nat → Prop}, VR C ρ M w av z := by
  unfold ptrEq at h
  split at h <;> try (simp [ev] at h; done)
  rename_i hp
  unfold isMapT at hp
  split at hp <;> try (cases hp; done)
  rename_i ke el he
  obtain ⟨md, hmd⟩ := maxDepth_two
  have hrun : (Op.equalIn (md + 2) t u (.map none)).run P w = .ok q w := by
    rcases hq with ⟨rfl, rfl⟩ | ⟨p, rfl, rfl⟩ <;> simp only [Op.equalIn, Sem.run_bind, run_underlying he, Result.andThen_ok, Sem.run_pure, Option.isNone]
  split at h <;> try (simp [ev] at h; done)
  all_goals
    have := ev_ret h
    simp only [Prod.mk.injEq] at this
    obtain ⟨rfl, _, _⟩ := this
    refine ⟨.bool _, ?_, rfl⟩
    simp only [binOp, Op.equal, hmd, Sem.run_bind, hrun, Result.andThen_ok, Sem.run_pure]
theorem ok_binOp (hf : Fit P T) (h : Rel (T.cf β N M0.L) M0 w0 sl rs ρ F a w) (hd : ∀ d, o.dst = some d → d < a.tmps.size) {op : BinOp} {t t' : TypeId} {x y : Operand} (hop : o.op = .binOp op t x y t') (he : ev sl rs (step P T o) s r = some (out, s1, r1)) : Goal P T M0 w0 sl rs a w o out := by
  simp only [step, hop] at he
  obtain ⟨u, s2, r2, h1, h2⟩ := ev_bind _ _ _ _ _ he
  have hx := opd_rel h h1
  obtain ⟨v, s3, r3, h3, h4⟩ := ev_bind _ _ _ _ _ h2
  have hy := opd_rel h h3
  obtain ⟨av, s4, r4, h5, h6⟩ := ev_bind _ _ _ _ _ h4
  obtain rfl := ret_out h6
  have fin : ∀ {z : Value}, (eqGuard op t x y (a.eval x) (a.eval y)).run P w = .ok () w → (binOp op t (a.eval x) (a.eval y)).run P w = .ok z w → VR (T.cf β N M0.L) ρ (Mof M0 rs F) w av z → Goal P T M0 w0 sl rs a w o ⟨av, []⟩ := by
    intro z g1 g2 g3
    refine runs_value h hd (v := z) ?_ g3
    simp only [execOp, hop, Sem.run_bind, g1, g2, Result.andThen_ok]
    rfl
  unfold binAV at h5
  split at h5 <;> try (simp [ev] at h5; done)
  · rename_i k p k' q
    simp only [VR, SR, LR] at hx hy
    have hg : (eqGuard op t x y (a.eval x) (a.eval y)).run P w = .ok () w := guard_skip ⟨(fun xs ys e => by rw [hx] at e; cases e), (fun e => by rw [hx] at e; cases e)⟩
    have key : intBin op k p q = some av ∧ (op = .shl ∨ op = .shr ∨ k' = k) := by
      split at h5
      · obtain ⟨av', e1, e2⟩ := ev_ofO h5
        simp only [Prod.mk.injEq] at e2
        obtain ⟨rfl, _, _⟩ := e2
        exact ⟨e1, .inl rfl⟩
      · obtain ⟨av', e1, e2⟩ := ev_ofO h5
        simp only [Prod.mk.injEq] at e2
        obtain ⟨rfl, _, _⟩ := e2
        exact ⟨e1, .inr (.inl rfl)⟩
      · split at h5 <;> try (simp [ev] at h5; done)
        rename_i hk
        obtain ⟨av', e1, e2⟩ := ev_ofO h5
        simp only [Prod.mk.injEq] at e2
        obtain ⟨rfl, _, _⟩ := e2
        exact ⟨e1, .inr (.inr hk)⟩
    obtain ⟨z, e1, e2⟩ := intBin_ok (P := P) (w := w) key.1 key.2 t
    exact fin hg (by rw [hx, hy]; exact e1) e2
  · simp only [VR, SR, LR] at hx hy
    have hg : (eqGuard op t x y (a.eval x) (a.eval y)).run P w = .ok () w := guard_skip ⟨(fun xs ys e => by rw [hx] at e; cases e), (fun e => by rw [hx] at e; cases e)⟩
    obtain ⟨z, e1, e2⟩ := strBin_ok (P := P) (w := w) h5 t
    exact fin hg (by rw [hx, hy]; exact e1) e2
  · simp only [VR, SR, LR] at hx hy
    have hg : (eqGuard op t x y (a.eval x) (a.eval y)).run P w = .ok () w := guard_skip ⟨(fun xs ys e => by rw [hx] at e; cases e), (fun e => by rw [hx] at e; cases e)⟩
    split at h5 <;> try (simp [ev] at h5; done)
    rename_i hb
    have hu : P.underlying t = some .bool := by
      unfold isBoolT at hb
      split at hb
      · assumption
      · cases hb
    split at h5 <;> try (simp [ev] at h5; done)
    all_goals
      have := ev_ret h5
      simp only [Prod.mk.injEq] at this
      obtain ⟨rfl, _, _⟩ := this
      refine fin hg (z := .bool _) ?_ rfl
      rw [hx, hy]
      obtain ⟨md, hmd⟩ := maxDepth_two
      simp [binOp, Op.equal, Op.equalIn, hmd, underlying, hu]
  · rename_i e f
    simp only [VR, SR, LR] at hx hy
    have hx := hx.now
    have hy := hy.now
    split at h5 <;> try (simp [ev] at h5; done)
    rename_i hi
    have close : ∀ {q : Bool}, (Op.equal t (a.eval x) (a.eval y)).run P w = .ok q w → (eqGuard op t x y (a.eval x) (a.eval y)).run P w = .ok () w → ev sl rs (match op with | .eql => .ret (.bool q) | .neq => .ret (.bool !q) | _ => .fail) s3 r3 = some (av, s4, r4) → Goal P T M0 w0 sl rs a w o ⟨av, []⟩ := by
      intro q g1 g2 g3
      have := run_bin_iface (errV_form hx) (errV_form hy) g1
      split at g3 <;> try (simp [ev] at g3; done)
      all_goals
        have e := ev_ret g3
        simp only [Prod.mk.injEq] at e
        obtain ⟨rfl, _, _⟩ := e
      · exact fin g2 this.1 rfl
      · exact fin g2 this.2 rfl
    have noagg : ∀ xs ys, a.eval x = .agg xs → a.eval y = .agg ys → False := by
      intro xs ys e _
      rcases errV_form hx with h' | ⟨q, z, h'⟩ <;> rw [h'] at e <;> cases e
    split at h5
    · rename_i hc
      have hyc := isNilC_spec hc
      have hye : a.eval y = .nilIface := by rw [hyc]; rfl
      refine close (q := e.isNone) (by rw [hye]; exact (run_eq_nil hi hx).1) (guard_skip ⟨noagg, fun _ _ => .inr ⟨_, hyc⟩⟩) h5
    · rename_i hc _
      have hxc := isNilC_spec hc
      have hxe : a.eval x = .nilIface := by rw [hxc]; rfl
      refine close (q := f.isNone) (by rw [hxe]; exact (run_eq_nil hi hy).2) (guard_skip ⟨noagg, fun _ _ => .inl ⟨_, hxc⟩⟩) h5
    · cases hq : errEq e f with
      | none => rw [hq] at h5; cases h5
      | some q =>
      rw [hq] at h5
      refine close (q := q) (run_eq_errs hf hi hq hx hy) (guard_skip ⟨noagg, fun e1 e2 => ?_⟩) h5
      exfalso
      unfold errEq at hq
      split at hq <;> simp at hq
      · obtain ⟨u, z, e3⟩ := errV_some hy; rw [e3] at e2; cases e2
      · obtain ⟨u, z, e3⟩ := errV_some hx; rw [e3] at e1; cases e1
      · obtain ⟨u, z, e3⟩ := errV_some hx; rw [e3] at e1; cases e1
      · obtain ⟨u, z, e3⟩ := errV_some hx; rw [e3] at e1; cases e1
      · obtain ⟨u, z, e3⟩ := errV_some hx; rw [e3] at e1; cases e1
  · rename_i l m
    split at h5 <;> try (simp [ev] at h5; done)
    rename_i st hq hst
    split at h5 <;> try (simp [ev] at h5; done)
    rename_i p q hfl hp hq'
    obtain ⟨cs, e1, e2⟩ := hx.ag
    obtain ⟨ds, e3, e4⟩ := hy.ag
    have c1 := RR.fcells st p cs hfl (ofLeaves_rep st l p cs hp e2)
    have c2 := RR.fcells st q ds hfl (ofLeaves_rep st m q ds hq' e4)
    subst c1; subst c2
    have hok : eqOkB P T.shs t = true := List.all_eq_true.1 hf.eqs t (by simpa using hq)
    have := eqStruct_ok (w := w) hf.tys hok hst hfl p q x y
    rw [← e1, ← e3] at this
    split at h5 <;> try (simp [ev] at h5; done)
    all_goals
      have e := ev_ret h5
      simp only [Prod.mk.injEq] at e
      obtain ⟨rfl, _, _⟩ := e
    · refine runs_value h hd (v := .bool _) ?_ rfl
      simp only [execOp, hop, Sem.run_bind] at this ⊢
      rw [this.1]; rfl
    · refine runs_value h hd (v := .bool _) ?_ rfl
      simp only [execOp, hop, Sem.run_bind] at this ⊢
      rw [this.2]; rfl
  all_goals
    simp only [VR, SR, LR] at hx hy
  · obtain ⟨u, z, hx⟩ := hx
    have hy := hy.now
    split at h5 <;> try (simp [ev] at h5; done)
    rename_i hi hc
    have hyc := isNilC_spec hc
    have hye : a.eval y = .nilIface := by rw [hyc]; rfl
    obtain ⟨ms, hu⟩ := isIface_spec hi
    obtain ⟨md, hmd⟩ := maxDepth_two
    have g1 : (Op.equal t (a.eval x) (a.eval y)).run P w = .ok false w := by rw [hx, hye]; simp [Op.equal, Op.equalIn, hmd, underlying, hu]
    have g2 := run_bin_iface (.inr ⟨_, _, hx⟩) (.inl hye) g1
    split at h5 <;> try (simp [ev] at h5; done)
    all_goals
      have e := ev_ret h5
      simp only [Prod.mk.injEq] at e
      obtain ⟨rfl, _, _⟩ := e
    · exact fin (guard_skip ⟨(fun xs ys e _ => by rw [hx] at e; cases e), fun _ _ => .inr ⟨_, hyc⟩⟩) g2.1 rfl
    · exact fin (guard_skip ⟨(fun xs ys e _ => by rw [hx] at e; cases e), fun _ _ => .inr ⟨_, hyc⟩⟩) g2.2 rfl
  · obtain ⟨z, e1, e2⟩ := ptrEq_ok (P := P) (w := w) h5 (.inl ⟨hx, hy, rfl⟩)
    exact fin (guard_skip ⟨(fun xs ys e => by rw [hx] at e; cases e), (fun e => by rw [hx] at e; cases e)⟩) e1 e2
  · obtain ⟨ad, cs, hx, _⟩ := hx
    obtain ⟨z, e1, e2⟩ := ptrEq_ok (P := P) (w := w) h5 (.inr (.inl ⟨_, hx, hy, rfl⟩))
    exact fin (guard_skip ⟨(fun xs ys e => by rw [hx] at e; cases e), (fun e => by rw [hx] at e; cases e)⟩) e1 e2
  · obtain ⟨ad, cs, hy, _⟩ := hy
    obtain ⟨z, e1, e2⟩ := ptrEq_ok (P := P) (w := w) h5 (.inr (.inr ⟨_, hx, hy, rfl⟩))
    exact fin (guard_skip ⟨(fun xs ys e => by rw [hx] at e; cases e), (fun e => by rw [hx] at e; cases e)⟩) e1 e2
  · simp only [RR, List.cons.injEq, and_true] at hx
    rcases hx with ⟨rfl, hx⟩ | ⟨z, ad, ys, rfl, hx, _⟩
    · obtain ⟨z, e1, e2⟩ := ptrEq_ok (P := P) (w := w) h5 (.inl ⟨hx, hy, rfl⟩)
      exact fin (guard_skip ⟨(fun xs ys e => by rw [hx] at e; cases e), (fun e => by rw [hx] at e; cases e)⟩) e1 e2
    · obtain ⟨z, e1, e2⟩ := ptrEq_ok (P := P) (w := w) h5 (.inr (.inl ⟨_, hx, hy, rfl⟩))
      exact fin (guard_skip ⟨(fun xs ys e => by rw [hx] at e; cases e), (fun e => by rw [hx] at e; cases e)⟩) e1 e2
  · simp only [RR, List.cons.injEq, and_true] at hy
    rcases hy with ⟨rfl, hy⟩ | ⟨z, ad, ys, rfl, hy, _⟩
    · obtain ⟨z, e1, e2⟩ := ptrEq_ok (P := P) (w := w) h5 (.inl ⟨hx, hy, rfl⟩)
      exact fin (guard_skip ⟨(fun xs ys e => by rw [hx] at e; cases e), (fun e => by rw [hx] at e; cases e)⟩) e1 e2
    · obtain ⟨z, e1, e2⟩ := ptrEq_ok (P := P) (w := w) h5 (.inr (.inr ⟨_, hx, hy, rfl⟩))
      exact fin (guard_skip ⟨(fun xs ys e => by rw [hx] at e; cases e), (fun e => by rw [hx] at e; cases e)⟩) e1 e2
  · simp only [RR, List.cons.injEq, and_true] at hx
    rcases hx with ⟨rfl, hx⟩ | ⟨n, rfl, _, hx, hk⟩
    · obtain ⟨z, e1, e2⟩ := ptrEq_ok (P := P) (w := w) h5 (.inl ⟨hx, hy, rfl⟩)
      exact fin (guard_skip ⟨(fun xs ys e => by rw [hx] at e; cases e), (fun e => by rw [hx] at e; cases e)⟩) e1 e2
    · obtain ⟨p, hp⟩ : ∃ p, a.eval x = .pointer (some p) := by
        rw [hx]
        exact RK.fits_ptr hk
      obtain ⟨z, e1, e2⟩ := ptrEq_ok (P := P) (w := w) h5 (.inr (.inl ⟨_, hp, hy, rfl⟩))
      exact fin (guard_skip ⟨(fun xs ys e => by rw [hp] at e; cases e), (fun e => by rw [hp] at e; cases e)⟩) e1 e2
  · simp only [RR, List.cons.injEq, and_true] at hx hy
    have hy' : a.eval y = .map none := by
      rcases hy with ⟨_, hy⟩ | ⟨n, hn, _⟩
      · exact hy
      · cases hn
    rcases hx with ⟨rfl, hx⟩ | ⟨n, rfl, _, hx, hk⟩
    · obtain ⟨z, e1, e2⟩ := mapEq_ok (P := P) (w := w) h5 (.inl ⟨hx, rfl⟩)
      rw [← hy'] at e1
      exact fin (guard_skip ⟨(fun xs ys e => by rw [hx] at e; cases e), (fun e => by rw [hx] at e; cases e)⟩) e1 e2
    · obtain ⟨p, hp⟩ : ∃ p, a.eval x = .map (some p) := by
        rw [hx]
        exact RK.fits_map hk
      obtain ⟨z, e1, e2⟩ := mapEq_ok (P := P) (w := w) h5 (.inr ⟨_, hp, rfl⟩)
      rw [← hy'] at e1
      exact fin (guard_skip ⟨(fun xs ys e => by rw [hp] at e; cases e), (fun e => by rw [hp] at e; cases e)⟩) e1 e2
end
end Go.Pev
/- The pure evaluator, part N: the operations, one by one (4): structs and slices built, stores. Own text, over any program. -/
namespace Go.Pev
theorem fold_set (off : Nat) : ∀ (vs : List Value) (k : Nat) (cells : Array Value), off + k + vs.length ≤ cells.size →
    ((vs.zipIdx k).foldl (fun cs (x : Value × Nat) => cs.setIfInBounds (off + x.2) x.1) cells).toList = cells.toList.take (off + k) ++ vs ++ cells.toList.drop (off + k + vs.length)
  | [], k, cells, _ => by simp
  | v :: vs, k, cells, h => by
    simp only [List.length_cons] at h
    rw [List.zipIdx_cons, List.foldl_cons]
    have ih := fold_set off vs (k + 1) (cells.setIfInBounds (off + k) v) (by simp; omega)
    rw [ih]
    have e := list_seg_step cells.toList (off + k) v vs (by simp; omega)
    simp only [Array.toList_setIfInBounds]
    rw [show off + (k + 1) = off + k + 1 by omega]
    rw [e]
    simp [List.length_cons]
theorem fill_step {place : Nat → Option (Nat × Nat)} {cells : Array Value} {i off sz : Nat} {v : Value} {rest : List (Nat × Value)} (hp : place i = some (off, sz)) (hs : v.cells.size = sz) (hb : off + sz ≤ cells.size) :
    Instr.fill place cells ((i, v) :: rest) = Instr.fill place (cells.toList.take off ++ v.cells.toList ++ cells.toList.drop (off + sz)).toArray rest := by
  simp only [Instr.fill, hp]
  have hc : ¬ ((decide (v.cells.size ≠ sz) || decide (off + v.cells.size > cells.size)) = true) := by simp [hs]; omega
  rw [if_neg hc]
  congr 1
  apply Array.ext'
  have := fold_set off v.cells.toList 0 cells (by simp; omega)
  simp only [Nat.add_zero, Array.length_toList, hs] at this
  rw [← Array.foldl_toList, Array.toList_zipIdx]
  simpa using this
section
variable {P : Program} {T : Tabs} {M0 : Base} {β : Nat → Value} {N : Nat} {w0 : World} {sl : Nat → Option AV} {rs : Nat → Option RS} {ρ : Nat → Value} {F : Nat → Nat → Prop} {a : Act} {w : World} {o : Oper} {out : Out} {s r s1 r1 : List Nat}
theorem partsOf_rel (h : Rel (T.cf β N M0.L) M0 w0 sl rs ρ F a w) : ∀ {ps : List (Nat × Operand)} {s r s1 r1 : List Nat} {l : List (Nat × AV)}, ev sl rs (partsOf ps) s r = some (l, s1, r1) →
    All2 (fun (x : Nat × AV) (y : Nat × Value) => x.1 = y.1 ∧ VR (T.cf β N M0.L) ρ (Mof M0 rs F) w x.2 y.2) l (ps.map fun p => (p.1, a.eval p.2))
  | [], _, _, _, _, _, he => by
    simp only [partsOf] at he
    have := ev_ret he
    simp only [Prod.mk.injEq] at this
    obtain ⟨rfl, _, _⟩ := this
    exact .nil
  | (i, x) :: ps, _, _, _, _, _, he => by
    simp only [partsOf] at he
    obtain ⟨y, s2, r2, h1, h2⟩ := ev_bind _ _ _ _ _ he
    obtain ⟨l, s3, r3, h3, h4⟩ := ev_bind _ _ _ _ _ h2
    have := ev_ret h4
    simp only [Prod.mk.injEq] at this
    obtain ⟨rfl, _, _⟩ := this
    exact .cons ⟨rfl, opd_rel h h1⟩ (partsOf_rel h h3)
theorem splice_rel {C : Cfg} {M : Nat → Prop} {l v : List AV} {cs vs : List Value} (hl : All2 (LR C ρ M w) l cs) (hv : All2 (LR C ρ M w) v vs) (off : Nat) : All2 (LR C ρ M w) (splice l off v) (cs.take off ++ vs ++ cs.drop (off + vs.length)) := by
  unfold splice
  rw [hv.length]
  exact ((hl.take off).append hv).append (hl.drop _)
theorem setParts_ok (hf : Fit P T) (h1 : ∀ id, (ρ id).oneCell' = true) (hb : ∀ n, n < N → (β n).oneCell' = true) {t : TypeId} {fs : Array Field} (hu : P.underlying t = some (.struct fs)) {places : List (Nat × Nat)} (hp : fs.toList.mapM (fun f => (P.info? f.type).map fun i => (f.offset, i.size)) = some places) {M : Nat → Prop} :
    ∀ {l : List (Nat × AV)} {vs : List (Nat × Value)} {ls out : List AV} {cells : List Value}, All2 (fun (x : Nat × AV) (y : Nat × Value) => x.1 = y.1 ∧ VR (T.cf β N M0.L) ρ M w x.2 y.2) l vs → setParts P T t l ls = some out → All2 (LR (T.cf β N M0.L) ρ M w) ls cells →
      ∃ cells', Instr.fill (fun x => places[x]?) cells.toArray vs = some cells' ∧ All2 (LR (T.cf β N M0.L) ρ M w) out cells'.toList
  | [], _, ls, out, cells, .nil, ho, hl => by
    simp only [setParts, Option.some.injEq] at ho
    subst ho
    exact ⟨cells.toArray, rfl, hl⟩
  | (i, x) :: l, (i', v) :: vs, ls, out, cells, .cons hx hr, ho, hl => by
    obtain ⟨e, hx⟩ := hx
    simp only at e
    subst e
    simp only [setParts] at ho
    split at ho <;> try (cases ho; done)
    rename_i off ft hfo
    split at ho <;> try (cases ho; done)
    rename_i st hst hfit
    split at ho <;> try (cases ho; done)
    rename_i hlen
    obtain ⟨cs, c1, c2, _⟩ := aggFit_vr (C := T.cf β N M0.L) h1 hb hfit hx
    obtain ⟨fs', f, g1, g2, g3, g4⟩ := fieldOf_spec hfo
    rw [hu] at g1
    obtain rfl : fs = fs' := by simpa using g1
    obtain ⟨ti, z, hi, hsz, _⟩ := (hf.tys.get hst).info
    have hpl : places[i]? = some (off, st.sz) := by
      have := places_get hp i f (by simpa using g2)
      rw [this, g4, hi]
      simp [g3, hsz]
    have hcs : v.cells.size = st.sz := by rw [c1]; have := c2.length; simp; omega
    have hll := hl.length
    rw [fill_step (place := fun x => places[x]?) hpl hcs (by simp; omega)]
    have hsp := splice_rel hl c2 off
    have hcl : cs.length = st.sz := by rw [c1] at hcs; simpa using hcs
    rw [hcl] at hsp
    have e2 : (cells.toArray.toList.take off ++ v.cells.toList ++ cells.toArray.toList.drop (off + st.sz)) = cells.take off ++ cs ++ cells.drop (off + st.sz) := by rw [c1]
    rw [e2]
    exact setParts_ok hf h1 hb hu hp hr ho hsp
where
  places_get {fs : List Field} {places : List (Nat × Nat)} (h : fs.mapM (fun f => (P.info? f.type).map fun i => (f.offset, i.size)) = some places) (i : Nat) (f : Field) (hf : fs[i]? = some f) :
      places[i]? = (P.info? f.type).map fun i => (f.offset, i.size) := by
    induction fs generalizing places i with
    | nil => simp at hf
    | cons g fs ih =>
      simp only [List.mapM_cons, Option.bind_eq_bind, Option.pure_def] at h
      cases hi : P.info? g.type with
      | none => simp [hi] at h
      | some j =>
        cases hr : fs.mapM (fun f => (P.info? f.type).map fun i => (f.offset, i.size)) with
        | none => simp [hi, hr] at h
        | some rest =>
          simp [hi, hr] at h
          subst h
          cases i with
          | zero => simp at hf; subst hf; simp [hi]
          | succ i => simpa using ih hr i (by simpa using hf)
theorem ok_build (hf : Fit P T) (h : Rel (T.cf β N M0.L) M0 w0 sl rs ρ F a w) (hd : ∀ d, o.dst = some d → d < a.tmps.size) {t : TypeId} {ps : Array (Nat × Operand)} (hop : o.op = .build t ps) (he : ev sl rs (step P T o) s r = some (out, s1, r1)) : Goal P T M0 w0 sl rs a w o out := by
  simp only [step, hop] at he
  split at he <;> try (simp [ev] at he; done)
  rename_i st hst hpl
  obtain ⟨l, s2, r2, h1, h2⟩ := ev_bind _ _ _ _ _ he
  split at h2 <;> try (simp [ev] at h2; done)
  rename_i l' hset
  obtain rfl := ret_out h2
  have hparts := partsOf_rel h h1
  unfold placesOk at hpl
  split at hpl <;> try (cases hpl; done)
  rename_i fs hu
  obtain ⟨places, hp⟩ := Option.isSome_iff_exists.1 hpl
  obtain ⟨i, z, hi, hsz, hz, hzc⟩ := (hf.tys.get hst).info
  obtain ⟨cells', e1, e2⟩ := setParts_ok hf h.one h.bone hu hp hparts hset (zleaves_rel st)
  refine runs_value h hd (v := .agg cells') ?_ ⟨cells'.toList, by simp, e2⟩
  have hb : P.built t (ps.map fun (i, x) => (i, a.eval x)).toList = some cells' := by
    unfold Program.built
    simp only [hi, hu, hz, hp, hzc]
    have : (ps.map fun (i, x) => (i, a.eval x)).toList = ps.toList.map fun p => (p.1, a.eval p.2) := by simp
    rw [this]
    simpa using e1
  simp only [execOp, hop, Sem.run_bind, run_build w t _ cells' hb]
  rfl
end
end Go.Pev
