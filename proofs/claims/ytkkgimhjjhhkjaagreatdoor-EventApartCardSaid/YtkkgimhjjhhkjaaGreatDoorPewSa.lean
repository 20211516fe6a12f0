/- The pure evaluator, part Ol: what is handed over at a call. Own text, over any program. -/
import Derived.Test.YtkkgimhjjhhkjaaGreatDoorPewOk
namespace Go.Pev
section
variable {P : Program} {T : Tabs} {C : Cfg} {M0 : Base} {β : Nat → Value} {N : Nat} {w0 : World} {sl : Nat → Option AV} {rs : Nat → Option RS} {ρ : Nat → Value} {F : Nat → Nat → Prop} {a : Act} {w : World} {M : Nat → Prop}
section
variable {L : Nat → Prop}
theorem ValR_lk (ag : Bool) (s : Sh) (x : s.T) (v : Value) : ValR (C.lk L) M w ag s x v = ValR C M w ag s x v := by
  cases ag <;> simp only [ValR, RR_lk]
theorem EntR_lk {ka va : Bool} {k v : Sh} (p : k.T × v.T) (e : MapEntry) : EntR (C.lk L) M w ka va k v p e = EntR C M w ka va k v p e := by
  simp only [EntR, ValR_lk]
theorem MapR_lk {ka va : Bool} {k v : Sh} {l : List (k.T × v.T)} {es : Array MapEntry} {clock : Nat} : MapR (C.lk L) M w ka va k v l es clock ↔ MapR C M w ka va k v l es clock :=
  ⟨fun ⟨m, hp, h⟩ => ⟨m, hp, h.ents.imp fun p e h => (EntR_lk p e) ▸ h, h.keys, h.born, h.nodup⟩, fun ⟨m, hp, h⟩ => ⟨m, hp, h.ents.imp fun p e h => (EntR_lk p e).symm ▸ h, h.keys, h.born, h.nodup⟩⟩
theorem NodeR_lk {v : Value} {G : Nat → Prop} {x : Node} : NodeR (C.lk L) M w v G x ↔ NodeR C M w v G x := by
  cases x with
  | box t s x => simp only [NodeR, RR_lk]
  | map ka va k v' l => simp only [NodeR, MapR_lk]
  | row e s l => simp only [NodeR, All2.congr' (fun a b => RR_lk s a b)]
  | gone => exact Iff.rfl
end
theorem NodeR.relk {L L' : Nat → Prop} {v : Value} {G : Nat → Prop} {x : Node} (h : NodeR (T.cf β N L) M w v G x) : NodeR (T.cf β N L') M w v G x :=
  NodeR_lk.2 (NodeR_lk.1 h)
theorem VR.relk {L L' : Nat → Prop} {x : AV} {v : Value} (h : VR (T.cf β N L) ρ M w x v) : VR (T.cf β N L') ρ M w x v := by
  have h' : VR ((T.toCfg.at β N).lk L) ρ M w x v := h
  show VR ((T.toCfg.at β N).lk L') ρ M w x v
  rw [VR_lk] at h' ⊢
  exact h'
theorem RR.relk {L L' : Nat → Prop} {s : Sh} {x : s.T} {cs : List Value} (h : RR (T.cf β N L) M w s x cs) : RR (T.cf β N L') M w s x cs := by
  have h' : RR ((T.toCfg.at β N).lk L) M w s x cs := h
  show RR ((T.toCfg.at β N).lk L') M w s x cs
  rw [RR_lk] at h' ⊢
  exact h'
def RowOf (rs : Nat → Option RS) (id : Nat) (p : Nat × Option RS) : Prop := ∃ e s l, rs id = some (.row e s l) ∧ p = (7000, some (RS.row e s l))
theorem pureO1_or {x : AV} (h : pureO1 x = true) : (∃ e s l, x = .rowv e s l) ∨ x.pure1 = true := by
  cases x <;> first | exact .inr h | exact .inl ⟨_, _, _, rfl⟩
theorem inLeaf_pure {x : AV} (h : x.pure1 = true) : inLeaf x = (x, []) := by
  cases x <;> first | rfl | (simp [AV.pure1] at h; done)
theorem ownL_ok (h : Rel C M0 w0 sl rs ρ F a w) {x y : AV} {ids : List Nat} {ws : Ws} {s r s1 r1 : List Nat} {v : Value} (he : ev sl rs (ownL x) s r = some ((y, ids, ws), s1, r1)) (hp : pureO1 y = true) (hx : LR C ρ (Mof M0 rs F) w x v) :
    FreezeWs rs ws ∧ All2 (RowOf rs) ids (inLeaf y).2 ∧
      ∀ zz, FreezeWs rs zz → (∀ id q, get ws id = some q → (get zz id).isSome) → ∀ ρ' : Nat → Value, (∀ id ∈ ids, ρ' 7000 = ρ id) → LR C ρ' (Mof M0 (updR rs zz) (fzF F zz)) w (inLeaf y).1 v := by
  have viaData : ∀ {y : AV} {ws : Ws} {s r s1 r1 : List Nat}, ev sl rs (dataL x) s r = some ((y, ws), s1, r1) → pureO1 y = true → FreezeWs rs ws ∧ All2 (RowOf rs) [] (inLeaf y).2 ∧
      ∀ zz, FreezeWs rs zz → (∀ id q, get ws id = some q → (get zz id).isSome) → ∀ ρ' : Nat → Value, (∀ id ∈ ([] : List Nat), ρ' 7000 = ρ id) → LR C ρ' (Mof M0 (updR rs zz) (fzF F zz)) w (inLeaf y).1 v := by
    intro y ws s r s1 r1 he hp
    obtain ⟨z1, f1⟩ := dataL_ok h he hx
    have hl := f1 ws z1 fun id q hq => by simp [hq]
    have hy : y.pure1 = true := by
      rcases pureO1_or hp with ⟨e, s, l, rfl⟩ | h
      · exact hl.elim
      · exact h
    rw [inLeaf_pure hy]
    exact ⟨z1, .nil, fun zz hz hus ρ' _ => (f1 zz hz hus).step (KeepS.refl _ _) (fun k hk _ => hk) fun id hid => by rw [pure_ment1 hy id] at hid; cases hid⟩
  by_cases ho : ∃ id, x = .own id
  · obtain ⟨id, rfl⟩ := ho
    simp only [ownL] at he
    obtain ⟨q, h1, h2⟩ := ev_res he
    cases q with
    | row e s0 l =>
      have := ev_ret h2
      simp only [Prod.mk.injEq] at this
      obtain ⟨⟨rfl, rfl, rfl⟩, _, _⟩ := this
      refine ⟨FreezeWs.nil, .cons ⟨e, s0, l, h1, rfl⟩ .nil, fun zz hz _ ρ' hρ => ?_⟩
      show v = ρ' 7000
      rw [hρ id (List.mem_singleton.2 rfl)]
      exact hx
    | fro s0 l =>
      have := ev_ret h2
      simp only [Prod.mk.injEq] at this
      obtain ⟨⟨rfl, rfl, rfl⟩, _, _⟩ := this
      exact viaData (s := s) (r := r) (s1 := s) (r1 := id :: r) (by simp only [dataL, ev, h1]) hp
    | box _ _ => simp [ev] at h2
    | tok => simp [ev] at h2
    | reg _ _ _ => simp [ev] at h2
    | obj _ _ _ => simp [ev] at h2
  · have hd : ownL x = (dataL x).bind fun (y, ws) => .ret (y, [], ws) := by cases x <;> first | rfl | exact absurd ⟨_, rfl⟩ ho
    rw [hd] at he
    obtain ⟨⟨y', ws'⟩, s2, r2, h1, h2⟩ := ev_bind _ _ _ _ _ he
    have := ev_ret h2
    simp only [Prod.mk.injEq] at this
    obtain ⟨⟨rfl, rfl, rfl⟩, _, _⟩ := this
    exact viaData h1 hp
theorem All2.app {α β : Type} {r : α → β → Prop} {l l' : List α} {m m' : List β} (h : All2 r l m) (h' : All2 r l' m') : All2 r (l ++ l') (m ++ m') := h.append h'
theorem ownLs_ok (h : Rel C M0 w0 sl rs ρ F a w) : ∀ {xs ys : List AV} {ids : List Nat} {ws : Ws} {s r s1 r1 : List Nat} {vs : List Value}, ev sl rs (ownLs xs) s r = some ((ys, ids, ws), s1, r1) → ys.all pureO1 = true → All2 (LR C ρ (Mof M0 rs F) w) xs vs →
    FreezeWs rs ws ∧ All2 (RowOf rs) ids (inLeaves ys).2 ∧
      ∀ zz, FreezeWs rs zz → (∀ id q, get ws id = some q → (get zz id).isSome) → ∀ ρ' : Nat → Value, (∀ id ∈ ids, ρ' 7000 = ρ id) → All2 (LR C ρ' (Mof M0 (updR rs zz) (fzF F zz)) w) (inLeaves ys).1 vs
  | [], ys, ids, ws, s, r, s1, r1, vs, he, hp, hx => by
    simp only [ownLs] at he
    have := ev_ret he
    simp only [Prod.mk.injEq] at this
    obtain ⟨⟨rfl, rfl, rfl⟩, _, _⟩ := this
    cases hx
    exact ⟨FreezeWs.nil, .nil, fun _ _ _ _ _ => .nil⟩
  | x :: xs, ys, ids, ws, s, r, s1, r1, vs, he, hp, hx => by
    simp only [ownLs] at he
    obtain ⟨⟨y, i1, w1⟩, s2, r2, h1, h2⟩ := ev_bind _ _ _ _ _ he
    obtain ⟨⟨l, i2, w2⟩, s3, r3, h3, h4⟩ := ev_bind _ _ _ _ _ h2
    have := ev_ret h4
    simp only [Prod.mk.injEq] at this
    obtain ⟨⟨rfl, rfl, rfl⟩, _, _⟩ := this
    simp only [List.all_cons, Bool.and_eq_true] at hp
    cases hx with
    | cons hx hxs =>
      obtain ⟨z1, a1, f1⟩ := ownL_ok h h1 hp.1 hx
      obtain ⟨z2, a2, f2⟩ := ownLs_ok h h3 hp.2 hxs
      refine ⟨z1.append z2, a1.app a2, fun us hz hus ρ' hρ => .cons (f1 us hz (fun id q hq => hus id q ?_) ρ' fun id hid => hρ id (List.mem_append_left _ hid)) (f2 us hz (fun id q hq => ?_) ρ' fun id hid => hρ id (List.mem_append_right _ hid))⟩
      · rw [get_append, hq]
      · cases hw : get w1 id with
        | some q' => exact hus id q' (by rw [get_append, hw])
        | none => exact hus id q (by rw [get_append, hw, hq])
structure Handed (C : Cfg) (M0 : Base) (rs : Nat → Option RS) (ρ : Nat → Value) (F : Nat → Nat → Prop) (w : World) (y : AV) (ids : List Nat) (ws : Ws) (v : Value) : Prop where
  fz : FreezeWs rs ws
  hin : ∀ lk H, y ≠ .hin lk H
  row : All2 (RowOf rs) ids (inArg y).2
  vr : ∀ zz, FreezeWs rs zz → (∀ id q, get ws id = some q → (get zz id).isSome) → ∀ ρ' : Nat → Value, (∀ id ∈ ids, ρ' 7000 = ρ id) → VR C ρ' (Mof M0 (updR rs zz) (fzF F zz)) w (inArg y).1 v
theorem handed_data {y : AV} {ws : Ws} {v : Value} (hz : FreezeWs rs ws) (hm : ∀ id, y.ment id = false) (hv : ∀ us, FreezeWs rs us → (∀ id q, get ws id = some q → (get us id).isSome) → VR C ρ (Mof M0 (updR rs us) (fzF F us)) w y v) : Handed C M0 rs ρ F w y [] ws v := by
  have h0 := hv ws hz fun id q hq => by simp [hq]
  have e := inArg_id h0
  refine ⟨hz, fun lk H hy => ?_, by rw [e]; exact .nil, fun zz hzz hus ρ' _ => ?_⟩
  · subst hy; exact h0.elim
  · rw [e]
    exact (hv zz hzz hus).step (KeepS.refl _ _) (fun k hk _ => hk) fun id hid => by rw [hm id] at hid; cases hid
theorem oneArg_ok (h : Rel C M0 w0 sl rs ρ F a w) {own : Bool} {t : TypeId} {x y : AV} {ids : List Nat} {ws : Ws} {s r s1 r1 : List Nat} {v : Value} (he : ev sl rs (oneArg P T own t x) s r = some ((y, ids, ws), s1, r1)) (hx : VR C ρ (Mof M0 rs F) w x v) : Handed C M0 rs ρ F w y ids ws v := by
  unfold oneArg at he
  cases own with
  | true =>
    simp only at he
    unfold ownArg at he
    split at he
    · rename_i l _
      obtain ⟨⟨l', i1, w1⟩, s2, r2, h1, h2⟩ := ev_bind _ _ _ _ _ he
      simp only at h2
      split at h2 <;> try (simp [ev] at h2; done)
      rename_i hp
      have := ev_ret h2
      simp only [Prod.mk.injEq] at this
      obtain ⟨⟨rfl, rfl, rfl⟩, _, _⟩ := this
      obtain ⟨cs, rfl, hl⟩ := hx.ag
      obtain ⟨z1, a1, f1⟩ := ownLs_ok h h1 hp hl
      exact ⟨z1, fun lk H e => (by cases e), a1, fun zz hz hus ρ' hρ => ⟨cs, rfl, f1 zz hz hus ρ' hρ⟩⟩
    · split at he <;> try (simp [ev] at he; done)
      rename_i hok
      obtain ⟨⟨y', i1, w1⟩, s2, r2, h1, h2⟩ := ev_bind _ _ _ _ _ he
      simp only at h2
      split at h2 <;> try (simp [ev] at h2; done)
      rename_i hp
      have := ev_ret h2
      simp only [Prod.mk.injEq] at this
      obtain ⟨⟨rfl, rfl, rfl⟩, _, _⟩ := this
      obtain ⟨z1, a1, f1⟩ := ownL_ok h h1 hp (hx.toLR hok)
      have hag : inArg y = inLeaf y := by cases y <;> first | rfl | (simp [pureO1, AV.pure1] at hp; done)
      refine ⟨z1, fun lk H e => by subst e; simp [pureO1, AV.pure1] at hp, by rw [hag]; exact a1, fun zz hz hus ρ' hρ => by rw [hag]; exact (f1 zz hz hus ρ' hρ).toVR⟩
    · simp [ev] at he
  | false =>
    simp only at he
    split at he
    · rename_i hc
      have := ev_ret he
      simp only [Prod.mk.injEq] at this
      obtain ⟨⟨rfl, rfl, rfl⟩, _, _⟩ := this
      have hp : y.pure = true := by
        unfold isClo at hc
        split at hc
        · exact hc
        · exact hc
        · cases hc
      exact handed_data FreezeWs.nil (pure_ment hp) fun us hz _ => hx.step (KeepS.refl _ _) (fun k hk _ => freeze_sub h hz k hk) fun _ _ => rfl
    · obtain ⟨⟨y', w1⟩, s2, r2, h1, h2⟩ := ev_bind _ _ _ _ _ he
      have := ev_ret h2
      simp only [Prod.mk.injEq] at this
      obtain ⟨⟨rfl, rfl, rfl⟩, _, _⟩ := this
      obtain ⟨z1, m1, f1⟩ := normArg_ok h h1 hx
      exact handed_data z1 m1 fun us hz hus => (f1 us hz hus).toVR
theorem inArgs_cons {x : AV} (h : ∀ lk H, x ≠ .hin lk H) (l : List AV) : inArgs (x :: l) = ((inArg x).1 :: (inArgs l).1, (inArg x).2 ++ (inArgs l).2) := by
  cases x <;> first | rfl | exact absurd rfl (h _ _)
theorem inArgs_app : ∀ {l : List AV}, (∀ x ∈ l, ∀ lk H, x ≠ .hin lk H) → ∀ m, inArgs (l ++ m) = ((inArgs l).1 ++ (inArgs m).1, (inArgs l).2 ++ (inArgs m).2)
  | [], _, _ => rfl
  | x :: l, h, m => by
    rw [List.cons_append, inArgs_cons (h x List.mem_cons_self), inArgs_cons (h x List.mem_cons_self), inArgs_app (fun y hy => h y (List.mem_cons_of_mem _ hy)) m]
    simp
theorem allArgs_ok (h : Rel C M0 w0 sl rs ρ F a w) {own : Option Nat} : ∀ {i : Nat} {ts : List TypeId} {xs ys : List AV} {ids : List Nat} {ws : Ws} {s r s1 r1 : List Nat} {vs : List Value}, ev sl rs (allArgs P T own i ts xs) s r = some ((ys, ids, ws), s1, r1) → All2 (VR C ρ (Mof M0 rs F) w) xs vs →
    FreezeWs rs ws ∧ (∀ y ∈ ys, ∀ lk H, y ≠ .hin lk H) ∧ All2 (RowOf rs) ids (inArgs ys).2 ∧
      ∀ zz, FreezeWs rs zz → (∀ id q, get ws id = some q → (get zz id).isSome) → ∀ ρ' : Nat → Value, (∀ id ∈ ids, ρ' 7000 = ρ id) → All2 (VR C ρ' (Mof M0 (updR rs zz) (fzF F zz)) w) (inArgs ys).1 vs
  | _, [], [], ys, ids, ws, s, r, s1, r1, vs, he, hx => by
    simp only [allArgs] at he
    have := ev_ret he
    simp only [Prod.mk.injEq] at this
    obtain ⟨⟨rfl, rfl, rfl⟩, _, _⟩ := this
    cases hx
    exact ⟨FreezeWs.nil, fun _ hy => by simp at hy, .nil, fun _ _ _ _ _ => .nil⟩
  | _, [], _ :: _, _, _, _, _, _, _, _, _, he, _ => by simp [allArgs, ev] at he
  | _, _ :: _, [], _, _, _, _, _, _, _, _, he, _ => by simp [allArgs, ev] at he
  | i, t :: ts, x :: xs, ys, ids, ws, s, r, s1, r1, vs, he, hx => by
    simp only [allArgs] at he
    obtain ⟨⟨y, i1, w1⟩, s2, r2, h1, h2⟩ := ev_bind _ _ _ _ _ he
    obtain ⟨⟨l, i2, w2⟩, s3, r3, h3, h4⟩ := ev_bind _ _ _ _ _ h2
    have := ev_ret h4
    simp only [Prod.mk.injEq] at this
    obtain ⟨⟨rfl, rfl, rfl⟩, _, _⟩ := this
    cases hx with
    | cons hx hxs =>
      obtain ⟨z1, n1, a1, f1⟩ := oneArg_ok h h1 hx
      obtain ⟨z2, n2, a2, f2⟩ := allArgs_ok h h3 hxs
      rw [inArgs_cons n1]
      refine ⟨z1.append z2, ?_, a1.app a2, fun us hz hus ρ' hρ => .cons (f1 us hz (fun id q hq => hus id q ?_) ρ' fun id hid => hρ id (List.mem_append_left _ hid)) (f2 us hz (fun id q hq => ?_) ρ' fun id hid => hρ id (List.mem_append_right _ hid))⟩
      · intro z hz
        rcases List.mem_cons.1 hz with rfl | hz
        · exact n1
        · exact n2 z hz
      · rw [get_append, hq]
      · cases hw : get w1 id with
        | some q' => exact hus id q' (by rw [get_append, hw])
        | none => exact hus id q (by rw [get_append, hw, hq])
end
end Go.Pev
/- The pure evaluator, part Om: memory at a call: what the callee gets. Own text, over any program. -/
namespace Go.Pev
def cL (M0 : Base) (G : Nat → Nat → Prop) (reg : Bool) (its : List (Nat × It)) (k : Nat) : Prop := reg = true ∧ ∃ n, G n k ∧ (M0.L k ∨ n ∈ itLocks its)
def cW (M0 : Base) (F : Nat → Nat → Prop) (G : Nat → Nat → Prop) (oid : Option Nat) (reg : Bool) (its : List (Nat × It)) (k : Nat) : Prop := (∃ id, oid = some id ∧ F id k) ∨ (reg = true ∧ (∃ n, G n k) ∧ ¬ cL M0 G reg its k)
def cV (ρ : Nat → Value) (oid : Option Nat) : Value := match oid with | some id => ρ id | none => .nilIface
def cB (β : Nat → Value) (N : Nat) (M0 : Base) (rs : Nat → Option RS) (ρ : Nat → Value) (F : Nat → Nat → Prop) (G : Nat → Nat → Prop) (oid : Option Nat) (reg : Bool) (lk : List Nat) (its : List (Nat × It)) : Base :=
  ⟨fun k => Mof M0 rs F k ∧ ¬ cW M0 F G oid reg its k ∧ ¬ cL M0 G reg its k, cW M0 F G oid reg its, cL M0 G reg its, β, N, cV ρ oid, itLocks its ++ lk⟩
def cR (ρ : Nat → Value) (oid : Option Nat) : Nat → Value := fun i => if i = 7000 then cV ρ oid else ρ i
def cF (F : Nat → Nat → Prop) (G : Nat → Nat → Prop) (oid : Option Nat) (reg : Bool) : Nat → Nat → Prop := fun i => if i = 7000 then (fun k => ∃ id, oid = some id ∧ F id k) else if i = REG then (fun k => reg = true ∧ ∃ n, G n k) else fun _ => False
structure CallIn (T : Tabs) (β : Nat → Value) (N : Nat) (M0 : Base) (rs : Nat → Option RS) (ρ : Nat → Value) (F : Nat → Nat → Prop) (w : World) (G : Nat → Nat → Prop) (oid : Option Nat) (reg : Bool) (lk : List Nat) (its : List (Nat × It)) (H : List Node) (ins : Nat → Option RS) : Prop where
  row : ∀ id, oid = some id → id ≠ REG ∧ ∃ e s l, rs id = some (.row e s l) ∧ ins 7000 = some (.row e s l)
  noRow : oid = none → ins 7000 = none
  rg : reg = true → rs REG = some (.reg lk its H) ∧ RegG (T.cf β N M0.L) ρ (Mof M0 rs F) w (F REG) G lk its H ∧ ins REG = some (.reg (itLocks its ++ lk) [] H)
  noRg : reg = false → ins REG = none
  oth : ∀ i, i ≠ 7000 → i ≠ REG → ins i = none
section
variable {P : Program} {T : Tabs} {M0 : Base} {β : Nat → Value} {N : Nat} {w0 : World} {sl : Nat → Option AV} {rs : Nat → Option RS} {ρ : Nat → Value} {F : Nat → Nat → Prop} {a : Act} {w : World}
  {G : Nat → Nat → Prop} {oid : Option Nat} {reg : Bool} {lk : List Nat} {its : List (Nat × It)} {H : List Node} {ins : Nat → Option RS}
theorem CallIn.gF (hc : CallIn T β N M0 rs ρ F w G oid reg lk its H ins) (hr : reg = true) {n k : Nat} (hg : G n k) : F REG k := ((hc.rg hr).2.1.fp k).2 (.inl ⟨n, hg⟩)
theorem CallIn.lF (hc : CallIn T β N M0 rs ρ F w G oid reg lk its H ins) {k : Nat} (h : cL M0 G reg its k) : reg = true ∧ F REG k := by
  obtain ⟨hr, n, hg, _⟩ := h
  exact ⟨hr, hc.gF hr hg⟩
theorem CallIn.lM (hc : CallIn T β N M0 rs ρ F w G oid reg lk its H ins) {k : Nat} (h : cL M0 G reg its k) : Mof M0 rs F k := by
  obtain ⟨hr, hF⟩ := hc.lF h
  exact .inr ⟨REG, _, (hc.rg hr).1, hF⟩
theorem CallIn.wM (hc : CallIn T β N M0 rs ρ F w G oid reg lk its H ins) {k : Nat} (h : cW M0 F G oid reg its k) : Mof M0 rs F k := by
  rcases h with ⟨id, ho, hF⟩ | ⟨hr, ⟨n, hg⟩, _⟩
  · obtain ⟨_, e, s, l, h1, _⟩ := hc.row id ho
    exact .inr ⟨id, _, h1, hF⟩
  · exact .inr ⟨REG, _, (hc.rg hr).1, hc.gF hr hg⟩
theorem CallIn.wL (hc : CallIn T β N M0 rs ρ F w G oid reg lk its H ins) (h : Rel (T.cf β N M0.L) M0 w0 sl rs ρ F a w) {k : Nat} (hw : cW M0 F G oid reg its k) : ¬ cL M0 G reg its k := by
  rcases hw with ⟨id, ho, hF⟩ | ⟨_, _, hn⟩
  · intro hl
    obtain ⟨hr, hR⟩ := hc.lF hl
    obtain ⟨hne, e, s, l, h1, _⟩ := hc.row id ho
    exact h.disj id REG _ _ k h1 (hc.rg hr).1 hne hF hR
  · exact hn
theorem CallIn.wW (hc : CallIn T β N M0 rs ρ F w G oid reg lk its H ins) (h : Rel (T.cf β N M0.L) M0 w0 sl rs ρ F a w) {k : Nat} (hw : cW M0 F G oid reg its k) : M0.W k ∨ w0.heap.size ≤ k := by
  rcases hw with ⟨id, ho, hF⟩ | ⟨hr, ⟨n, hg⟩, hn⟩
  · obtain ⟨hne, e, s, l, h1, _⟩ := hc.row id ho
    exact h.rngW h1 hF fun f => f
  · rcases (h.rng REG _ k (hc.rg hr).1 (hc.gF hr hg)).1 with h' | h' | h'
    · exact .inl h'
    · exact absurd ⟨hr, n, hg, .inl h'.2⟩ hn
    · exact .inr h'
theorem CallIn.wO (hc : CallIn T β N M0 rs ρ F w G oid reg lk its H ins) (h : Rel (T.cf β N M0.L) M0 w0 sl rs ρ F a w) {id : Nat} {st : RS} {k : Nat} (h1 : oid ≠ some id) (h2 : ¬ (reg = true ∧ id = REG)) (hst : rs id = some st) (hF : F id k) : ¬ cW M0 F G oid reg its k ∧ ¬ cL M0 G reg its k := by
  constructor
  · rintro (⟨i, ho, hF'⟩ | ⟨hr, ⟨n, hg⟩, _⟩)
    · obtain ⟨_, e, s, l, h3, _⟩ := hc.row i ho
      exact h.disj i id _ _ k h3 hst (fun e => h1 (by rw [ho, e])) hF' hF
    · exact h.disj REG id _ _ k (hc.rg hr).1 hst (fun e => h2 ⟨hr, e.symm⟩) (hc.gF hr hg) hF
  · intro hl
    obtain ⟨hr, hR⟩ := hc.lF hl
    exact h.disj REG id _ _ k (hc.rg hr).1 hst (fun e => h2 ⟨hr, e.symm⟩) hR hF
theorem CallIn.itO (hc : CallIn T β N M0 rs ρ F w G oid reg lk its H ins) (h : Rel (T.cf β N M0.L) M0 w0 sl rs ρ F a w) (hr : reg = true) {p : Nat × It} (hp : p ∈ its) {k : Nat} (hb : itBlk ρ p = some k) : F REG k ∧ ¬ cW M0 F G oid reg its k ∧ ¬ cL M0 G reg its k := by
  obtain ⟨h1, hG, _⟩ := hc.rg hr
  have hF : F REG k := (hG.fp k).2 (.inr ⟨p, hp, hb⟩)
  have hno := hG.itNo hp hb
  refine ⟨hF, ?_, fun ⟨_, n, hg, _⟩ => hno n hg⟩
  rintro (⟨i, ho, hF'⟩ | ⟨_, ⟨n, hg⟩, _⟩)
  · obtain ⟨hne, e, s, l, h3, _⟩ := hc.row i ho
    exact h.disj i REG _ _ k h3 h1 hne hF' hF
  · exact hno n hg
theorem CallIn.cMof (hc : CallIn T β N M0 rs ρ F w G oid reg lk its H ins) {k : Nat} (hk : Mof (cB β N M0 rs ρ F G oid reg lk its) ins (cF F G oid reg) k) : Mof M0 rs F k := by
  rcases hk with h0 | ⟨i, st, hi, hF⟩
  · exact h0.1
  · unfold cF at hF
    split at hF
    · obtain ⟨id, ho, hF⟩ := hF
      obtain ⟨_, e, s, l, h3, _⟩ := hc.row id ho
      exact .inr ⟨id, _, h3, hF⟩
    · split at hF
      · obtain ⟨hr, n, hg⟩ := hF
        exact .inr ⟨REG, _, (hc.rg hr).1, hc.gF hr hg⟩
      · exact hF.elim
theorem call_in (hc : CallIn T β N M0 rs ρ F w G oid reg lk its H ins) (h : Rel (T.cf β N M0.L) M0 w0 sl rs ρ F a w) :
    Mem (T.cf β N (cL M0 G reg its)) (cB β N M0 rs ρ F G oid reg lk its) w ins (cR ρ oid) (cF F G oid reg) w := by
  have hMlt := h.Mlt
  have hF7 : cF F G oid reg 7000 = fun k => ∃ id, oid = some id ∧ F id k := if_pos rfl
  have hFR : cF F G oid reg REG = fun k => reg = true ∧ ∃ n, G n k := by unfold cF; rw [if_neg (by decide), if_pos rfl]
  have hins : ∀ i st, ins i = some st → (i = 7000 ∧ ∃ id, oid = some id ∧ id ≠ REG ∧ ∃ e s l, rs id = some (.row e s l) ∧ st = .row e s l) ∨ (i = REG ∧ reg = true ∧ st = .reg (itLocks its ++ lk) [] H) := by
    intro i st hi
    by_cases e7 : i = 7000
    · subst e7
      left
      cases ho : oid with
      | none => rw [hc.noRow ho] at hi; cases hi
      | some id =>
        obtain ⟨h1, e, s, l, h2, h3⟩ := hc.row id ho
        rw [hi] at h3
        exact ⟨rfl, id, rfl, h1, e, s, l, h2, Option.some.inj h3⟩
    · by_cases eR : i = REG
      · subst eR
        right
        cases hr : reg with
        | false => rw [hc.noRg hr] at hi; cases hi
        | true =>
          have := (hc.rg hr).2.2
          rw [hi] at this
          exact ⟨rfl, rfl, Option.some.inj this⟩
      · rw [hc.oth i e7 eR] at hi; cases hi
  refine { keep := KeepS.refl _ _, m0 := fun k hk => ⟨hMlt k hk.1, hk.2.1, hk.2.2⟩, wl := fun k hk => hc.wL h hk, lsz := fun k hk => hMlt k (hc.lM hk), res := fun i st hi => ?_, rng := fun i st k hi hF => ?_, disj := fun i j s t k hi hj hij hF => ?_,
           one := fun i => ?_, bone := h.bone, ext := ⟨Nat.le_refl _, fun _ _ => rfl⟩, glob := fun p hp => ?_, own7 := fun _ => if_pos rfl, lkz := fun lk' its' H' h' => ?_ }
  · rcases hins i st hi with ⟨rfl, id, ho, hne, e, s, l, h1, rfl⟩ | ⟨rfl, hr, rfl⟩
    · obtain ⟨css, hown, hF, hel⟩ := h.res id _ h1
      have hv : cR ρ oid 7000 = ρ id := by unfold cR; rw [if_pos rfl, ho]; rfl
      refine ⟨css, by rw [hv]; exact hown, fun k => ?_, hel.imp fun x cs hx => RR.relk (RR.step (KeepS.refl _ w) (fun k hk _ => hc.cMof hk) s x cs hx)⟩
      rw [hF7, hv]
      constructor
      · rintro ⟨id', ho', hF'⟩
        rw [ho] at ho'
        obtain rfl := Option.some.inj ho'
        exact (hF k).1 hF'
      · intro hk
        exact ⟨id, ho, (hF k).2 hk⟩
    · obtain ⟨h1, hG, _⟩ := hc.rg hr
      refine ⟨rfl, G, hG.len, fun n x hn => ((hG.node n x hn).step (KeepS.refl (fun _ => False) w) (fun _ f => f.elim) (fun _ _ f => f) (fun k hk _ => hc.cMof hk)).relk, hG.lt, hG.disj, fun k => ?_, fun p hp => (by cases hp), .nil, fun n k hg hl => ?_, fun p hp => (by cases hp)⟩
      · rw [hFR]
        constructor
        · exact fun hk => .inl hk.2
        · rintro (hk | ⟨p, hp, _⟩)
          · exact ⟨hr, hk⟩
          · cases hp
      · obtain ⟨_, m, hm, hor⟩ := hl
        have hmn : m = n := Classical.byContradiction fun hne => hG.disj m n k hne hm hg
        subst hmn
        rcases hor with hL | hi
        · exact List.mem_append_right _ (hG.lock m k hg hL)
        · exact List.mem_append_left _ hi
  · rcases hins i st hi with ⟨rfl, id, ho, hne, e, s, l, h1, rfl⟩ | ⟨rfl, hr, rfl⟩
    · rw [hF7] at hF
      exact ⟨.inl (.inl hF), hMlt k (hc.wM (.inl hF))⟩
    · rw [hFR] at hF
      obtain ⟨_, hg⟩ := hF
      refine ⟨?_, hMlt k ?_⟩
      · by_cases hl : cL M0 G reg its k
        · exact .inr (.inl ⟨trivial, hl⟩)
        · exact .inl (.inr ⟨hr, hg, hl⟩)
      · obtain ⟨n, hg⟩ := hg
        exact .inr ⟨REG, _, (hc.rg hr).1, hc.gF hr hg⟩
  · have key : ∀ k, (∃ id, oid = some id ∧ F id k) → (reg = true ∧ ∃ n, G n k) → False := by
      rintro k ⟨id, ho, hF⟩ ⟨hr, n, hg⟩
      obtain ⟨hne, e, s, l, h3, _⟩ := hc.row id ho
      exact h.disj id REG _ _ k h3 (hc.rg hr).1 hne hF (hc.gF hr hg)
    rcases hins i s hi with ⟨rfl, _⟩ | ⟨rfl, _⟩ <;> rcases hins j t hj with ⟨rfl, _⟩ | ⟨rfl, _⟩
    · exact absurd rfl hij
    · rw [hF7] at hF; rw [hFR]; exact key k hF
    · rw [hFR] at hF; rw [hF7]; exact fun h => key k h hF
    · exact absurd rfl hij
  · unfold cR
    split
    · unfold cV; split
      · exact h.one _
      · rfl
    · exact h.one i
  · obtain ⟨g1, g2, g3⟩ := h.globM p hp
    exact ⟨g1, g2, fun hh => hh.elim (fun f => g3 f.1) fun hh => hh.elim (fun f => g3 (hc.wM f)) fun f => g3 (hc.lM f)⟩
  · rcases hins REG _ h' with ⟨e, _⟩ | ⟨_, _, e⟩
    · exact absurd e (by decide)
    · cases e; rfl
end
end Go.Pev
/- The pure evaluator, part On: memory behind a call. Own text, over any program. -/
namespace Go.Pev
section
variable {P : Program} {T : Tabs} {M0 : Base} {β : Nat → Value} {N : Nat} {w0 : World} {sl : Nat → Option AV} {rs : Nat → Option RS} {ρ : Nat → Value} {F : Nat → Nat → Prop} {a : Act} {w : World}
  {G : Nat → Nat → Prop} {oid : Option Nat} {reg : Bool} {lk : List Nat} {its : List (Nat × It)} {H : List Node} {ins : Nat → Option RS}
theorem RR.refree {b b' : Nat → Value} {n n' : Nat} {L L' : Nat → Prop} {M : Nat → Prop} {s : Sh} {x : s.T} {cs : List Value} (hs : s.rfree = true) (h : RR (T.cf b n L) M w s x cs) : RR (T.cf b' n' L') M w s x cs := by
  have h' : RR ((T.toCfg.at b n).lk L) M w s x cs := h
  show RR ((T.toCfg.at b' n').lk L') M w s x cs
  rw [RR_lk, RR_at s x cs hs] at h' ⊢
  exact h'
theorem NodeR.map_at {C : Cfg} {M : Nat → Prop} {v : Value} {G : Nat → Prop} {x : Node} {b : Nat} (h : NodeR C M w v G x) (hv : v = .map (some b)) : ∀ k, G k ↔ k = b := by
  subst hv
  cases x with
  | box t s x => obtain ⟨b', cells, h1, _⟩ := h; cases h1
  | map ka va kk v' l =>
    obtain ⟨b', es, clock, h1, h2, _⟩ := h
    obtain rfl : b = b' := by simpa using h1
    exact h2
  | row e s l =>
    obtain ⟨css, h1, _⟩ := h
    obtain ⟨A, c, h2, _⟩ := own_slice h1
    cases h2
  | gone => exact absurd rfl (h.2 b)
theorem itLocks_mem : ∀ {its : List (Nat × It)} {n : Nat}, n ∈ itLocks its → ∃ p ∈ its, ∃ a b c d e f g, p.2 = .it (some n) a b c d e f g
  | [], _, h => by cases h
  | (i, .it (some m) a b c d e f g) :: r, n, h => by
    simp only [itLocks, List.mem_cons] at h
    rcases h with rfl | h
    · exact ⟨_, List.mem_cons_self, _, _, _, _, _, _, _, rfl⟩
    · obtain ⟨p, h1, h2⟩ := itLocks_mem h; exact ⟨p, List.mem_cons_of_mem _ h1, h2⟩
  | (i, .it none a b c d e f g) :: r, n, h => by
    obtain ⟨p, h1, h2⟩ := itLocks_mem (its := r) h; exact ⟨p, List.mem_cons_of_mem _ h1, h2⟩
  | (i, .mark ..) :: r, n, h => by
    obtain ⟨p, h1, h2⟩ := itLocks_mem (its := r) h; exact ⟨p, List.mem_cons_of_mem _ h1, h2⟩
theorem itLocks_in : ∀ {its : List (Nat × It)} {i n : Nat} {a b : Bool} {c d : Sh} {e : List (c.T × d.T)} {f : Option (c.T × d.T)} {g : Option (Option (c.T × d.T))}, (i, It.it (some n) a b c d e f g) ∈ its → n ∈ itLocks its
  | [], _, _, _, _, _, _, _, _, _, h => by cases h
  | (_, .it (some m) _ _ _ _ _ _ _) :: r, _, _, _, _, _, _, _, _, _, h => by
    simp only [itLocks, List.mem_cons]
    rcases List.mem_cons.1 h with h | h
    · cases h; exact .inl rfl
    · exact .inr (itLocks_in h)
  | (_, .it none _ _ _ _ _ _ _) :: r, _, _, _, _, _, _, _, _, _, h => by
    rcases List.mem_cons.1 h with h | h
    · cases h
    · exact itLocks_in (its := r) h
  | (_, .mark ..) :: r, _, _, _, _, _, _, _, _, _, h => by
    rcases List.mem_cons.1 h with h | h
    · cases h
    · exact itLocks_in (its := r) h
theorem call_out (hc : CallIn T β N M0 rs ρ F w G oid reg lk its H ins) (h : Rel (T.cf β N M0.L) M0 w0 sl rs ρ F a w) {w' : World} {b : Nat → Value} {n : Nat} {ρ' : Nat → Value} {F' : Nat → Nat → Prop} {outs rs'' : Nat → Option RS} {nd : Option Nat} {H' : List Node}
    (hm : Mem (T.cf b n (cL M0 G reg its)) (cB β N M0 rs ρ F G oid reg lk its) w outs ρ' F' w')
    (hnd : ∀ d, nd = some d → Fresh sl rs d ∧ d ≠ REG ∧ oid ≠ some d ∧ ∃ e s l, rs'' d = some (.row e s l) ∧ outs 8000 = some (.row e s l) ∧ (reg = false → s.rfree = true))
    (hid : ∀ id, oid = some id → rs'' id = outs 7000 ∧ ∀ st, outs 7000 = some st → ∃ e s l, st = .row e s l ∧ (reg = false → s.rfree = true))
    (hrg : reg = true → rs'' REG = some (.reg lk (unmark its) H') ∧ outs REG = some (.reg (itLocks its ++ lk) [] H'))
    (hot : ∀ i, nd ≠ some i → oid ≠ some i → ¬ (reg = true ∧ i = REG) → rs'' i = rs i) :
    ∃ ρ'' F'' bb nn, Rel (T.cf bb nn M0.L) M0 w0 sl rs'' ρ'' F'' a w' ∧ (∀ k, Mof M0 rs'' F'' k → Mof (cB β N M0 rs ρ F G oid reg lk its) outs F' k) ∧ (∀ d, nd = some d → ρ'' d = ρ' 8000) ∧ ((bb = b ∧ nn = n) ∨ (reg = false ∧ bb = β ∧ nn = N)) := by
  obtain ⟨bb, nn, hbn⟩ : ∃ bb nn, (reg = true ∧ bb = b ∧ nn = n) ∨ (reg = false ∧ bb = β ∧ nn = N) := by
    cases reg with
    | true => exact ⟨b, n, .inl ⟨rfl, rfl, rfl⟩⟩
    | false => exact ⟨β, N, .inr ⟨rfl, rfl, rfl⟩⟩
  have hext : N ≤ n ∧ ∀ i, i < N → b i = β i := hm.ext
  have conv : ∀ {M : Nat → Prop} {s : Sh} {x : s.T} {cs : List Value}, (reg = false → s.rfree = true) → RR (T.cf b n (cL M0 G reg its)) M w' s x cs → RR (T.cf bb nn M0.L) M w' s x cs := by
    intro M s x cs hs hx
    rcases hbn with ⟨_, rfl, rfl⟩ | ⟨hr, rfl, rfl⟩
    · exact hx.relk
    · exact hx.refree (hs hr)
  have hC : Ext (T.cf β N M0.L) (T.cf bb nn M0.L) := by
    rcases hbn with ⟨_, rfl, rfl⟩ | ⟨_, rfl, rfl⟩
    · exact ⟨bb, nn, rfl, hext.1, hext.2⟩
    · exact Ext.refl _
  let ρ'' : Nat → Value := fun i => if nd = some i then ρ' 8000 else ρ i
  let F'' : Nat → Nat → Prop := fun i => if nd = some i then F' 8000 else if oid = some i then F' 7000 else if reg = true ∧ i = REG then (fun k => F' REG k ∨ ∃ p ∈ its, itBlk ρ p = some k) else F i
  have hRR : reg = true → nd ≠ some REG ∧ oid ≠ some REG := fun _ => ⟨fun e => (hnd REG e).2.1 rfl, fun e => (hc.row REG e).1 rfl⟩
  have hFd : ∀ d, nd = some d → F'' d = F' 8000 := fun d e => if_pos e
  have hFi : ∀ i, nd ≠ some i → oid = some i → F'' i = F' 7000 := fun i h1 h2 => (if_neg h1).trans (if_pos h2)
  have hFR : reg = true → F'' REG = fun k => F' REG k ∨ ∃ p ∈ its, itBlk ρ p = some k := fun hr => (if_neg (hRR hr).1).trans ((if_neg (hRR hr).2).trans (if_pos ⟨hr, rfl⟩))
  have hFo : ∀ i, nd ≠ some i → oid ≠ some i → ¬ (reg = true ∧ i = REG) → F'' i = F i := fun i h1 h2 h3 => (if_neg h1).trans ((if_neg h2).trans (if_neg h3))
  have hsub : ∀ k, Mof M0 rs'' F'' k → Mof (cB β N M0 rs ρ F G oid reg lk its) outs F' k := by
    rintro k (h0 | ⟨i, st, hi, hF⟩)
    · refine .inl ⟨.inl h0, fun hw => ?_, fun hl => ?_⟩
      · obtain ⟨h1, h2, _⟩ := h.m0 k h0
        rcases hc.wW h hw with h' | h'
        · exact h2 h'
        · omega
      · obtain ⟨hr, hR⟩ := hc.lF hl
        exact h.notM0 (hc.rg hr).1 hR h0
    · by_cases h1 : nd = some i
      · obtain ⟨_, _, _, e, s, l, _, g2, _⟩ := hnd i h1
        rw [hFd i h1] at hF
        exact .inr ⟨8000, _, g2, hF⟩
      · by_cases h2 : oid = some i
        · rw [hFi i h1 h2] at hF
          rw [(hid i h2).1] at hi
          exact .inr ⟨7000, _, hi, hF⟩
        · by_cases h3 : reg = true ∧ i = REG
          · obtain ⟨hr, rfl⟩ := h3
            rw [hFR hr] at hF
            rcases hF with hF | ⟨p, hp, hb⟩
            · exact .inr ⟨REG, _, (hrg hr).2, hF⟩
            · obtain ⟨g1, g2, g3⟩ := hc.itO h hr hp hb
              exact .inl ⟨.inr ⟨REG, _, (hc.rg hr).1, g1⟩, g2, g3⟩
          · rw [hFo i h1 h2 h3] at hF
            rw [hot i h1 h2 h3] at hi
            obtain ⟨g2, g3⟩ := hc.wO h h2 h3 hi hF
            exact .inl ⟨.inr ⟨i, _, hi, hF⟩, g2, g3⟩
  refine ⟨ρ'', F'', bb, nn, ?_, hsub, fun d hd => if_pos hd, hbn.imp (·.2) _root_.id⟩
  have hsz : w.heap.size ≤ w'.heap.size := hm.keep.size
  have hsz0 := h.keep.size
  have hfr : ∀ t av id, sl t = some av → av.ment id = true → ρ'' id = ρ id := fun t av id ht hme => if_neg fun e => by rw [(hnd id e).1.slots t av ht] at hme; cases hme
  have hfr2 : ∀ id st i, rs id = some st → st.ment i = true → ρ'' i = ρ i := fun id st i hst hme => if_neg fun e => by rw [(hnd i e).1.res id st hst] at hme; cases hme
  have hits : reg = true → ∀ p ∈ its, ρ'' p.1 = ρ p.1 := fun hr p hp => hfr2 REG _ p.1 (hc.rg hr).1 (List.any_eq_true.2 ⟨p, hp, Nat.beq_refl _⟩)
  -- a row of the callee's, behind the call
  have rows : ∀ {j : Nat} {e : TypeId} {s : Sh} {l : List s.T} {i : Nat}, outs j = some (.row e s l) → (reg = false → s.rfree = true) → ρ'' i = ρ' j → F'' i = F' j → ResOk (T.cf bb nn M0.L) ρ'' (Mof M0 rs'' F'') w' i (F'' i) (.row e s l) := by
    intro j e s l i hj hs hρ hF
    obtain ⟨css, hown, hFk, hel⟩ := hm.res j _ hj
    refine ⟨css, by rw [hρ]; exact hown, fun k => by rw [hF, hρ]; exact hFk k, hel.imp fun x cs hx => conv hs (RR.step (KeepS.refl _ w') (fun k hk _ => hsub k hk) s x cs hx)⟩
  -- a block of the callee's
  have blk : ∀ {j : Nat} {st : RS} {k : Nat}, outs j = some st → F' j k → (cW M0 F G oid reg its k ∨ (isReg st ∧ cL M0 G reg its k) ∨ w.heap.size ≤ k) ∧ k < w'.heap.size := fun hj hF => hm.rng _ _ _ hj hF
  have dj : ∀ {c : Nat} {st : RS} {k j : Nat} {t : RS}, outs c = some st → F' c k → (nd = some j → c ≠ 8000) → (nd ≠ some j → oid = some j → c ≠ 7000) → (reg = true ∧ j = REG → c ≠ REG) → rs'' j = some t → ¬ F'' j k := by
    intro c st k j t hcs hF q1 q2 q3 hj hFj
    by_cases h1 : nd = some j
    · obtain ⟨_, _, _, e, s, l, _, g2, _⟩ := hnd j h1
      rw [hFd j h1] at hFj
      exact hm.disj c 8000 _ _ k hcs g2 (q1 h1) hF hFj
    · by_cases h2 : oid = some j
      · rw [hFi j h1 h2] at hFj
        rw [(hid j h2).1] at hj
        exact hm.disj c 7000 _ _ k hcs hj (q2 h1 h2) hF hFj
      · by_cases h3 : reg = true ∧ j = REG
        · obtain ⟨hr, rfl⟩ := h3
          rw [hFR hr] at hFj
          rcases hFj with hFj | ⟨p, hp, hb⟩
          · exact hm.disj c REG _ _ k hcs (hrg hr).2 (q3 ⟨hr, rfl⟩) hF hFj
          · obtain ⟨g1, g2, g3⟩ := hc.itO h hr hp hb
            rcases (blk hcs hF).1 with h' | h' | h'
            · exact g2 h'
            · exact g3 h'.2
            · have := (h.rng REG _ k (hc.rg hr).1 g1).2; omega
        · rw [hFo j h1 h2 h3] at hFj
          rw [hot j h1 h2 h3] at hj
          obtain ⟨g2, g3⟩ := hc.wO h h2 h3 hj hFj
          rcases (blk hcs hF).1 with h' | h' | h'
          · exact g2 h'
          · exact g3 h'.2
          · have := (h.rng j t k hj hFj).2; omega
  have rowRng : ∀ {c : Nat} {e : TypeId} {s : Sh} {l : List s.T} {k : Nat}, outs c = some (.row e s l) → F' c k → (M0.W k ∨ w0.heap.size ≤ k) ∧ k < w'.heap.size ∧ (k < w.heap.size → Mof M0 rs F k) := by
    intro c e s l k hcs hF
    obtain ⟨h1, h2⟩ := blk hcs hF
    rcases h1 with h' | h' | h'
    · exact ⟨hc.wW h h', h2, fun _ => hc.wM h'⟩
    · exact h'.1.elim
    · exact ⟨.inr (by omega), h2, fun hlt => absurd hlt (by omega)⟩
  have hU : ∀ i, ¬ (nd = some i ∨ oid = some i ∨ (reg = true ∧ i = REG)) → nd ≠ some i ∧ oid ≠ some i ∧ ¬ (reg = true ∧ i = REG) := fun i hi => ⟨fun e => hi (.inl e), fun e => hi (.inr (.inl e)), fun e => hi (.inr (.inr e))⟩
  refine h.updX hC (fun i => nd = some i ∨ oid = some i ∨ (reg = true ∧ i = REG)) ?_ hm.keep (fun k hk => ⟨hc.wM hk, hc.wW h hk⟩) (fun i hi => ⟨hot i (hU i hi).1 (hU i hi).2.1 (hU i hi).2.2, hFo i (hU i hi).1 (hU i hi).2.1 (hU i hi).2.2⟩) hfr
    (fun id st hi hst => ⟨if_neg (hU id hi).1, fun i hme => hfr2 id st i hst hme⟩) (fun id st k hi hst hF => (hc.wO h (hU id hi).2.1 (hU id hi).2.2 hst hF).1) (fun id st hi hst => ?_) (fun id => ?_) (fun m hm' => ?_) ⟨fun h7 => ?_, fun lk1 its1 H1 h' => ?_⟩
  · rcases hbn with ⟨hr, rfl, rfl⟩ | ⟨_, rfl, rfl⟩
    · right
      intro id st hi hst
      cases st <;> first | trivial | skip
      exact hi (.inr (.inr ⟨hr, (h.res id _ hst).1⟩))
    · exact .inl rfl
  · by_cases h1 : nd = some id
    · obtain ⟨_, hdR, hoid, e, s, l, g1, g2, g3⟩ := hnd id h1
      rw [hst] at g1
      obtain rfl := Option.some.inj g1
      refine ⟨fun _ => rows g2 g3 (if_pos h1) (hFd id h1), fun k hF => ?_⟩
      rw [hFd id h1] at hF
      obtain ⟨r1, r2, r3⟩ := rowRng g2 hF
      refine ⟨r1.imp _root_.id .inr, r2, r3, fun j t hj ht => dj g2 hF (fun e => absurd (Option.some.inj (h1.symm.trans e)).symm hj) (fun _ _ => by decide) (fun _ => by decide) ht⟩
    · by_cases h2 : oid = some id
      · obtain ⟨g1, g2⟩ := hid id h2
        rw [hst] at g1
        obtain ⟨e, s, l, rfl, g3⟩ := g2 st g1.symm
        have hv : ρ'' id = ρ' 7000 := by
          have e1 : ρ'' id = ρ id := if_neg h1
          have e2 := hm.own7 (by rw [← g1]; rfl)
          rw [e1, e2]
          show ρ id = cV ρ oid
          rw [h2]; rfl
        refine ⟨fun _ => rows g1.symm g3 hv (hFi id h1 h2), fun k hF => ?_⟩
        rw [hFi id h1 h2] at hF
        obtain ⟨r1, r2, r3⟩ := rowRng g1.symm hF
        refine ⟨r1.imp _root_.id .inr, r2, r3, fun j t hj ht => dj g1.symm hF (fun _ => by decide) (fun _ e => absurd (Option.some.inj (h2.symm.trans e)).symm hj) (fun _ => by decide) ht⟩
      · obtain ⟨hr, rfl⟩ : reg = true ∧ id = REG := hi.resolve_left h1 |>.resolve_left h2
        obtain ⟨rfl, rfl⟩ : bb = b ∧ nn = n := by
          rcases hbn with ⟨_, e⟩ | ⟨e, _⟩
          · exact e
          · rw [hr] at e; cases e
        obtain ⟨p1, p2⟩ := hrg hr
        rw [hst] at p1
        obtain rfl := Option.some.inj p1
        obtain ⟨_, G', hG'⟩ := hm.res REG _ p2
        obtain ⟨hrs, hG, _⟩ := hc.rg hr
        -- a map that is walked over stays where it is
        have walk : ∀ {i m : Nat} {a b : Bool} {c d : Sh} {e : List (c.T × d.T)} {f : Option (c.T × d.T)} {g : Option (Option (c.T × d.T))}, (i, It.it (some m) a b c d e f g) ∈ its → ∃ bm, m < N ∧ β m = .map (some bm) ∧ G m bm ∧ bb m = .map (some bm) ∧ (∀ k, G' m k ↔ k = bm) ∧ cL M0 G reg its bm := by
          intro i m a b c d e f g hp
          obtain ⟨_, r, since, last, seen, _, bm, es, clock, g1, g2, g3, _⟩ := hG.walks _ hp
          have g1 : m < N := g1
          have g2 : β m = .map (some bm) := g2
          have hb : bb m = .map (some bm) := (hext.2 m g1).trans g2
          have hlt : m < H'.length := by rw [hG'.len]; exact Nat.lt_of_lt_of_le g1 hext.1
          exact ⟨bm, g1, g2, g3, hb, (hG'.node m _ (List.getElem?_eq_getElem hlt)).map_at hb, hr, m, g3, .inr (itLocks_in hp)⟩
        refine ⟨fun hs => ⟨rfl, G', ?_⟩, fun k hF => ?_⟩
        · have hkM : KeepS (Mof M0 rs F) w w' := hm.keep.mono fun i _ g => hc.wM g
          refine ⟨hG'.len, fun m x hx => ((hG'.node m x hx).step (KeepS.refl (fun _ => False) w') (fun _ f => f.elim) (fun _ _ f => f) (fun k hk _ => hsub k hk)).relk, hG'.lt, hG'.disj, fun k => ?_, fun p hp => ?_, ?_, fun m k hg hL => ?_, fun p hp k hb => ?_⟩
          · rw [hFR hr]
            constructor
            · rintro (h1 | ⟨p, hp, hb⟩)
              · rcases (hG'.fp k).1 h1 with h2 | ⟨p, hp, _⟩
                · exact .inl h2
                · cases hp
              · obtain ⟨p, hp, hb⟩ := unmark_blk.2 ⟨p, hp, hb⟩
                exact .inr ⟨p, hp, (itBlk_congr (hits hr p (unmark_mem.1 hp).1)).trans hb⟩
            · rintro (h1 | ⟨p, hp, hb⟩)
              · exact .inl ((hG'.fp k).2 (.inl h1))
              · have hp' := (unmark_mem.1 hp).1
                exact .inr ⟨p, hp', (itBlk_congr (hits hr p hp')).symm.trans hb⟩
          · obtain ⟨hp', a, b', c, d, e, f, g, i, he⟩ := unmark_mem.1 hp
            obtain ⟨pi, px⟩ := p
            simp only at he
            subst he
            have hρ := hits hr _ hp'
            obtain ⟨h0, r, since, last, seen, h1, h2⟩ := hG.walks _ hp'
            have hbk : itBlk ρ (pi, It.it a b' c d e f g i) = some r := by simp [itBlk, h1, blkV]
            obtain ⟨i1, i2, _⟩ := hc.itO h hr hp' hbk
            have hrlt := (h.rng REG _ r hrs i1).2
            refine ⟨h0, r, since, last, seen, hρ.trans h1, ?_⟩
            cases a with
            | none => exact ⟨(hm.keep.block r hrlt i2).trans h2.1, h2.2⟩
            | some m =>
              obtain ⟨bm, es, clock, g1, g2, g3, g4, g5, g6, g7, g8, g9, ga, gb, gc⟩ := h2
              obtain ⟨bm', w1, w2, w3, w4, w5, w6⟩ := walk hp'
              have g2 : β m = .map (some bm) := g2
              rw [g2] at w2
              obtain rfl : bm = bm' := by simpa using w2
              exact ⟨bm, es, clock, Nat.lt_of_lt_of_le w1 hext.1, w4, (w5 bm).2 rfl, (hm.keep.block r hrlt i2).trans g4, (hm.keep.block bm (heap_lt g5) (fun hw => hc.wL h hw w6)).trans g5, g6, g7, g8, g9, ga, gb.imp fun _ q => ⟨q.1, q.2.imp fun _ _ he => (he.step hkM hs).ext hC⟩, fun q hq => by
                obtain ⟨e', q1, q2, q3⟩ := gc q hq
                exact ⟨e', q1, (q2.step hkM hs).ext hC, q3⟩⟩
          · exact (hG.sep.sublist (unmark_sub its)).imp_of_mem fun {p q} hp hq hpq => ⟨hpq.1, fun k e1 e2 => hpq.2 k ((itBlk_congr (hits hr p (unmark_mem.1 hp).1)).symm.trans e1) ((itBlk_congr (hits hr q (unmark_mem.1 hq).1)).symm.trans e2)⟩
          · have hL : M0.L k := hL
            have hFk : F' REG k := (hG'.fp k).2 (.inl ⟨m, hg⟩)
            rcases (blk p2 hFk).1 with h' | h' | h'
            · rcases hc.wW h h' with h'' | h''
              · exact absurd hL (h.wl k h'')
              · have : k < w0.heap.size := h.lsz k hL
                omega
            · rcases List.mem_append.1 (hG'.lock m k hg h'.2) with hmi | hmi
              · obtain ⟨⟨pi, px⟩, hp, a, b', c, d, e, f, g, he⟩ := itLocks_mem hmi
                simp only at he
                subst he
                obtain ⟨bm, w1, w2, w3, w4, w5, w6⟩ := walk hp
                obtain rfl := (w5 k).1 hg
                exact hG.lock m k w3 hL
              · exact hmi
            · have : k < w0.heap.size := h.lsz k hL
              omega
          · have hp' := (unmark_mem.1 hp).1
            exact hG.nolk p hp' k ((itBlk_congr (hits hr p hp')).symm.trans hb)
        · rw [hFR hr] at hF
          rcases hF with hF | ⟨p, hp, hb⟩
          · obtain ⟨r1, r2⟩ := blk p2 hF
            refine ⟨?_, r2, fun hlt => ?_, fun j t hj ht => dj p2 hF (fun _ => by decide) (fun _ _ => by decide) (fun e => absurd e.2 hj) ht⟩
            · rcases r1 with h' | h' | h'
              · exact (hc.wW h h').imp _root_.id .inr
              · rcases (h.rng REG _ k hrs (hc.lF h'.2).2).1 with q | q | q
                · exact .inl q
                · exact .inr (.inl ⟨trivial, q.2⟩)
                · exact .inr (.inr q)
              · exact .inr (.inr (by omega))
            · rcases r1 with h' | h' | h'
              · exact hc.wM h'
              · exact hc.lM h'.2
              · omega
          · obtain ⟨i1, i2, i3⟩ := hc.itO h hr hp hb
            have r1 := h.rng REG _ k hrs i1
            refine ⟨r1.1.imp _root_.id fun q => q.imp (fun q => ⟨trivial, q.2⟩) _root_.id, Nat.lt_of_lt_of_le r1.2 hsz, fun _ => .inr ⟨REG, _, hrs, i1⟩, fun j t hj ht hFj => ?_⟩
            by_cases k1 : nd = some j
            · obtain ⟨_, _, _, e, s, l, _, g2, _⟩ := hnd j k1
              rw [hFd j k1] at hFj
              rcases (blk g2 hFj).1 with h' | h' | h'
              · exact i2 h'
              · exact h'.1
              · have := r1.2; omega
            · by_cases k2 : oid = some j
              · rw [hFi j k1 k2] at hFj
                rw [(hid j k2).1] at ht
                rcases (blk ht hFj).1 with h' | h' | h'
                · exact i2 h'
                · exact i3 h'.2
                · have := r1.2; omega
              · have k3 : ¬ (reg = true ∧ j = REG) := fun e => hj e.2
                rw [hFo j k1 k2 k3] at hFj
                rw [hot j k1 k2 k3] at ht
                exact h.disj REG j _ t k hrs ht (Ne.symm hj) i1 hFj
  · by_cases e : nd = some id
    · have : ρ'' id = ρ' 8000 := if_pos e
      rw [this]; exact hm.one 8000
    · have : ρ'' id = ρ id := if_neg e
      rw [this]; exact h.one id
  · rcases hbn with ⟨_, rfl, rfl⟩ | ⟨_, rfl, rfl⟩
    · exact hm.bone m hm'
    · exact h.bone m hm'
  · have hn7 : nd ≠ some 7000 := fun e => (hnd 7000 e).1.ne rfl
    refine ⟨?_, if_neg hn7⟩
    by_cases e : oid = some 7000
    · obtain ⟨_, e', s, l, g, _⟩ := hc.row 7000 e
      rw [g]; rfl
    · rw [hot 7000 hn7 e (fun q => by have := q.2; revert this; decide)] at h7
      exact h7
  · cases hrr : reg with
    | true =>
      rw [(hrg hrr).1] at h'
      cases h'
      exact ⟨_, _, (hc.rg hrr).1⟩
    | false =>
      have k1 : nd ≠ some REG := fun e => (hnd REG e).2.1 rfl
      have k2 : oid ≠ some REG := fun e => (hc.row REG e).1 rfl
      rw [hot REG k1 k2 (fun e => by rw [hrr] at e; cases e.1)] at h'
      exact ⟨its1, H1, h'⟩
end
end Go.Pev
/- The pure evaluator, part Op: any call. Own text, over any program. -/
namespace Go.Pev
section
variable {P : Program} {T : Tabs} {C C' : Cfg} {M0 : Base} {β : Nat → Value} {N : Nat} {w0 : World} {sl : Nat → Option AV} {rs : Nat → Option RS} {ρ ρ' ρ'' : Nat → Value} {F : Nat → Nat → Prop} {a : Act} {w : World} {o : Oper} {out : Out} {s r s1 r1 : List Nat} {M M' : Nat → Prop}
theorem unrow1_lr {d : Nat} {x : AV} {v : Value} (hp : pureO1 x = true) (conv : x.pure1 = true → LR C ρ' M w x v → LR C' ρ'' M' w x v) (hρ : rowOf1 x ≠ [] → ρ'' d = ρ' 8000) (h : LR C ρ' M w (unrow1 8000 x) v) : LR C' ρ'' M' w (unrow1 d x) v := by
  rcases pureO1_or hp with ⟨e, s, l, rfl⟩ | hx
  · have h : v = ρ' 8000 := h
    show v = ρ'' d
    rw [hρ (by simp [rowOf1])]; exact h
  · have e : ∀ d, unrow1 d x = x := fun d => by cases x <;> first | rfl | (simp [AV.pure1] at hx; done)
    rw [e] at h ⊢
    exact conv hx h
theorem unrow2_sr {d : Nat} {x : AV} {v : Value} (hp : pureO2 x = true) (conv : ∀ y v, y.pure1 = true → (y = x ∨ ∃ l, (x = .ag l ∨ ∃ f, x = .fnc f l) ∧ y ∈ l) → LR C ρ' M w y v → LR C' ρ'' M' w y v) (hρ : rowOf2 x ≠ [] → ρ'' d = ρ' 8000) (h : SR C ρ' M w (unrow2 8000 x) v) : SR C' ρ'' M' w (unrow2 d x) v := by
  by_cases hag : ∃ l, x = .ag l
  · obtain ⟨l, rfl⟩ := hag
    obtain ⟨cs, rfl, hl⟩ := h
    refine ⟨cs, rfl, ?_⟩
    have key : ∀ {m : List AV} {cs : List Value}, (∀ y ∈ m, y ∈ l) → All2 (LR C ρ' M w) (m.map (unrow1 8000)) cs → All2 (LR C' ρ'' M' w) (m.map (unrow1 d)) cs := by
      intro m
      induction m with
      | nil => intro cs _ h; cases h; exact .nil
      | cons y m ih =>
        intro cs hm h
        cases h with
        | cons h1 h2 =>
          have hy := hm y List.mem_cons_self
          refine .cons (unrow1_lr (List.all_eq_true.1 hp y hy) (fun hp1 hl => conv y _ hp1 (.inr ⟨l, .inl rfl, hy⟩) hl) (fun hr => hρ fun e => hr ?_) h1) (ih (fun z hz => hm z (List.mem_cons_of_mem _ hz)) h2)
          have e' : l.flatMap rowOf1 = [] := e
          exact List.flatMap_eq_nil_iff.1 e' y hy
    exact key (fun _ h => h) hl
  · by_cases hfn : ∃ f l, x = .fnc f l
    · obtain ⟨f, l, rfl⟩ := hfn
      obtain ⟨cs, rfl, hl⟩ := h
      exact ⟨cs, rfl, hl.imp_mem fun y _ hy hyv => conv y _ (List.all_eq_true.1 (show l.all AV.pure1 = true from hp) y hy) (.inr ⟨l, .inr ⟨f, rfl⟩, hy⟩) hyv⟩
    have e1 : ∀ d, unrow2 d x = unrow1 d x := fun d => by cases x <;> first | rfl | exact absurd ⟨_, rfl⟩ hag
    have e2 : rowOf2 x = rowOf1 x := by cases x <;> first | rfl | exact absurd ⟨_, rfl⟩ hag
    have e3 : pureO2 x = pureO1 x := by cases x <;> first | rfl | exact absurd ⟨_, rfl⟩ hag | exact absurd ⟨_, _, rfl⟩ hfn
    rw [e1] at h ⊢
    rw [e2] at hρ
    rw [e3] at hp
    have hl : LR C ρ' M w (unrow1 8000 x) v := by
      have hx : ∀ l, unrow1 8000 x ≠ .ag l := fun l e => by cases x <;> first | (cases e; done) | exact absurd ⟨_, rfl⟩ hag
      have hx2 : ∀ f l, unrow1 8000 x ≠ .fnc f l := fun f l e => by cases x <;> first | (cases e; done) | (simp [pureO1, AV.pure1] at hp; done)
      generalize unrow1 8000 x = q at h hx hx2
      cases q <;> first | exact h | exact absurd rfl (hx _) | exact absurd rfl (hx2 _ _)
    exact (unrow1_lr hp (fun hp1 h => conv x v hp1 (.inl rfl) h) hρ hl).toSR
theorem unrow_vr {d : Nat} {x : AV} {v : Value} (hp : pureO x = true) {Q : AV → Prop} (conv : ∀ y v, y.pure1 = true → Q y → LR C ρ' M w y v → LR C' ρ'' M' w y v) (hQ : ∀ y, (y = x ∨ (∃ l, (x = .ag l ∨ ∃ f, x = .fnc f l) ∧ y ∈ l) ∨ ∃ l, x = .tup l ∧ ∃ z ∈ l, y = z ∨ ∃ m, (z = .ag m ∨ ∃ f, z = .fnc f m) ∧ y ∈ m) → y.pure1 = true → Q y) (hρ : rowOf x ≠ [] → ρ'' d = ρ' 8000) (h : VR C ρ' M w (unrow 8000 x) v) : VR C' ρ'' M' w (unrow d x) v := by
  by_cases htup : ∃ l, x = .tup l
  · obtain ⟨l, rfl⟩ := htup
    obtain ⟨vs, rfl, hl⟩ := h
    refine ⟨vs, rfl, ?_⟩
    have key : ∀ {m : List AV} {cs : List Value}, (∀ y ∈ m, y ∈ l) → All2 (SR C ρ' M w) (m.map (unrow2 8000)) cs → All2 (SR C' ρ'' M' w) (m.map (unrow2 d)) cs := by
      intro m
      induction m with
      | nil => intro cs _ h; cases h; exact .nil
      | cons y m ih =>
        intro cs hm h
        cases h with
        | cons h1 h2 =>
          have hy := hm y List.mem_cons_self
          refine .cons (unrow2_sr (List.all_eq_true.1 hp y hy) (fun z v hz hzy hl => conv z v hz (hQ z (.inr (.inr ⟨l, rfl, y, hy, hzy⟩)) hz) hl) (fun hr => hρ fun e => hr ?_) h1) (ih (fun z hz => hm z (List.mem_cons_of_mem _ hz)) h2)
          have e' : l.flatMap rowOf2 = [] := e
          exact List.flatMap_eq_nil_iff.1 e' y hy
    exact key (fun _ h => h) hl
  · have e1 : ∀ d, unrow d x = unrow2 d x := fun d => by cases x <;> first | rfl | exact absurd ⟨_, rfl⟩ htup
    have e2 : rowOf x = rowOf2 x := by cases x <;> first | rfl | exact absurd ⟨_, rfl⟩ htup
    have e3 : pureO x = pureO2 x := by cases x <;> first | rfl | exact absurd ⟨_, rfl⟩ htup
    rw [e1] at h ⊢
    rw [e2] at hρ
    rw [e3] at hp
    have hl : SR C ρ' M w (unrow2 8000 x) v := by
      have hx : (∀ l, unrow2 8000 x ≠ .tup l) ∧ ∀ f l, unrow2 8000 x ≠ .clo f l := by
        refine ⟨fun l e => ?_, fun f l e => ?_⟩
        · cases x <;> first | (cases e; done) | exact absurd ⟨_, rfl⟩ htup
        · cases x <;> first | (cases e; done) | (simp [pureO2, pureO1, AV.pure1] at hp; done)
      exact VR.toSR' h hx
    exact (unrow2_sr hp (fun z v hz hzx hl => conv z v hz (hQ z (hzx.imp_right .inl) hz) hl) hρ hl).toVR
end
end Go.Pev
/- The pure evaluator, part Oq: any call (2). Own text, over any program. -/
namespace Go.Pev
section
variable {P : Program} {T : Tabs} {C C' : Cfg} {M0 : Base} {β : Nat → Value} {N : Nat} {w0 : World} {sl : Nat → Option AV} {rs : Nat → Option RS} {ρ ρ' ρ'' : Nat → Value} {F : Nat → Nat → Prop} {a : Act} {w : World} {o : Oper} {out : Out} {s r s1 r1 : List Nat} {M M' : Nat → Prop}
theorem getR_cons (k : Nat) (v : Option RS) (l : List (Nat × Option RS)) (i : Nat) : getR ((k, v) :: l) i = if k = i then v else getR l i := by
  unfold getR
  simp only [get]
  by_cases h : k = i
  · subst h; simp only [Nat.beq_refl, if_true]; cases v <;> rfl
  · have : Nat.beq k i = false := by
      cases hb : Nat.beq k i with
      | false => rfl
      | true => exact absurd (Nat.eq_of_beq_eq_true hb) h
    simp only [this, if_neg h]
theorem getR_nil (i : Nat) : getR [] i = none := rfl
theorem get_cons' {α : Type _} (k : Nat) (v : α) (l : List (Nat × α)) (i : Nat) : get ((k, v) :: l) i = if k = i then some v else get l i := by
  simp only [get]
  by_cases h : k = i
  · subst h; simp only [Nat.beq_refl, if_true]
  · have : Nat.beq k i = false := by
      cases hb : Nat.beq k i with
      | false => rfl
      | true => exact absurd (Nat.eq_of_beq_eq_true hb) h
    simp only [this, if_neg h]
theorem updR_cons' (p : Nat) (v : Option RS) (ws : Ws) (i : Nat) : updR rs ((p, v) :: ws) i = if p = i then v else updR rs ws i := by
  simp only [updR, get_cons']
  by_cases h : p = i
  · simp [h]
  · simp [h]
theorem hasReg_ev {b : Bool} {k : List Nat → List (Nat × It) → List Node → Rd Out} {z : Out × List Nat × List Nat} (h : ev sl rs (hasReg b k) s r = some z) : ∃ lk its H r', (b = true → rs REG = some (.reg lk its H)) ∧ ev sl rs (k lk its H) s r' = some z := by
  cases b with
  | true => obtain ⟨lk, its, H, h1, h2⟩ := ev_reg h; exact ⟨lk, its, H, _, fun _ => h1, h2⟩
  | false => exact ⟨[], [], [], r, fun e => (by cases e), h⟩
theorem pure2_hin {x : AV} (h : x.pure2 = true) : ∀ lk H, x ≠ .hin lk H := by
  intro lk H e; subst e; cases h
theorem pure2_pure {x : AV} (h : x.pure2 = true) : x.pure = true := by
  cases x <;> first | exact h | (cases h; done)
def regIn (b : Bool) (lk : List Nat) (its : List (Nat × It)) (H : List Node) : Ws := match b with
  | true => [(REG, some (RS.reg (itLocks its ++ lk) [] H))]
  | false => []
theorem hinL_in {b : Bool} {lk : List Nat} {its : List (Nat × It)} {H : List Node} : inArgs (hinL b lk its H) = ([], regIn b lk its H) := by cases b <;> rfl
def backRow (o' : AV) : Option RS := match o' with | .rowv e s l => some (.row e s l) | _ => none
theorem outWs_eq (id : Nat) (o' : AV) : outWs id o' = [(id, backRow o')] := by cases o' <;> rfl
theorem outRow_skip {v : AV} {l : Ws} {i : Nat} (h : i ≠ 8000) : getR (outRow v ++ l) i = getR l i := by
  unfold outRow
  split
  · rw [List.singleton_append, getR_cons, if_neg (Ne.symm h)]
  · rfl
theorem outRow_at {v : AV} {l : Ws} {r : RS} (h : rowOf v = [r]) : getR (outRow v ++ l) 8000 = some r := by
  unfold outRow
  rw [h]
  simp only [List.singleton_append, getR_cons, if_true]
theorem outO_skip {ws : Ws} {o' : AV} {l : Ws} {i : Nat} (h : i ≠ 7000) : getR (outO ws o' ++ l) i = getR l i := by
  unfold outO
  split
  · rw [outWs_eq, List.singleton_append, getR_cons, if_neg (Ne.symm h)]
  · rfl
theorem outO_at {ws : Ws} {o' : AV} {l : Ws} {q : Option RS} (h : get ws 7000 = some q) : getR (outO ws o' ++ l) 7000 = backRow o' := by
  unfold outO
  rw [h]
  simp only [outWs_eq, List.singleton_append, getR_cons, if_true]
theorem outH_at {ws : Ws} {lk : List Nat} {its : List (Nat × It)} {H H' : List Node} (h : get ws REG = some (some (.reg lk its H))) : getR (outH ws H') REG = some (.reg lk [] H') := by
  unfold outH
  rw [h]
  simp only [getR_cons, if_true]
theorem rowOf1_row {x : AV} {r : RS} (h : r ∈ rowOf1 x) : ∃ e s l, r = .row e s l ∧ (rfreeO1 x = true → s.rfree = true) := by
  cases x <;> first | (cases h; done) | skip
  rename_i e s l
  exact ⟨e, s, l, List.mem_singleton.1 h, fun h => h⟩
theorem rowOf2_row {x : AV} {r : RS} (h : r ∈ rowOf2 x) : ∃ e s l, r = .row e s l ∧ (rfreeO2 x = true → s.rfree = true) := by
  by_cases hag : ∃ l, x = .ag l
  · obtain ⟨l, rfl⟩ := hag
    obtain ⟨y, hy, hr⟩ := List.mem_flatMap.1 (show r ∈ l.flatMap rowOf1 from h)
    obtain ⟨e, s, m, h1, h2⟩ := rowOf1_row hr
    exact ⟨e, s, m, h1, fun hf => h2 (List.all_eq_true.1 hf y hy)⟩
  · by_cases hfn : ∃ f l, x = .fnc f l
    · obtain ⟨f, l, rfl⟩ := hfn; cases h
    have e2 : rowOf2 x = rowOf1 x := by cases x <;> first | rfl | exact absurd ⟨_, rfl⟩ hag
    have e3 : rfreeO2 x = rfreeO1 x := by cases x <;> first | rfl | exact absurd ⟨_, rfl⟩ hag | exact absurd ⟨_, _, rfl⟩ hfn
    rw [e2] at h
    rw [e3]
    exact rowOf1_row h
theorem rowOf_row {x : AV} {r : RS} (h : r ∈ rowOf x) : ∃ e s l, r = .row e s l ∧ (rfreeO x = true → s.rfree = true) := by
  by_cases hag : ∃ l, x = .tup l
  · obtain ⟨l, rfl⟩ := hag
    obtain ⟨y, hy, hr⟩ := List.mem_flatMap.1 (show r ∈ l.flatMap rowOf2 from h)
    obtain ⟨e, s, m, h1, h2⟩ := rowOf2_row hr
    exact ⟨e, s, m, h1, fun hf => h2 (List.all_eq_true.1 hf y hy)⟩
  · have e2 : rowOf x = rowOf2 x := by cases x <;> first | rfl | exact absurd ⟨_, rfl⟩ hag
    have e3 : rfreeO x = rfreeO2 x := by cases x <;> first | rfl | exact absurd ⟨_, rfl⟩ hag
    rw [e2] at h
    rw [e3]
    exact rowOf2_row h
theorem rfreeO_leaf {x y : AV} (hx : rfreeO x = true) (hy : y = x ∨ (∃ l, (x = .ag l ∨ ∃ f, x = .fnc f l) ∧ y ∈ l) ∨ ∃ l, x = .tup l ∧ ∃ z ∈ l, y = z ∨ ∃ m, (z = .ag m ∨ ∃ f, z = .fnc f m) ∧ y ∈ m) (hp : y.pure1 = true) : y.rfree1 = true := by
  have e1 : rfreeO1 y = y.rfree1 := by cases y <;> first | rfl | (simp [AV.pure1] at hp; done)
  have e2 : rfreeO2 y = rfreeO1 y := by cases y <;> first | rfl | (simp [AV.pure1] at hp; done)
  have e3 : rfreeO y = rfreeO2 y := by cases y <;> first | rfl | (simp [AV.pure1] at hp; done)
  rcases hy with rfl | ⟨l, rfl | ⟨f, rfl⟩, hm⟩ | ⟨l, rfl, z, hz, rfl | ⟨m, rfl | ⟨f, rfl⟩, hm⟩⟩
  · rw [← e1, ← e2, ← e3]; exact hx
  · rw [← e1]; exact List.all_eq_true.1 (show l.all rfreeO1 = true from hx) y hm
  · exact List.all_eq_true.1 (show l.all AV.rfree1 = true from hx) y hm
  · rw [← e1, ← e2]; exact List.all_eq_true.1 (show l.all rfreeO2 = true from hx) y hz
  · have := List.all_eq_true.1 (show l.all rfreeO2 = true from hx) _ hz
    rw [← e1]; exact List.all_eq_true.1 (show m.all rfreeO1 = true from this) y hm
  · have := List.all_eq_true.1 (show l.all rfreeO2 = true from hx) _ hz
    exact List.all_eq_true.1 (show m.all AV.rfree1 = true from this) y hm
theorem map_self {α : Type} {f : α → α} : ∀ {l : List α}, (∀ x ∈ l, f x = x) → l.map f = l
  | [], _ => rfl
  | x :: l, h => by rw [List.map_cons, h x List.mem_cons_self, map_self fun y hy => h y (List.mem_cons_of_mem _ hy)]
theorem unrow1_none {d : Nat} {x : AV} (h : rowOf1 x = []) : unrow1 d x = x := by cases x <;> first | rfl | (cases h; done)
theorem unrow2_none {d : Nat} {x : AV} (h : rowOf2 x = []) : unrow2 d x = x := by
  by_cases hag : ∃ l, x = .ag l
  · obtain ⟨l, rfl⟩ := hag
    show AV.ag (l.map (unrow1 d)) = .ag l
    rw [map_self fun y hy => unrow1_none (List.flatMap_eq_nil_iff.1 (show l.flatMap rowOf1 = [] from h) y hy)]
  · have e1 : unrow2 d x = unrow1 d x := by cases x <;> first | rfl | exact absurd ⟨_, rfl⟩ hag
    have e2 : rowOf2 x = rowOf1 x := by cases x <;> first | rfl | exact absurd ⟨_, rfl⟩ hag
    rw [e1]; rw [e2] at h
    exact unrow1_none h
theorem unrow_none {d : Nat} {x : AV} (h : rowOf x = []) : unrow d x = x := by
  by_cases hag : ∃ l, x = .tup l
  · obtain ⟨l, rfl⟩ := hag
    show AV.tup (l.map (unrow2 d)) = .tup l
    rw [map_self fun y hy => unrow2_none (List.flatMap_eq_nil_iff.1 (show l.flatMap rowOf2 = [] from h) y hy)]
  · have e1 : unrow d x = unrow2 d x := by cases x <;> first | rfl | exact absurd ⟨_, rfl⟩ hag
    have e2 : rowOf x = rowOf2 x := by cases x <;> first | rfl | exact absurd ⟨_, rfl⟩ hag
    rw [e1]; rw [e2] at h
    exact unrow2_none h
theorem backRow_row {x : AV} {st : RS} (h : backRow x = some st) : ∃ e s l, st = .row e s l ∧ (rfreeO x = true → s.rfree = true) := by
  cases x <;> first | (cases h; done) | skip
  rename_i e s l
  exact ⟨e, s, l, (Option.some.inj h).symm, fun h => h⟩
def rowW : Option Nat → AV → Ws
  | some id, o' => [(id, backRow o')]
  | none, _ => []
theorem outR_ev {dst : Option Nat} {reg : Bool} {lk : List Nat} {its : List (Nat × It)} {oid : Option Nat} {ws : Ws} {res : AV} (h : ev sl rs (outR dst reg lk its oid.toList ws res) s r = some (out, s1, r1)) :
    ∃ ov oo oH, res = .outs ov oo oH ∧ pureO ov = true ∧ (reg || (rfreeO ov && rfreeO oo)) = true ∧
      ((rowOf ov = [] ∧ out = ⟨ov, rowW oid oo ++ (regL reg lk its oH ++ ws)⟩) ∨ ∃ q d, rowOf ov = [q] ∧ dst = some d ∧ d ≠ REG ∧ oid ≠ some d ∧ out = ⟨unrow d ov, (d, some q) :: (rowW oid oo ++ (regL reg lk its oH ++ ws))⟩) := by
  unfold outR at h
  split at h <;> try (simp [ev] at h; done)
  rename_i ov oo oH
  split at h <;> try (simp [ev] at h; done)
  rename_i hpf
  rw [Bool.and_eq_true] at hpf
  refine ⟨ov, oo, oH, rfl, hpf.1, hpf.2, ?_⟩
  have hw : ((match oid.toList with | [id] => outWs id oo | _ => []) ++ regL reg lk its oH ++ ws : Ws) = rowW oid oo ++ (regL reg lk its oH ++ ws) := by
    rw [List.append_assoc]
    cases oid with
    | none => rfl
    | some id => simp only [Option.toList_some, outWs_eq, rowW]
  simp only at h
  split at h <;> try (simp [ev] at h; done)
  · rename_i hrv
    have := ev_ret h
    simp only [Prod.mk.injEq] at this
    exact .inl ⟨hrv, this.1.trans (congrArg (Out.mk ov) hw)⟩
  · rename_i q d hrv
    split at h <;> try (simp [ev] at h; done)
    rename_i hdo
    have := ev_ret h
    simp only [Prod.mk.injEq] at this
    simp only [Bool.or_eq_false_iff] at hdo
    refine .inr ⟨q, d, hrv, rfl, fun e => ?_, fun e => ?_, this.1.trans (congrArg (fun z => Out.mk (unrow d ov) ((d, some q) :: z)) hw)⟩
    · subst e; simp [Nat.beq_refl] at hdo
    · subst e; simp [Nat.beq_refl] at hdo
theorem rowW_at {oid : Option Nat} {o' : AV} {m : Ws} {id : Nat} (h : oid = some id) : updR rs (rowW oid o' ++ m) id = backRow o' := by
  subst h
  simp only [rowW, List.singleton_append, updR_cons', if_true]
theorem rowW_skip {oid : Option Nat} {o' : AV} {m : Ws} {i : Nat} (h : oid ≠ some i) : updR rs (rowW oid o' ++ m) i = updR rs m i := by
  cases oid with
  | none => rfl
  | some id => simp only [rowW, List.singleton_append, updR_cons', if_neg (fun e => h (by rw [e]) : ¬ id = i)]
theorem regL_at {lk : List Nat} {its : List (Nat × It)} {H : List Node} {m : Ws} : updR rs (regL true lk its H ++ m) REG = some (.reg lk (unmark its) H) := by
  simp only [regL, List.singleton_append, updR_cons', if_true]
theorem regL_skip {b : Bool} {lk : List Nat} {its : List (Nat × It)} {H : List Node} {m : Ws} {i : Nat} (h : ¬ (b = true ∧ i = REG)) : updR rs (regL b lk its H ++ m) i = updR rs m i := by
  cases b with
  | false => rfl
  | true => simp only [regL, List.singleton_append, updR_cons', if_neg (fun e => h ⟨rfl, e.symm⟩ : ¬ REG = i)]
theorem ok_callG (hsp : SpecsOk P T) (h : Rel (T.cf β N M0.L) M0 w0 sl rs ρ F a w) (hd : ∀ d, o.dst = some d → d < a.tmps.size) {g : Nat} {ts : List TypeId} {sp : CSpec} {as caps : List AV} {us ucs : List Value} (hg : get T.specs g = some sp)
    (hrun : (execOp a.eval o).run P w = .ok (.enter g (us ++ ucs).toArray) w) (has : All2 (VR (T.cf β N M0.L) ρ (Mof M0 rs F) w) as us) (hcaps : All2 (VR (T.cf β N M0.L) ρ (Mof M0 rs F) w) caps ucs)
    (he : ev sl rs ((allArgs P T sp.own 0 ts as).bind fun (vs, ids, ws) => match idsOk ids ws && caps.all AV.pure2 with
        | true => hasReg sp.reg fun lk its H => Rd.ofTree (sp.f (vs ++ caps ++ hinL sp.reg lk its H)) fun r => outR o.dst sp.reg lk its ids ws r
        | false => .fail) s r = some (out, s1, r1)) (hnew : NewOk sl rs o.dst out.ws) : Goal P T M0 w0 sl rs a w o out := by
  obtain ⟨⟨vs, ids, ws⟩, s2, r2, h1, h2⟩ := ev_bind _ _ _ _ _ he
  simp only at h2
  split at h2 <;> try (simp [ev] at h2; done)
  rename_i hok
  rw [Bool.and_eq_true] at hok
  obtain ⟨hids, hcp⟩ := hok
  obtain ⟨z1, n1, a1, f1⟩ := allArgs_ok h h1 has
  obtain ⟨lk, its, H, r3, hr, h3⟩ := hasReg_ev h2
  obtain ⟨res, hres, h4⟩ := ev_ofTree h3
  have hspec := (hsp.specs g sp hg).2 _ res hres
  have hfz := h.freeze z1
  generalize hreg : sp.reg = reg at *
  -- one row at most
  obtain ⟨oid, hoid, hidw⟩ : ∃ oid : Option Nat, ids = oid.toList ∧ ∀ id, oid = some id → get ws id = none ∧ id ≠ REG := by
    unfold idsOk at hids
    split at hids
    · exact ⟨none, rfl, fun _ e => by cases e⟩
    · rename_i id
      refine ⟨some id, rfl, fun i e => ?_⟩
      obtain rfl := Option.some.inj e
      simp only [Bool.and_eq_true, Bool.not_eq_true', Option.isNone_iff_eq_none] at hids
      exact ⟨hids.1, fun e => by subst e; rw [Nat.beq_refl] at hids; cases hids.2⟩
    · cases hids
  subst hoid
  have hcin : inArgs caps = (caps, []) := inArgs_id hcaps
  have hnc : ∀ y ∈ vs ++ caps, ∀ lk H, y ≠ .hin lk H := fun y hy => (List.mem_append.1 hy).elim (n1 y) fun hy => pure2_hin (List.all_eq_true.1 hcp y hy)
  have hin : inArgs (vs ++ caps ++ hinL reg lk its H) = ((inArgs vs).1 ++ caps, (inArgs vs).2 ++ regIn reg lk its H) := by
    rw [inArgs_app hnc, inArgs_app n1, hcin, hinL_in]
    simp
  obtain ⟨G, hG⟩ : ∃ G, reg = true → RegG (T.cf β N M0.L) ρ (Mof M0 (updR rs ws) (fzF F ws)) w (fzF F ws REG) G lk its H := by
    cases reg with
    | true => obtain ⟨_, G, hG⟩ := hfz.res REG _ (freeze_reg z1 (hr rfl)); exact ⟨G, fun _ => hG⟩
    | false => exact ⟨fun _ _ => False, fun e => by cases e⟩
  have hrow : ∀ id, oid = some id → ∃ e s l, rs id = some (.row e s l) ∧ (inArgs vs).2 = [(7000, some (RS.row e s l))] := by
    intro id e
    subst e
    generalize (inArgs vs).2 = q at a1
    cases a1 with
    | cons b1 b2 => cases b2; obtain ⟨e, s, l, g1, rfl⟩ := b1; exact ⟨e, s, l, g1, rfl⟩
  have hnrow : oid = none → (inArgs vs).2 = [] := by
    intro e
    subst e
    generalize (inArgs vs).2 = q at a1
    cases a1; rfl
  generalize hiw : (inArgs (vs ++ caps ++ hinL reg lk its H)).2 = insW at *
  have hiw' : insW = (inArgs vs).2 ++ regIn reg lk its H := by rw [← hiw, hin]
  have hR7 : (REG : Nat) ≠ 7000 := by decide
  have hc : CallIn T β N M0 (updR rs ws) ρ (fzF F ws) w G oid reg lk its H (getR insW) := by
    refine ⟨fun id ho => ?_, fun ho => ?_, fun e => ?_, fun e => ?_, fun i h7 hRi => ?_⟩
    · obtain ⟨e, s, l, g1, g2⟩ := hrow id ho
      refine ⟨(hidw id ho).2, e, s, l, by simp only [updR, (hidw id ho).1, g1], ?_⟩
      rw [hiw', g2, List.singleton_append, getR_cons, if_pos rfl]
    · rw [hiw', hnrow ho, List.nil_append]
      cases reg
      · rfl
      · simp only [regIn, getR_cons, if_neg hR7, getR_nil]
    · subst e
      refine ⟨freeze_reg z1 (hr rfl), hG rfl, ?_⟩
      cases ho : oid with
      | none => rw [hiw', hnrow ho]; simp only [regIn, List.nil_append, getR_cons, if_true]
      | some id =>
        obtain ⟨e, s, l, g1, g2⟩ := hrow id ho
        rw [hiw', g2]
        simp only [regIn, List.singleton_append, getR_cons, if_neg (Ne.symm hR7), if_true]
    · subst e
      cases ho : oid with
      | none => rw [hiw', hnrow ho]; rfl
      | some id =>
        obtain ⟨e, s, l, g1, g2⟩ := hrow id ho
        rw [hiw', g2]
        simp only [regIn, List.singleton_append, getR_cons, if_neg (Ne.symm hR7), getR_nil]
    · cases ho : oid with
      | none => rw [hiw', hnrow ho]; cases reg <;> simp only [regIn, List.nil_append, getR_cons, if_neg (Ne.symm hRi), getR_nil]
      | some id =>
        obtain ⟨e, s, l, g1, g2⟩ := hrow id ho
        rw [hiw', g2]
        cases reg <;> simp only [regIn, List.singleton_append, getR_cons, if_neg (Ne.symm hRi), if_neg (Ne.symm h7), getR_nil]
  have hmem := call_in hc hfz
  have hargs : All2 (VR ((T.toCfg.at β N).lk (cL M0 G reg its)) (cR ρ oid) (Mof (cB β N M0 (updR rs ws) ρ (fzF F ws) G oid reg lk its) (getR insW) (cF (fzF F ws) G oid reg)) w) ((inArgs vs).1 ++ caps) (us ++ ucs) := by
    have hsub := fun k => hc.cMof (k := k)
    refine All2.append ((f1 ws z1 (fun id q hq => by simp [hq]) (cR ρ oid) fun id hid => ?_).imp fun x v hx => VR.relk (hx.step (KeepS.refl _ _) (fun k hk _ => hsub k hk) fun _ _ => rfl)) (hcaps.imp_mem fun x v hxm hx => ?_)
    · show cV ρ oid = ρ id
      cases oid with
      | none => cases hid
      | some i => rw [List.mem_singleton.1 hid]; rfl
    · refine VR.relk (hx.step (KeepS.refl _ _) (fun k hk _ => freeze_sub h z1 k (hsub k hk)) fun id hid => ?_)
      rw [pure_ment (pure2_pure (List.all_eq_true.1 hcp x hxm)) id] at hid
      cases hid
  have hcall := hspec (cB β N M0 (updR rs ws) ρ (fzF F ws) G oid reg lk its) w (cR ρ oid) (cF (fzF F ws) G oid reg) (us ++ ucs) (by rw [hiw]; exact hmem) (by rw [hiw, hin]; exact hargs)
  refine .inr (.inr ⟨g, (us ++ ucs).toArray, w, hrun, hcall.mono fun e w' hh => ?_⟩)
  obtain ⟨v, b, n, ρ', F', rfl, hv, hm⟩ := hh
  rw [hiw] at hv hm
  refine ⟨v, rfl, ?_⟩
  obtain ⟨ov, oo, oH, rfl, hpo, hrf, hout⟩ := outR_ev h4
  have hrf' : reg = false → rfreeO ov = true ∧ rfreeO oo = true := fun e => by
    subst e
    simpa using hrf
  have hget7 : ∀ id, oid = some id → ∃ q, get insW 7000 = some q := fun id ho => by
    obtain ⟨e, s, l, _, g2⟩ := hrow id ho
    rw [hiw', g2]
    exact ⟨some (.row e s l), by simp only [List.singleton_append, get_cons', if_true]⟩
  have hgetR : reg = true → get insW REG = some (some (.reg (itLocks its ++ lk) [] H)) := fun e => by
    subst e
    cases ho : oid with
    | none => rw [hiw', hnrow ho]; simp only [regIn, List.nil_append, get_cons', if_true]
    | some id =>
      obtain ⟨e, s, l, _, g2⟩ := hrow id ho
      rw [hiw', g2]
      simp only [regIn, List.singleton_append, get_cons', if_neg (Ne.symm hR7), if_true]
  have hout7 : ∀ id, oid = some id → getR (outW insW (.outs ov oo oH)) 7000 = backRow oo := fun id ho => by
    obtain ⟨q, hq⟩ := hget7 id ho
    simp only [outW, List.append_assoc]
    rw [outRow_skip (by decide), outO_at hq]
  have houtR : reg = true → getR (outW insW (.outs ov oo oH)) REG = some (.reg (itLocks its ++ lk) [] oH) := fun e => by
    simp only [outW, List.append_assoc]
    rw [outRow_skip (by decide), outO_skip (by decide), outH_at (hgetR e)]
  have hout8 : ∀ r, rowOf ov = [r] → getR (outW insW (.outs ov oo oH)) 8000 = some r := fun r e => by
    simp only [outW, List.append_assoc]
    rw [outRow_at e]
  generalize hwx : rowW oid oo ++ (regL reg lk its oH ++ ws) = wsX at hout
  have hx7 : ∀ id, oid = some id → updR rs wsX id = backRow oo := fun id ho => by rw [← hwx]; exact rowW_at ho
  have hxR : reg = true → updR rs wsX REG = some (.reg lk (unmark its) oH) := fun e => by
    rw [← hwx, rowW_skip (fun e' => (hidw REG e').2 rfl), e]
    exact regL_at
  have hxo : ∀ i, oid ≠ some i → ¬ (reg = true ∧ i = REG) → updR rs wsX i = updR rs ws i := fun i h1 h2 => by
    rw [← hwx, rowW_skip h1]
    exact regL_skip h2
  -- the value
  have hval : ∀ {ρ'' : Nat → Value} {MO : Nat → Prop} {bb : Nat → Value} {nn d : Nat}, (∀ k, MO k → Mof (cB β N M0 (updR rs ws) ρ (fzF F ws) G oid reg lk its) (getR (outW insW (.outs ov oo oH))) F' k) → ((bb = b ∧ nn = n) ∨ (reg = false ∧ bb = β ∧ nn = N)) → (rowOf ov ≠ [] → ρ'' d = ρ' 8000) → VR (T.cf bb nn M0.L) ρ'' MO w' (unrow d ov) v := by
    intro ρ'' MO bb nn d hsub hbn h8
    refine unrow_vr (C := T.cf b n (cL M0 G reg its)) hpo (Q := fun y => reg = false → y.rfree1 = true) (fun y u hy hq hl => ?_) (fun y hy hyp e => rfreeO_leaf (hrf' e).1 hy hyp) h8 hv
    have h1 : LR ((T.toCfg.at b n).lk (cL M0 G reg its)) ρ'' MO w' y u := hl.step (KeepS.refl _ _) (fun k hk _ => hsub k hk) fun id hid => by rw [pure_ment1 hy id] at hid; cases hid
    show LR ((T.toCfg.at bb nn).lk M0.L) ρ'' MO w' y u
    rw [LR_lk] at h1 ⊢
    rcases hbn with ⟨rfl, rfl⟩ | ⟨e, rfl, rfl⟩
    · exact h1
    · rw [LR_at _ _ (hq e)] at h1 ⊢; exact h1
  rcases hout with ⟨hrv, rfl⟩ | ⟨r, d, hrv, hdst, hdR, hdi, rfl⟩
  · obtain ⟨ρ2, F2, bb, nn, hrel, hsub, _, hbn⟩ := call_out hc hfz (rs'' := updR rs wsX) (nd := none) (H' := oH) hm (fun d e => by cases e) (fun id ho => ⟨by rw [hx7 id ho, hout7 id ho], fun st hst => by
      rw [hout7 id ho] at hst
      obtain ⟨e, s, l, g1, g2⟩ := backRow_row hst
      exact ⟨e, s, l, g1, fun e => g2 (hrf' e).2⟩⟩) (fun e => ⟨hxR e, houtR e⟩) (fun i _ h2 h3 => hxo i h2 h3)
    refine ⟨ρ2, F2, bb, nn, hrel.put o.dst hd ov v ?_⟩
    have hu : ∀ d, unrow d ov = ov := fun d => unrow_none hrv
    have := hval (ρ'' := ρ2) (d := 8000) hsub hbn (fun e => absurd hrv e)
    rwa [hu] at this
  · obtain ⟨e, s0, l, hre, hrs⟩ := rowOf_row (x := ov) (r := r) (by rw [hrv]; exact List.mem_singleton.2 rfl)
    subst hre
    obtain ⟨hfr, _⟩ := hnew.ok0 d (.row e s0 l) hdst (by simp only [get_cons', if_true])
    obtain ⟨ρ2, F2, bb, nn, hrel, hsub, h8, hbn⟩ := call_out hc hfz (rs'' := updR rs ((d, some (.row e s0 l)) :: wsX)) (nd := some d) (H' := oH) hm
      (fun d' e' => by
        obtain rfl := Option.some.inj e'
        exact ⟨hfr.freeze z1, hdR, hdi, e, s0, l, by rw [updR_cons', if_pos rfl], hout8 _ hrv, fun e => hrs (hrf' e).1⟩)
      (fun id ho => ⟨by rw [updR_cons', if_neg (fun e => hdi (by rw [ho, e])), hx7 id ho, hout7 id ho], fun st hst => by
        rw [hout7 id ho] at hst
        obtain ⟨e, s, l, g1, g2⟩ := backRow_row hst
        exact ⟨e, s, l, g1, fun e => g2 (hrf' e).2⟩⟩)
      (fun e => ⟨by rw [updR_cons', if_neg hdR, hxR e], houtR e⟩) (fun i h1 h2 h3 => by rw [updR_cons', if_neg (fun e => h1 (by rw [e])), hxo i h2 h3])
    refine ⟨ρ2, F2, bb, nn, ?_⟩
    exact hrel.put o.dst hd (unrow d ov) v (hval hsub hbn fun _ => h8 d rfl)
end
end Go.Pev
/- The pure evaluator, part Or: calls, from the operation. Own text, over any program. -/
namespace Go.Pev
section
variable {P : Program} {T : Tabs} {M0 : Base} {β : Nat → Value} {N : Nat} {w0 : World} {sl : Nat → Option AV} {rs : Nat → Option RS} {ρ : Nat → Value} {F : Nat → Nat → Prop} {a : Act} {w : World} {o : Oper} {out : Out} {s r s1 r1 : List Nat}
theorem callG_ok (hsp : SpecsOk P T) (h : Rel (T.cf β N M0.L) M0 w0 sl rs ρ F a w) (hd : ∀ d, o.dst = some d → d < a.tmps.size) {g : Nat} {as caps : List AV} {us ucs : List Value}
    (hrun : EnterOk P g → (execOp a.eval o).run P w = .ok (.enter g (us ++ ucs).toArray) w) (has : All2 (VR (T.cf β N M0.L) ρ (Mof M0 rs F) w) as us) (hcaps : All2 (VR (T.cf β N M0.L) ρ (Mof M0 rs F) w) caps ucs)
    (he : ev sl rs (callG P T o.dst g as caps) s r = some (out, s1, r1)) (hnew : NewOk sl rs o.dst out.ws) : Goal P T M0 w0 sl rs a w o out := by
  unfold callG at he
  split at he <;> try (simp [ev] at he; done)
  rename_i fn hfn
  split at he <;> try (simp [ev] at he; done)
  rename_i sp hg
  have hent := (hsp.specs g sp hg).1
  split at he
  · rename_i hb
    simp only [Bool.and_eq_true, List.isEmpty_iff] at hb
    obtain ⟨_, rfl⟩ := hb
    cases hcaps
    rw [List.append_nil] at hrun
    exact ok_callP hsp h hd (fun args e => by subst e; exact hrun hent) hg has he
  · exact ok_callG hsp h hd hg (hrun hent) has hcaps he hnew
theorem exec_clo {c : Call} (hop : o.op = .call c) {x : Operand} {g : Nat} {caps : List Value} (hc : c.callee = .value x) (e1 : a.eval x = .func (.func g) #[] caps.toArray) (hent : EnterOk P g) : (execOp a.eval o).run P w = .ok (.enter g (c.args.toList.map a.eval ++ caps).toArray) w := by
  have e2 : c.args.map a.eval = (c.args.toList.map a.eval).toArray := by apply Array.ext'; simp
  simp only [execOp, hop, resolve, hc, e1, Deferred.ofValue, invoke, Sem.run_bind, Sem.run_pure, Result.andThen_ok, e2]
  have := hent (c.args.toList.map a.eval ++ caps).toArray w
  simpa using this
theorem ok_callT (hsp : SpecsOk P T) (h : Rel (T.cf β N M0.L) M0 w0 sl rs ρ F a w) (hd : ∀ d, o.dst = some d → d < a.tmps.size) {c : Call} {t : Nat} (hop : o.op = .call c) (hc : c.callee = .value (.tmp t)) (he : ev sl rs (step P T o) s r = some (out, s1, r1)) (hnew : NewOk sl rs o.dst out.ws) : Goal P T M0 w0 sl rs a w o out := by
  simp only [step, hop, hc] at he
  obtain ⟨fv, s2, r2, h1, h2⟩ := ev_bind _ _ _ _ _ he
  have hx := opd_rel h h1
  split at h2 <;> try (simp [ev] at h2; done)
  · obtain ⟨as, s3, r3, h3, h4⟩ := ev_bind _ _ _ _ _ h2
    exact callG_ok hsp h hd (ucs := []) (fun hent => by rw [List.append_nil]; exact exec_callT hop hc hx hent) (opds_rel h h3) .nil h4 hnew
  · obtain ⟨as, s3, r3, h3, h4⟩ := ev_bind _ _ _ _ _ h2
    obtain ⟨cs, e1, hl⟩ := hx
    exact callG_ok hsp h hd (ucs := cs) (fun hent => exec_clo hop hc e1 hent) (opds_rel h h3) (hl.imp fun _ _ h => h.toVR) h4 hnew
  · obtain ⟨as, s3, r3, h3, h4⟩ := ev_bind _ _ _ _ _ h2
    obtain ⟨cs, e1, hl⟩ := hx
    exact callG_ok hsp h hd (ucs := cs) (fun hent => exec_clo hop hc e1 hent) (opds_rel h h3) (hl.imp fun _ _ h => h.toVR) h4 hnew
theorem ok_call (hsp : SpecsOk P T) (h : Rel (T.cf β N M0.L) M0 w0 sl rs ρ F a w) (hd : ∀ d, o.dst = some d → d < a.tmps.size) {c : Call} {g : Nat} (hop : o.op = .call c) (hc : c.callee = .value (.func g)) (he : ev sl rs (step P T o) s r = some (out, s1, r1)) (hnew : NewOk sl rs o.dst out.ws) : Goal P T M0 w0 sl rs a w o out := by
  simp only [step, hop, hc] at he
  split at he
  · rename_i hbeq
    have hgas := Nat.eq_of_beq_eq_true hbeq
    have hAs : AsOk P T := hsp.as.resolve_left (by omega)
    obtain rfl : g = T.asF - 1 := by omega
    split at he <;> try (simp [ev] at he; done)
    rename_i x y hargs
    obtain ⟨xv, s2, r2, h1, h2⟩ := ev_bind _ _ _ _ _ he
    have hx := opd_rel h h1
    split at h2 <;> try (simp [ev] at h2; done)
    rename_i e
    obtain ⟨yv, s3, r3, h3, h4⟩ := ev_bind _ _ _ _ _ h2
    have hy := opd_rel h h3
    split at h4 <;> try (simp [ev] at h4; done)
    rename_i t id
    obtain ⟨q, h5, h6⟩ := ev_res h4
    split at h6 <;> try (simp [ev] at h6; done)
    rename_i u old
    split at h6
    · rename_i ht
      simp only [ev] at h6
      cases hh : errHead e with
      | none =>
        rw [hh] at h6
        simp only [Option.isSome] at h6
        have has : asSem T t e = some none := by
          unfold asSem; rw [ht]
          match e, hh with
          | none, _ => rfl
          | some ([], n), _ => rfl
        exact ok_as hAs h hd hop hc hargs hx hy h5 has (ret_out (sl := sl) (rs := rs) h6)
      | some z =>
        rw [hh] at h6
        simp only [Option.isSome] at h6
        have has : asSem T t e = some (some (.elt FSh z 0)) := by
          unfold asSem; rw [ht]
          match e, hh with
          | some (p :: ps, n), hh => obtain rfl := Option.some.inj hh; rfl
        have := ev_ret (sl := sl) (rs := rs) h6
        simp only [Prod.mk.injEq] at this
        exact ok_as hAs h hd hop hc hargs hx hy h5 has this.1
    · rename_i ht
      split at h6 <;> try (simp [ev] at h6; done)
      rename_i ht2
      simp only [ev] at h6
      match e, h6, hx with
      | none, h6, hx =>
        have has : asSem T t none = some none := by unfold asSem; rw [ht]; dsimp only; rw [ht2]
        exact ok_as hAs h hd hop hc hargs hx hy h5 has (ret_out (sl := sl) (rs := rs) h6)
      | some z, h6, hx =>
        have has : asSem T t (some z) = some (some (.int .i64 z.2)) := by unfold asSem; rw [ht]; dsimp only; rw [ht2]
        have := ev_ret (sl := sl) (rs := rs) h6
        simp only [Prod.mk.injEq] at this
        exact ok_as hAs h hd hop hc hargs hx hy h5 has this.1
  · obtain ⟨as, s3, r3, h3, h4⟩ := ev_bind _ _ _ _ _ he
    exact callG_ok hsp h hd (ucs := []) (fun hent => by rw [List.append_nil]; exact exec_call hop hc hent) (opds_rel h h3) .nil h4 hnew
theorem ok_next (h : Rel (T.cf β N M0.L) M0 w0 sl rs ρ F a w) {x : Operand} (hop : o.op = .next x false) (he : ev sl rs (step P T o) s r = some (out, s1, r1)) : Goal P T M0 w0 sl rs a w o out := by
  simp only [step, hop] at he
  obtain ⟨xv, s2, r2, h1, h2⟩ := ev_bind _ _ _ _ _ he
  unfold nextR at h2
  split at h2 <;> try (simp [ev] at h2; done)
  obtain ⟨lk, its, H, hr, h3⟩ := ev_reg h2
  split at h3 <;> try (simp [ev] at h3; done)
  rename_i hit
  obtain ⟨_, G, hG⟩ := h.res REG _ hr
  obtain ⟨h0, _⟩ := hG.walks _ (get_its hit)
  cases h0
end
end Go.Pev
/- The pure evaluator, part P: any operation; a region's operations in the text's order. Own text, over any program. -/
namespace Go.Pev
section
variable {P : Program} {T : Tabs} {M0 : Base} {β : Nat → Value} {N : Nat} {w0 : World} {sl : Nat → Option AV} {rs : Nat → Option RS} {ρ : Nat → Value} {F : Nat → Nat → Prop} {a : Act} {w : World} {o : Oper} {out : Out} {s r s1 r1 : List Nat}
theorem step_ok (hf : Fit P T) (hsp : SpecsOk P T) (h : Rel (T.cf β N M0.L) M0 w0 sl rs ρ F a w) (hd : ∀ d, o.dst = some d → d < a.tmps.size) (he : ev sl rs (step P T o) s r = some (out, s1, r1)) (hnew : NewOk sl rs o.dst out.ws) : Goal P T M0 w0 sl rs a w o out := by
  cases hop : o.op with
  | move x => exact ok_move h hd (.inl hop) (by simpa only [step, hop] using he)
  | assign x => exact ok_move h hd (.inr hop) (by simpa only [step, hop] using he)
  | pick c x y => exact ok_pick h hd hop he
  | alloc t =>
    cases hob : T.objs.any (Nat.beq t) with
    | true => exact ok_allocR hf h hd hop hob he
    | false => exact ok_alloc hf h hd hop hob he hnew
  | box t x =>
    cases hob : T.objs.any (Nat.beq t) with
    | true => exact ok_boxR h hd hop hob he
    | false =>
      cases hcb : T.caps.any (Nat.beq t) with
      | true => exact ok_boxC h hd hop hob hcb he
      | false => exact ok_box h hd hop hob hcb he hnew
  | build t ps => exact ok_build hf h hd hop he
  | buildSlice t n ps => exact ok_buildSlice hf h hd hop he hnew
  | load t x => exact ok_load hf h hd hop (fun st av s r q1 q2 q3 => ok_loadR hf h hd hop q1 q2 q3) he
  | store t x y => exact ok_store hf h hd hop (fun st av l vs s r q1 q2 q3 q4 q5 q6 q7 => ok_storeR hf h hd hop q1 q2 q3 q4 q5 q6 q7) he
  | nilCheck x => exact ok_nilCheck h hd hop (fun av s r q1 q2 => ok_nilR h hd hop q1 q2) he
  | binOp op t x y t' => exact ok_binOp hf h hd hop he
  | unOp u t x => exact ok_unOp h hd hop he
  | convert src dst x => exact ok_convert h hd hop he
  | makeInterface t x => exact ok_makeInterface h hd hop hf he
  | fieldAddr t x j => exact ok_fieldAddr hf h hd hop (fun off ft av s r q1 q2 q3 q4 => ok_fieldR h hd hop q1 q2 q3 q4) he
  | field t x j => exact ok_field hf h hd hop he
  | indexAddr t x i => exact ok_indexAddr hf h hd hop (fun e st k n av s r q1 q2 q3 q4 q5 => ok_indexR hf h hd hop q1 q2 q3 q4 q5) he
  | index t x i => exact ok_index h hd hop he
  | slice t x lo hi m => cases m with
    | none => exact ok_slice hf h hd hop (fun e se l h' hh kh av s r q1 q2 q3 q4 q5 q6 q7 => ok_subR hf h hd hop q1 q2 q3 q4 q5 q6 q7) he
    | some m => simp [step, hop, ev] at he
  | extract x i => exact ok_extract h hd hop he
  | makeMap t r => cases r with
    | none => exact ok_makeMap h hd hop he
    | some x => simp [step, hop, ev] at he
  | lookup t m k ok => exact ok_lookup hf h hd hop he
  | mapUpdate t m k x => exact ok_update hf h hd hop he
  | mapEntry t m k => exact ok_mapEntry hf h hd hop he hnew
  | entryStore t m q x => exact ok_entryStore hf h hd hop he
  | range t x => exact ok_range hf h hd hop he hnew
  | next x b => cases b with
    | false => exact ok_next h hop he
    | true => simp [step, hop, ev] at he
  | entry x => exact ok_cur h hd hop he
  | makeFunc f first caps => cases f <;> first | exact ok_makeFunc h hd hop he | (simp [step, hop, ev] at he; done)
  | call c =>
    cases hc : c.callee with
    | builtin b => cases b <;> first
      | exact ok_len h hd hop hc (fun x t av s r q1 q2 q3 q4 => ok_lenR hf h hd hop hc q1 q2 q3 q4) he
      | exact ok_minmax h hd hop (.inl hc) he
      | exact ok_minmax h hd hop (.inr hc) he
      | exact ok_append hf h hd hop hc (fun x y t e st av bv s r q1 q2 q3 q4 q5 q6 q7 q8 => ok_appendR hf h hd hop hc q1 q2 q3 q4 q5 q6 q7 q8) he hnew
      | exact ok_delete hf h hd hop hc he
      | (simp [step, hop, hc, ev] at he; done)
    | value f => cases f <;> first | exact ok_call hsp h hd hop hc he hnew | exact ok_callT hsp h hd hop hc he hnew | (simp [step, hop, hc, ev] at he; done)
    | invoke x n => simp [step, hop, hc, ev] at he
  | _ => simp [step, hop, ev] at he
def GoOk (ops : Array Oper) (o : Oper) (sl : Nat → Option AV) (s0 : List Nat) : Prop :=
  (o.guard = none ∧ s0 = []) ∨ ∃ g want t, o.guard = some (g, want) ∧ (ops[g]?).bind (·.dst) = some t ∧ sl t = some (.bool want) ∧ s0 = [t]
def SkipOk (ops : Array Oper) (o : Oper) (sl : Nat → Option AV) (t : Nat) : Prop :=
  ∃ g want, o.guard = some (g, want) ∧ (ops[g]?).bind (·.dst) = some t ∧ (sl t = some .undef ∨ sl t = some (.bool !want))
inductive Did (P : Program) (T : Tabs) (ops : Array Oper) (o : Oper) (sl : Nat → Option AV) (rs : Nat → Option RS) : Tr → Prop
  | go {s0 s r : List Nat} {out : Out} (hg : GoOk ops o sl s0) (he : ev sl rs (step P T o) s0 [] = some (out, s, r)) : Did P T ops o sl rs ⟨o.dst, s, r, out.v, out.ws⟩
  | skip {t : Nat} (hg : SkipOk ops o sl t) : Did P T ops o sl rs ⟨o.dst, [t], [], .undef, []⟩
def NewAt (tr : Tr) (d : Nat) (st : RS) : Prop := tr.dst = some d ∧ get tr.ws d = some (some st)
theorem wanted_go {ops : Array Oper} (h : Rel (T.cf β N M0.L) M0 w0 sl rs ρ F a w) {s0 : List Nat} (hg : GoOk ops o sl s0) : Region.wanted o (yielded ops a.tmps) = true := by
  rcases hg with ⟨hg, _⟩ | ⟨g, want, t, hg, ht, hs, _⟩
  · simp [Region.wanted, hg]
  · obtain ⟨v, e1, e2⟩ := h.slots t _ hs
    simp only [VR, SR, LR] at e2
    subst e2
    simp [Region.wanted, hg, yielded, ht, e1]
theorem wanted_skip {ops : Array Oper} (h : Rel (T.cf β N M0.L) M0 w0 sl rs ρ F a w) {t : Nat} (hg : SkipOk ops o sl t) : Region.wanted o (yielded ops a.tmps) = false := by
  obtain ⟨g, want, hg, ht, hs⟩ := hg
  rcases hs with hs | hs
  · obtain ⟨v, e1, e2⟩ := h.slots t _ hs
    simp only [VR, SR, LR] at e2
    subst e2
    simp [Region.wanted, hg, yielded, ht, e1, Go.undef]
  · obtain ⟨v, e1, e2⟩ := h.slots t _ hs
    simp only [VR, SR, LR] at e2
    subst e2
    simp [Region.wanted, hg, yielded, ht, e1]
theorem did_ok (hf : Fit P T) (hsp : SpecsOk P T) {ops : Array Oper} {i : Nat} (ho : ops[i]? = some o) (h : RelE T M0 w0 sl rs a w) (hd : ∀ d, o.dst = some d → d < a.tmps.size) {tr : Tr} (hdid : Did P T ops o sl rs tr)
    (hnew : ∀ d st, NewAt tr d st → Fresh sl rs d ∧ (st = .tok ∨ (Ws.ment d tr.ws = false ∧ st.ment d = false))) {K : Act → World → Prop} {Q : Exit → Act → World → Prop}
    (hK : ∀ a' w', a'.tmps.size = a.tmps.size → RelE T M0 w0 (updS sl tr.dst tr.v) (updR rs tr.ws) a' w' → K a' w') : wpOp P ops Q i K a w := by
  obtain ⟨ρ, F, β, N, h⟩ := h
  unfold wpOp
  simp only [ho]
  have hput : ∀ v, (a.put o.dst v).tmps.size = a.tmps.size := fun v => by cases o.dst <;> simp [Act.put]
  cases hdid with
  | go hg he =>
    rw [if_pos (wanted_go h hg)]
    exact .inl ((step_ok hf hsp h hd he ⟨fun d st e1 e2 => hnew d st ⟨e1, e2⟩⟩).wp fun v w' hr => hK _ _ (hput v) hr)
  | skip hg =>
    rw [if_neg (by rw [wanted_skip h hg]; simp)]
    refine hK _ _ (hput _) ⟨ρ, F, β, N, ?_⟩
    rw [updR_nil]
    exact h.undef hd
structure Same (E E2 : Env) : Prop where
  sl : get E2.sl = get E.sl
  ment : ∀ d, slMent d E2.sl = slMent d E.sl
  rs : E2.rs = E.rs
theorem Same.refl (E : Env) : Same E E := ⟨rfl, fun _ => rfl, rfl⟩
theorem get_cons {α : Type _} (k : Nat) (v : α) (l : List (Nat × α)) (t : Nat) : get ((k, v) :: l) t = if k = t then some v else get l t := by
  simp only [get]
  by_cases h : k = t
  · subst h; simp [Nat.beq_refl]
  · rw [if_neg h]
    split
    · rename_i hb; exact absurd (Nat.eq_of_beq_eq_true hb) h
    · rfl
theorem same_bool {E : Env} {t : Nat} {b : Bool} (h : get E.sl t = some (.bool b)) : Same E ⟨(t, .bool b) :: E.sl, E.rs⟩ := by
  refine ⟨?_, fun d => by simp [slMent, AV.ment, AV.ment2, AV.ment1], rfl⟩
  funext i
  rw [get_cons]
  split
  · rename_i e; subst e; exact h.symm
  · rfl
inductive OpFact (P : Program) (T : Tabs) (ops : Array Oper) (o : Oper) (E : Env) (tr : Tr) (E1 : Env) : Prop
  | mk (E2 : Env) (hs : Same E E2) (hd : Did P T ops o (get E.sl) (getR E.rs) tr) (hn : okNew E2 tr.dst tr.ws = true) (h1 : E1 = upd E2 tr.dst ⟨tr.v, tr.ws⟩)
inductive Runs (P : Program) (T : Tabs) (ops : Array Oper) : List Oper → Env → List Tr → Env → Prop
  | nil {E} : Runs P T ops [] E [] E
  | cons {o rest E tr E1 trs E'} : OpFact P T ops o E tr E1 → Runs P T ops rest E1 trs E' → Runs P T ops (o :: rest) E (tr :: trs) E'
theorem evalOp_fact {ops : Array Oper} {E : Env} {k : Env → Tr → R} {res : AV} (h : evalOp P T ops o E k = some res) : ∃ tr E1, OpFact P T ops o E tr E1 ∧ k E1 tr = some res := by
  have go : ∀ {E2 : Env} {s0 : List Nat}, Same E E2 → GoOk ops o (get E.sl) s0 → evalOp.go P T o k E2 s0 = some res → ∃ tr E1, OpFact P T ops o E tr E1 ∧ k E1 tr = some res := by
    intro E2 s0 hs hg h
    unfold evalOp.go at h
    obtain ⟨out, s1, r1, h1, h2⟩ := run_ev _ _ _ _ _ _ h
    split at h2 <;> try (cases h2; done)
    rename_i hn
    refine ⟨_, _, .mk E2 hs (.go hg (out := out) (s := s1) (r := r1) ?_) hn rfl, h2⟩
    rw [hs.sl, hs.rs] at h1
    exact h1
  have skip : ∀ {E2 : Env} {t : Nat}, Same E E2 → SkipOk ops o (get E.sl) t → evalOp.skip o k E2 [t] = some res → ∃ tr E1, OpFact P T ops o E tr E1 ∧ k E1 tr = some res := by
    intro E2 t hs hg h
    unfold evalOp.skip at h
    exact ⟨_, _, .mk E2 hs (.skip hg) (by unfold okNew; cases o.dst <;> simp [get]) rfl, h⟩
  unfold evalOp at h
  split at h
  · rename_i hg
    exact go (Same.refl E) (.inl ⟨hg, rfl⟩) h
  · rename_i g want hg
    split at h <;> try (cases h; done)
    rename_i t ht
    split at h <;> try (cases h; done)
    · rename_i b hb
      unfold evalOp.br at h
      cases b <;> cases want <;> simp only [cond_true, cond_false] at h
      · exact go (same_bool hb) (.inr ⟨g, _, t, hg, ht, hb, rfl⟩) h
      · exact skip (same_bool hb) ⟨g, _, hg, ht, .inr hb⟩ h
      · exact skip (same_bool hb) ⟨g, _, hg, ht, .inr hb⟩ h
      · exact go (same_bool hb) (.inr ⟨g, _, t, hg, ht, hb, rfl⟩) h
    · rename_i hu
      exact skip (Same.refl E) ⟨g, _, hg, ht, .inl hu⟩ h
theorem evalOps_runs {ops : Array Oper} : ∀ {l : List Oper} {E : Env} {acc : List Tr} {k : Env → List Tr → R} {res : AV}, evalOps P T ops l E acc k = some res → ∃ trs E', Runs P T ops l E trs E' ∧ k E' (trs.reverse ++ acc) = some res
  | [], E, acc, k, res, h => ⟨[], E, .nil, h⟩
  | o :: l, E, acc, k, res, h => by
    simp only [evalOps] at h
    obtain ⟨tr, E1, h1, h2⟩ := evalOp_fact h
    obtain ⟨trs, E', h3, h4⟩ := evalOps_runs h2
    exact ⟨tr :: trs, E', .cons h1 h3, by simpa using h4⟩
theorem upd_sl (E : Env) (dst : Option Nat) (out : Out) : get (upd E dst out).sl = updS (get E.sl) dst out.v := by
  funext t
  cases dst with
  | none => simp [upd, updS]
  | some d => simp only [upd, get_cons, updS, Option.some.injEq]
theorem upd_rs (E : Env) (dst : Option Nat) (out : Out) : getR (upd E dst out).rs = updR (getR E.rs) out.ws := by
  funext id
  simp only [upd, getR, updR, get_append]
  cases get out.ws id with
  | none => rfl
  | some q => cases q <;> rfl
theorem get_mem {α : Type _} {l : List (Nat × α)} {t : Nat} {x : α} (h : get l t = some x) : (t, x) ∈ l := by
  induction l with
  | nil => simp [get] at h
  | cons p l ih =>
    obtain ⟨k, v⟩ := p
    rw [get_cons] at h
    split at h
    · rename_i e; subst e; obtain rfl := Option.some.inj h; exact List.mem_cons_self
    · exact List.mem_cons_of_mem _ (ih h)
theorem slMent_get {d : Nat} {l : List (Nat × AV)} (h : slMent d l = false) {t : Nat} {av : AV} (ht : get l t = some av) : av.ment d = false := by
  have := get_mem ht
  unfold slMent at h
  rw [List.any_eq_false] at h
  simpa using h _ this
theorem wsMent_mem {d : Nat} {l : Ws} (h : Ws.ment d l = false) {id : Nat} {st : RS} (ht : (id, some st) ∈ l) : st.ment d = false := by
  induction l with
  | nil => simp at ht
  | cons p l ih =>
    obtain ⟨k, q⟩ := p
    cases q with
    | none =>
      simp only [Ws.ment] at h
      rcases List.mem_cons.1 ht with e | ht
      · cases e
      · exact ih h ht
    | some r =>
      simp only [Ws.ment, Bool.or_eq_false_iff] at h
      rcases List.mem_cons.1 ht with e | ht
      · cases e; exact h.1
      · exact ih h.2 ht
theorem getR_mem {l : List (Nat × Option RS)} {id : Nat} {st : RS} (h : getR l id = some st) : (id, some st) ∈ l := by
  unfold getR at h
  split at h
  · rename_i r hg; obtain rfl := Option.some.inj h; exact get_mem hg
  · cases h
theorem okNew_fresh {E E2 : Env} (hs : Same E E2) {tr : Tr} (h : okNew E2 tr.dst tr.ws = true) {d : Nat} {st : RS} (hn : NewAt tr d st) : (slMent d E.sl = false ∧ rsMent d E.rs = false) ∧ (st = .tok ∨ (Ws.ment d tr.ws = false ∧ st.ment d = false)) := by
  obtain ⟨e1, e2⟩ := hn
  unfold okNew at h
  rw [e1] at h
  simp only [e2] at h
  cases st with
  | tok =>
    simp only [Bool.and_eq_true, Bool.not_eq_true'] at h
    rw [hs.ment, hs.rs] at h
    exact ⟨h, .inl rfl⟩
  | _ =>
    simp only [Bool.and_eq_true, Bool.not_eq_true'] at h
    rw [hs.ment, hs.rs] at h
    exact ⟨h.1.1, .inr ⟨h.1.2, h.2⟩⟩
theorem fresh_of {E : Env} {d : Nat} (h : slMent d E.sl = false ∧ rsMent d E.rs = false) : Fresh (get E.sl) (getR E.rs) d := by
  have h2 := h.2
  unfold rsMent at h2
  rw [Bool.or_eq_false_iff] at h2
  exact ⟨fun _ _ ht => slMent_get h.1 ht, fun _ _ ht => wsMent_mem h2.1 (getR_mem ht), fun e => by subst e; rw [Nat.beq_refl] at h2; cases h2.2⟩
abbrev RelEnv (T : Tabs) (M0 : Base) (w0 : World) (E : Env) (a : Act) (w : World) : Prop := RelE T M0 w0 (get E.sl) (getR E.rs) a w
theorem OpFact.next {ops : Array Oper} {E E1 : Env} {tr : Tr} (h : OpFact P T ops o E tr E1) : get E1.sl = updS (get E.sl) tr.dst tr.v ∧ getR E1.rs = updR (getR E.rs) tr.ws := by
  obtain ⟨E2, hs, hd, hn, rfl⟩ := h
  rw [upd_sl, upd_rs, hs.sl, hs.rs]
  exact ⟨rfl, rfl⟩
theorem runs_tail (hf : Fit P T) (hsp : SpecsOk P T) {ops : Array Oper} {Q : Exit → Act → World → Prop} {tail : List Nat} : ∀ {n : Nat} {l : List Oper} {E E' : Env} {trs : List Tr} {a : Act} {w : World}, (∀ j, j < l.length → l[j]? = ops[n + j]?) → (∀ o ∈ l, ∀ d, o.dst = some d → d < a.tmps.size) → Runs P T ops l E trs E' → RelEnv T M0 w0 E a w →
    (∀ a' w', a'.tmps.size = a.tmps.size → RelEnv T M0 w0 E' a' w' → wpOps P ops Q tail a' w') → wpOps P ops Q (List.range' n l.length ++ tail) a w
  | n, [], E, E', trs, a, w, _, _, hr, h, hQ => by cases hr; simp only [List.length_nil, List.range'_zero, List.nil_append]; exact hQ a w rfl h
  | n, o :: l, E, E', trs, a, w, hops, hd, hr, h, hQ => by
    cases hr with | cons hfact hruns => ?_
    rename_i tr E1 trs
    have h0 : ops[n]? = some o := by simpa using (hops 0 (by simp)).symm
    simp only [List.length_cons, List.range'_succ, List.cons_append]
    rw [wpOps_cons]
    obtain ⟨q1, q2⟩ := hfact.next
    obtain ⟨E2, hs, hdid, hn, hE1⟩ := hfact
    refine did_ok hf hsp h0 h (hd o List.mem_cons_self) hdid (fun d st hnew => ?_) fun a' w' hsz hr => ?_
    · obtain ⟨g1, g2⟩ := okNew_fresh hs hn hnew
      exact ⟨fresh_of g1, g2⟩
    · rw [← q1, ← q2] at hr
      refine runs_tail hf hsp (n := n + 1) (fun j hj => ?_) (fun o' ho' d hd' => ?_) hruns hr fun a2 w2 hsz2 hr2 => hQ a2 w2 (hsz2.trans hsz) hr2
      · have := hops (j + 1) (by simp only [List.length_cons]; omega)
        rw [show n + 1 + j = n + (j + 1) by omega]
        simpa using this
      · rw [hsz]; exact hd o' (List.mem_cons_of_mem _ ho') d hd'
theorem runs_ok (hf : Fit P T) (hsp : SpecsOk P T) {ops : Array Oper} {Q : Exit → Act → World → Prop} {n : Nat} {l : List Oper} {E E' : Env} {trs : List Tr} {a : Act} {w : World} (h1 : ∀ j, l[j]? = ops[n + j]?) (h2 : ∀ o ∈ l, ∀ d, o.dst = some d → d < a.tmps.size) (h3 : Runs P T ops l E trs E') (h4 : RelEnv T M0 w0 E a w)
    (h5 : ∀ a' w', a'.tmps.size = a.tmps.size → RelEnv T M0 w0 E' a' w' → Q .normal a' w') : wpOps P ops Q (List.range' n l.length) a w := by
  have := runs_tail hf hsp (tail := []) (Q := Q) (fun j _ => h1 j) h2 h3 h4 (fun a' w' e h => by simpa only [wpOps] using h5 a' w' e h)
  rwa [List.append_nil] at this
end
end Go.Pev
/- The pure evaluator, part Q: regions that draw their order. Own text, over any program. -/
namespace Go.Pev
def mixS (sl : Nat → Option AV) (f : Nat → Bool) : List Tr → Nat → Option AV
  | [] => sl
  | tr :: r => mixS (if f 0 then updS sl tr.dst tr.v else sl) (fun j => f (j + 1)) r
def mixR (rs : Nat → Option RS) (f : Nat → Bool) : List Tr → Nat → Option RS
  | [] => rs
  | tr :: r => mixR (if f 0 then updR rs tr.ws else rs) (fun j => f (j + 1)) r
theorem updS_ne {sl : Nat → Option AV} {dst : Option Nat} {v : AV} {t : Nat} (h : dst ≠ some t) : updS sl dst v t = sl t := by simp [updS, h]
theorem updS_eq {sl : Nat → Option AV} {v : AV} {t : Nat} : updS sl (some t) v t = some v := by simp [updS]
theorem updR_ne {rs : Nat → Option RS} {ws : Ws} {id : Nat} (h : get ws id = none) : updR rs ws id = rs id := by simp [updR, h]
theorem updR_eq {rs : Nat → Option RS} {ws : Ws} {id : Nat} {q : Option RS} (h : get ws id = some q) : updR rs ws id = q := by simp [updR, h]
theorem mixS_congr : ∀ {trs : List Tr} {sl sl' : Nat → Option AV} {f g : Nat → Bool} {t : Nat}, sl t = sl' t → (∀ j tr, trs[j]? = some tr → tr.dst = some t → f j = g j) → mixS sl f trs t = mixS sl' g trs t
  | [], _, _, _, _, _, h, _ => h
  | tr :: r, sl, sl', f, g, t, h, hw => by
    simp only [mixS]
    refine mixS_congr ?_ fun j tr' h1 h2 => hw (j + 1) tr' (by simpa using h1) h2
    by_cases hd : tr.dst = some t
    · have := hw 0 tr (by simp) hd
      rw [this]
      cases g 0
      · simpa using h
      · simp [updS, hd]
    · cases f 0 <;> cases g 0 <;> simp [updS_ne hd, h]
theorem mixR_congr : ∀ {trs : List Tr} {rs rs' : Nat → Option RS} {f g : Nat → Bool} {id : Nat}, rs id = rs' id → (∀ j tr, trs[j]? = some tr → get tr.ws id ≠ none → f j = g j) → mixR rs f trs id = mixR rs' g trs id
  | [], _, _, _, _, _, h, _ => h
  | tr :: r, rs, rs', f, g, id, h, hw => by
    simp only [mixR]
    refine mixR_congr ?_ fun j tr' h1 h2 => hw (j + 1) tr' (by simpa using h1) h2
    by_cases hd : get tr.ws id = none
    · cases f 0 <;> cases g 0 <;> simp [updR_ne hd, h]
    · have := hw 0 tr (by simp) hd
      rw [this]
      cases g 0
      · simpa using h
      · obtain ⟨q, hq⟩ := Option.ne_none_iff_exists'.1 hd
        simp [updR_eq hq]
theorem mixS_none : ∀ {trs : List Tr} {sl : Nat → Option AV}, mixS sl (fun _ => false) trs = sl
  | [], _ => rfl
  | _ :: r, sl => by simp only [mixS]; exact mixS_none (trs := r)
theorem mixR_none : ∀ {trs : List Tr} {rs : Nat → Option RS}, mixR rs (fun _ => false) trs = rs
  | [], _ => rfl
  | _ :: r, rs => by simp only [mixR]; exact mixR_none (trs := r)
theorem mixS_last : ∀ {trs : List Tr} {sl : Nat → Option AV} {f : Nat → Bool} {i t : Nat} {tr : Tr}, trs[i]? = some tr → tr.dst = some t → f i = true → (∀ j x, i < j → trs[j]? = some x → x.dst = some t → f j = false) → mixS sl f trs t = some tr.v
  | [], _, _, _, _, _, h, _, _, _ => by simp at h
  | x :: r, sl, f, 0, t, tr, h, hd, hf, hl => by
    obtain rfl : x = tr := by simpa using h
    simp only [mixS, hf, if_true]
    rw [mixS_congr (g := fun _ => false) rfl fun j y h1 h2 => hl (j + 1) y (by omega) (by simpa using h1) h2, mixS_none, hd, updS_eq]
  | x :: r, sl, f, i + 1, t, tr, h, hd, hf, hl => by
    simp only [mixS]
    exact mixS_last (i := i) (by simpa using h) hd hf fun j y hj h1 h2 => hl (j + 1) y (by omega) (by simpa using h1) h2
theorem mixR_last : ∀ {trs : List Tr} {rs : Nat → Option RS} {f : Nat → Bool} {i id : Nat} {tr : Tr} {q : Option RS}, trs[i]? = some tr → get tr.ws id = some q → f i = true → (∀ j x, i < j → trs[j]? = some x → get x.ws id ≠ none → f j = false) → mixR rs f trs id = q
  | [], _, _, _, _, _, _, h, _, _, _ => by simp at h
  | x :: r, rs, f, 0, id, tr, q, h, hd, hf, hl => by
    obtain rfl : x = tr := by simpa using h
    simp only [mixR, hf, if_true]
    rw [mixR_congr (g := fun _ => false) rfl fun j y h1 h2 => hl (j + 1) y (by omega) (by simpa using h1) h2, mixR_none, updR_eq hd]
  | x :: r, rs, f, i + 1, id, tr, q, h, hd, hf, hl => by
    simp only [mixR]
    exact mixR_last (i := i) (by simpa using h) hd hf fun j y hj h1 h2 => hl (j + 1) y (by omega) (by simpa using h1) h2
theorem mixS_mem : ∀ {trs : List Tr} {sl : Nat → Option AV} {f : Nat → Bool} {t : Nat} {av : AV}, mixS sl f trs t = some av → sl t = some av ∨ ∃ j tr, trs[j]? = some tr ∧ f j = true ∧ tr.dst = some t ∧ tr.v = av
  | [], _, _, _, _, h => .inl h
  | x :: r, sl, f, t, av, h => by
    simp only [mixS] at h
    rcases mixS_mem h with h | ⟨j, tr, h1, h2, h3, h4⟩
    · by_cases hf : f 0 = true
      · simp only [hf, if_true] at h
        by_cases hd : x.dst = some t
        · rw [hd, updS_eq] at h
          exact .inr ⟨0, x, by simp, hf, hd, Option.some.inj h⟩
        · rw [updS_ne hd] at h; exact .inl h
      · simp only [hf] at h; exact .inl h
    · exact .inr ⟨j + 1, tr, by simpa using h1, h2, h3, h4⟩
theorem mixR_mem : ∀ {trs : List Tr} {rs : Nat → Option RS} {f : Nat → Bool} {id : Nat} {st : RS}, mixR rs f trs id = some st → rs id = some st ∨ ∃ j tr, trs[j]? = some tr ∧ f j = true ∧ get tr.ws id = some (some st)
  | [], _, _, _, _, h => .inl h
  | x :: r, rs, f, id, st, h => by
    simp only [mixR] at h
    rcases mixR_mem h with h | ⟨j, tr, h1, h2, h3⟩
    · by_cases hf : f 0 = true
      · simp only [hf, if_true] at h
        cases hd : get x.ws id with
        | none => rw [updR_ne hd] at h; exact .inl h
        | some q =>
          rw [updR_eq hd] at h
          exact .inr ⟨0, x, by simp, hf, by rw [hd, h]⟩
      · simp only [hf] at h; exact .inl h
    · exact .inr ⟨j + 1, tr, by simpa using h1, h2, h3⟩
section
variable {P : Program} {T : Tabs} {M0 : Base} {β : Nat → Value} {N : Nat} {w0 : World} {ops : Array Oper}
structure NewFact (E : Env) (trs : List Tr) (i : Nat) (tr : Tr) (d : Nat) (st : RS) : Prop where
  sl : slMent d E.sl = false
  rs : Ws.ment d E.rs = false
  ne : d ≠ 7000
  old : ∀ j x, j < i → trs[j]? = some x → (x.dst ≠ none → x.v.ment d = false) ∧ ∀ id st, get x.ws id = some (some st) → st.ment d = false
  new : st = .tok ∨ (Ws.ment d tr.ws = false ∧ st.ment d = false)
theorem rsMent_off {d : Nat} {l : List (Nat × Option RS)} (h : rsMent d l = false) : Ws.ment d l = false ∧ d ≠ 7000 := by
  unfold rsMent at h
  rw [Bool.or_eq_false_iff] at h
  exact ⟨h.1, fun e => by subst e; rw [Nat.beq_refl] at h; cases h.2⟩
theorem wsMent_append {d : Nat} : ∀ {x y : Ws}, Ws.ment d (x ++ y) = false → Ws.ment d x = false ∧ Ws.ment d y = false
  | [], _, h => ⟨rfl, h⟩
  | (k, none) :: x, y, h => by
    simp only [List.cons_append, Ws.ment] at h ⊢
    exact wsMent_append h
  | (k, some r) :: x, y, h => by
    simp only [List.cons_append, Ws.ment, Bool.or_eq_false_iff] at h ⊢
    obtain ⟨h1, h2⟩ := wsMent_append h.2
    exact ⟨⟨h.1, h1⟩, h2⟩
theorem NewFact.lift {E E2 : Env} {trs : List Tr} {tr0 : Tr} {i : Nat} {tr : Tr} {d : Nat} {st : RS} (hs : Same E E2) (h : NewFact (upd E2 tr0.dst ⟨tr0.v, tr0.ws⟩) trs i tr d st) : NewFact E (tr0 :: trs) (i + 1) tr d st := by
  have h2 := wsMent_append h.rs
  have hsl := h.sl
  have h1 : (tr0.dst ≠ none → tr0.v.ment d = false) ∧ slMent d E.sl = false := by
    rw [← hs.ment d]
    simp only [upd] at hsl
    cases hd : tr0.dst with
    | none => rw [hd] at hsl; exact ⟨fun h => absurd rfl h, hsl⟩
    | some k =>
      rw [hd] at hsl
      simp only [slMent, List.any_cons, Bool.or_eq_false_iff] at hsl
      exact ⟨fun _ => hsl.1, hsl.2⟩
  refine ⟨h1.2, ?_, h.ne, fun j x hj hx => ?_, h.new⟩
  · rw [← hs.rs]; exact h2.2
  · cases j with
    | zero =>
      obtain rfl : tr0 = x := by simpa using hx
      exact ⟨h1.1, fun id st hg => wsMent_mem h2.1 (get_mem hg)⟩
    | succ j => exact h.old j x (by omega) (by simpa using hx)
theorem runs_at : ∀ {l : List Oper} {E E' : Env} {trs : List Tr}, Runs P T ops l E trs E' → l.length = trs.length ∧ get E'.sl = mixS (get E.sl) (fun _ => true) trs ∧ getR E'.rs = mixR (getR E.rs) (fun _ => true) trs ∧
    ∀ i o tr, l[i]? = some o → trs[i]? = some tr → Did P T ops o (mixS (get E.sl) (fun j => decide (j < i)) trs) (mixR (getR E.rs) (fun j => decide (j < i)) trs) tr ∧ tr.dst = o.dst ∧
      ∀ d st, NewAt tr d st → NewFact E trs i tr d st
  | [], E, E', trs, h => by cases h; exact ⟨rfl, rfl, rfl, fun i o tr h => by simp at h⟩
  | o :: l, E, E', trs, h => by
    cases h with | cons hfact hruns => ?_
    rename_i tr E1 trs
    obtain ⟨q1, q2⟩ := hfact.next
    obtain ⟨E2, hs, hdid, hn, hE1⟩ := hfact
    obtain ⟨e1, e2, e3, e4⟩ := runs_at hruns
    refine ⟨by simp [e1], by rw [e2, q1]; simp [mixS], by rw [e3, q2]; simp [mixR], fun i o' tr' h1 h2 => ?_⟩
    cases i with
    | zero =>
      obtain rfl : o = o' := by simpa using h1
      obtain rfl : tr = tr' := by simpa using h2
      refine ⟨?_, by cases hdid <;> rfl, fun d st hnew => ?_⟩
      · simp only [Nat.not_lt_zero, decide_false, mixS_none, mixR_none]
        exact hdid
      · obtain ⟨g1, g2⟩ := okNew_fresh hs hn hnew
        exact ⟨g1.1, (rsMent_off g1.2).1, (rsMent_off g1.2).2, fun j x hj => absurd hj (Nat.not_lt_zero _), g2⟩
    | succ i =>
      obtain ⟨f1, f2, f3⟩ := e4 i o' tr' (by simpa using h1) (by simpa using h2)
      have c1 : mixS (get E.sl) (fun j => decide (j < i + 1)) (tr :: trs) = mixS (get E1.sl) (fun j => decide (j < i)) trs := by
        simp only [mixS, q1, Nat.zero_lt_succ, decide_true, if_true, Nat.add_lt_add_iff_right]
      have c2 : mixR (getR E.rs) (fun j => decide (j < i + 1)) (tr :: trs) = mixR (getR E1.rs) (fun j => decide (j < i)) trs := by
        simp only [mixR, q2, Nat.zero_lt_succ, decide_true, if_true, Nat.add_lt_add_iff_right]
      rw [c1, c2]
      refine ⟨f1, f2, fun d st hnew => ?_⟩
      have hf := f3 d st hnew
      rw [hE1] at hf
      exact hf.lift hs
structure Far (x y : Tr) : Prop where
  ds : ∀ t, x.dst = some t → t ∉ y.rdS ∧ y.dst ≠ some t
  sd : ∀ t, y.dst = some t → t ∉ x.rdS
  wr : ∀ id, get x.ws id ≠ none → id ∉ y.rdR ∧ get y.ws id = none
  rw : ∀ id, get y.ws id ≠ none → id ∉ x.rdR
  n1 : ∀ d st, NewAt x d st → y.v.ment d = false ∧ Ws.ment d y.ws = false
  n2 : ∀ d st, NewAt y d st → x.v.ment d = false ∧ Ws.ment d x.ws = false
theorem Far.symm {x y : Tr} (h : Far x y) : Far y x :=
  ⟨fun t ht => ⟨h.sd t ht, fun e => (h.ds t e).2 ht⟩, fun t ht => (h.ds t ht).1,
   fun id hid => ⟨h.rw id hid, by cases hg : get x.ws id with
     | none => rfl
     | some q => exact absurd (h.wr id (by simp [hg])).2 hid⟩, fun id hid => (h.wr id hid).1, h.n2, h.n1⟩
theorem meets_false {a b : List Nat} (h : meets a b = false) : ∀ x, x ∈ a → x ∉ b := by
  intro x hx hb
  unfold meets at h
  rw [List.any_eq_false] at h
  have := h x hx
  simp only [Bool.not_eq_true, List.any_eq_false] at this
  have := this x hb
  rw [Nat.beq_refl] at this
  cases this
theorem wids_mem {ws : Ws} {id : Nat} (h : get ws id ≠ none) : id ∈ wids ws := by
  obtain ⟨q, hq⟩ := Option.ne_none_iff_exists'.1 h
  exact List.mem_map.2 ⟨_, get_mem hq, rfl⟩
theorem apart_far {x y : Tr} (h : apart x y = true) : Far x y := by
  unfold apart at h
  simp only [Bool.and_eq_true, Bool.not_eq_true'] at h
  obtain ⟨⟨⟨⟨⟨h1, h2⟩, h3⟩, h4⟩, h5⟩, h6⟩ := h
  have dm : ∀ {z : Tr} {t : Nat}, z.dst = some t → t ∈ dsts z := fun {z t} hz => by simp [dsts, hz]
  have nm : ∀ {z : Tr} {d : Nat} {st : RS}, NewAt z d st → d ∈ news z := fun {z d st} hz => by simp [news, hz.1, hz.2]
  refine ⟨fun t ht => ?_, fun t ht hx => meets_false h2 t hx (dm ht), fun id hid => ?_, fun id hid hx => meets_false h4 id hx (wids_mem hid), fun d st hn => ?_, fun d st hn => ?_⟩
  · have := meets_false h1 t (dm ht)
    exact ⟨fun hm => this (List.mem_append_left _ hm), fun hm => this (List.mem_append_right _ (dm hm))⟩
  · have := meets_false h3 id (wids_mem hid)
    refine ⟨fun hm => this (List.mem_append_left _ hm), ?_⟩
    cases hg : get y.ws id with
    | none => rfl
    | some q => exact absurd (List.mem_append_right _ (wids_mem (by simp [hg]))) this
  · rw [List.any_eq_false] at h5
    have := h5 d (nm hn)
    simpa [trMent] using this
  · rw [List.any_eq_false] at h6
    have := h6 d (nm hn)
    simpa [trMent] using this
section
variable {E : Env} {trs : List Tr} {i : Nat} {tr : Tr} {f : Nat → Bool} {o : Oper}
theorem mix_reads_S {sl : Nat → Option AV} (hi : trs[i]? = some tr) (hfi : f i = false) (hfar : ∀ j x, trs[j]? = some x → j ≠ i → f j ≠ decide (j < i) → Far x tr) (t : Nat) (ht : t ∈ tr.rdS) : mixS sl f trs t = mixS sl (fun j => decide (j < i)) trs t := by
  refine mixS_congr rfl fun j x hj hx => ?_
  by_cases hji : j = i
  · subst hji; simp [hfi]
  · by_cases hq : f j = decide (j < i)
    · exact hq
    · exact absurd ht (((hfar j x hj hji hq).ds t hx).1)
theorem mix_reads_R {rs : Nat → Option RS} (hi : trs[i]? = some tr) (hfi : f i = false) (hfar : ∀ j x, trs[j]? = some x → j ≠ i → f j ≠ decide (j < i) → Far x tr) (id : Nat) (ht : id ∈ tr.rdR) : mixR rs f trs id = mixR rs (fun j => decide (j < i)) trs id := by
  refine mixR_congr rfl fun j x hj hx => ?_
  by_cases hji : j = i
  · subst hji; simp [hfi]
  · by_cases hq : f j = decide (j < i)
    · exact hq
    · exact absurd ht (((hfar j x hj hji hq).wr id hx).1)
theorem Did.near {sl sl' : Nat → Option AV} {rs rs' : Nat → Option RS} (h : Did P T ops o sl rs tr) (hs : ∀ t ∈ tr.rdS, sl' t = sl t) (hr : ∀ id ∈ tr.rdR, rs' id = rs id) : Did P T ops o sl' rs' tr := by
  cases h with
  | go hg he =>
    refine .go ?_ (ev_local _ _ _ _ _ _ he hs hr)
    rcases hg with hg | ⟨g, want, t, h1, h2, h3, rfl⟩
    · exact .inl hg
    · exact .inr ⟨g, want, t, h1, h2, by rw [hs t ((ev_sub _ _ _ _ _ _ he).1 t List.mem_cons_self)]; exact h3, rfl⟩
  | skip hg =>
    refine .skip ?_
    obtain ⟨g, want, h1, h2, h3⟩ := hg
    rw [← hs _ List.mem_cons_self] at h3
    exact ⟨g, want, h1, h2, h3⟩
theorem mix_next_S {sl : Nat → Option AV} (hi : trs[i]? = some tr) (hfi : f i = false) (hfar : ∀ j x, trs[j]? = some x → j ≠ i → f j ≠ decide (j < i) → Far x tr) : updS (mixS sl f trs) tr.dst tr.v = mixS sl (fun j => f j || decide (j = i)) trs := by
  funext t
  by_cases hd : tr.dst = some t
  · rw [hd, updS_eq]
    refine (mixS_last hi hd (by simp) fun j x hj hx hxd => ?_).symm
    have hji : j ≠ i := by omega
    have : f j = false := by
      cases hfj : f j with
      | false => rfl
      | true => exact absurd hd ((hfar j x hx hji (by simp [hfj]; omega)).ds t hxd).2
    simp [this, hji]
  · rw [updS_ne hd]
    refine mixS_congr rfl fun j x hj hx => ?_
    by_cases hji : j = i
    · subst hji; rw [hi] at hj; obtain rfl := Option.some.inj hj; exact absurd hx hd
    · simp [hji]
theorem mix_next_R {rs : Nat → Option RS} (hi : trs[i]? = some tr) (hfi : f i = false) (hfar : ∀ j x, trs[j]? = some x → j ≠ i → f j ≠ decide (j < i) → Far x tr) : updR (mixR rs f trs) tr.ws = mixR rs (fun j => f j || decide (j = i)) trs := by
  funext id
  cases hd : get tr.ws id with
  | some q =>
    rw [updR_eq hd]
    refine (mixR_last hi hd (by simp) fun j x hj hx hxd => ?_).symm
    have hji : j ≠ i := by omega
    have : f j = false := by
      cases hfj : f j with
      | false => rfl
      | true =>
        have := ((hfar j x hx hji (by simp [hfj]; omega)).wr id hxd).2
        rw [hd] at this; cases this
    simp [this, hji]
  | none =>
    rw [updR_ne hd]
    refine mixR_congr rfl fun j x hj hx => ?_
    by_cases hji : j = i
    · subst hji; rw [hi] at hj; obtain rfl := Option.some.inj hj; exact absurd hd hx
    · simp [hji]
theorem mix_fresh (hi : trs[i]? = some tr) (hfi : f i = false) (hfar : ∀ j x, trs[j]? = some x → j ≠ i → f j ≠ decide (j < i) → Far x tr) {d : Nat} {st : RS} (hn : NewAt tr d st) (h : NewFact E trs i tr d st) : Fresh (mixS (get E.sl) f trs) (mixR (getR E.rs) f trs) d := by
  refine ⟨fun t av ht => ?_, fun id s hs => ?_, h.ne⟩
  · rcases mixS_mem ht with ht | ⟨j, x, hx, hfj, hxd, rfl⟩
    · exact slMent_get h.sl ht
    · by_cases hji : j = i
      · subst hji; rw [hfi] at hfj; cases hfj
      · by_cases hlt : j < i
        · exact (h.old j x hlt hx).1 (by simp [hxd])
        · exact ((hfar j x hx hji (by simp [hfj]; omega)).n2 d st hn).1
  · rcases mixR_mem hs with hs | ⟨j, x, hx, hfj, hxd⟩
    · exact wsMent_mem h.rs (getR_mem hs)
    · by_cases hji : j = i
      · subst hji; rw [hfi] at hfj; cases hfj
      · by_cases hlt : j < i
        · exact (h.old j x hlt hx).2 id s hxd
        · exact wsMent_mem ((hfar j x hx hji (by simp [hfj]; omega)).n2 d st hn).2 (get_mem hxd)
end
def backGo : Nat → List Oper → Bool
  | _, [] => true
  | n, o :: r => o.after.toList.all (fun e => !Region.binds .any e || Nat.blt e.on n) && backGo (n + 1) r
theorem backGo_at : ∀ {l : List Oper} {n : Nat}, backGo n l = true → ∀ i o, l[i]? = some o → ∀ e ∈ o.after.toList, Region.binds .any e = true → e.on < n + i
  | [], _, _, i, o, h, _, _, _ => by simp at h
  | x :: r, n, hb, 0, o, h, e, he, hbi => by
    obtain rfl : x = o := by simpa using h
    simp only [backGo, Bool.and_eq_true, List.all_eq_true] at hb
    have := hb.1 e he
    rw [hbi] at this
    simpa [Nat.blt_eq] using this
  | x :: r, n, hb, i + 1, o, h, e, he, hbi => by
    simp only [backGo, Bool.and_eq_true] at hb
    have := backGo_at hb.2 i o (by simpa using h) e he hbi
    omega
theorem fold_bits {done : List Nat} {n : Nat} : ∀ {es : List Edge} {m : Nat} {i : Nat}, ((es.foldl (fun m e => match Region.binds .any e, Nat.blt e.on n with
      | true, true => m ||| (1 <<< e.on) ||| (done.getD (n - 1 - e.on) 0)
      | _, _ => m) m).testBit i = true) → m.testBit i = true ∨ ∃ e ∈ es, Region.binds .any e = true ∧ e.on < n ∧ (i = e.on ∨ (done.getD (n - 1 - e.on) 0).testBit i = true)
  | [], m, i, h => .inl h
  | e :: es, m, i, h => by
    rw [List.foldl_cons] at h
    rcases fold_bits h with h | ⟨e', he', h1, h2, h3⟩
    · split at h
      · rename_i hb hl
        simp only [Nat.testBit_or, Bool.or_eq_true] at h
        have hl' : e.on < n := by simpa [Nat.blt_eq] using hl
        rcases h with (h | h) | h
        · exact .inl h
        · refine .inr ⟨e, List.mem_cons_self, hb, hl', .inl ?_⟩
          simp only [Nat.testBit_shiftLeft, Bool.and_eq_true, decide_eq_true_eq] at h
          obtain ⟨h1, h2⟩ := h
          rcases Nat.eq_zero_or_pos (i - e.on) with hz | hz
          · omega
          · rw [Nat.testBit_one_eq_true_iff_self_eq_zero] at h2; omega
        · exact .inr ⟨e, List.mem_cons_self, hb, hl', .inr h⟩
      · exact .inl h
    · exact .inr ⟨e', List.mem_cons_of_mem _ he', h1, h2, h3⟩
theorem predsGo_at : ∀ {l : List Oper} {done : List Nat}, ∃ rest, predsGo l done = done.reverse ++ rest ∧ rest.length = l.length ∧
    ∀ k o, l[k]? = some o → ∀ i, (((done.reverse ++ rest).getD (done.length + k) 0).testBit i = true) → ∃ e ∈ o.after.toList, Region.binds .any e = true ∧ e.on < done.length + k ∧ (i = e.on ∨ ((done.reverse ++ rest).getD e.on 0).testBit i = true)
  | [], done => ⟨[], by simp [predsGo], rfl, fun k o h => by simp at h⟩
  | x :: r, done => by
    simp only [predsGo]
    generalize hm : x.after.toList.foldl (fun m e => match Region.binds .any e, Nat.blt e.on done.length with
      | true, true => m ||| (1 <<< e.on) ||| (done.getD (done.length - 1 - e.on) 0)
      | _, _ => m) 0 = m
    obtain ⟨rest, h1, h2, h3⟩ := predsGo_at (l := r) (done := m :: done)
    have hl : (m :: done).reverse ++ rest = done.reverse ++ m :: rest := by simp
    rw [hl] at h1 h3
    refine ⟨m :: rest, h1, by simp [h2], fun k o hk i hi => ?_⟩
    cases k with
    | zero =>
      obtain rfl : x = o := by simpa using hk
      have : (done.reverse ++ m :: rest).getD (done.length + 0) 0 = m := by simp [List.getD_eq_getElem?_getD]
      rw [this, ← hm] at hi
      rcases fold_bits hi with hi | ⟨e, he, b1, b2, b3⟩
      · simp at hi
      · refine ⟨e, he, b1, by omega, b3.imp_right fun h => ?_⟩
        have : (done.reverse ++ m :: rest).getD e.on 0 = done.getD (done.length - 1 - e.on) 0 := by
          simp only [List.getD_eq_getElem?_getD]
          rw [List.getElem?_append_left (by simpa using b2), List.getElem?_reverse b2]
        rw [this]; exact h
    | succ k =>
      have e1 : (m :: done).length + k = done.length + (k + 1) := by simp; omega
      have := h3 k o (by simpa using hk) i (by rw [e1]; exact hi)
      rw [e1] at this
      exact this
theorem apartAll_at {x : Tr} {i : Nat} : ∀ {r : List Tr} {ps : List Nat}, apartAll x i r ps = true → ∀ (k : Nat) (y : Tr), r[k]? = some y → ∃ p : Nat, ps[k]? = some p ∧ (p.testBit i = true ∨ apart x y = true)
  | [], _, _, k, y, h => by simp at h
  | z :: r, [], h, _, _, _ => by simp [apartAll] at h
  | z :: r, p :: ps, h, 0, y, hy => by
    obtain rfl : z = y := by simpa using hy
    simp only [apartAll, Bool.and_eq_true, Bool.or_eq_true] at h
    exact ⟨p, by simp, h.1⟩
  | z :: r, p :: ps, h, k + 1, y, hy => by
    simp only [apartAll, Bool.and_eq_true] at h
    obtain ⟨q, h1, h2⟩ := apartAll_at h.2 k y (by simpa using hy)
    exact ⟨q, by simpa using h1, h2⟩
theorem drawOkGo_at : ∀ {trs : List Tr} {ps : List Nat} {n : Nat}, drawOkGo n trs ps = true → ∀ (a b : Nat) (x y : Tr), a < b → trs[a]? = some x → trs[b]? = some y → ∃ p : Nat, ps[b]? = some p ∧ (p.testBit (n + a) = true ∨ apart x y = true)
  | [], _, _, _, a, b, x, y, _, h, _ => by simp at h
  | z :: r, [], _, h, _, _, _, _, _, _, _ => by simp [drawOkGo] at h
  | z :: r, p :: ps, n, h, 0, b, x, y, hab, hx, hy => by
    obtain rfl : z = x := by simpa using hx
    simp only [drawOkGo, Bool.and_eq_true] at h
    obtain ⟨b, rfl⟩ : ∃ c, b = c + 1 := ⟨b - 1, by omega⟩
    obtain ⟨q, h1, h2⟩ := apartAll_at h.1 b y (by simpa using hy)
    exact ⟨q, by simpa using h1, by simpa using h2⟩
  | z :: r, p :: ps, n, h, a + 1, b, x, y, hab, hx, hy => by
    simp only [drawOkGo, Bool.and_eq_true] at h
    obtain ⟨b, rfl⟩ : ∃ c, b = c + 1 := ⟨b - 1, by omega⟩
    obtain ⟨q, h1, h2⟩ := drawOkGo_at h.2 a b x y (by omega) (by simpa using hx) (by simpa using hy)
    exact ⟨q, by simpa using h1, by rw [show n + (a + 1) = n + 1 + a by omega]; exact h2⟩
def Closed (ops : Array Oper) (f : Nat → Bool) : Prop := ∀ j o, f j = true → ops[j]? = some o → ∀ e ∈ o.after.toList, Region.binds .any e = true → f e.on = true
theorem closed_pred {f : Nat → Bool} (hc : Closed ops f) : ∀ (j : Nat) (o : Oper), ops[j]? = some o → (∀ e ∈ o.after.toList, Region.binds .any e = true → f e.on = true) → ∀ i, ((predsGo ops.toList []).getD j 0).testBit i = true → f i = true := by
  obtain ⟨rest, h1, h2, h3⟩ := predsGo_at (l := ops.toList) (done := [])
  simp only [List.reverse_nil, List.nil_append, List.length_nil, Nat.zero_add] at h1 h3
  rw [h1]
  intro j
  induction j using Nat.strongRecOn with
  | _ j ih =>
    intro o ho hall i hi
    obtain ⟨e, he, hb, hlt, hor⟩ := h3 j o (by simpa using ho) i hi
    have hfe := hall e he hb
    rcases hor with rfl | hor
    · exact hfe
    · have hlo : e.on < ops.size := Nat.lt_trans hlt (Array.getElem?_eq_some_iff.1 ho).1
      have hoe : ops[e.on]? = some ops[e.on] := Array.getElem?_eq_getElem hlo
      exact ih e.on hlt ops[e.on] hoe (fun e' he' hb' => hc e.on _ hfe hoe e' he' hb') i hor
end
end Go.Pev
/- The pure evaluator, part R: regions, code, loops, functions. Own text, over any program. -/
namespace Go.Pev
section
variable {P : Program} {T : Tabs} {M0 : Base} {β : Nat → Value} {N : Nat} {w0 : World} {ops : Array Oper}
theorem count_set : ∀ {l : List Bool} {i : Nat}, l[i]? = some false → (l.set i true).count false + 1 = l.count false
  | [], _, h => by simp at h
  | b :: l, 0, h => by
    obtain rfl : b = false := by simpa using h
    simp
  | b :: l, i + 1, h => by
    have := count_set (l := l) (i := i) (by simpa using h)
    simp only [List.set_cons_succ, List.count_cons]
    omega
theorem any_ok (hf : Fit P T) (hsp : SpecsOk P T) {E E' : Env} {trs : List Tr} (hr : Runs P T ops ops.toList E trs E') (hdraw : drawOk ops.toList trs = true) (hback : backGo 0 ops.toList = true) {Q : Exit → Act → World → Prop} {N : Nat} (hdst : ∀ o ∈ ops.toList, ∀ d, o.dst = some d → d < N)
    (hQ : ∀ a w, a.tmps.size = N → RelEnv T M0 w0 E' a w → Q .normal a w) : ∀ (fuel : Nat) (listed : Array Bool) (a : Act) (w : World), listed.size = ops.size → listed.toList.count false ≤ fuel → Closed ops (fun j => listed.getD j false) → a.tmps.size = N →
      RelE T M0 w0 (mixS (get E.sl) (fun j => listed.getD j false) trs) (mixR (getR E.rs) (fun j => listed.getD j false) trs) a w → wpAny P .any ops Q fuel listed a w := by
  obtain ⟨hlen, hE1, hE2, hat⟩ := runs_at hr
  have hlen' : trs.length = ops.size := by rw [← hlen]; simp
  have hall : ∀ listed : Array Bool, listed.size = ops.size → Closed ops (fun j => listed.getD j false) → Region.ready .any ops listed = [] → ∀ j, j < ops.size → listed.getD j false = true := by
    intro listed hsz hc hrd j
    induction j using Nat.strongRecOn with
    | _ j ih =>
      intro hj
      cases hlj : listed.getD j false with
      | true => rfl
      | false =>
        have hmem : j ∈ Region.ready .any ops listed := by
          unfold Region.ready
          refine List.mem_filter.2 ⟨List.mem_range.2 hj, ?_⟩
          have hoj : ops[j]? = some ops[j] := Array.getElem?_eq_getElem hj
          have h1 : listed.getD j true = false := by
            have hj' : j < listed.size := by omega
            simp only [Array.getD_eq_getD_getElem?, Array.getElem?_eq_getElem hj', Option.getD_some] at hlj ⊢
            exact hlj
          simp only [h1, hoj, Option.map_some, Option.getD_some, Bool.not_false, Bool.true_and]
          rw [Array.all_eq_true_iff_forall_mem]
          intro e he
          cases hb : Region.binds .any e with
          | false => rfl
          | true =>
            have hlt := backGo_at hback j ops[j] (by simp) e (by simpa using he) hb
            simp only [Nat.zero_add] at hlt
            have := ih e.on hlt (by omega)
            simp [this]
        rw [hrd] at hmem
        simp at hmem
  have hend : ∀ (listed : Array Bool) (a : Act) (w : World), listed.size = ops.size → Closed ops (fun j => listed.getD j false) → a.tmps.size = N →
      RelE T M0 w0 (mixS (get E.sl) (fun j => listed.getD j false) trs) (mixR (getR E.rs) (fun j => listed.getD j false) trs) a w → Region.ready .any ops listed = [] → Q .normal a w := by
    intro listed a w hsz hc hN h hrd
    have hl := hall listed hsz hc hrd
    have hlt : ∀ {j : Nat} {x : Tr}, trs[j]? = some x → j < ops.size := fun {j x} hx => by rw [← hlen']; exact (List.getElem?_eq_some_iff.1 hx).1
    have e1 : mixS (get E.sl) (fun j => listed.getD j false) trs = get E'.sl := by
      rw [hE1]; funext t
      exact mixS_congr rfl fun j x hx _ => hl j (hlt hx)
    have e2 : mixR (getR E.rs) (fun j => listed.getD j false) trs = getR E'.rs := by
      rw [hE2]; funext t
      exact mixR_congr rfl fun j x hx _ => hl j (hlt hx)
    rw [e1, e2] at h
    exact hQ a w hN h
  intro fuel
  induction fuel with
  | zero =>
    intro listed a w hsz hcount hc hN h
    have hrd : Region.ready .any ops listed = [] := by
      have h0 : false ∉ listed.toList := List.count_eq_zero.1 (by omega)
      unfold Region.ready
      rw [List.filter_eq_nil_iff]
      intro j hj
      have hj' : j < listed.size := by have := List.mem_range.1 hj; omega
      have : listed[j] = true := by
        cases hlj : listed[j] with
        | true => rfl
        | false => exact absurd (by rw [← hlj]; simp) h0
      simp [Array.getD_eq_getD_getElem?, Array.getElem?_eq_getElem hj', this]
    exact ⟨hrd, hend listed a w hsz hc hN h hrd⟩
  | succ fuel ih =>
    intro listed a w hsz hcount hc hN h
    refine ⟨hend listed a w hsz hc hN h, fun i hi => ?_⟩
    unfold Region.ready at hi
    obtain ⟨hir, hi⟩ := List.mem_filter.1 hi
    have hilt := List.mem_range.1 hir
    have hoi : ops[i]? = some ops[i] := Array.getElem?_eq_getElem hilt
    have hil : i < listed.size := by omega
    simp only [Array.getD_eq_getD_getElem?, Array.getElem?_eq_getElem hil, Option.getD_some, hoi, Option.map_some, Bool.and_eq_true, Bool.not_eq_true'] at hi
    obtain ⟨hi1, hi2⟩ := hi
    rw [Array.all_eq_true_iff_forall_mem] at hi2
    have hpre : ∀ e ∈ ops[i].after.toList, Region.binds .any e = true → listed.getD e.on false = true := fun e he hb => by
      have := hi2 e (by simpa using he)
      rw [hb] at this
      simpa [Array.getD_eq_getD_getElem?] using this
    have hfi : listed.getD i false = false := by simp [Array.getD_eq_getD_getElem?, Array.getElem?_eq_getElem hil, hi1]
    obtain ⟨tr, htr⟩ : ∃ tr, trs[i]? = some tr := ⟨trs[i], List.getElem?_eq_getElem (by omega)⟩
    obtain ⟨hdid, hdsteq, hnew⟩ := hat i ops[i] tr (by simp) htr
    have hfar : ∀ j x, trs[j]? = some x → j ≠ i → listed.getD j false ≠ decide (j < i) → Far x tr := by
      intro j x hx hji hne
      have hjlt : j < ops.size := by rw [← hlen']; exact (List.getElem?_eq_some_iff.1 hx).1
      rcases Nat.lt_or_gt_of_ne hji with hlt | hgt
      · obtain ⟨p, hp, hor⟩ := drawOkGo_at hdraw j i x tr hlt hx htr
        simp only [Nat.zero_add] at hor
        rcases hor with hb | hap
        · have := closed_pred hc i ops[i] hoi hpre j (by rw [List.getD_eq_getElem?_getD, hp]; exact hb)
          exact absurd this (by rw [decide_eq_true hlt] at hne; exact hne)
        · exact apart_far hap
      · obtain ⟨p, hp, hor⟩ := drawOkGo_at hdraw i j tr x hgt htr hx
        simp only [Nat.zero_add] at hor
        have hlj : listed.getD j false = true := by
          have h0 : decide (j < i) = false := by simp; omega
          rw [h0] at hne
          simpa using hne
        rcases hor with hb | hap
        · have hoj : ops[j]? = some ops[j] := Array.getElem?_eq_getElem hjlt
          have := closed_pred hc j ops[j] hoj (fun e he hbi => hc j _ hlj hoj e he hbi) i (by rw [List.getD_eq_getElem?_getD, hp]; exact hb)
          simp only [hfi] at this; cases this
        · exact (apart_far hap).symm
    have hdid2 := hdid.near (mix_reads_S (f := fun j => listed.getD j false) htr hfi hfar) (mix_reads_R (f := fun j => listed.getD j false) htr hfi hfar)
    refine did_ok hf hsp hoi h (fun d hd => by rw [hN]; exact hdst ops[i] (by simp) d hd) hdid2 (fun d st hn => ⟨mix_fresh (f := fun j => listed.getD j false) htr hfi hfar hn (hnew d st hn), (hnew d st hn).new⟩) fun a' w' hsz' h' => ?_
    have hset : (fun j => (listed.setIfInBounds i true).getD j false) = fun j => listed.getD j false || decide (j = i) := by
      funext j
      by_cases hj : j = i
      · subst hj; simp [Array.getD_eq_getD_getElem?, hil]
      · simp [Array.getD_eq_getD_getElem?, Array.getElem?_setIfInBounds_ne (Ne.symm hj), hj]
    rw [mix_next_S (f := fun j => listed.getD j false) htr hfi hfar, mix_next_R (f := fun j => listed.getD j false) htr hfi hfar] at h'
    refine ih _ a' w' (by simpa using hsz) ?_ ?_ (hsz'.trans hN) (by rw [hset]; exact h')
    · have := count_set (l := listed.toList) (i := i) (by simp [hil, hi1])
      simp only [Array.toList_setIfInBounds]
      omega
    · rw [hset]
      intro j o hj ho e he hb
      simp only [Bool.or_eq_true, decide_eq_true_eq] at hj ⊢
      rcases hj with hj | rfl
      · exact .inl (hc j o hj ho e he hb)
      · rw [hoi] at ho
        obtain rfl := Option.some.inj ho
        exact .inl (hpre e he hb)
def opsOk (N : Nat) (l : List Oper) : Bool := l.all (fun o => match o.dst with | some d => Nat.blt d N | none => true) && backGo 0 l
def codeOk (N : Nat) : Code → Bool
  | .region _ ops _ => opsOk N ops.toList
  | .seq a b => codeOk N a && codeOk N b
  | .cond _ x y => codeOk N x && codeOk N y
  | .block _ c => codeOk N c
  | .loop c => codeOk N c
  | _ => true
theorem opsOk_dst {N : Nat} {l : List Oper} (h : opsOk N l = true) : ∀ o ∈ l, ∀ d, o.dst = some d → d < N := by
  intro o ho d hd
  simp only [opsOk, Bool.and_eq_true, List.all_eq_true] at h
  have := h.1 o ho
  rw [hd] at this
  simpa [Nat.blt_eq] using this
theorem splitLast_ok : ∀ {l pre : List Oper} {o : Oper}, splitLast l = some (pre, o) → l = pre ++ [o]
  | [], _, _, h => by cases h
  | [q], pre, o, h => by
    simp only [splitLast, Option.some.injEq, Prod.mk.injEq] at h
    obtain ⟨rfl, rfl⟩ := h
    rfl
  | q :: p :: r, pre, o, h => by
    simp only [splitLast] at h
    split at h <;> try (cases h; done)
    rename_i l q' hl
    simp only [Option.some.injEq, Prod.mk.injEq] at h
    obtain ⟨rfl, rfl⟩ := h
    rw [splitLast_ok hl]; rfl
theorem run_eq_slice {t e : TypeId} (hu : P.underlying t = some (.slice e)) (w : World) (op : BinOp) (A : Option Addr) (n c : Nat) (b : Bool) (hb : (op = .eql ∧ b = A.isNone) ∨ (op = .neq ∧ b = !A.isNone)) : (binOp op t (.slice A n c) (.slice none 0 0)).run P w = .ok (.bool b) w := by
  obtain ⟨md, hmd⟩ := maxDepth_two
  have h : (Op.equalIn (md + 2) t (.slice A n c) (.slice none 0 0)).run P w = .ok A.isNone w := by
    cases A <;> simp only [Op.equalIn, Sem.run_bind, run_underlying hu, Result.andThen_ok, Sem.run_pure, Option.isNone]
  rcases hb with ⟨rfl, rfl⟩ | ⟨rfl, rfl⟩ <;> simp only [binOp, Op.equal, hmd, Sem.run_bind, h, Result.andThen_ok, Sem.run_pure]
theorem nilLast_ok {E : Env} {a : Act} {w : World} {o : Oper} {d : Nat} {bs : List Bool} (h : nilLast P o E = some (d, bs)) (hr : RelEnv T M0 w0 E a w) : o.guard = none ∧ o.dst = some d ∧ ∃ b ∈ bs, (execOp a.eval o).run P w = .ok (.value (.bool b)) w := by
  obtain ⟨ρ, F, β, N, hr⟩ := hr
  unfold nilLast at h
  split at h <;> try (cases h; done)
  rename_i d' op t x y ty hg hd hop
  split at h <;> try (cases h; done)
  rename_i e em hy he hx
  obtain ⟨av, hx, hem⟩ := Option.bind_eq_some_iff.1 hx
  obtain ⟨v, e1, e2⟩ := hr.slots x _ hx
  obtain ⟨A, n, c, rfl, hA⟩ : ∃ A n c, v = .slice A n c ∧ (em = false → A.isNone = false) := by
    unfold nilEmp at hem
    split at hem
    · rename_i s l
      obtain rfl := Option.some.inj hem
      obtain ⟨A, c, rfl, hlc, hrow⟩ : ∃ A c, v = .slice A l.length c ∧ l.length ≤ c ∧ RowR _ _ w s A l := e2
      refine ⟨A, _, c, rfl, fun hl => ?_⟩
      rcases hrow with rfl | ⟨ad, css, rfl, _⟩
      · cases hl
      · rfl
    · rename_i id
      split at hem <;> try (cases hem; done)
      rename_i e' s l hid
      obtain rfl := Option.some.inj hem
      have hv : v = ρ id := e2
      obtain ⟨css, hown, _, hel⟩ := hr.res id _ hid
      subst hv
      obtain ⟨A, c, hA, _⟩ := own_slice hown
      refine ⟨A, _, c, hA, fun hl => ?_⟩
      obtain ⟨b, off, c', he', _⟩ := row_at hown hel (i := 0) (by
        cases l with
        | nil => cases hl
        | cons y l => simp)
      rw [he'] at hA
      cases hA; rfl
    · cases hem
  have hev : a.eval (.tmp x) = .slice A n c := by simp [Act.eval, Array.getD_eq_getD_getElem?, e1]
  have hey : a.eval y = .slice none 0 0 := by
    unfold isNilS at hy
    split at hy
    · rfl
    · cases hy
  have hu : P.underlying t = some (.slice e) := by
    unfold elemOf' at he
    split at he
    · rename_i hh; rw [hh]; congr 2; exact Option.some.inj he
    · cases he
  refine ⟨hg, ?_⟩
  have key : ∀ b, ((op = .eql ∧ b = A.isNone) ∨ (op = .neq ∧ b = !A.isNone)) → (execOp a.eval o).run P w = .ok (.value (.bool b)) w := fun b hb => by
    have hg := guard_skip (P := P) (w := w) (op := op) (t := t) (cx := .tmp x) (cy := y) (u := .slice A n c) (v := .slice none 0 0) ⟨fun xs ys e _ => (by cases e), fun e _ => by cases e⟩
    simp only [execOp, hop, hev, hey, Sem.run_bind, hg, Result.andThen_ok, run_eq_slice hu w op A n c b hb]
    rfl
  split at h <;> try (cases h; done)
  · obtain ⟨rfl, rfl⟩ := Prod.mk.inj (Option.some.inj h)
    refine ⟨hd, A.isNone, ?_, key _ (.inl ⟨rfl, rfl⟩)⟩
    cases hl : em with
    | true => cases A.isNone <;> simp
    | false => rw [hA hl]; simp
  · obtain ⟨rfl, rfl⟩ := Prod.mk.inj (Option.some.inj h)
    refine ⟨hd, !A.isNone, ?_, key _ (.inr ⟨rfl, rfl⟩)⟩
    cases hl : em with
    | true => cases A.isNone <;> simp
    | false => rw [hA hl]; simp
theorem nil_ok (hf : Fit P T) (hsp : SpecsOk P T) {id : Nat} {draw : Bool} {E : Env} {k : Exit → Env → R} {res : AV} {N : Nat} (hok : opsOk N ops.toList = true) (h : nilRegion P T ops draw E k = some res) {a : Act} {w : World} (hN : a.tmps.size = N) (hr : RelEnv T M0 w0 E a w) :
    (Code.region id ops draw).wp P (fun x a' w' => ∃ E', k x E' = some res ∧ RelEnv T M0 w0 E' a' w' ∧ a'.tmps.size = N) a w := by
  unfold nilRegion at h
  split at h <;> try (cases h; done)
  rename_i pre o hsplit
  have hl := splitLast_ok hsplit
  obtain ⟨trs, E', h1, h2⟩ := evalOps_runs h
  have hd := opsOk_dst hok
  split at h2 <;> try (cases h2; done)
  rename_i d bs hlast
  refine wp_region ?_
  have hsz : ops.size = pre.length + 1 := by rw [← Array.length_toList, hl]; simp
  rw [List.range_eq_range', hsz, List.range'_concat, Nat.one_mul, Nat.zero_add]
  refine runs_tail hf hsp (fun j hj => ?_) (fun o' ho d' hd' => by rw [hN]; exact hd o' (by rw [hl]; exact List.mem_append_left _ ho) d' hd') h1 hr fun a' w' hsz' hr' => ?_
  · rw [← Array.getElem?_toList, hl, Nat.zero_add, List.getElem?_append_left hj]
  · obtain ⟨hg, hdst, b, hb, hrun⟩ := nilLast_ok hlast hr'
    have ho : ops[pre.length]? = some o := by rw [← Array.getElem?_toList, hl]; simp
    rw [wpOps_cons]
    unfold wpOp
    simp only [ho]
    rw [if_pos (by simp [Region.wanted, hg])]
    have hput : ∀ v, (a'.put o.dst v).tmps.size = a'.tmps.size := fun v => by cases o.dst <;> simp [Act.put]
    have hdN : d < a'.tmps.size := by rw [hsz', hN]; exact hd o (by rw [hl]; simp) d hdst
    have goal : OpRuns P a' o w' fun v w2 => RelEnv T M0 w0 ⟨(d, .bool b) :: E'.sl, E'.rs⟩ (a'.put o.dst v) w2 := by
      obtain ⟨ρ, F, β, N', hr'⟩ := hr'
      refine .inl ⟨.bool b, w', hrun, ρ, F, β, N', ?_⟩
      have := hr'.put o.dst (fun d' hd' => by rw [hdst] at hd'; rw [← Option.some.inj hd']; exact hdN) (.bool b) (.bool b) rfl
      rw [hdst] at this ⊢
      have e : get ((d, AV.bool b) :: E'.sl) = updS (get E'.sl) (some d) (.bool b) := by
        funext i
        simp only [get_cons, updS, Option.some.injEq]
      simp only [e]
      exact this
    refine .inl (goal.wp fun v w2 hr2 => ?_)
    simp only [wpOps]
    exact ⟨_, (relR_some h2).2 b hb, hr2, by rw [hput, hsz', hN]⟩
theorem region_ok (hf : Fit P T) (hsp : SpecsOk P T) (hm : P.follows .mixedOrders = true) {A : Anns} {id : Nat} {draw : Bool} {E : Env} {k : Exit → Env → R} {res : AV} {N : Nat} (hok : opsOk N ops.toList = true) (h : evalC P T A (.region id ops draw) E k = some res) {a : Act} {w : World} (hN : a.tmps.size = N) (hr : RelEnv T M0 w0 E a w) :
    (Code.region id ops draw).wp P (fun x a' w' => ∃ E', k x E' = some res ∧ RelEnv T M0 w0 E' a' w' ∧ a'.tmps.size = N) a w := by
  simp only [evalC] at h
  split at h
  · exact nil_ok hf hsp hok h hN hr
  obtain ⟨trs, E', h1, h2⟩ := evalOps_runs h
  have hd := opsOk_dst hok
  cases draw with
  | false =>
    refine wp_region ?_
    have := runs_ok (P := P) (T := T) (M0 := M0) (w0 := w0) hf hsp (ops := ops) (n := 0) (l := ops.toList) (Q := fun x a' w' => ∃ E', k x E' = some res ∧ RelEnv T M0 w0 E' a' w' ∧ a'.tmps.size = N) (by simp) (fun o ho d hd' => by rw [hN]; exact hd o ho d hd') h1 hr (fun a' w' hsz hr' => ⟨E', h2, hr', hsz.trans hN⟩)
    rw [List.range_eq_range']
    simpa using this
  | true =>
    simp only [List.append_nil, List.reverse_reverse] at h2
    split at h2 <;> try (cases h2; done)
    rename_i hdraw
    simp only [opsOk, Bool.and_eq_true] at hok
    refine wp_region_any hm ?_
    obtain ⟨ρ, F, β, n0, hrel⟩ := hr
    have h0 : (fun j => (Array.replicate ops.size false).getD j false) = fun _ => false := by
      funext j
      simp only [Array.getD_eq_getD_getElem?, Array.getElem?_replicate]
      split <;> rfl
    refine any_ok (N := N) hf hsp h1 hdraw hok.2 hd (fun a' w' hsz hr' => ⟨E', h2, hr', hsz⟩) ops.size _ a _ (by simp) ?_ ?_ hN ?_
    · simp only [Array.toList_replicate]
      exact Nat.le_trans (List.count_le_length) (by simp)
    · rw [h0]; intro j o hj; cases hj
    · rw [h0, mixS_none, mixR_none]
      exact ⟨ρ, F, β, n0, hrel.world (KeepS.drew w)⟩
end
end Go.Pev
/- The pure evaluator, part Ra: what is kept at a loop's head. Own text, over any program. -/
namespace Go.Pev
section
variable {P : Program} {T : Tabs} {C : Cfg} {M0 : Base} {β : Nat → Value} {N : Nat} {w0 : World} {sl sl' : Nat → Option AV} {rs rs' : Nat → Option RS} {ρ : Nat → Value} {F : Nat → Nat → Prop} {a : Act} {w : World}
theorem cutR_not {ids : List Nat} {st : RS} (h : notReg st) : cutR ids st = st := by cases st <;> first | rfl | exact h.elim
theorem itKeep_sub (ids : List Nat) : ∀ its : List (Nat × It), (itKeep ids its).Sublist its
  | [] => .slnil
  | (_, .mark ..) :: r => (itKeep_sub ids r).cons _
  | (i, .it ..) :: r => by
    simp only [itKeep]
    split
    · exact (itKeep_sub ids r).cons_cons _
    · exact (itKeep_sub ids r).cons _
theorem itEnd_map {ρ : Nat → Value} : ∀ its : List (Nat × It), (itEnd its).map (fun p => (p.1, itBlk ρ p)) = its.map fun p => (p.1, itBlk ρ p)
  | [] => rfl
  | (_, .it ..) :: r => by simp only [itEnd, List.map_cons, itEnd_map r]; rfl
  | (_, .mark ..) :: r => by simp only [itEnd, List.map_cons, itEnd_map r]
theorem itEnd_mem : ∀ {its : List (Nat × It)} {p : Nat × It}, p ∈ itEnd its → p ∈ its ∨ ∃ i n ka va k v left cur pend, p = (i, .it n ka va k v left none pend) ∧ (i, It.it n ka va k v left cur pend) ∈ its
  | [], _, h => by cases h
  | (i, .it n ka va k v left cur pend) :: r, p, h => by
    simp only [itEnd] at h
    rcases List.mem_cons.1 h with rfl | h
    · exact .inr ⟨i, n, ka, va, k, v, left, cur, pend, rfl, List.mem_cons_self⟩
    · rcases itEnd_mem h with h | ⟨i', n', ka', va', k', v', l', c', p', h1, h2⟩
      · exact .inl (List.mem_cons_of_mem _ h)
      · exact .inr ⟨i', n', ka', va', k', v', l', c', p', h1, List.mem_cons_of_mem _ h2⟩
  | (i, .mark a b c d e f) :: r, p, h => by
    simp only [itEnd] at h
    rcases List.mem_cons.1 h with rfl | h
    · exact .inl List.mem_cons_self
    · rcases itEnd_mem h with h | ⟨i', n', ka', va', k', v', l', c', p', h1, h2⟩
      · exact .inl (List.mem_cons_of_mem _ h)
      · exact .inr ⟨i', n', ka', va', k', v', l', c', p', h1, List.mem_cons_of_mem _ h2⟩
theorem ItR.ends {M : Nat → Prop} {G : Nat → Nat → Prop} {i : Nat} {n : Option Nat} {ka va : Bool} {k v : Sh} {left : List (k.T × v.T)} {cur : Option (k.T × v.T)} {p : Option (Option (k.T × v.T))} (h : ItR C ρ M w G i (.it n ka va k v left cur p)) : ItR C ρ M w G i (.it n ka va k v left none p) := by
  obtain ⟨h0, r, since, last, seen, g1, g2⟩ := h
  refine ⟨h0, r, since, last, seen, g1, ?_⟩
  cases n with
  | none => exact ⟨g2.1, g2.2.1, rfl⟩
  | some m =>
    obtain ⟨bm, es, clock, p1, p2, p3, p4, p5, p6, p7, p8, p9, pa, pb, _⟩ := g2
    exact ⟨bm, es, clock, p1, p2, p3, p4, p5, p6, p7, p8, p9, pa, pb, fun p hp => by cases hp⟩
theorem reg_id (h : Rel C M0 w0 sl rs ρ F a w) {id : Nat} {st : RS} (hst : rs id = some st) (hne : id ≠ REG) : notReg st := by
  cases st <;> first | trivial | skip
  exact absurd (h.res id _ hst).1 hne
theorem Rel.keepRes (h : Rel C M0 w0 sl rs ρ F a w) {ids : List Nat} (hs : ∀ t av, sl' t = some av → sl t = some av) (hr : ∀ id st, rs' id = some st → ∃ st0, rs id = some st0 ∧ st = cutR ids st0) : ∃ F', Rel C M0 w0 sl' rs' ρ F' a w := by
  by_cases hR : ∃ lk its H, rs REG = some (.reg lk its H)
  · obtain ⟨lk, its, H, hR⟩ := hR
    obtain ⟨_, G, hG⟩ := h.res REG _ hR
    let F' : Nat → Nat → Prop := fun i => if i = REG then (fun k => (∃ n, G n k) ∨ ∃ p ∈ itEnd (itKeep ids its), itBlk ρ p = some k) else F i
    have hFR : F' REG = fun k => (∃ n, G n k) ∨ ∃ p ∈ itEnd (itKeep ids its), itBlk ρ p = some k := if_pos rfl
    have hFo : ∀ i, i ≠ REG → F' i = F i := fun i hi => if_neg hi
    have hsubK : ∀ p ∈ itKeep ids its, p ∈ its := fun p hp => (itKeep_sub ids its).subset hp
    have hsubI : ∀ p ∈ itEnd (itKeep ids its), ∃ q ∈ its, q.1 = p.1 ∧ itBlk ρ q = itBlk ρ p := fun p hp => by
      have : (p.1, itBlk ρ p) ∈ (itEnd (itKeep ids its)).map (fun p => (p.1, itBlk ρ p)) := List.mem_map_of_mem hp
      rw [itEnd_map] at this
      obtain ⟨q, h1, h2⟩ := List.mem_map.1 this
      obtain ⟨h3, h4⟩ := Prod.mk.inj h2
      exact ⟨q, hsubK q h1, h3, h4⟩
    have hFF : ∀ i k, F' i k → F i k := by
      intro i k hk
      by_cases hi : i = REG
      · subst hi
        rw [hFR] at hk
        exact (hG.fp k).2 (hk.imp_right fun ⟨p, hp, hb⟩ => let ⟨q, h1, _, h2⟩ := hsubI p hp; ⟨q, h1, h2.trans hb⟩)
      · rwa [hFo i hi] at hk
    have hM : ∀ k, Mof M0 rs' F' k → k < w.heap.size → Mof M0 rs F k := by
      rintro k (h0 | ⟨id, st, hst, hF⟩) _
      · exact .inl h0
      · obtain ⟨st0, h1, _⟩ := hr id st hst
        exact .inr ⟨id, st0, h1, hFF id k hF⟩
    refine ⟨F', { keep := h.keep, m0 := h.m0, wl := h.wl, lsz := h.lsz, res := fun id st hst => ?_, rng := fun id st k hst hF => ?_, disj := fun i j s t k hi hj hij hF hF2 => ?_, one := h.one, bone := h.bone, ext := h.ext, glob := h.glob, own7 := fun h' => ?_, lkz := fun lk' its' H' h' => ?_, slots := fun t av ht => ?_, defers := h.defers }⟩
    · obtain ⟨st0, h1, rfl⟩ := hr id st hst
      by_cases hi : id = REG
      · subst hi
        rw [hR] at h1
        obtain rfl := Option.some.inj h1
        have hst' := hG.step (KeepS.refl (fun _ => False) w) (fun _ g => g.elim) (fun _ _ g => g) hM (ρ' := ρ) fun _ _ => rfl
        refine ⟨rfl, G, hst'.len, hst'.node, hst'.lt, hst'.disj, fun k => by rw [hFR], fun p hp => ?_, ?_, hst'.lock, fun p hp k hb => let ⟨q, h1, _, h2⟩ := hsubI p hp; hst'.nolk q h1 k (h2.trans hb)⟩
        · rcases itEnd_mem hp with hp | ⟨i, n', ka, va, k', v, l', c', p', rfl, h2⟩
          · exact hst'.walks p (hsubK p hp)
          · exact (hst'.walks _ (hsubK _ h2)).ends
        · have h3 : ((itKeep ids its).map fun q => (q.1, itBlk ρ q)).Pairwise fun x y => x.1 ≠ y.1 ∧ ∀ k, x.2 = some k → y.2 ≠ some k := List.pairwise_map.2 (hst'.sep.sublist (itKeep_sub ids its))
          rw [← itEnd_map] at h3
          exact List.pairwise_map.1 h3
      · rw [cutR_not (reg_id h h1 hi), hFo id hi]
        exact (h.res id st0 h1).step (KeepS.refl (fun _ => False) _) (fun _ g => g.elim) (fun _ _ g => g) hM rfl fun _ _ => rfl
    · obtain ⟨st0, h1, rfl⟩ := hr id st hst
      have := h.rng id st0 k h1 (hFF id k hF)
      refine ⟨this.1.imp_right fun q => q.imp_left fun q => ⟨?_, q.2⟩, this.2⟩
      cases st0 <;> first | exact q.1 | trivial
    · obtain ⟨s0, h1, _⟩ := hr i s hi
      obtain ⟨t0, h2, _⟩ := hr j t hj
      exact h.disj i j s0 t0 k h1 h2 hij (hFF i k hF) (hFF j k hF2)
    · obtain ⟨st, hst⟩ := Option.isSome_iff_exists.1 h'
      obtain ⟨st0, h1, _⟩ := hr 7000 st hst
      exact h.own7 (by rw [h1]; rfl)
    · obtain ⟨st0, h1, h2⟩ := hr REG _ h'
      rw [hR] at h1
      obtain rfl := Option.some.inj h1
      cases h2
      exact h.lkz _ _ _ hR
    · obtain ⟨v, e1, e2⟩ := h.slots t av (hs t av ht)
      exact ⟨v, e1, e2.step (KeepS.refl _ _) hM fun _ _ => rfl⟩
  · refine ⟨F, h.sub hs fun id st hst => ?_⟩
    obtain ⟨st0, h1, rfl⟩ := hr id st hst
    have hn : notReg st0 := by
      by_cases hi : id = REG
      · subst hi
        cases st0 <;> first | trivial | skip
        exact absurd ⟨_, _, _, h1⟩ hR
      · exact reg_id h h1 hi
    rw [cutR_not hn]; exact h1
end
end Go.Pev
/- The pure evaluator, part Rb: a walk's first step; loops that walk over maps. Own text, over any program. -/
namespace Go.Pev
section
variable {P : Program} {T : Tabs} {C : Cfg} {M0 : Base} {β : Nat → Value} {N : Nat} {w0 : World} {sl sl' : Nat → Option AV} {rs rs' : Nat → Option RS} {ρ : Nat → Value} {F : Nat → Nat → Prop} {a : Act} {w : World} {ops : Array Oper}
def nextOut (id : Nat) (lk : List Nat) (its : List (Nat × It)) (H : List Node) (n : Option Nat) (ka va : Bool) (k v : Sh) (left : List (k.T × v.T)) : Option (k.T × v.T) → Out
  | some e => ⟨.tup [.bool true, toAV ka k e.1, toAV va v e.2], [(REG, some (.reg lk (itSet id (.it n ka va k v (delL k v e.1 left) (some e) none) its) H))]⟩
  | none => ⟨.tup [.bool false], [(REG, some (.reg lk (itSet id (.it n ka va k v left none none) its) H))]⟩
def MayNext {α : Type} (left : List α) : Option α → Prop
  | none => left = []
  | some e => e ∈ left
theorem itSet_sub {id : Nat} {y : It} : ∀ {its : List (Nat × It)} {p : Nat × It}, p ∈ itSet id y its → (p.1 = id ∧ p.2 = y) ∨ p ∈ its
  | [], _, h => by cases h
  | (i, x) :: r, p, h => by
    simp only [itSet] at h
    split at h
    · rename_i hb
      rcases List.mem_cons.1 h with rfl | h
      · exact .inl ⟨Nat.eq_of_beq_eq_true hb, rfl⟩
      · exact .inr (List.mem_cons_of_mem _ h)
    · rcases List.mem_cons.1 h with rfl | h
      · exact .inr List.mem_cons_self
      · exact (itSet_sub h).imp_right (List.mem_cons_of_mem _)
theorem Rel.regEnd (h : Rel C M0 w0 sl rs ρ F a w) {lk : List Nat} {its : List (Nat × It)} {H : List Node} (hr : rs REG = some (.reg lk its H)) {id : Nat} {n : Option Nat} {ka va : Bool} {k v : Sh} {left : List (k.T × v.T)} {cur : Option (k.T × v.T)}
    (hi0 : get its id = some (.it n ka va k v left cur none)) : Rel C M0 w0 sl (updR rs [(REG, some (.reg lk (itSet id (.it n ka va k v left none none) its) H))]) ρ F a w := by
  obtain ⟨_, G, hG⟩ := h.res REG _ hr
  have hmem := get_its hi0
  have hmap : (itSet id (.it n ka va k v left none none) its).map (fun q => (q.1, itBlk ρ q)) = its.map fun q => (q.1, itBlk ρ q) := itSet_map hi0 rfl
  have hblk : ∀ k0, (∃ p ∈ itSet id (.it n ka va k v left none none) its, itBlk ρ p = some k0) ↔ ∃ p ∈ its, itBlk ρ p = some k0 := by
    intro k0
    have e : ∀ l : List (Nat × It), (∃ p ∈ l, itBlk ρ p = some k0) ↔ ∃ q ∈ l.map (fun q => (q.1, itBlk ρ q)), q.2 = some k0 := fun l => by
      constructor
      · rintro ⟨p, hp, hb⟩; exact ⟨_, List.mem_map_of_mem hp, hb⟩
      · rintro ⟨q, hq, hb⟩; obtain ⟨p, hp, rfl⟩ := List.mem_map.1 hq; exact ⟨p, hp, hb⟩
    rw [e, e, hmap]
  refine h.upd (G := fun _ => False) (fun i => i = REG) (KeepS.refl _ _) (fun _ g => g.elim) (fun i hi => ⟨by rw [updR_single, if_neg (Ne.symm hi)], rfl⟩) (fun _ _ _ _ _ => rfl) (fun _ _ _ _ => ⟨rfl, fun _ _ => rfl⟩) (fun _ _ _ _ _ _ g => g) (fun i st hi hst => ?_) h.one (own7_single hr)
  subst hi
  rw [updR_single, if_pos rfl] at hst
  obtain rfl := Option.some.inj hst
  refine ⟨fun hs => ⟨rfl, G, ?_⟩, fun k0 hF => ?_⟩
  · have hG' := hG.step (KeepS.refl (fun _ => False) w) (fun _ g => g.elim) (fun _ _ g => g) hs (ρ' := ρ) fun _ _ => rfl
    refine ⟨hG'.len, hG'.node, hG'.lt, hG'.disj, fun k0 => (hG'.fp k0).trans (or_congr Iff.rfl (hblk k0).symm), fun q hq => ?_, ?_, hG'.lock, fun q hq k0 hb => ?_⟩
    · rcases itSet_sub hq with ⟨e1, e2⟩ | hq
      · obtain ⟨q1, q2⟩ := q
        simp only at e1 e2
        subst e1; subst e2
        obtain ⟨g0, r, since, last, seen, g1, g2⟩ := hG'.walks _ hmem
        refine ⟨rfl, r, since, last, seen, g1, ?_⟩
        cases n with
        | none => exact ⟨g2.1, g2.2.1, rfl⟩
        | some m =>
          obtain ⟨bm, es, clock, p1, p2, p3, p4, p5, p6, p7, p8, p9, pa, pb, _⟩ := g2
          exact ⟨bm, es, clock, p1, p2, p3, p4, p5, p6, p7, p8, p9, pa, pb, fun p hp => by cases hp⟩
      · exact hG'.walks q hq
    · have h3 : (its.map fun q => (q.1, itBlk ρ q)).Pairwise fun x y => x.1 ≠ y.1 ∧ ∀ k, x.2 = some k → y.2 ≠ some k := List.pairwise_map.2 hG'.sep
      rw [← hmap] at h3
      exact List.pairwise_map.1 h3
    · obtain ⟨p, hp, hb'⟩ := (hblk k0).1 ⟨q, hq, hb⟩
      exact hG'.nolk p hp k0 hb'
  · have := h.rng REG _ k0 hr hF
    refine ⟨this.1.imp _root_.id fun h => h.imp (fun h => ⟨trivial, h.2⟩) _root_.id, this.2, fun _ => .inr ⟨REG, _, hr, hF⟩, fun j t' hj ht => ?_⟩
    rw [updR_single, if_neg (Ne.symm hj)] at ht
    exact h.disj REG j _ t' k0 hr ht (Ne.symm hj) hF
theorem next_goal (h : RelE T M0 w0 sl rs a w) {o : Oper} {t id : Nat} (hop : o.op = .next (.tmp t) false) (ht : sl t = some (.itr id)) (hd : ∀ d, o.dst = some d → d < a.tmps.size) {lk : List Nat} {its : List (Nat × It)} {H : List Node} (hr : rs REG = some (.reg lk its H)) {n : Option Nat} {ka va : Bool} {k v : Sh} {left : List (k.T × v.T)} {cur : Option (k.T × v.T)}
    (hi0 : get its id = some (.it n ka va k v left cur none)) : ∃ p, MayNext left p ∧ Goal P T M0 w0 sl rs a w o (nextOut id lk its H n ka va k v left p) := by
  obtain ⟨ρ, F, β, N, h⟩ := h
  obtain ⟨u, e1, e2⟩ := h.slots t _ ht
  have e2 : u = ρ id := e2
  have hev : a.eval (.tmp t) = ρ id := by simp [Act.eval, Array.getD_eq_getD_getElem?, e1, e2]
  rcases h.regNext (P := P) hr hi0 o.type with ⟨hl, hrun⟩ | ⟨e, he, kv, vv, w', hrun, hrel, hv⟩
  · refine ⟨none, hl, .inl ⟨.tuple #[.bool false], w, ?_, ρ, F, β, N, (h.regEnd hr hi0).put o.dst hd _ _ ⟨[.bool false], rfl, .cons rfl .nil⟩⟩⟩
    simp only [execOp, hop, hev, Sem.run_bind, hrun]
    rfl
  · refine ⟨some e, he, .inl ⟨.tuple #[.bool true, kv, vv], w', ?_, ρ, F, β, N, hrel.put o.dst hd _ _ hv⟩⟩
    simp only [execOp, hop, hev, Sem.run_bind, hrun]
    rfl
theorem itSet_get {id : Nat} {y : It} : ∀ {its : List (Nat × It)} {x : It}, get its id = some x → get (itSet id y its) id = some y
  | [], _, h => by cases h
  | (i, z) :: r, x, h => by
    simp only [get] at h
    simp only [itSet]
    split at h
    · rename_i hb; simp only [get, hb]
    · rename_i hb; simp only [get, hb]; exact itSet_get h
theorem itSet_get_ne {id j : Nat} {y : It} (hne : j ≠ id) : ∀ {its : List (Nat × It)}, get (itSet id y its) j = get its j
  | [] => rfl
  | (i, z) :: r => by
    simp only [itSet]
    split
    · rename_i hb
      have hij : Nat.beq i j = false := by
        cases h : Nat.beq i j with
        | false => rfl
        | true => exact absurd ((Nat.eq_of_beq_eq_true h).symm.trans (Nat.eq_of_beq_eq_true hb)) hne
      simp only [get, hij]
    · simp only [get, itSet_get_ne hne]
theorem itSet_twice {id : Nat} {y z : It} : ∀ {its : List (Nat × It)}, itSet id z (itSet id y its) = itSet id z its
  | [] => rfl
  | (i, x) :: r => by
    simp only [itSet]
    cases h : Nat.beq i id with
    | true => simp only [itSet, h]
    | false => simp only [itSet, h, itSet_twice (its := r)]
theorem updR_over (st : RS) (rs : List (Nat × Option RS)) (q : Option RS) : updR (getR ((REG, some st) :: rs)) [(REG, q)] = updR (getR rs) [(REG, q)] := by
  funext i
  rw [updR_cons', updR_cons']
  split
  · rfl
  · rename_i hi
    show getR ((REG, some st) :: rs) i = getR rs i
    rw [getR_cons, if_neg hi]
theorem next_eval {E : Env} {o : Oper} {t : Nat} (hop : o.op = .next (.tmp t) false) (hg : o.guard = none) {id : Nat} {lk : List Nat} {its : List (Nat × It)} {H : List Node} {n : Option Nat} {ka va : Bool} {k v : Sh} {left : List (k.T × v.T)} {cur : Option (k.T × v.T)}
    (hr : getR E.rs REG = some (.reg lk its H)) (hi0 : get its id = some (.it n ka va k v left cur none)) (hnp : ∀ j m a b c d l cc p, get its j = some (.it m a b c d l cc (some p)) → False) {p : Option (k.T × v.T)} {K : Env → Tr → R} {res : AV} (h : evalOp P T ops o (pendE E id lk its H n ka va k v left cur p) K = some res) :
    get E.sl t = some (.itr id) ∧ ∃ E1 tr, K E1 tr = some res ∧ get E1.sl = updS (get E.sl) o.dst (nextOut id lk its H n ka va k v left p).v ∧ getR E1.rs = updR (getR E.rs) (nextOut id lk its H n ka va k v left p).ws := by
  unfold evalOp at h
  rw [hg] at h
  simp only at h
  unfold evalOp.go at h
  obtain ⟨out, s1, r1, h1, h2⟩ := run_ev _ _ _ _ _ _ h
  simp only [step, hop] at h1
  obtain ⟨xv, s2, r2, h3, h4⟩ := ev_bind _ _ _ _ _ h1
  simp only [opd] at h3
  obtain ⟨q, h5, h6⟩ := ev_slot h3
  have := ev_ret h6
  simp only [Prod.mk.injEq] at this
  obtain ⟨rfl, _, _⟩ := this
  have h5 : get E.sl t = some xv := h5
  unfold nextR at h4
  split at h4 <;> try (simp [ev] at h4; done)
  rename_i id' _
  obtain ⟨lk', its', H', h7, h8⟩ := ev_reg h4
  have h7 : getR ((REG, some (.reg lk (itSet id (.it n ka va k v left cur (some p)) its) H)) :: E.rs) REG = some (.reg lk' its' H') := h7
  rw [getR_cons, if_pos rfl] at h7
  cases h7
  have hid : id' = id := by
    apply Classical.byContradiction
    intro hne
    rw [itSet_get_ne hne] at h8
    split at h8 <;> try (simp [ev] at h8; done)
    rename_i hit
    exact hnp _ _ _ _ _ _ _ _ _ hit
  subst hid
  rw [itSet_get hi0] at h8
  refine ⟨h5, ?_⟩
  simp only at h8
  have key : out = nextOut id' lk its H n ka va k v left p := by
    cases p with
    | none =>
      have := ev_ret h8
      simp only [Prod.mk.injEq] at this
      rw [itSet_twice] at this
      exact this.1
    | some e =>
      have := ev_ret h8
      simp only [Prod.mk.injEq] at this
      rw [itSet_twice] at this
      exact this.1
  subst key
  split at h2 <;> try (cases h2; done)
  refine ⟨_, _, h2, ?_, ?_⟩
  · rw [upd_sl]; rfl
  · rw [upd_rs]
    cases p with
    | none => exact updR_over _ _ _
    | some e => exact updR_over _ _ _
end
end Go.Pev
/- The pure evaluator, part S: loops' heads, code, functions. Own text, over any program. -/
namespace Go.Pev
section
variable {P : Program} {T : Tabs} {C : Cfg} {M0 : Base} {β : Nat → Value} {N : Nat} {w0 : World} {sl sl' : Nat → Option AV} {rs rs' : Nat → Option RS} {ρ : Nat → Value} {F : Nat → Nat → Prop} {a : Act} {w : World} {ops : Array Oper}
theorem keepL_get {α : Type} {l : List (Nat × α)} : ∀ {ts : List Nat} {t : Nat} {x : α}, get (keepL l ts) t = some x → get l t = some x
  | [], _, _, h => by simp [keepL, get] at h
  | k :: r, t, x, h => by
    simp only [keepL] at h
    split at h
    · rename_i y hy
      rw [get_cons] at h
      split at h
      · rename_i e; subst e; rw [hy, h]
      · exact keepL_get h
    · exact keepL_get h
theorem keepR_get {ids : List Nat} {l : List (Nat × Option RS)} : ∀ {ts : List Nat} {t : Nat} {x : Option RS}, get (keepR ids l ts) t = some x → ∃ r, get l t = some (some r) ∧ x = some (cutR ids r)
  | [], _, _, h => by simp [keepR, get] at h
  | k :: r, t, x, h => by
    simp only [keepR] at h
    split at h
    · rename_i y hy
      rw [get_cons] at h
      split at h
      · rename_i e; subst e; exact ⟨y, hy, (Option.some.inj h).symm⟩
      · exact keepR_get h
    · exact keepR_get h
theorem getR_keep {ids : List Nat} {l : List (Nat × Option RS)} {ts : List Nat} {id : Nat} {st : RS} (h : getR (keepR ids l ts) id = some st) : ∃ st0, getR l id = some st0 ∧ st = cutR ids st0 := by
  unfold getR at h
  split at h
  · rename_i r hg
    obtain ⟨q, h1, h2⟩ := keepR_get hg
    obtain rfl := Option.some.inj h
    exact ⟨q, by unfold getR; rw [h1], Option.some.inj h2⟩
  · cases h
theorem fresh_id {E : Env} {id : Nat} (h : freshId E id = true) : Fresh (get E.sl) (getR E.rs) id := by
  unfold freshId at h
  simp only [Bool.and_eq_true, Bool.not_eq_true'] at h
  exact fresh_of h
theorem asOwn_ok {E : Env} {id : Nat} {e : TypeId} {x : AV} {ws : Ws} {v : Value} (h : Rel (T.cf β N M0.L) M0 w0 (get E.sl) (getR E.rs) ρ F a w) (hx : LR (T.cf β N M0.L) ρ (Mof M0 (getR E.rs) F) w x v) (hm : ∀ i, x.ment1 i = true → i ≠ id) (he : asOwn T E x id e = some ws) :
    ∃ ρ' F', Rel (T.cf β N M0.L) M0 w0 (get E.sl) (updR (getR E.rs) ws) ρ' F' a w ∧ ρ' id = v ∧ (∀ i, i ≠ id → ρ' i = ρ i) ∧ ∀ b, (∃ t cs, getR E.rs b = some (.box t cs)) → b ≠ id → updR (getR E.rs) ws b = getR E.rs b := by
  unfold asOwn at he
  split at he <;> try (cases he; done)
  · rename_i y
    split at he <;> try (cases he; done)
    rename_i e' s l hr hf
    obtain rfl := Option.some.inj he
    have hyi : y ≠ id := hm y (by simp [AV.ment1, Nat.beq_refl])
    obtain ⟨css, hown, hF, hrr⟩ := h.res y _ hr
    simp only [LR] at hx
    obtain ⟨ρ', F', g1, g2, g3⟩ := h.row (fresh_id hf) (some y) (fun i hi => by obtain rfl := Option.some.inj hi; exact ⟨_, hr, fun f => f⟩) (by simpa using hyi) (w' := w) (v' := ρ y) (KeepS.refl (fun _ => False) w) (fun _ g => g.elim) hown hrr (fun k hk => .inl ⟨y, rfl, (hF k).2 hk⟩)
    refine ⟨ρ', F', g1, by rw [g2, hx], g3, fun b hb hbi => ?_⟩
    obtain ⟨t, cs, hb⟩ := hb
    simp only [updR, get_cons]
    rw [if_neg (Ne.symm hbi), if_neg (fun e => by subst e; rw [hr] at hb; cases hb)]
    rfl
  · split at he <;> try (cases he; done)
    rename_i s hs hf
    obtain rfl := Option.some.inj he
    simp only [LR] at hx
    obtain ⟨ρ', F', g1, g2, g3⟩ := h.row (fresh_id hf) none (fun _ h => by cases h) (by simp) (w' := w) (v' := .slice none 0 0) (KeepS.refl (fun _ => False) w) (fun _ g => g.elim) (e := e) (s := s) (l := []) (css := []) (World.ownsRow_nil w 0 e s.sz) .nil (fun k hk => by cases hk)
    refine ⟨ρ', F', g1, by rw [g2, hx], g3, fun b _ hbi => ?_⟩
    simp only [updR, get_cons]
    rw [if_neg (Ne.symm hbi)]
    rfl
theorem getR_append (ws : Ws) (rs : List (Nat × Option RS)) : getR (ws ++ rs) = updR (getR rs) ws := by
  funext id
  simp only [getR, updR, get_append]
  cases get ws id with
  | none => rfl
  | some q => cases q <;> rfl
theorem get_cons_updS {l : List (Nat × AV)} {t : Nat} {x : AV} : get ((t, x) :: l) = updS (get l) (some t) x := by
  funext i
  simp only [get_cons, updS, Option.some.injEq]
theorem datB_ok {E : Env} {b : Nat} {s : Sh} {t : TypeId} {cs cs' : List AV} {ws : Ws} (h : Rel (T.cf β N M0.L) M0 w0 (get E.sl) (getR E.rs) ρ F a w) (hb : getR E.rs b = some (.box t cs)) (hn : datCells E s cs = some (cs', ws)) : RelEnv T M0 w0 ⟨E.sl, (b, some (.box t cs')) :: ws ++ E.rs⟩ a w := by
  unfold datCells at hn
  split at hn <;> try (cases hn; done)
  rename_i l ws' _ _ hl
  split at hn <;> try (cases hn; done)
  rename_i d hd
  obtain ⟨rfl, rfl⟩ := Prod.mk.inj (Option.some.inj hn)
  obtain ⟨blk, cells, r1, r2, r3, r4, r5⟩ := h.res b _ hb
  obtain ⟨z1, f1⟩ := dataLs_ok h hl r4
  have hnew := leaves_rel (ρ := ρ) s d cells.toList (ofLeaves_rep s l d cells.toList hd (f1 ws' z1 fun id q hq => by simp [hq]))
  have g1 := h.freeze z1
  have hwb : get ws' b = none := by
    cases hg : get ws' b with
    | none => rfl
    | some r => obtain ⟨e, s', l', e1, _⟩ := z1 b r hg; rw [hb] at e1; cases e1
  have hb' : updR (getR E.rs) ws' b = some (.box t cs) := by simp only [updR, hwb]; exact hb
  obtain ⟨blk', cells', q1, q2, q3, q4, q5⟩ := g1.res b _ hb'
  obtain rfl : blk = blk' := by rw [r1] at q1; simpa using q1
  have hce : cells = cells' := by rw [r3] at q3; simpa using q3
  subst hce
  refine ⟨ρ, fzF F ws', β, N, ?_⟩
  have hget : getR ((b, some (RS.box t (leaves s d))) :: (ws' ++ E.rs)) = updR (updR (getR E.rs) ws') [(b, some (.box t (leaves s d)))] := by
    rw [updR_cons]
    exact getR_append ((b, some (RS.box t (leaves s d))) :: ws') E.rs
  simp only [List.cons_append]
  rw [hget]
  refine g1.upd (G := fun _ => False) (fun i => i = b) (KeepS.refl _ _) (fun _ g => g.elim) (fun i hi => ⟨by rw [updR_single, if_neg (Ne.symm hi)], rfl⟩) (fun _ _ _ _ _ => rfl) (fun _ _ _ _ => ⟨rfl, fun _ _ => rfl⟩) (fun _ _ _ _ _ _ g => g) (fun i st hi hst => ?_) g1.one (own7_single hb')
  subst hi
  rw [updR_single, if_pos rfl] at hst
  obtain rfl := Option.some.inj hst
  refine ⟨fun hs => ⟨blk, cells, q1, q2, r3, LRs.step hnew (KeepS.refl _ _) hs fun _ _ => rfl, leaves_ok s d⟩, fun k hF => ?_⟩
  have := g1.rng i _ k hb' hF
  refine ⟨this.1, this.2, fun _ => .inr ⟨i, _, hb', hF⟩, fun j t' hj ht => ?_⟩
  rw [updR_single, if_neg (Ne.symm hj)] at ht
  exact g1.disj i j _ t' k hb' ht (Ne.symm hj) hF
theorem prep1_ok {E E' : Env} {an : An} (he : prep1 T E an = some E') (h : RelEnv T M0 w0 E a w) : RelEnv T M0 w0 E' a w := by
  obtain ⟨ρ, F, β, N, h⟩ := h
  cases an with
  | keep ss ks =>
    simp only [prep1, Option.some.injEq] at he
    subst he
    obtain ⟨F', h'⟩ := h.keepRes (sl' := get (keepL E.sl ss)) (rs' := getR (keepR ks E.rs ks)) (ids := ks) (fun t av ht => keepL_get ht) fun id st hst => getR_keep hst
    exact ⟨ρ, F', β, N, h'⟩
  | datB b s =>
    simp only [prep1] at he
    split at he <;> try (cases he; done)
    rename_i t cs hb
    split at he <;> try (cases he; done)
    rename_i cs' ws hn
    obtain rfl := Option.some.inj he
    exact datB_ok h hb hn
  | dat t s =>
    simp only [prep1] at he
    split at he <;> try (cases he; done)
    rename_i x hx
    split at he <;> try (cases he; done)
    rename_i y ws hn
    obtain rfl := Option.some.inj he
    obtain ⟨v, e1, e2⟩ := h.slots t x hx
    unfold datNorm at hn
    split at hn <;> try (cases hn; done)
    rename_i l ws' _ _ hl
    split at hn <;> try (cases hn; done)
    rename_i d hd
    have key : ∀ cs : List Value, All2 (LR (T.cf β N M0.L) ρ (Mof M0 (getR E.rs) F) w) x.lv cs → FreezeWs (getR E.rs) ws' ∧ All2 (LR (T.cf β N M0.L) ρ (Mof M0 (updR (getR E.rs) ws') (fzF F ws')) w) (leaves s d) cs := by
      intro cs hcs
      obtain ⟨z1, f1⟩ := dataLs_ok h hl hcs
      exact ⟨z1, leaves_rel s d cs (ofLeaves_rep s l d cs hd (f1 ws' z1 fun id q hq => by simp [hq]))⟩
    have fin : ∀ {z : AV}, FreezeWs (getR E.rs) ws' → VR (T.cf β N M0.L) ρ (Mof M0 (updR (getR E.rs) ws') (fzF F ws')) w z v → RelEnv T M0 w0 ⟨(t, z) :: E.sl, ws' ++ E.rs⟩ a w := by
      intro z hz hv
      refine ⟨ρ, fzF F ws', β, N, ?_⟩
      rw [getR_append, get_cons_updS]
      exact (h.freeze hz).slot e1 hv
    split at hn
    · rename_i m
      obtain ⟨rfl, rfl⟩ := Prod.mk.inj (Option.some.inj hn)
      obtain ⟨cs, rfl, hcs⟩ := e2.ag
      obtain ⟨k1, k2⟩ := key cs hcs
      exact fin k1 ⟨cs, rfl, k2⟩
    · rename_i hb
      split at hn <;> try (cases hn; done)
      rename_i hok hlv
      obtain ⟨rfl, rfl⟩ := Prod.mk.inj (Option.some.inj hn)
      have hlr := e2.toLR hok
      have hbv : x.lv = [x] := by cases x <;> first | rfl | exact absurd rfl (hb _)
      obtain ⟨k1, k2⟩ := key [v] (by rw [hbv]; exact .cons hlr .nil)
      rw [hlv] at k2
      cases k2 with | cons k2 _ => exact fin k1 k2.toVR
  | ownS t id e =>
    simp only [prep1] at he
    split at he <;> try (cases he; done)
    rename_i x hx
    split at he
    · obtain rfl := Option.some.inj he
      exact ⟨ρ, F, β, N, h⟩
    · rename_i hno
      split at he <;> try (cases he; done)
      rename_i ws hws
      obtain rfl := Option.some.inj he
      obtain ⟨v, e1, e2⟩ := h.slots t x hx
      have hxl : okLeaf x = true := by
        unfold asOwn at hws
        split at hws <;> first | rfl | (cases hws; done)
      have hm : ∀ i, x.ment1 i = true → i ≠ id := by
        intro i hi e'
        subst e'
        unfold asOwn at hws
        split at hws <;> try (cases hws; done)
        · rename_i y
          have := Nat.eq_of_beq_eq_true hi
          subst this
          simp [isOwn, Nat.beq_refl] at hno
        · simp [AV.ment1] at hi
      obtain ⟨ρ', F', g1, g2, _⟩ := asOwn_ok h (e2.toLR hxl) hm hws
      refine ⟨ρ', F', β, N, ?_⟩
      rw [getR_append]
      rw [get_cons_updS]
      refine g1.slot e1 ?_
      simp only [VR, SR, LR]
      exact g2.symm
  | ownB b off id e =>
    simp only [prep1] at he
    split at he <;> try (cases he; done)
    rename_i t cs hb
    split at he <;> try (cases he; done)
    rename_i x hx
    split at he
    · obtain rfl := Option.some.inj he
      exact ⟨ρ, F, β, N, h⟩
    · rename_i hno
      split at he <;> try (cases he; done)
      rename_i ws hws
      split at he <;> try (cases he; done)
      rename_i hoff
      obtain rfl := Option.some.inj he
      obtain ⟨blk, cells, r1, r2, r3, r4, r5⟩ := h.res b _ hb
      rw [List.head?_drop] at hx
      obtain ⟨v, hv, hxr⟩ := r4.get off x hx
      have hm : ∀ i, x.ment1 i = true → i ≠ id := by
        intro i hi e'
        subst e'
        unfold asOwn at hws
        split at hws <;> try (cases hws; done)
        · rename_i y
          have := Nat.eq_of_beq_eq_true hi
          subst this
          simp [isOwn, Nat.beq_refl] at hno
        · simp [AV.ment1] at hi
      obtain ⟨hoff, hbid⟩ := hoff
      obtain ⟨ρ', F', g1, g2, g3, g4⟩ := asOwn_ok h hxr hm hws
      have hb' := (g4 b ⟨t, cs, hb⟩ hbid).trans hb
      obtain ⟨blk', cells', q1, q2, q3, q4, q5⟩ := g1.res b _ hb'
      have hbb : blk' = blk := by
        rw [g3 b hbid, r1] at q1
        simpa using q1.symm
      subst hbb
      rw [r3] at q3
      obtain rfl : cells = cells' := by simpa using q3
      refine ⟨ρ', F', β, N, ?_⟩
      have hget : getR ((b, some (RS.box t (splice cs off [AV.own id]))) :: (ws ++ E.rs)) = updR (updR (getR E.rs) ws) [(b, some (.box t (splice cs off [AV.own id])))] := by
        rw [updR_cons]
        exact getR_append ((b, some (RS.box t (splice cs off [AV.own id]))) :: ws) E.rs
      simp only [List.cons_append]
      rw [hget]
      have hcell : cells.toList = cells.toList.take off ++ [v] ++ cells.toList.drop (off + 1) := by
        have hlt : off < cells.toList.length := by rw [← r4.length]; exact hoff
        have hv' : cells.toList[off] = v := by
          have := List.getElem?_eq_getElem hlt
          rw [hv] at this
          exact (Option.some.inj this).symm
        rw [← hv', List.append_assoc, List.singleton_append, ← List.drop_eq_getElem_cons hlt, List.take_append_drop]
      have hnew : All2 (LR (T.cf β N M0.L) ρ' (Mof M0 (updR (getR E.rs) ws) F') w) (splice cs off [AV.own id]) cells.toList := by
        have := splice_rel q4 (v := [.own id]) (vs := [v]) (.cons (by simp only [LR]; exact g2.symm) .nil) off
        simp only [List.length_singleton] at this
        rw [← hcell] at this
        exact this
      refine g1.upd (G := fun _ => False) (fun i => i = b) (KeepS.refl _ _) (fun _ g => g.elim) (fun i hi => ⟨by rw [updR_single, if_neg (Ne.symm hi)], rfl⟩) (fun _ _ _ _ _ => rfl) (fun _ _ _ _ => ⟨rfl, fun _ _ => rfl⟩) (fun _ _ _ _ _ _ g => g) (fun i st hi hst => ?_) g1.one (own7_single hb')
      subst hi
      rw [updR_single, if_pos rfl] at hst
      obtain rfl := Option.some.inj hst
      refine ⟨fun hs => ⟨blk', cells, q1, q2, r3, LRs.step hnew (KeepS.refl _ _) hs fun _ _ => rfl, splice_all q5 (by simp [okLeaf])⟩, fun k hF => ?_⟩
      have := g1.rng i _ k hb' hF
      refine ⟨this.1, this.2, fun _ => .inr ⟨i, _, hb', hF⟩, fun j t' hj ht => ?_⟩
      rw [updR_single, if_neg (Ne.symm hj)] at ht
      exact g1.disj i j _ t' k hb' ht (Ne.symm hj) hF
theorem prep_ok : ∀ {l : List An} {E E' : Env}, prep T l E = some E' → RelEnv T M0 w0 E a w → RelEnv T M0 w0 E' a w
  | [], E, E', he, h => by obtain rfl := Option.some.inj he; exact h
  | an :: l, E, E', he, h => by
    simp only [prep] at he
    split at he <;> try (cases he; done)
    rename_i E1 h1
    exact prep_ok he (prep1_ok h1 h)
abbrev Post (T : Tabs) (M0 : Base) (w0 : World) (N : Nat) (k : Exit → Env → R) (res : AV) : Exit → Act → World → Prop :=
  fun x a w => ∃ E, k x E = some res ∧ RelEnv T M0 w0 E a w ∧ a.tmps.size = N
def Fine (P : Program) (T : Tabs) (A : Anns) (N : Nat) (c : Code) : Prop :=
  ∀ (M0 : Base) (w0 : World) (E : Env) (k : Exit → Env → R) (res : AV) (a : Act) (w : World), evalC P T A c E k = some res → RelEnv T M0 w0 E a w → a.tmps.size = N → c.wp P (Post T M0 w0 N k res) a w
theorem cond_rel {E : Env} {x : Operand} {b : Bool} (h : RelEnv T M0 w0 E a w) (hc : condAV E x = some b) : a.eval x = .bool b := by
  obtain ⟨ρ, F, β, N, h⟩ := h
  unfold condAV at hc
  split at hc
  · split at hc <;> try (cases hc; done)
    rename_i t b' hb
    obtain rfl := Option.some.inj hc
    obtain ⟨v, e1, e2⟩ := h.slots _ _ hb
    simp only [VR, SR, LR] at e2
    subst e2
    simp [Act.eval, Array.getD_eq_getD_getElem?, e1]
  · obtain rfl := Option.some.inj hc; rfl
  · cases hc
theorem loop_rounds {A : Anns} {N : Nat} {c : Code} (ih : Fine P T A N c) {an : List An} {k : Exit → Env → R} {res : AV} : ∀ {n : Nat} {E : Env} {a : Act} {w : World}, loopE (prep T an) (evalC P T A c) n E k = some res → RelEnv T M0 w0 E a w → a.tmps.size = N → Code.rounds P c (Post T M0 w0 N k res) n a w
  | 0, E, a, w, h, _, _ => by simp [loopE] at h
  | n + 1, E, a, w, h, hr, hN => by
    simp only [loopE] at h
    rw [rounds_succ]
    refine wp_mono (ih M0 w0 E _ res a w h hr hN) fun x a' w' hq => ?_
    obtain ⟨E', h1, h2, h3⟩ := hq
    cases x with
    | normal =>
      simp only at h1
      split at h1 <;> try (cases h1; done)
      rename_i E2 hE2
      exact loop_rounds ih h1 (prep_ok hE2 h2) h3
    | _ => exact ⟨E', h1, h2, h3⟩
def OrcOk (P : Program) (T : Tabs) (A : Anns) (c : Code) : Prop := ∀ o, orcOf A c = some o → ∀ E k r, o E k = some r → ∃ n, loopX A c (prep T (annOf A c)) (evalC P T A c) n E (outK T A c k) = some r
def FineH (P : Program) (T : Tabs) (A : Anns) (N : Nat) (c : Code) : Prop :=
  ∀ (M0 : Base) (w0 : World) (E : Env) (id : Nat) (lk : List Nat) (its : List (Nat × It)) (H : List Node) (n : Option Nat) (ka va : Bool) (k v : Sh) (left : List (k.T × v.T)) (cur : Option (k.T × v.T)) (g : Option (k.T × v.T) → Exit → Env → R) (res : AV) (a : Act) (w : World),
    getR E.rs REG = some (.reg lk its H) → get its id = some (.it n ka va k v left cur none) →
    (∀ p, MayNext left p → evalC P T A c (pendE E id lk its H n ka va k v left cur p) (g p) = some res) → RelEnv T M0 w0 E a w → a.tmps.size = N →
    c.wp P (fun x a' w' => ∃ p, MayNext left p ∧ Post T M0 w0 N (g p) res x a' w') a w
theorem no_pend (h : RelE T M0 w0 sl rs a w) {lk : List Nat} {its : List (Nat × It)} {H : List Node} (hr : rs REG = some (.reg lk its H)) : ∀ j m a b c d l cc p, get its j = some (.it m a b c d l cc (some p)) → False := by
  intro j m a b c d l cc p hj
  obtain ⟨ρ, F, β, N, h⟩ := h
  obtain ⟨_, G, hG⟩ := h.res REG _ hr
  obtain ⟨h0, _⟩ := hG.walks _ (get_its hj)
  cases h0
theorem may_one {α : Type} (left : List α) : ∃ p, MayNext left p := by
  cases left with
  | nil => exact ⟨none, rfl⟩
  | cons x l => exact ⟨some x, List.mem_cons_self⟩
theorem region_head (hf : Fit P T) (hsp : SpecsOk P T) {A : Anns} {rid : Nat} {N : Nat} (hok : opsOk N ops.toList = true) (hh : headNext (.region rid ops false) = true) : FineH P T A N (.region rid ops false) := by
  intro M0 w0 E id lk its H n ka va k v left cur g res a w hr hi0 h hrel hN
  simp only [headNext] at hh
  split at hh <;> try (cases hh; done)
  rename_i o rest hops
  simp only [Bool.and_eq_true, Option.isNone_iff_eq_none] at hh
  obtain ⟨hg, hn⟩ := hh
  obtain ⟨t, hop⟩ : ∃ t, o.op = .next (.tmp t) false := by
    unfold isNext at hn
    split at hn
    · exact ⟨_, by assumption⟩
    · cases hn
  have hnp := no_pend hrel hr
  have hnil : isNilR A rid ops = false := by unfold isNilR; rw [hops]; simp only [hn, Bool.not_true, Bool.and_false]
  simp only [evalC, hnil, hops, evalOps] at h
  obtain ⟨p0, hp0⟩ := may_one left
  obtain ⟨hslot, _⟩ := next_eval hop hg hr hi0 hnp (h p0 hp0)
  have hd := opsOk_dst hok
  have hdo : ∀ d, o.dst = some d → d < a.tmps.size := fun d hd' => by rw [hN]; exact hd o (by rw [hops]; exact List.mem_cons_self) d hd'
  obtain ⟨p, hp, goal⟩ := next_goal hrel hop hslot hdo hr hi0
  obtain ⟨_, E1, tr, hK, hE1, hE2⟩ := next_eval hop hg hr hi0 hnp (h p hp)
  obtain ⟨trs, E', hruns, hk⟩ := evalOps_runs hK
  have h0 : ops[0]? = some o := by rw [← Array.getElem?_toList, hops]; rfl
  refine wp_region ?_
  have hsz : ops.size = rest.length + 1 := by rw [← Array.length_toList, hops]; rfl
  rw [List.range_eq_range', hsz, List.range'_succ, wpOps_cons]
  unfold wpOp
  simp only [h0]
  rw [if_pos (by simp [Region.wanted, hg])]
  have hput : ∀ v, (a.put o.dst v).tmps.size = a.tmps.size := fun v => by cases o.dst <;> simp [Act.put]
  refine .inl (goal.wp fun v w' hr' => ?_)
  rw [← hE1, ← hE2] at hr'
  refine runs_ok hf hsp (n := 1) (l := rest) (fun j => ?_) (fun o' ho' d hd' => ?_) hruns hr' fun a2 w2 hsz2 hr2 => ⟨p, hp, E', hk, hr2, (hsz2.trans (hput v)).trans hN⟩
  · rw [← Array.getElem?_toList, hops, Nat.add_comm 1 j]; rfl
  · rw [hput, hN]; exact hd o' (by rw [hops]; exact List.mem_cons_of_mem _ ho') d hd'
theorem loop_roundsG {A : Anns} {N : Nat} {c : Code} (ih : FineH P T A N c) {an : List An} {id : Nat} {k : Exit → Env → R} {res : AV} : ∀ {n : Nat} {E : Env} {a : Act} {w : World}, loopRG (prep T an) (evalC P T A c) id n E k = some res → RelEnv T M0 w0 E a w → a.tmps.size = N → Code.rounds P c (Post T M0 w0 N k res) n a w
  | 0, E, a, w, h, _, _ => by simp [loopRG] at h
  | n + 1, E, a, w, h, hr, hN => by
    simp only [loopRG] at h
    split at h <;> try (cases h; done)
    rename_i lk its H hreg
    split at h <;> try (cases h; done)
    rename_i m ka va ks vs left cur hit
    rw [rounds_succ]
    refine wp_mono (ih M0 w0 E id lk its H m ka va ks vs left cur (fun p x E' => match x with
      | .normal => match prep T an E' with
        | some E2 => loopRG (prep T an) (evalC P T A c) id n E2 k
        | none => none
      | x => k x E') res a w hreg hit (fun p hp => ?_) hr hN) fun x a' w' hq => ?_
    · cases p with
      | none =>
        have hl : left = [] := hp
        subst hl
        exact h
      | some e =>
        have he : e ∈ left := hp
        have hne : left.isEmpty = false := by cases left with
          | nil => cases he
          | cons _ _ => rfl
        rw [hne, cond_false] at h
        exact (relR_some h).2 e he
    · obtain ⟨p, _, E', h1, h2, h3⟩ := hq
      cases x with
      | normal =>
        simp only at h1
        split at h1 <;> try (cases h1; done)
        rename_i E2 hE2
        exact loop_roundsG ih h1 (prep_ok hE2 h2) h3
      | _ => exact ⟨E', h1, h2, h3⟩
theorem outK_ok {A : Anns} {N : Nat} {c : Code} {k : Exit → Env → R} {res : AV} {x : Exit} {a : Act} {w : World} (h : Post T M0 w0 N (outK T A c k) res x a w) : Post T M0 w0 N k res x a w := by
  obtain ⟨E, h1, h2, h3⟩ := h
  unfold outK at h1
  cases hA : annOut A c with
  | none => rw [hA] at h1; exact ⟨E, h1, h2, h3⟩
  | some l =>
    rw [hA] at h1
    simp only at h1
    split at h1 <;> try (cases h1; done)
    rename_i E' hE'
    exact ⟨E', h1, prep_ok hE' h2, h3⟩
theorem loop_any {A : Anns} {N : Nat} {c : Code} (ih : Fine P T A N c) (ihH : headNext c = true → FineH P T A N c) {an : List An} {k : Exit → Env → R} {res : AV} {n : Nat} {E : Env} {a : Act} {w : World} (h : loopX A c (prep T an) (evalC P T A c) n E k = some res) (hr : RelEnv T M0 w0 E a w) (hN : a.tmps.size = N) : Code.rounds P c (Post T M0 w0 N k res) n a w := by
  unfold loopX at h
  cases hg : rngOf A c with
  | some id =>
    rw [hg] at h
    cases hh : headNext c with
    | true => rw [hh] at h; exact loop_roundsG (ihH hh) h hr hN
    | false => rw [hh] at h; cases h
  | none => rw [hg] at h; exact loop_rounds ih h hr hN
theorem evalC_both (hf : Fit P T) (hsp : SpecsOk P T) (hm : P.follows .mixedOrders = true) {A : Anns} {N : Nat} : ∀ c : Code, codeOk N c = true → (∀ c' ∈ loopsOf c, OrcOk P T A c') → Fine P T A N c ∧ (headNext c = true → FineH P T A N c)
  | .skip, hok, ho => ⟨fun M0 w0 E k res a w h hr hN => wp_skip ⟨E, h, hr, hN⟩,
    fun hh => by cases hh⟩
  | .region id ops draw, hok, ho => ⟨fun M0 w0 E k res a w h hr hN => region_ok hf hsp hm hok h hN hr,
    fun hh => by
    cases draw with
    | true => cases hh
    | false => exact region_head hf hsp hok hh⟩
  | .seq x y, hok, ho => ⟨fun M0 w0 E k res a w h hr hN => by
    simp only [codeOk, Bool.and_eq_true] at hok
    simp only [evalC] at h
    refine wp_seq (wp_mono ((evalC_both hf hsp hm x hok.1 (fun c h => ho c (List.mem_append_left _ h))).1 M0 w0 E _ res a w h hr hN) fun e a' w' hq => ?_)
    obtain ⟨E', h1, h2, h3⟩ := hq
    cases e with
    | normal => exact (evalC_both hf hsp hm y hok.2 (fun c h => ho c (List.mem_append_right _ h))).1 M0 w0 E' k res a' w' h1 h2 h3
    | _ => exact ⟨E', h1, h2, h3⟩,
    fun hh => fun M0 w0 E id lk its H n ka va k v left cur g res a w hreg hit h hr hN => by
    simp only [codeOk, Bool.and_eq_true] at hok
    simp only [evalC] at h
    refine wp_seq (wp_mono ((evalC_both hf hsp hm x hok.1 (fun c h => ho c (List.mem_append_left _ h))).2 hh M0 w0 E id lk its H n ka va k v left cur _ res a w hreg hit h hr hN) fun e a' w' hq => ?_)
    obtain ⟨p, hp, E', h1, h2, h3⟩ := hq
    cases e with
    | normal => exact wp_mono ((evalC_both hf hsp hm y hok.2 (fun c h => ho c (List.mem_append_right _ h))).1 M0 w0 E' (g p) res a' w' h1 h2 h3) fun _ _ _ hq => ⟨p, hp, hq⟩
    | _ => exact ⟨p, hp, E', h1, h2, h3⟩⟩
  | .cond c x y, hok, ho => ⟨fun M0 w0 E k res a w h hr hN => by
    simp only [codeOk, Bool.and_eq_true] at hok
    simp only [evalC] at h
    split at h <;> try (cases h; done)
    rename_i b hb
    refine wp_cond (cond_rel hr hb) ?_
    cases b with
    | true => exact (evalC_both hf hsp hm x hok.1 (fun c h => ho c (List.mem_append_left _ h))).1 M0 w0 E k res a w h hr hN
    | false => exact (evalC_both hf hsp hm y hok.2 (fun c h => ho c (List.mem_append_right _ h))).1 M0 w0 E k res a w h hr hN,
    fun hh => by cases hh⟩
  | .block id c, hok, ho => ⟨fun M0 w0 E k res a w h hr hN => by
    simp only [evalC] at h
    refine wp_block (wp_mono ((evalC_both hf hsp hm c hok ho).1 M0 w0 E _ res a w h hr hN) fun e a' w' hq => ?_)
    obtain ⟨E', h1, h2, h3⟩ := hq
    cases e with
    | exit i =>
      simp only [Exit.inBlock]
      simp only at h1
      split at h1
      · rename_i hb
        rw [if_pos (Nat.eq_of_beq_eq_true hb)]
        exact ⟨E', h1, h2, h3⟩
      · rename_i hb
        rw [if_neg (fun e => by subst e; rw [Nat.beq_refl] at hb; cases hb)]
        exact ⟨E', h1, h2, h3⟩
    | _ => exact ⟨E', h1, h2, h3⟩,
    fun hh => fun M0 w0 E id lk its H n ka va k v left cur g res a w hreg hit h hr hN => by
    simp only [evalC] at h
    refine wp_block (wp_mono ((evalC_both hf hsp hm c hok ho).2 hh M0 w0 E id lk its H n ka va k v left cur _ res a w hreg hit h hr hN) fun e a' w' hq => ?_)
    obtain ⟨p, hp, E', h1, h2, h3⟩ := hq
    cases e with
    | exit i =>
      simp only [Exit.inBlock]
      simp only at h1
      split at h1
      · rename_i hb
        rw [if_pos (Nat.eq_of_beq_eq_true hb)]
        exact ⟨p, hp, E', h1, h2, h3⟩
      · rename_i hb
        rw [if_neg (fun e => by subst e; rw [Nat.beq_refl] at hb; cases hb)]
        exact ⟨p, hp, E', h1, h2, h3⟩
    | _ => exact ⟨p, hp, E', h1, h2, h3⟩⟩
  | .loop c, hok, ho => ⟨fun M0 w0 E k res a w h hr hN => by
    simp only [evalC] at h
    split at h <;> try (cases h; done)
    rename_i E' hE'
    have ih := (evalC_both hf hsp hm c hok (fun c' h => ho c' (List.mem_cons_of_mem _ h))).1
    have ihH := (evalC_both hf hsp hm c hok (fun c' h => ho c' (List.mem_cons_of_mem _ h))).2
    split at h
    · rename_i o hoc
      obtain ⟨n, hn⟩ := ho c List.mem_cons_self o hoc _ _ _ h
      exact wp_mono (wp_loop_rounds n (loop_any ih ihH hn (prep_ok hE' hr) hN)) fun _ _ _ => outK_ok
    · exact wp_mono (wp_loop_rounds A.N (loop_any ih ihH h (prep_ok hE' hr) hN)) fun _ _ _ => outK_ok,
    fun hh => by cases hh⟩
  | .exit id, hok, ho => ⟨fun M0 w0 E k res a w h hr hN => wp_exit ⟨E, h, hr, hN⟩,
    fun hh => by cases hh⟩
  | .ret, hok, ho => ⟨fun M0 w0 E k res a w h hr hN => wp_ret ⟨E, h, hr, hN⟩,
    fun hh => by cases hh⟩
  | .rangeFunc .., hok, ho => ⟨fun M0 w0 E k res a w h hr hN => by simp [evalC] at h,
    fun hh => by cases hh⟩
  | .scope _, hok, ho => ⟨fun M0 w0 E k res a w h hr hN => by simp [evalC] at h,
    fun hh => by cases hh⟩
  | .label _, hok, ho => ⟨fun M0 w0 E k res a w h hr hN => by simp [evalC] at h,
    fun hh => by cases hh⟩
  | .goto _, hok, ho => ⟨fun M0 w0 E k res a w h hr hN => by simp [evalC] at h,
    fun hh => by cases hh⟩
  | .refuse _, hok, ho => ⟨fun M0 w0 E k res a w h hr hN => by simp [evalC] at h,
    fun hh => by cases hh⟩
theorem evalC_ok (hf : Fit P T) (hsp : SpecsOk P T) (hm : P.follows .mixedOrders = true) {A : Anns} {N : Nat} (c : Code) (hok : codeOk N c = true) (ho : ∀ c' ∈ loopsOf c, OrcOk P T A c') : Fine P T A N c := (evalC_both hf hsp hm c hok ho).1
theorem codeOk_mono {N N' : Nat} (hN : N ≤ N') : ∀ c : Code, codeOk N c = true → codeOk N' c = true
  | .region _ ops _, h => by
    simp only [codeOk, opsOk, Bool.and_eq_true, List.all_eq_true] at h ⊢
    refine ⟨fun o ho => ?_, h.2⟩
    have := h.1 o ho
    cases hd : o.dst with
    | none => rfl
    | some d =>
      rw [hd] at this
      simp only [Nat.blt_eq] at this ⊢
      omega
  | .seq a b, h => by
    simp only [codeOk, Bool.and_eq_true] at h ⊢
    exact ⟨codeOk_mono hN a h.1, codeOk_mono hN b h.2⟩
  | .cond _ a b, h => by
    simp only [codeOk, Bool.and_eq_true] at h ⊢
    exact ⟨codeOk_mono hN a h.1, codeOk_mono hN b h.2⟩
  | .block _ c, h => by simp only [codeOk] at h ⊢; exact codeOk_mono hN c h
  | .loop c, h => by simp only [codeOk] at h ⊢; exact codeOk_mono hN c h
  | .skip, _ => rfl
  | .exit _, _ => rfl
  | .ret, _ => rfl
  | .rangeFunc .., _ => rfl
  | .scope _, _ => rfl
  | .label _, _ => rfl
  | .goto _, _ => rfl
  | .refuse _, _ => rfl
theorem freeze_one {id : Nat} {e : TypeId} {s : Sh} {l : List s.T} (hr : rs id = some (.row e s l)) : FreezeWs rs [(id, some (.fro s l))] := fun i q hi => by
  rw [get_single] at hi
  split at hi
  · rename_i e'; subst e'; obtain rfl := Option.some.inj hi; exact ⟨e, s, l, hr, rfl⟩
  · cases hi
theorem dataV_ok {E : Env} (h : Rel C M0 w0 (get E.sl) (getR E.rs) ρ F a w) {x y : AV} {v : Value} (he : dataV E x = some y) (hx : LR C ρ (Mof M0 (getR E.rs) F) w x v) {M' : Nat → Prop} (hs : ∀ k, M' k → k < w.heap.size → Mof M0 (getR E.rs) F k) (hu : ∀ i, x = .own i → ∀ k, M' k → ¬ F i k) : LR C ρ M' w y v := by
  unfold dataV at he
  split at he
  · rename_i id
    simp only [LR] at hx
    subst hx
    split at he <;> try (cases he; done)
    · rename_i e s l hr
      obtain rfl := Option.some.inj he
      have hz := freeze_one hr
      have h2 := h.freeze hz
      have h3 := h2.res id (.fro s l) (by rw [updR_single, if_pos rfl])
      obtain ⟨A, c, g1, g2, g3⟩ := h3.1
      refine ⟨A, c, g1, g2, g3.step (KeepS.refl _ _) fun k hk hlt => ?_⟩
      rcases hs k hk hlt with h0 | ⟨j, st, hj, hF⟩
      · exact .inl h0
      · by_cases hji : id = j
        · subst hji; exact absurd hF (hu id rfl k hk)
        · refine .inr ⟨j, st, by rw [updR_single, if_neg hji]; exact hj, ?_⟩
          have : get [(id, some (RS.fro s l))] j = none := by rw [get_single, if_neg hji]
          simp only [this]; exact hF
    · rename_i s l hr
      obtain rfl := Option.some.inj he
      obtain ⟨⟨A, c, g1, g2, g3⟩, _⟩ := h.res id _ hr
      exact ⟨A, c, g1, g2, g3.step (KeepS.refl _ _) hs⟩
  · obtain rfl := Option.some.inj he
    exact hx.step (KeepS.refl _ _) hs fun _ _ => rfl
theorem dataVs_ok {E : Env} (h : Rel C M0 w0 (get E.sl) (getR E.rs) ρ F a w) {M' : Nat → Prop} (hs : ∀ k, M' k → k < w.heap.size → Mof M0 (getR E.rs) F k) : ∀ {xs ys : List AV} {vs : List Value}, dataVs E xs = some ys → (∀ i ∈ ownIds.go xs, ∀ k, M' k → ¬ F i k) → All2 (LR C ρ (Mof M0 (getR E.rs) F) w) xs vs → All2 (LR C ρ M' w) ys vs
  | [], ys, vs, he, _, hx => by
    simp only [dataVs, Option.some.injEq] at he
    subst he; cases hx; exact .nil
  | x :: xs, ys, vs, he, hu, hx => by
    simp only [dataVs] at he
    split at he <;> try (cases he; done)
    rename_i y l h1 h2
    obtain rfl := Option.some.inj he
    cases hx with
    | cons hx hxs => exact .cons (dataV_ok h h1 hx hs fun i e => hu i (by subst e; exact List.mem_cons_self)) (dataVs_ok h hs h2 (fun i hi => hu i (by
        cases x <;> first | exact hi | exact List.mem_cons_of_mem _ hi)) hxs)
theorem dataVs_ids {E : Env} : ∀ {xs ys : List AV}, dataVs E xs = some ys → ∀ i ∈ ownIds.go xs, ∃ st, getR E.rs i = some st ∧ notReg st
  | [], _, _, _, hi => by cases hi
  | x :: xs, ys, he, i, hi => by
    simp only [dataVs] at he
    split at he <;> try (cases he; done)
    rename_i y l h1 h2
    have rest : i ∈ ownIds.go xs → ∃ st, getR E.rs i = some st ∧ notReg st := fun hi => dataVs_ids h2 i hi
    cases x <;> first | exact rest hi | skip
    rename_i id
    rcases List.mem_cons.1 hi with rfl | hi
    · simp only [dataV] at h1
      split at h1 <;> try (cases h1; done)
      · exact ⟨RS.row _ _ _, by assumption, trivial⟩
      · exact ⟨RS.fro _ _, by assumption, trivial⟩
    · exact rest hi
def resOne (tmps : Array Value) : ResultVar → Sem Value
  | .tmp t => pure (tmps.getD t Go.undef)
  | .cell a t => do loadVar t (← asAddr (tmps.getD a Go.undef))
theorem finOne_ok {E : Env} (h : Rel (T.cf β N M0.L) M0 w0 (get E.sl) (getR E.rs) ρ F a w) {t : TypeId} {rv : ResultVar} {av : AV} (hf : Fit P T) (he : finOne P T E t rv = some av) :
    ∃ v, (resOne a.tmps rv).run P w = .ok v w ∧ (∀ i ∈ ownIds E rv, ∃ st, getR E.rs i = some st ∧ notReg st) ∧ ∀ (ρ' : Nat → Value) (M' : Nat → Prop), (∀ k, M' k → k < w.heap.size → Mof M0 (getR E.rs) F k) → (∀ i ∈ ownIds E rv, ∀ k, M' k → ¬ F i k) → SR (T.cf β N M0.L) ρ' M' w av v := by
  have fin : ∀ {l : List AV} {vs : List Value} {v : Value} {M' : Nat → Prop} {ρ' : Nat → Value}, normAV P T t l = some av → All2 (LR (T.cf β N M0.L) ρ M' w) l vs → v.cells = vs.toArray → ((∃ x, aggOf P t = some true ∧ v = .agg x) ∨ (aggOf P t = some false ∧ vs = [v])) → SR (T.cf β N M0.L) ρ' M' w av v := by
    intro l vs v M' ρ' hn hl hv hs
    obtain ⟨h1, h2⟩ := normAV_rel hn hl hv hs
    exact h1.step (KeepS.refl _ _) (fun _ h _ => h) fun id hid => by rw [ment2_of (h2 id)] at hid; cases hid
  cases rv with
  | tmp i =>
    simp only [finOne] at he
    split at he <;> try (cases he; done)
    rename_i x hx
    split at he <;> try (cases he; done)
    rename_i l hfit hl
    obtain ⟨v, e1, e2⟩ := h.slots i x hx
    obtain ⟨cs, c1, c2, c3⟩ := aggFit_vr h.one h.bone hfit e2
    have hids : ownIds E (.tmp i) = ownIds.go x.lv := by simp only [ownIds, hx]
    rw [hids]
    exact ⟨v, by simp [resOne, Array.getD_eq_getD_getElem?, e1], dataVs_ids hl, fun ρ' M' hs hu => fin he (dataVs_ok h hs hl hu c2) c1 c3⟩
  | cell i t' =>
    simp only [finOne] at he
    split at he <;> try (cases he; done)
    rename_i id hi
    split at he <;> try (cases he; done)
    rename_i u cs hr
    split at he <;> try (cases he; done)
    rename_i hut
    obtain ⟨rfl, rfl⟩ := hut
    split at he <;> try (cases he; done)
    rename_i l hl
    obtain ⟨v, e1, e2⟩ := h.slots i _ hi
    simp only [VR, SR, LR] at e2
    obtain ⟨b, b1, b2⟩ := e2
    obtain ⟨b', cells, r1, r2, r3, r4, r5⟩ := h.res id _ hr
    rw [b1] at r1
    obtain rfl : b = b' := by simpa using r1
    have hids : ownIds E (.cell i u) = ownIds.go cs := by simp only [ownIds, hi, hr]
    rw [hids]
    have hd0 := dataVs_ok h (M' := fun _ => False) (fun _ f => f.elim) hl (fun _ _ _ f => f.elim) r4
    have hcell : ∀ j u, cells.toList[j]? = some u → w.cell? ((⟨b, 0, none⟩ : Addr).add j) = some u := fun j u hj => by
      rw [addr_at]
      simp only [World.cell?, r3, Option.isSome_none, Bool.false_eq_true, if_false]
      simpa using hj
    have hn := he
    unfold normAV at he
    split at he <;> try (cases he; done)
    rename_i s hs
    split at he <;> try (cases he; done)
    rename_i x hx
    have hrr := ofLeaves_rep s l x cells.toList hx hd0
    have hlen := RR.len s x _ hrr
    have hlv := leaves_len s x
    unfold aggAV at he
    have e1' : a.tmps.getD i Go.undef = .pointer (some ⟨b, 0, none⟩) := by simp [Array.getD_eq_getD_getElem?, e1, b2]
    split at he
    · rename_i hagg
      obtain ⟨ti, z, hti, hsz, _⟩ := (hf.tys.get hs).info
      have hload := run_loadCells_list (P := P) w ⟨b, 0, none⟩ cells.toList hcell
      rw [hlen] at hload
      refine ⟨.agg cells, ?_, dataVs_ids hl, fun ρ' M' hs hu => fin hn (dataVs_ok h hs hl hu r4) (by simp [Value.cells]) (.inl ⟨_, hagg, rfl⟩)⟩
      simp only [resOne, e1', asAddr, loadVar, Sem.run_bind, Sem.run_pure, Result.andThen_ok, aggOf_true hagg, if_true, sizeOf, typeInfo, run_program, hti, hsz, hload]
    · rename_i y hagg hy
      rw [hy] at hlv
      have hl1 : cells.toList.length = 1 := by rw [hlen, ← hlv]; rfl
      obtain ⟨c0, hc0⟩ : ∃ c0, cells.toList = [c0] := by
        cases hcl : cells.toList with
        | nil => rw [hcl] at hl1; simp at hl1
        | cons c r => rw [hcl] at hl1; simp at hl1; exact ⟨c, by rw [hl1]⟩
      have := hcell 0 c0 (by rw [hc0]; rfl)
      rw [addr_at] at this
      refine ⟨c0, ?_, dataVs_ids hl, fun ρ' M' hs hu => fin hn (dataVs_ok h hs hl hu r4) (by rw [hc0]; exact cells_one (RR.one h.bone hrr c0 (by rw [hc0]; exact List.mem_cons_self))) (.inr ⟨hagg, hc0⟩)⟩
      simp only [resOne, e1', asAddr, loadVar, Sem.run_bind, Sem.run_pure, Result.andThen_ok, aggOf_false hagg, Bool.false_eq_true, if_false, run_load, this]
    · cases he
theorem rowsLen {n m a b : Nat} (h : n + m ≠ a + b) (h1 : a ≤ n) (h2 : b ≤ m) : n ≠ a ∨ m ≠ b := by omega
section
variable {ρ' : Nat → Value} {M' : Nat → Prop}
theorem pure1_own {x : AV} {v : Value} (hp : x.pure1 = true) (h : LR C ρ (Mof M0 rs F) w x v) (hs : ∀ k, M' k → k < w.heap.size → Mof M0 rs F k) : LR C ρ' M' w x v :=
  h.step (KeepS.refl _ _) hs fun id hid => by rw [pure_ment1 hp id] at hid; cases hid
theorem backL_ok {E : Env} (h : Rel C M0 w0 (get E.sl) (getR E.rs) ρ F a w) {e : TypeId} {s : Sh} {x y : AV} {is : List Nat} {v : Value} (he : backL E e s x = some (y, is)) (hx : LR C ρ (Mof M0 (getR E.rs) F) w x v) :
    (∃ l : List s.T, y = .rowv e s l ∧ ((∃ i, is = [i] ∧ getR E.rs i = some (.row e s l) ∧ v = ρ i) ∨ (is = [] ∧ l = [] ∧ v = .slice none 0 0))) := by
  unfold backL at he
  split at he
  · rename_i id
    split at he <;> try (cases he; done)
    rename_i e' s' l hr
    split at he <;> try (cases he; done)
    rename_i hes
    obtain ⟨rfl, rfl⟩ := hes
    cases he
    exact ⟨l, rfl, .inl ⟨id, rfl, hr, hx⟩⟩
  · cases he
    exact ⟨[], rfl, .inr ⟨rfl, rfl, hx⟩⟩
  · cases he
theorem backLs_ok {E : Env} (h : Rel C M0 w0 (get E.sl) (getR E.rs) ρ F a w) {j : Nat} {e : TypeId} {s : Sh} : ∀ {i : Nat} {xs ys : List AV} {is : List Nat} {vs : List Value}, backLs E j e s i xs = some (ys, is) → All2 (LR C ρ (Mof M0 (getR E.rs) F) w) xs vs →
    is.length ≤ (ys.flatMap rowOf1).length ∧ (∀ r ∈ ys.flatMap rowOf1, ∃ e' s' l, r = .row e' s' l) ∧ (∀ r i, ys.flatMap rowOf1 = [r] → is = [i] → getR E.rs i = some r) ∧ (∀ r, ys.flatMap rowOf1 = [r] → is = [] → ∃ e s, r = .row e s []) ∧
      ∀ (ρ' : Nat → Value) (M' : Nat → Prop), (∀ k, M' k → k < w.heap.size → Mof M0 (getR E.rs) F k) → (∀ i ∈ is, ρ' 8000 = ρ i) → ((ys.flatMap rowOf1).length ≠ is.length → ρ' 8000 = .slice none 0 0) → All2 (LR C ρ' M' w) (ys.map (unrow1 8000)) vs
  | _, [], ys, is, vs, he, hx => by
    simp only [backLs, Option.some.injEq, Prod.mk.injEq] at he
    obtain ⟨rfl, rfl⟩ := he
    cases hx
    exact ⟨Nat.le_refl _, fun r hr => (by cases hr), fun r i hr => (by cases hr), fun r hr => (by cases hr), fun _ _ _ _ _ => .nil⟩
  | n, x :: xs, ys, is, vs, he, hx => by
    simp only [backLs] at he
    split at he <;> try (cases he; done)
    rename_i y i1 l i2 h1 h2
    obtain ⟨rfl, rfl⟩ := Prod.mk.inj (Option.some.inj he)
    cases hx with
    | cons hx hxs =>
      obtain ⟨q1, q2, q3, q4, q5⟩ := backLs_ok h h2 hxs
      simp only [List.flatMap_cons, List.map_cons]
      split at h1
      · obtain ⟨m, rfl, hm⟩ := backL_ok h h1 hx
        simp only [rowOf1, List.length_append, List.length_singleton, List.singleton_append]
        rcases hm with ⟨i, rfl, g1, g2⟩ | ⟨rfl, rfl, g2⟩
        · refine ⟨by simp only [List.length_cons, List.length_append, List.length_nil, List.nil_append, List.singleton_append]; omega, fun r hr => ?_, fun r i' hr hi => ?_, fun r hr hi => by simp at hi, fun ρ' M' hs h8 hn => .cons ?_ (q5 ρ' M' hs (fun i hi => h8 i (List.mem_cons_of_mem _ hi)) fun hne => hn (by simp only [List.length_cons, List.length_append, List.length_nil, List.nil_append, List.singleton_append]; omega))⟩
          · rcases List.mem_cons.1 hr with rfl | hr
            · exact ⟨_, _, _, rfl⟩
            · exact q2 r hr
          · simp only [List.cons.injEq] at hr
            simp only [List.singleton_append, List.cons.injEq] at hi
            rw [← hi.1, ← hr.1]; exact g1
          · show _ = ρ' 8000
            rw [h8 i (List.mem_cons_self), g2]
        · refine ⟨by simp only [List.length_cons, List.length_append, List.length_nil, List.nil_append, List.singleton_append]; omega, fun r hr => ?_, fun r i' hr hi => ?_, fun r hr hi => ?_, fun ρ' M' hs h8 hn => .cons ?_ (q5 ρ' M' hs (fun i hi => h8 i hi) fun hne => hn (by simp only [List.length_cons, List.length_append, List.length_nil, List.nil_append, List.singleton_append]; omega))⟩
          · rcases List.mem_cons.1 hr with rfl | hr
            · exact ⟨_, _, _, rfl⟩
            · exact q2 r hr
          · simp only [List.cons.injEq] at hr
            simp only [List.nil_append] at hi
            rw [hr.2, hi] at q1
            simp at q1
          · simp only [List.cons.injEq] at hr
            exact ⟨_, _, hr.1.symm⟩
          · show _ = ρ' 8000
            rw [hn (by simp only [List.length_cons, List.length_append, List.length_nil, List.nil_append, List.singleton_append]; omega), g2]
      · split at h1 <;> try (cases h1; done)
        rename_i hp
        cases h1
        have hr1 : rowOf1 x = [] := by cases x <;> first | rfl | (simp [AV.pure1] at hp; done)
        have hu : unrow1 8000 x = x := unrow1_none hr1
        rw [hr1, hu]
        simp only [List.nil_append]
        exact ⟨q1, q2, q3, q4, fun ρ' M' hs h8 hn => .cons (pure1_own hp hx hs) (q5 ρ' M' hs h8 hn)⟩
theorem finRow_ok {E : Env} (h : Rel C M0 w0 (get E.sl) (getR E.rs) ρ F a w) {t : TypeId} {j : Nat} {e : TypeId} {s : Sh} {rv : ResultVar} {av : AV} {is : List Nat} (he : finRow P E t j e s rv = some (av, is)) :
    ∃ v, (resOne a.tmps rv).run P w = .ok v w ∧ is.length ≤ (rowOf2 av).length ∧ (∀ r ∈ rowOf2 av, ∃ e' s' l, r = .row e' s' l) ∧ (∀ r i, rowOf2 av = [r] → is = [i] → getR E.rs i = some r) ∧ (∀ r, rowOf2 av = [r] → is = [] → ∃ e s, r = .row e s []) ∧
      ∀ (ρ' : Nat → Value) (M' : Nat → Prop), (∀ k, M' k → k < w.heap.size → Mof M0 (getR E.rs) F k) → (∀ i ∈ is, ρ' 8000 = ρ i) → ((rowOf2 av).length ≠ is.length → ρ' 8000 = .slice none 0 0) → SR C ρ' M' w (unrow2 8000 av) v := by
  cases rv with
  | cell i t' =>
    simp only [finRow] at he
    split at he <;> try (cases he; done)
    rename_i id hi
    split at he <;> try (cases he; done)
    rename_i u cs ti hr hagg hti
    split at he <;> try (cases he; done)
    rename_i hut
    obtain ⟨rfl, rfl, hsz⟩ := hut
    split at he <;> try (cases he; done)
    rename_i l is' hb
    cases he
    obtain ⟨v, e1, e2⟩ := h.slots i _ hi
    simp only [VR, SR, LR] at e2
    obtain ⟨b, b1, b2⟩ := e2
    obtain ⟨b', cells, r1, r2, r3, r4, r5⟩ := h.res id _ hr
    rw [b1] at r1
    obtain rfl : b = b' := by simpa using r1
    have hcell : ∀ j u, cells.toList[j]? = some u → w.cell? ((⟨b, 0, none⟩ : Addr).add j) = some u := fun j u hj => by
      rw [addr_at]
      simp only [World.cell?, r3, Option.isSome_none, Bool.false_eq_true, if_false]
      simpa using hj
    have e1' : a.tmps.getD i Go.undef = .pointer (some ⟨b, 0, none⟩) := by simp [Array.getD_eq_getD_getElem?, e1, b2]
    have hload := run_loadCells_list (P := P) w ⟨b, 0, none⟩ cells.toList hcell
    rw [← r4.length, ← hsz] at hload
    obtain ⟨q1, q2, q3, q4, q5⟩ := backLs_ok h hb r4
    refine ⟨.agg cells, ?_, q1, q2, q3, q4, fun ρ' M' hs h8 hn => ⟨cells.toList, rfl, q5 ρ' M' hs h8 hn⟩⟩
    simp only [resOne, e1', asAddr, loadVar, Sem.run_bind, Sem.run_pure, Result.andThen_ok, aggOf_true hagg, if_true, sizeOf, typeInfo, run_program, hti, hload]
  | tmp i =>
    simp only [finRow] at he
    split at he <;> try (cases he; done)
    rename_i x hx
    obtain ⟨v, e1, e2⟩ := h.slots i x hx
    have hrun : (resOne a.tmps (.tmp i)).run P w = .ok v w := by simp [resOne, Array.getD_eq_getD_getElem?, e1]
    split at he <;> try (cases he; done)
    · rename_i l hfit
      split at he <;> try (cases he; done)
      rename_i l' is' hb
      cases he
      obtain ⟨cs, rfl, hcs⟩ := e2.ag
      obtain ⟨q1, q2, q3, q4, q5⟩ := backLs_ok h hb hcs
      exact ⟨_, hrun, q1, q2, q3, q4, fun ρ' M' hs h8 hn => ⟨cs, rfl, q5 ρ' M' hs h8 hn⟩⟩
    · rename_i x _ _ hnag hfit
      split at he <;> try (cases he; done)
      rename_i y is' hb
      cases he
      have hxl : okLeaf x = true := by
        unfold aggFit at hfit
        split at hfit
        · exact absurd rfl (hnag _)
        · exact hfit
        · cases hfit
      obtain ⟨q1, q2, q3, q4, q5⟩ := backLs_ok h hb (.cons (e2.toLR hxl) .nil)
      have hy : (∀ l, av ≠ .ag l) ∧ rowOf2 av = [av].flatMap rowOf1 ∧ unrow2 8000 av = unrow1 8000 av := by
        have hh : ∀ m, av ≠ .ag m := by
          intro m em
          have := q5 (fun _ => .slice none 0 0) (fun _ => False) (fun _ f => f.elim)
          subst em
          simp only [backLs] at hb
          split at hb <;> try (cases hb; done)
          rename_i z i1 zl i2 hz1 hz2
          cases hz2
          obtain ⟨e3, _⟩ := Prod.mk.inj (Option.some.inj hb)
          simp only [List.cons.injEq, and_true] at e3
          subst e3
          split at hz1
          · obtain ⟨m', e4, _⟩ := backL_ok h hz1 (e2.toLR hxl)
            cases e4
          · split at hz1 <;> try (cases hz1; done)
            cases hz1
            exact absurd rfl (hnag _)
        refine ⟨hh, ?_, ?_⟩
        · cases av <;> first | (simp [rowOf2]; done) | exact absurd rfl (hh _)
        · cases av <;> first | rfl | exact absurd rfl (hh _)
      rw [hy.2.1]
      refine ⟨v, hrun, q1, q2, q3, q4, fun ρ' M' hs h8 hn => ?_⟩
      rw [hy.2.2]
      have := q5 ρ' M' hs h8 hn
      cases this with
      | cons h1 _ => exact h1.toSR
theorem leaves_pure1 : ∀ (s : Sh) (x : s.T), ∀ a ∈ leaves s x, a.pure1 = true
  | .int _, _, a, h | .bool, _, a, h | .str, _, a, h | .err, _, a, h | .ptr, _, a, h | .rf _, _, a, h | .pt _, _, a, h | .sl _, _, a, h => by
    simp only [leaves, List.mem_singleton] at h; subst h; rfl
  | .pair s t, x, a, h => by
    simp only [leaves, List.mem_append] at h
    exact h.elim (leaves_pure1 s x.1 a) (leaves_pure1 t x.2 a)
theorem data_norow {P : Program} {T : Tabs} {t : TypeId} {l : List AV} {av : AV} (hn : normAV P T t l = some av) : av.pure2 = true := by
  unfold normAV at hn
  split at hn <;> try (cases hn; done)
  rename_i s _
  split at hn <;> try (cases hn; done)
  rename_i x _
  have hall : ∀ y ∈ leaves s x, y.pure1 = true := leaves_pure1 s x
  unfold aggAV at hn
  split at hn
  · obtain rfl := Option.some.inj hn
    exact List.all_eq_true.2 hall
  · rename_i y _ hl
    obtain rfl := Option.some.inj hn
    have := hall y (by rw [hl]; exact List.mem_singleton.2 rfl)
    cases y <;> first | exact this | cases this
  · cases hn
theorem finOne_pure {E : Env} {t : TypeId} {rv : ResultVar} {av : AV} (he : finOne P T E t rv = some av) : av.pure2 = true := by
  cases rv with
  | tmp i =>
    simp only [finOne] at he
    split at he <;> try (cases he; done)
    split at he <;> try (cases he; done)
    exact data_norow he
  | cell i t' =>
    simp only [finOne] at he
    split at he <;> try (cases he; done)
    split at he <;> try (cases he; done)
    split at he <;> try (cases he; done)
    split at he <;> try (cases he; done)
    exact data_norow he
theorem pure2_norow {x : AV} (h : x.pure2 = true) : rowOf2 x = [] := by
  cases x <;> first | rfl | (cases h; done) | skip
  rename_i l
  show l.flatMap rowOf1 = []
  refine List.flatMap_eq_nil_iff.2 fun y hy => ?_
  have := List.all_eq_true.1 h y hy
  cases y <;> first | rfl | cases this
theorem finAll_ok {E : Env} (h : Rel (T.cf β N M0.L) M0 w0 (get E.sl) (getR E.rs) ρ F a w) (hf : Fit P T) {ro : List (Nat × (Nat × (TypeId × Sh)))} : ∀ {n : Nat} {ts : List TypeId} {rvs : List ResultVar} {avs : List AV} {is us : List Nat}, finAll P T ro E n ts rvs = some (avs, is, us) →
    ∃ vs, (rvs.mapM (resOne a.tmps)).run P w = .ok vs w ∧ is.length ≤ (avs.flatMap rowOf2).length ∧ (∀ r ∈ avs.flatMap rowOf2, ∃ e' s' l, r = .row e' s' l) ∧ (∀ r i, avs.flatMap rowOf2 = [r] → is = [i] → getR E.rs i = some r) ∧ (∀ r, avs.flatMap rowOf2 = [r] → is = [] → ∃ e s, r = .row e s []) ∧ (∀ i ∈ us, ∃ st, getR E.rs i = some st ∧ notReg st) ∧
      ∀ (ρ' : Nat → Value) (M' : Nat → Prop), (∀ k, M' k → k < w.heap.size → Mof M0 (getR E.rs) F k) → (∀ i ∈ us, ∀ k, M' k → ¬ F i k) → (∀ i ∈ is, ρ' 8000 = ρ i) → ((avs.flatMap rowOf2).length ≠ is.length → ρ' 8000 = .slice none 0 0) → All2 (SR (T.cf β N M0.L) ρ' M' w) (avs.map (unrow2 8000)) vs
  | _, [], [], avs, is, us, he => by
    simp only [finAll, Option.some.injEq, Prod.mk.injEq] at he
    obtain ⟨rfl, rfl, rfl⟩ := he
    exact ⟨[], by simp, Nat.le_refl _, fun r hr => (by cases hr), fun r i hr => (by cases hr), fun r hr => (by cases hr), fun i hi => (by cases hi), fun _ _ _ _ _ _ => .nil⟩
  | _, [], _ :: _, _, _, _, he => by simp [finAll] at he
  | _, _ :: _, [], _, _, _, he => by simp [finAll] at he
  | n, t :: ts, rv :: rvs, avs, is, us, he => by
    simp only [finAll] at he
    split at he <;> try (cases he; done)
    rename_i x i1 u1 l i2 u2 h1 h2
    obtain ⟨rfl, h3⟩ := Prod.mk.inj (Option.some.inj he)
    obtain ⟨rfl, rfl⟩ := Prod.mk.inj h3
    obtain ⟨vs, e3, q1, q2, q3, q4, q6, q5⟩ := finAll_ok h hf h2
    simp only [List.flatMap_cons, List.map_cons]
    split at h1
    · rename_i j e s hro
      split at h1 <;> try (cases h1; done)
      rename_i x' is' hrow
      cases h1
      obtain ⟨v, e1, p1, p2, p3, p4, p5⟩ := finRow_ok (P := P) h hrow
      refine ⟨v :: vs, by simp [List.mapM_cons, e1, e3], by simp only [List.length_append]; omega, fun r hr => (List.mem_append.1 hr).elim (p2 r) (q2 r), fun r i hr hi => ?_, fun r hr hi => ?_, q6, fun ρ' M' hs hu h8 hn => .cons (p5 ρ' M' hs (fun i hi => h8 i (List.mem_append_left _ hi)) fun hne => hn (by simp only [List.length_append]; omega)) (q5 ρ' M' hs (fun i hi => hu i hi) (fun i hi => h8 i (List.mem_append_right _ hi)) fun hne => hn (by simp only [List.length_append]; omega))⟩
      · rcases List.append_eq_singleton_iff.1 hr with ⟨a1, a2⟩ | ⟨a1, a2⟩
        · rw [a1] at p1
          have hi1 : i1 = [] := List.eq_nil_of_length_eq_zero (by simpa using p1)
          rw [hi1] at hi
          exact q3 r i a2 hi
        · rw [a2] at q1
          have hi2 : i2 = [] := List.eq_nil_of_length_eq_zero (by simpa using q1)
          rw [hi2, List.append_nil] at hi
          exact p3 r i a1 hi
      · obtain ⟨hi1, hi2⟩ := List.append_eq_nil_iff.1 hi
        rcases List.append_eq_singleton_iff.1 hr with ⟨a1, a2⟩ | ⟨a1, a2⟩
        · exact q4 r a2 hi2
        · exact p4 r a1 hi1
    · split at h1 <;> try (cases h1; done)
      rename_i x' hone
      cases h1
      obtain ⟨v, e1, p1, p2⟩ := finOne_ok (P := P) h hf hone
      have hp := finOne_pure hone
      have hr0 := pure2_norow hp
      rw [hr0, unrow2_none hr0]
      simp only [List.nil_append]
      exact ⟨v :: vs, by simp [List.mapM_cons, e1, e3], q1, q2, q3, q4, fun i hi => (List.mem_append.1 hi).elim (p1 i) (q6 i), fun ρ' M' hs hu h8 hn => .cons (p2 ρ' M' hs fun i hi => hu i (List.mem_append_left _ hi)) (q5 ρ' M' hs (fun i hi => hu i (List.mem_append_right _ hi)) h8 hn)⟩
end
def resVal : List Value → Value
  | [v] => v
  | vs => .tuple vs.toArray
theorem results_run {fn : Func} {tmps : Array Value} {vs : List Value} (h : (fn.results.toList.mapM (resOne tmps)).run P w = .ok vs w) :
    (results fn tmps).run P w = .ok (resVal vs) w := by
  have e : results fn tmps = (do
      let vs ← fn.results.mapM (resOne tmps)
      pure (if h : vs.size = 1 then vs[0] else .tuple vs)) := by
    unfold results
    congr 1
  rw [e, Array.mapM_eq_mapM_toList]
  simp only [map_eq_pure_bind, Sem.run_bind, h, Result.andThen_ok, Sem.run_pure]
  match vs with
  | [] => rfl
  | [v] => rfl
  | v :: u :: r => simp [resVal]
def fnOk (P : Program) (f : Nat) : Bool :=
  match P.funcs[f]? with
  | some fn => match fn.body with
    | some c => codeOk fn.ntmps c
    | none => false
  | none => false
theorem argSl_get : ∀ {args : List AV} {n t : Nat} {x : AV}, get (argSl n args) t = some x → n ≤ t ∧ args[t - n]? = some x
  | [], n, t, x, h => by simp [argSl, get] at h
  | y :: r, n, t, x, h => by
    simp only [argSl] at h
    rw [get_cons] at h
    split at h
    · rename_i e; subst e; obtain rfl := Option.some.inj h; exact ⟨Nat.le_refl _, by simp⟩
    · rename_i hne
      obtain ⟨h1, h2⟩ := argSl_get h
      refine ⟨by omega, ?_⟩
      rw [show t - n = (t - (n + 1)) + 1 by omega]
      simpa using h2
end
end Go.Pev
/- The pure evaluator, part Sa: what is left of a frame's things; what the evaluator says, the function does. Own text, over any program. -/
namespace Go.Pev
section
variable {P : Program} {T : Tabs} {C : Cfg} {B : Base} {β : Nat → Value} {N : Nat} {w0 : World} {sl : Nat → Option AV} {rs : Nat → Option RS} {ρ : Nat → Value} {F : Nat → Nat → Prop} {a : Act} {w : World}
def backO (own : Bool) (E : Env) (gone : List Nat) : AV := match own with
  | true => outOf E gone
  | false => .undef
def IsRow (st : RS) : Prop := ∃ e s l, st = .row e s l
def IsNilRow (st : RS) : Prop := ∃ e s, st = .row e s []
def oVal (ρ : Nat → Value) : Option Nat → Value
  | some i => ρ i
  | none => .slice none 0 0
def oFp (F : Nat → Nat → Prop) : Option Nat → Nat → Prop
  | some i => F i
  | none => fun _ => False
theorem Rel.leave (h : Rel C B w0 sl rs ρ F a w) {rs' : Nat → Option RS} {oi : Option Nat} (h8 : ∀ st, rs' 8000 = some st → IsRow st ∧ ((∃ i, oi = some i ∧ rs i = some st) ∨ (oi = none ∧ IsNilRow st))) (h78 : oi = some 7000 → rs' 7000 = none)
    (h7 : ∀ st, rs' 7000 = some st → rs 7000 = some st ∧ IsRow st) (hR : ∀ st, rs' REG = some st → ∃ lk its H, rs REG = some (.reg lk its H) ∧ st = .reg lk [] H) (ho : ∀ i, i ≠ 8000 → i ≠ 7000 → i ≠ REG → rs' i = none) :
    ∃ ρ'' F'', Mem C B w0 rs' ρ'' F'' w ∧ ρ'' 8000 = oVal ρ oi ∧ (∀ k, Mof B rs' F'' k → Mof B rs F k) ∧
      ∀ u st, rs u = some st → notReg st → oi ≠ some u → (u = 7000 → rs' 7000 = none) → ∀ k, Mof B rs' F'' k → ¬ F u k := by
  obtain ⟨G, hG⟩ : ∃ G : Nat → Nat → Prop, ∀ lk its H, rs REG = some (.reg lk its H) → RegG C ρ (Mof B rs F) w (F REG) G lk its H := by
    by_cases hex : ∃ lk its H, rs REG = some (.reg lk its H)
    · obtain ⟨lk, its, H, hr⟩ := hex
      obtain ⟨_, G, hG⟩ := h.res REG _ hr
      refine ⟨G, fun lk' its' H' hr' => ?_⟩
      rw [hr] at hr'
      cases hr'
      exact hG
    · exact ⟨fun _ _ => False, fun lk its H hr => absurd ⟨lk, its, H, hr⟩ hex⟩
  let v8 : Value := oVal ρ oi
  let F8 : Nat → Prop := oFp F oi
  let ρ'' : Nat → Value := fun i => if i = 8000 then v8 else ρ i
  let F'' : Nat → Nat → Prop := fun i => if i = 8000 then F8 else if i = REG then (fun k => ∃ n, G n k) else F i
  have e8 : F'' 8000 = F8 := if_pos rfl
  have eR : F'' REG = fun k => ∃ n, G n k := (if_neg (by decide)).trans (if_pos rfl)
  have e7 : F'' 7000 = F 7000 := (if_neg (by decide)).trans (if_neg (by decide))
  have r8 : ρ'' 8000 = v8 := if_pos rfl
  have ro : ∀ i, i ≠ 8000 → ρ'' i = ρ i := fun i hi => if_neg hi
  -- where a thing comes from
  have src : ∀ id st k, rs' id = some st → F'' id k → ∃ j st0, rs j = some st0 ∧ F j k ∧ (isReg st0 → isReg st) ∧ (id = 8000 → oi = some j ∧ st0 = st) ∧ (id = 7000 → j = 7000) ∧ (id = REG → j = REG) ∧ (id = 8000 ∨ id = 7000 ∨ id = REG) := by
    intro id st k hst hF
    by_cases i8 : id = 8000
    · subst i8
      rw [e8] at hF
      obtain ⟨⟨e, s, l, rfl⟩, hor⟩ := h8 st hst
      rcases hor with ⟨i, rfl, hi⟩ | ⟨rfl, _⟩
      · exact ⟨i, _, hi, hF, fun f => f, fun _ => ⟨rfl, rfl⟩, fun e => absurd e (by decide), fun e => absurd e (by decide), .inl rfl⟩
      · exact hF.elim
    · by_cases i7 : id = 7000
      · subst i7
        rw [e7] at hF
        exact ⟨7000, st, (h7 st hst).1, hF, fun f => f, fun e => absurd e (by decide), fun _ => rfl, fun e => absurd e (by decide), .inr (.inl rfl)⟩
      · by_cases iR : id = REG
        · subst iR
          rw [eR] at hF
          obtain ⟨lk, its, H, hr, rfl⟩ := hR st hst
          exact ⟨REG, _, hr, ((hG lk its H hr).fp k).2 (.inl hF), fun _ => trivial, fun e => absurd e (by decide), fun e => absurd e (by decide), fun _ => rfl, .inr (.inr rfl)⟩
        · rw [ho id i8 i7 iR] at hst; cases hst
  have hsub : ∀ k, Mof B rs' F'' k → Mof B rs F k := by
    rintro k (h0 | ⟨id, st, hst, hF⟩)
    · exact .inl h0
    · obtain ⟨j, st0, h1, h2, _⟩ := src id st k hst hF
      exact .inr ⟨j, st0, h1, h2⟩
  refine ⟨ρ'', F'', { keep := h.keep, m0 := h.m0, wl := h.wl, lsz := h.lsz, res := fun id st hst => ?_, rng := fun id st k hst hF => ?_, disj := fun i j s t k hi hj hij hF hF2 => ?_, one := fun id => ?_, bone := h.bone, ext := h.ext, glob := h.glob, own7 := fun h' => ?_, lkz := fun lk its H h' => ?_ }, r8, hsub, fun u st hu hn h1 h2 k hk hF => ?_⟩
  · by_cases i8 : id = 8000
    · subst i8
      obtain ⟨⟨e, s, l, rfl⟩, hor⟩ := h8 st hst
      rw [e8]
      rcases hor with ⟨i, hoi, hi⟩ | ⟨hoi, e', s', hnil⟩
      · obtain ⟨css, c1, c2, c3⟩ := h.res i _ hi
        have hv : ρ'' 8000 = ρ i := by rw [r8]; show oVal ρ oi = ρ i; rw [hoi]; rfl
        have hF8 : F8 = F i := by show oFp F oi = F i; rw [hoi]; rfl
        exact ⟨css, by rw [hv]; exact c1, fun k => by rw [hv, hF8]; exact c2 k, c3.imp fun x cs hx => RR.step (KeepS.refl _ w) (fun k hk _ => hsub k hk) s x cs hx⟩
      · have hv : ρ'' 8000 = .slice none 0 0 := by rw [r8]; show oVal ρ oi = _; rw [hoi]; rfl
        have hF8 : F8 = fun _ => False := by show oFp F oi = _; rw [hoi]; rfl
        cases hnil
        refine ⟨[], by rw [hv]; exact World.ownsRow_nil w 0 e s.sz, fun k => ?_, .nil⟩
        rw [hv, hF8]
        exact ⟨fun f => f.elim, fun f => by cases f⟩
    · by_cases i7 : id = 7000
      · subst i7
        obtain ⟨h1, e, s, l, rfl⟩ := h7 st hst
        rw [e7]
        exact (h.res 7000 _ h1).step (KeepS.refl (fun _ => False) w) (fun _ f => f.elim) (fun _ _ f => f) (fun k hk _ => hsub k hk) (ro 7000 (by decide)) fun i hi => by cases hi
      · by_cases iR : id = REG
        · subst iR
          obtain ⟨lk, its, H, hr, rfl⟩ := hR st hst
          have hg := (hG lk its H hr).step (KeepS.refl (fun _ => False) w) (fun _ f => f.elim) (fun _ _ f => f) (fun k hk _ => hsub k hk) (ρ' := ρ) fun _ _ => rfl
          rw [eR]
          refine ⟨rfl, G, hg.len, hg.node, hg.lt, hg.disj, fun k => ⟨.inl, fun hk => hk.elim id fun ⟨p, hp, _⟩ => by cases hp⟩, fun p hp => (by cases hp), .nil, hg.lock, fun p hp => (by cases hp)⟩
        · rw [ho id i8 i7 iR] at hst; cases hst
  · obtain ⟨j, st0, h1, h2, h3, _⟩ := src id st k hst hF
    have := h.rng j st0 k h1 h2
    exact ⟨this.1.imp_right fun q => q.imp_left fun q => ⟨h3 q.1, q.2⟩, this.2⟩
  · obtain ⟨p, s0, p1, p2, _, p3, p4, p5, pc⟩ := src i s k hi hF
    obtain ⟨q, t0, q1, q2, _, q3, q4, q5, qc⟩ := src j t k hj hF2
    by_cases hpq : p = q
    · subst hpq
      rcases pc with rfl | rfl | rfl <;> rcases qc with rfl | rfl | rfl
      · exact hij rfl
      · have := (p3 rfl).1
        rw [q4 rfl] at this
        rw [h78 this] at hj; cases hj
      · obtain ⟨⟨e, s', l, hs⟩, _⟩ := h8 s hi
        have e1 := (p3 rfl).2
        obtain ⟨lk, its, H, hr, _⟩ := hR t hj
        rw [q5 rfl, hr] at p1
        cases p1
        rw [hs] at e1; cases e1
      · have := (q3 rfl).1
        rw [p4 rfl] at this
        rw [h78 this] at hi; cases hi
      · exact hij rfl
      · have := (p4 rfl).symm.trans (q5 rfl)
        revert this; decide
      · obtain ⟨⟨e, s', l, hs⟩, _⟩ := h8 t hj
        have e1 := (q3 rfl).2
        obtain ⟨lk, its, H, hr, _⟩ := hR s hi
        rw [p5 rfl, hr] at q1
        cases q1
        rw [hs] at e1; cases e1
      · have := (q4 rfl).symm.trans (p5 rfl)
        revert this; decide
      · exact hij rfl
    · exact h.disj p q s0 t0 k p1 q1 hpq p2 q2
  · by_cases i8 : id = 8000
    · subst i8
      rw [r8]
      show (oVal ρ oi).oneCell' = true
      cases oi with
      | some i => exact h.one i
      | none => rfl
    · rw [ro id i8]; exact h.one id
  · rw [ro 7000 (by decide)]
    obtain ⟨st, hst⟩ := Option.isSome_iff_exists.1 h'
    exact h.own7 (by rw [(h7 st hst).1]; rfl)
  · obtain ⟨lk', its', H', hr, e⟩ := hR _ h'
    cases e
    exact h.lkz _ _ _ hr
  · rcases hk with h0 | ⟨id, st', hst, hF'⟩
    · exact h.notM0 hu hF h0
    · obtain ⟨j, st0, p1, p2, _, p3, p4, p5, pc⟩ := src id st' k hst hF'
      have hju : j ≠ u := by
        rintro rfl
        rcases pc with rfl | rfl | rfl
        · exact h1 (p3 rfl).1
        · rw [h2 (p4 rfl)] at hst; cases hst
        · obtain ⟨lk, its, H, hr, _⟩ := hR _ hst
          have := p5 rfl
          subst this
          rw [hu] at hr
          cases hr
          exact hn
      exact h.disj j u _ _ k p1 hu hju p2 hF
theorem one_vr {C : Cfg} {ρ : Nat → Value} {M : Nat → Prop} {l : List AV} {vs : List Value} (h : All2 (SR C ρ M w) (l.map (unrow2 8000)) vs) :
    VR C ρ M w (unrow 8000 (finish.one l)) (resVal vs) ∧ (∀ a b c, finish.one l ≠ .outs a b c) ∧ rowOf (finish.one l) = l.flatMap rowOf2 := by
  match l, vs, h with
  | [], [], .nil => exact ⟨⟨[], rfl, .nil⟩, fun a b c e => (by cases e), rfl⟩
  | [x], [v], .cons h .nil =>
    have hx : ∀ m, x ≠ .tup m := fun m e => by subst e; exact h.elim
    refine ⟨?_, fun a b c e => ?_, ?_⟩
    · have e : unrow 8000 x = unrow2 8000 x := by cases x <;> first | rfl | exact absurd rfl (hx _)
      show VR C ρ M w (unrow 8000 x) v
      rw [e]; exact h.toVR
    · have e : x = .outs a b c := e
      subst e; exact h.elim
    · show rowOf x = [x].flatMap rowOf2
      have e : rowOf x = rowOf2 x := by cases x <;> first | rfl | exact absurd rfl (hx _)
      rw [e]; simp
  | x :: y :: l, u :: v :: vs, h => exact ⟨⟨u :: v :: vs, rfl, h⟩, fun a b c e => (by cases e), rfl⟩
theorem one_rows {l : List AV} (h : ∀ x ∈ l, ∀ m, x ≠ .tup m) : rowOf (finish.one l) = l.flatMap rowOf2 := by
  match l, h with
  | [], _ => rfl
  | [x], h =>
    have hx := h x List.mem_cons_self
    show rowOf x = [x].flatMap rowOf2
    have e : rowOf x = rowOf2 x := by cases x <;> first | rfl | exact absurd rfl (hx _)
    rw [e]; simp
  | _ :: _ :: _, _ => rfl
theorem backLs_not {E : Env} {j : Nat} {e : TypeId} {s : Sh} : ∀ {i : Nat} {xs ys : List AV} {is : List Nat}, backLs E j e s i xs = some (ys, is) → ∀ y ∈ ys, ∀ m, y ≠ .tup m
  | _, [], ys, is, he, y, hy => by
    simp only [backLs, Option.some.injEq, Prod.mk.injEq] at he
    rw [← he.1] at hy; cases hy
  | n, x :: xs, ys, is, he, y, hy => by
    simp only [backLs] at he
    split at he <;> try (cases he; done)
    rename_i z i1 l i2 h1 h2
    obtain ⟨rfl, rfl⟩ := Prod.mk.inj (Option.some.inj he)
    rcases List.mem_cons.1 hy with rfl | hy
    · intro m em
      subst em
      split at h1
      · unfold backL at h1
        split at h1
        · split at h1 <;> try (cases h1; done)
          split at h1 <;> cases h1
        · cases h1
        · cases h1
      · split at h1 <;> try (cases h1; done)
        rename_i hp
        cases h1
        cases hp
    · exact backLs_not h2 y hy
theorem finAll_not {ro : List (Nat × (Nat × (TypeId × Sh)))} {E : Env} : ∀ {n : Nat} {ts : List TypeId} {rvs : List ResultVar} {avs : List AV} {is us : List Nat}, finAll P T ro E n ts rvs = some (avs, is, us) → ∀ x ∈ avs, ∀ m, x ≠ .tup m
  | _, [], [], avs, is, us, he, x, hx => by
    simp only [finAll, Option.some.injEq, Prod.mk.injEq] at he
    rw [← he.1] at hx; cases hx
  | _, [], _ :: _, _, _, _, he, _, _ => by simp [finAll] at he
  | _, _ :: _, [], _, _, _, he, _, _ => by simp [finAll] at he
  | n, t :: ts, rv :: rvs, avs, is, us, he, x, hx => by
    simp only [finAll] at he
    split at he <;> try (cases he; done)
    rename_i z i1 u1 l i2 u2 h1 h2
    obtain ⟨rfl, h3⟩ := Prod.mk.inj (Option.some.inj he)
    rcases List.mem_cons.1 hx with rfl | hx
    · split at h1
      · split at h1 <;> try (cases h1; done)
        rename_i x' is' hrow
        cases h1
        intro m em
        subst em
        cases rv with
        | cell i t' =>
          simp only [finRow] at hrow
          split at hrow <;> try (cases hrow; done)
          split at hrow <;> try (cases hrow; done)
          split at hrow <;> try (cases hrow; done)
          split at hrow <;> cases hrow
        | tmp i =>
          simp only [finRow] at hrow
          split at hrow <;> try (cases hrow; done)
          split at hrow <;> try (cases hrow; done)
          · split at hrow <;> cases hrow
          · split at hrow <;> try (cases hrow; done)
            rename_i hb
            cases hrow
            exact backLs_not hb _ List.mem_cons_self m rfl
      · split at h1 <;> try (cases h1; done)
        rename_i hone
        cases h1
        have := finOne_pure hone
        intro m em
        subst em
        cases this
    · exact finAll_not h2 x hx
theorem outOf_row {E : Env} {gone : List Nat} {st : RS} (h : backRow (outOf E gone) = some st) : gone.any (Nat.beq 7000) = false ∧ getR E.rs 7000 = some st ∧ IsRow st := by
  unfold outOf at h
  split at h
  · cases h
  · rename_i hg
    split at h
    · rename_i e s l hr
      cases h
      exact ⟨hg, hr, e, s, l, rfl⟩
    · cases h
theorem any_beq {n : Nat} {l : List Nat} (h : l.any (Nat.beq n) = false) : n ∉ l := fun hm => by
  have := List.any_eq_false.1 h n hm
  simp [Nat.beq_refl] at this
theorem inArgs_its {l : List Nat} {its : List (Nat × It)} {H : List Node} : ∀ {args : List AV} {xs : List AV} {ins : Ws}, inArgs args = (xs, ins) → get ins REG = some (some (.reg l its H)) → its = [] := by
  have one : ∀ a : AV, ∀ p ∈ (inArg a).2, p.1 = 7000 := by
    have leaf : ∀ a : AV, ∀ p ∈ (inLeaf a).2, p.1 = 7000 := fun a p hp => by
      cases a <;> first | (cases hp; done) | skip
      rw [List.mem_singleton.1 hp]
    intro a
    cases a <;> try exact leaf _
    rename_i m
    show ∀ p ∈ (inLeaves m).2, p.1 = 7000
    induction m with
    | nil => intro p hp; cases hp
    | cons x m ih =>
      intro p hp
      rcases List.mem_append.1 hp with hp | hp
      · exact leaf x p hp
      · exact ih p hp
  have skip : ∀ (a : AV) (m : Ws), get ((inArg a).2 ++ m) REG = get m REG := fun a m => by
    have := one a
    generalize (inArg a).2 = q at this
    induction q with
    | nil => rfl
    | cons p q ih =>
      rw [List.cons_append, get_cons', if_neg (by rw [this p List.mem_cons_self]; decide)]
      exact ih fun p hp => this p (List.mem_cons_of_mem _ hp)
  intro args
  induction args with
  | nil =>
    intro xs ins h hg
    cases h
    cases hg
  | cons a r ih =>
    intro xs ins h hg
    by_cases hh : ∃ lk H, a = .hin lk H
    · obtain ⟨lk, H', rfl⟩ := hh
      cases h
      rw [get_cons', if_pos rfl] at hg
      cases hg
      rfl
    · have e := inArgs_cons (fun lk H e => hh ⟨lk, H, e⟩) r
      rw [e] at h
      cases h
      rw [skip] at hg
      exact ih rfl hg
theorem leave_ok {C : Cfg} {E : Env} {ins : Ws} (h : Rel C B w0 (get E.sl) (getR E.rs) ρ F a w) {inR : Bool} (hR : inR = true → ∃ H0, get ins REG = some (some (.reg B.lk0 [] H0))) (hnR : inR = false → ∀ l i H, get ins REG ≠ some (some (.reg l i H)))
    {ov oo : AV} {oH : List Node} {is us : List Nat} {own : Bool} (hH : regOf inR E = some oH) (hcl : meets is us = false) (hoi : (rowOf ov = [] ∧ is = []) ∨ (∃ r, rowOf ov = [r] ∧ ((is = [] ∧ IsNilRow r) ∨ ∃ i, is = [i] ∧ getR E.rs i = some r ∧ IsRow r)))
    (hoo : oo = backO own E (is ++ us)) (hus : ∀ i ∈ us, ∃ st, getR E.rs i = some st ∧ notReg st) :
    ∃ ρ'' F'', Mem C B w0 (getR (outW ins (.outs ov oo oH))) ρ'' F'' w ∧ ((rowOf ov).length ≠ is.length → ρ'' 8000 = .slice none 0 0) ∧ (∀ i ∈ is, ρ'' 8000 = ρ i) ∧ (∀ k, Mof B (getR (outW ins (.outs ov oo oH))) F'' k → Mof B (getR E.rs) F k) ∧ ∀ u ∈ us, ∀ k, Mof B (getR (outW ins (.outs ov oo oH))) F'' k → ¬ F u k := by
  have hrs8 : ∀ st, getR (outW ins (.outs ov oo oH)) 8000 = some st → rowOf ov = [st] := by
    intro st hst
    simp only [outW, List.append_assoc] at hst
    rcases hoi with ⟨hr, _⟩ | ⟨r, hr, _⟩
    · unfold outRow at hst
      rw [hr, List.nil_append, outO_skip (by decide)] at hst
      unfold outH at hst
      split at hst
      · rw [getR_cons, if_neg (by decide)] at hst; cases hst
      · cases hst
    · rw [outRow_at hr] at hst
      obtain rfl := Option.some.inj hst
      exact hr
  have hrs7 : ∀ st, getR (outW ins (.outs ov oo oH)) 7000 = some st → backRow oo = some st := by
    intro st hst
    simp only [outW, List.append_assoc] at hst
    rw [outRow_skip (by decide)] at hst
    cases hg : get ins 7000 with
    | none =>
      unfold outO at hst
      rw [hg, List.nil_append] at hst
      unfold outH at hst
      split at hst
      · rw [getR_cons, if_neg (by decide)] at hst; cases hst
      · cases hst
    | some q =>
      rw [outO_at hg] at hst
      exact hst
  have hrsR : ∀ st, getR (outW ins (.outs ov oo oH)) REG = some st → ∃ lk its H0, get ins REG = some (some (.reg lk its H0)) ∧ st = .reg lk [] oH := by
    intro st hst
    simp only [outW, List.append_assoc] at hst
    rw [outRow_skip (by decide), outO_skip (by decide)] at hst
    unfold outH at hst
    split at hst
    · rename_i lk its H0 hg
      rw [getR_cons, if_pos rfl] at hst
      exact ⟨lk, its, H0, hg, (Option.some.inj hst).symm⟩
    · cases hst
  have hrso : ∀ i, i ≠ 8000 → i ≠ 7000 → i ≠ REG → getR (outW ins (.outs ov oo oH)) i = none := by
    intro i h8 h7 hRi
    simp only [outW, List.append_assoc]
    rw [outRow_skip h8, outO_skip h7]
    unfold outH
    split
    · rw [getR_cons, if_neg (Ne.symm hRi)]; rfl
    · rfl
  have h7row : ∀ st, backRow oo = some st → (is ++ us).any (Nat.beq 7000) = false ∧ getR E.rs 7000 = some st ∧ IsRow st := by
    intro st hst
    cases own with
    | true => rw [hoo] at hst; exact outOf_row hst
    | false => rw [hoo] at hst; cases hst
  obtain ⟨oi, ho1, ho2, ho3⟩ : ∃ oi : Option Nat, (∀ st, rowOf ov = [st] → IsRow st ∧ ((∃ i, oi = some i ∧ getR E.rs i = some st) ∨ (oi = none ∧ IsNilRow st))) ∧ (∀ i, oi = some i ↔ i ∈ is) ∧ (oi = none → is = []) := by
    rcases hoi with ⟨hr, hi⟩ | ⟨r, hr, ⟨hi, hn⟩ | ⟨i, hi, hri, hn⟩⟩
    · exact ⟨none, fun st hst => (by rw [hr] at hst; cases hst), fun i => by rw [hi]; simp, fun _ => hi⟩
    · exact ⟨none, fun st hst => by
        rw [hr] at hst
        obtain rfl := (List.cons.inj hst).1
        obtain ⟨e, s, h⟩ := hn
        exact ⟨⟨e, s, [], h⟩, .inr ⟨rfl, e, s, h⟩⟩, fun i => by rw [hi]; simp, fun _ => hi⟩
    · exact ⟨some i, fun st hst => by
        rw [hr] at hst
        obtain rfl := (List.cons.inj hst).1
        exact ⟨hn, .inl ⟨i, rfl, hri⟩⟩, fun j => by rw [hi]; simp [eq_comm], fun e => by cases e⟩
  have h78 : oi = some 7000 → getR (outW ins (.outs ov oo oH)) 7000 = none := by
    intro e
    cases hg : getR (outW ins (.outs ov oo oH)) 7000 with
    | none => rfl
    | some st =>
      have := any_beq (h7row st (hrs7 st hg)).1
      exact absurd (List.mem_append_left _ ((ho2 7000).1 e)) this
  obtain ⟨ρ'', F'', g1, g2, g3, g4⟩ := h.leave (rs' := getR (outW ins (.outs ov oo oH))) (oi := oi) (fun st hst => ho1 st (hrs8 st hst)) h78 (fun st hst => (h7row st (hrs7 st hst)).2) (fun st hst => by
      obtain ⟨lk, its, H0, hg, rfl⟩ := hrsR st hst
      cases inR with
      | false => exact absurd hg (hnR rfl _ _ _)
      | true =>
        obtain ⟨H1, hg1⟩ := hR rfl
        rw [hg1] at hg
        cases hg
        simp only [regOf] at hH
        split at hH
        · rename_i lk' its' H' hr
          obtain rfl := Option.some.inj hH
          have := h.lkz _ _ _ hr
          subst this
          exact ⟨_, its', H', hr, rfl⟩
        · cases hH) hrso
  refine ⟨ρ'', F'', g1, fun hne => ?_, fun i hi => ?_, g3, fun u hu k hk => ?_⟩
  · rw [g2]
    cases oi with
    | none => rfl
    | some i =>
      exfalso
      rcases hoi with ⟨hr, hi⟩ | ⟨r, hr, ⟨hi, _⟩ | ⟨j, hi, _⟩⟩
      · have := (ho2 i).1 rfl; rw [hi] at this; cases this
      · have := (ho2 i).1 rfl; rw [hi] at this; cases this
      · rw [hr, hi] at hne; exact hne rfl
  · rw [g2, (ho2 i).2 hi]; rfl
  · obtain ⟨st, hst, hn⟩ := hus u hu
    refine g4 u st hst hn (fun e => ?_) (fun e => ?_) k hk
    · exact meets_false hcl u ((ho2 u).1 e) hu
    · subst e
      cases hg : getR (outW ins (.outs ov oo oH)) 7000 with
      | none => rfl
      | some st =>
        have := any_beq (h7row st (hrs7 st hg)).1
        exact absurd (List.mem_append_right _ hu) this
theorem leave_none {C : Cfg} (h : Rel C B w0 sl rs ρ F a w) : ∃ ρ'' F'', Mem C B w0 (getR []) ρ'' F'' w ∧ (∀ k, Mof B (getR []) F'' k → B.M0 k) := by
  refine ⟨ρ, F, (h.sub (sl' := fun _ => none) (rs' := getR []) (fun t av e => by cases e) (fun id st e => by cases e)).toMem, ?_⟩
  rintro k (h0 | ⟨id, st, hst, _⟩)
  · exact h0
  · cases hst
theorem evalF_ok (hf : Fit P T) (hsp : SpecsOk P T) (hm : P.follows .mixedOrders = true) {A : Anns} {f : Nat} (hfn : fnOk P f = true) (hO : ∀ c ∈ loopsF P f, OrcOk P T A c) {args : List AV} {res : AV} (h : evalF P T A f args = some res) : Contract P T.toCfg f args res := by
  intro B w ρ F vs hmem hargs
  unfold evalF at h
  unfold fnOk at hfn
  unfold loopsF at hO
  split at h <;> try (cases h; done)
  rename_i fn hfu
  rw [hfu] at hfn hO
  simp only at hfn hO
  split at h <;> try (cases h; done)
  rename_i c hb
  rw [hb] at hfn hO
  simp only at hfn hO
  generalize hin : inArgs args = ia at *
  obtain ⟨xs, ins⟩ := ia
  simp only at h hmem hargs ⊢
  have hsz : (vs.toArray ++ Array.replicate (fn.ntmps - vs.toArray.size) Go.undef).size = vs.length + (fn.ntmps - vs.length) := by simp
  have hok : codeOk (vs.length + (fn.ntmps - vs.length)) c = true := codeOk_mono (by omega) c hfn
  refine calls_of_wp hfu hb ?_
  have hrel : RelEnv T B w ⟨argSl 0 xs, ins⟩ { tmps := vs.toArray ++ Array.replicate (fn.ntmps - vs.toArray.size) Go.undef, defers := [] } w := by
    refine ⟨ρ, F, B.b0, B.n0, ⟨hmem, fun t av ht => ?_, rfl⟩⟩
    obtain ⟨_, h2⟩ := argSl_get ht
    simp only [Nat.sub_zero] at h2
    obtain ⟨v, h3, h4⟩ := hargs.get t av h2
    refine ⟨v, ?_, h4⟩
    rw [Array.getElem?_append_left (by simpa using (List.getElem?_eq_some_iff.1 h3).1)]
    simpa using h3
  have hinR : hasR ins = true → ∃ H0, get ins REG = some (some (.reg B.lk0 [] H0)) := by
    intro hr
    unfold hasR at hr
    split at hr
    · rename_i lk its H0 hg
      have hgr : getR ins REG = some (.reg lk its H0) := by unfold getR; rw [hg]
      have := hmem.lkz _ _ _ hgr
      subst this
      have : its = [] := inArgs_its hin hg
      subst this
      exact ⟨H0, hg⟩
    · cases hr
  have hinN : hasR ins = false → ∀ l i H, get ins REG ≠ some (some (.reg l i H)) := by
    intro hr l i H hg
    unfold hasR at hr
    rw [hg] at hr
    cases hr
  refine wp_mono (evalC_ok hf hsp hm c hok hO B w _ _ res _ w h hrel hsz) fun x a' w' hq => ?_
  obtain ⟨E', h1, ⟨ρ1, F1, β1, N1, h2⟩, _⟩ := hq
  have key : finish.fin P T A fn (hasR ins) E' = some res → a'.defers = [] ∧ ∃ v, (results fn a'.tmps).run P w' = .ok v w' ∧ ∃ v' b n ρ' F', Ending.returned v = .returned v' ∧ VR ((T.toCfg.at b n).lk B.L) ρ' (Mof B (getR (outW ins res)) F') w' (outV res) v' ∧ Mem ((T.toCfg.at b n).lk B.L) B w (getR (outW ins res)) ρ' F' w' := by
    intro hfin
    unfold finish.fin at hfin
    refine ⟨h2.defers, ?_⟩
    split at hfin <;> try (cases hfin; done)
    rename_i l is us hx
    obtain ⟨vs', g1, q1, q2, q3, q4, q6, q5⟩ := finAll_ok h2 hf hx
    cases hA : A.outs with
    | none =>
      rw [hA] at hfin
      simp only at hfin
      split at hfin <;> try (cases hfin; done)
      rename_i hrow
      obtain rfl := Option.some.inj hfin
      obtain ⟨ρ'', F'', m1, m2⟩ := leave_none h2
      have hw := q5 ρ'' (Mof B (getR []) F'') (fun k hk _ => .inl (m2 k hk)) (fun i hi k hk hF => by
        obtain ⟨st, hst, _⟩ := q6 i hi
        exact h2.notM0 hst hF (m2 k hk)) (fun i hi => by cases hi) (fun hne => by
        exfalso
        have := q5 (fun _ => .slice none 0 0) (fun _ => False) (fun _ f => f.elim) (fun _ _ _ f => f.elim) (fun i hi => by cases hi) (fun _ => rfl)
        have := (one_vr this).2.2
        rw [hrow] at this
        rw [← this] at hne
        exact hne rfl)
      obtain ⟨o1, o2, o3⟩ := one_vr hw
      have hov : outV (finish.one l) = finish.one l := by
        generalize finish.one l = z at o2
        cases z <;> first | rfl | exact absurd rfl (o2 _ _ _)
      have how : outW ins (finish.one l) = [] := by
        generalize finish.one l = z at o2
        cases z <;> first | rfl | exact absurd rfl (o2 _ _ _)
      rw [unrow_none hrow] at o1
      refine ⟨_, results_run g1, _, β1, N1, ρ'', F'', rfl, ?_, ?_⟩
      · rw [hov, how]; exact o1
      · rw [how]; exact m1
    | some own =>
      rw [hA] at hfin
      simp only at hfin
      split at hfin <;> try (cases hfin; done)
      rename_i hcl
      have fin_end : ∀ oo, (is = [] ∨ ∃ i, is = [i]) → ((rowOf (finish.one l) = [] ∧ is = []) ∨ ∃ r, rowOf (finish.one l) = [r]) → oo = backO own E' (is ++ us) → outs (hasR ins) E' (finish.one l) oo = some res →
          ∃ v, (results fn a'.tmps).run P w' = .ok v w' ∧ ∃ v' b n ρ' F', Ending.returned v = .returned v' ∧ VR ((T.toCfg.at b n).lk B.L) ρ' (Mof B (getR (outW ins res)) F') w' (outV res) v' ∧ Mem ((T.toCfg.at b n).lk B.L) B w (getR (outW ins res)) ρ' F' w' := by
        intro oo his hro hoo hres
        have hrowl : rowOf (finish.one l) = l.flatMap rowOf2 := one_rows (finAll_not hx)
        unfold outs at hres
        split at hres <;> try (cases hres; done)
        rename_i oH hH
        obtain rfl := Option.some.inj hres
        have hoi : (rowOf (finish.one l) = [] ∧ is = []) ∨ (∃ r, rowOf (finish.one l) = [r] ∧ ((is = [] ∧ IsNilRow r) ∨ ∃ i, is = [i] ∧ getR E'.rs i = some r ∧ IsRow r)) := by
          rcases hro with h0 | ⟨r, h0⟩
          · exact .inl h0
          · refine .inr ⟨r, h0, ?_⟩
            rw [hrowl] at h0
            rcases his with h3 | ⟨i, h3⟩
            · exact .inl ⟨h3, q4 r h0 h3⟩
            · exact .inr ⟨i, h3, q3 r i h0 h3, q2 r (by rw [h0]; exact List.mem_singleton.2 rfl)⟩
        obtain ⟨ρ'', F'', m1, m2, m3, m4, m5⟩ := leave_ok h2 hinR hinN hH hcl hoi hoo q6
        rw [hrowl] at m2
        have hw := q5 ρ'' _ (fun k hk _ => m4 k hk) m5 m3 m2
        exact ⟨_, results_run g1, _, β1, N1, ρ'', F'', rfl, (one_vr hw).1, m1⟩
      rcases hro : rowOf (finish.one l) with _ | ⟨r, _ | ⟨r2, rr⟩⟩ <;> rw [hro] at hfin <;> rcases his : is with _ | ⟨i, _ | ⟨i2, ii⟩⟩ <;> rw [his] at hfin <;> try (cases hfin; done)
      · exact fin_end _ (.inl his) (.inl ⟨hro, his⟩) (by rw [his]; rfl) hfin
      · exact fin_end _ (.inl his) (.inr ⟨r, hro⟩) (by rw [his]; rfl) hfin
      · exact fin_end _ (.inr ⟨i, his⟩) (.inr ⟨r, hro⟩) (by rw [his]; rfl) hfin
  unfold finish at h1
  cases x with
  | normal => exact key h1
  | ret => exact key h1
  | _ => cases h1
end
end Go.Pev
