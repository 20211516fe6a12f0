/- The pure evaluator, part E: readings, data and cells. Own text, over any program. -/
import Derived.Test.YtciajnknnoecaaaDoorPevD
namespace Go.Pev

/-! ### readings -/

def ev {α : Type} (sl : Nat → Option AV) (rs : Nat → Option RS) : Rd α → List Nat → List Nat → Option (α × List Nat × List Nat)
  | .ret a, s, r => some (a, s, r)
  | .fail, _, _ => none
  | .slot t f, s, r => match sl t with
    | some a => ev sl rs (f a) (t :: s) r
    | none => none
  | .res id f, s, r => match rs id with
    | some a => ev sl rs (f a) s (id :: r)
    | none => none
  | .br b x y, s, r => match b with
    | true => ev sl rs x s r
    | false => ev sl rs y s r

section
variable {α β : Type} {sl sl' : Nat → Option AV} {rs rs' : Nat → Option RS}

theorem ev_bind (f : α → Rd β) : ∀ (x : Rd α) (s r : List Nat) (y : β × List Nat × List Nat), ev sl rs (x.bind f) s r = some y →
    ∃ a s1 r1, ev sl rs x s r = some (a, s1, r1) ∧ ev sl rs (f a) s1 r1 = some y
  | .ret a, s, r, y, h => ⟨a, s, r, rfl, h⟩
  | .fail, _, _, _, h => by simp [Rd.bind, ev] at h
  | .slot t k, s, r, y, h => by
    simp only [Rd.bind, ev] at h ⊢
    cases ht : sl t with
    | none => simp [ht] at h
    | some a => simp only [ht] at h ⊢; exact ev_bind f (k a) _ _ y h
  | .res t k, s, r, y, h => by
    simp only [Rd.bind, ev] at h ⊢
    cases ht : rs t with
    | none => simp [ht] at h
    | some a => simp only [ht] at h ⊢; exact ev_bind f (k a) _ _ y h
  | .br b u v, s, r, y, h => by
    simp only [Rd.bind, ev] at h ⊢
    cases b
    · exact ev_bind f v _ _ y h
    · exact ev_bind f u _ _ y h

/-- The reads are told: more and more of them. -/
theorem ev_sub : ∀ (x : Rd α) (s r : List Nat) (a : α) (s1 r1 : List Nat), ev sl rs x s r = some (a, s1, r1) → (∀ t, t ∈ s → t ∈ s1) ∧ (∀ t, t ∈ r → t ∈ r1)
  | .ret a, s, r, _, _, _, h => by simp only [ev, Option.some.injEq, Prod.mk.injEq] at h; obtain ⟨_, rfl, rfl⟩ := h; exact ⟨fun _ h => h, fun _ h => h⟩
  | .fail, _, _, _, _, _, h => by simp [ev] at h
  | .slot t k, s, r, a, s1, r1, h => by
    simp only [ev] at h
    cases ht : sl t with
    | none => simp [ht] at h
    | some b => simp only [ht] at h; have := ev_sub (k b) _ _ _ _ _ h; exact ⟨fun u hu => this.1 u (List.mem_cons_of_mem _ hu), this.2⟩
  | .res t k, s, r, a, s1, r1, h => by
    simp only [ev] at h
    cases ht : rs t with
    | none => simp [ht] at h
    | some b => simp only [ht] at h; have := ev_sub (k b) _ _ _ _ _ h; exact ⟨this.1, fun u hu => this.2 u (List.mem_cons_of_mem _ hu)⟩
  | .br b u v, s, r, a, s1, r1, h => by
    simp only [ev] at h
    cases b
    · exact ev_sub v _ _ _ _ _ h
    · exact ev_sub u _ _ _ _ _ h

/-- Only what was read matters. -/
theorem ev_local : ∀ (x : Rd α) (s r : List Nat) (a : α) (s1 r1 : List Nat), ev sl rs x s r = some (a, s1, r1) → (∀ t, t ∈ s1 → sl' t = sl t) → (∀ t, t ∈ r1 → rs' t = rs t) →
    ev sl' rs' x s r = some (a, s1, r1)
  | .ret a, s, r, _, _, _, h, _, _ => h
  | .fail, _, _, _, _, _, h, _, _ => by simp [ev] at h
  | .slot t k, s, r, a, s1, r1, h, hs, hr => by
    simp only [ev] at h ⊢
    cases ht : sl t with
    | none => simp [ht] at h
    | some b =>
      simp only [ht] at h
      have hm := (ev_sub (k b) _ _ _ _ _ h).1 t List.mem_cons_self
      rw [hs t hm, ht]
      exact ev_local (k b) _ _ _ _ _ h hs hr
  | .res t k, s, r, a, s1, r1, h, hs, hr => by
    simp only [ev] at h ⊢
    cases ht : rs t with
    | none => simp [ht] at h
    | some b =>
      simp only [ht] at h
      have hm := (ev_sub (k b) _ _ _ _ _ h).2 t List.mem_cons_self
      rw [hr t hm, ht]
      exact ev_local (k b) _ _ _ _ _ h hs hr
  | .br b u v, s, r, a, s1, r1, h, hs, hr => by
    simp only [ev] at h ⊢
    cases b
    · exact ev_local v _ _ _ _ _ h hs hr
    · exact ev_local u _ _ _ _ _ h hs hr

theorem ev_ret {a : α} {s r : List Nat} {y : α × List Nat × List Nat} (h : ev sl rs (.ret a) s r = some y) : y = (a, s, r) := by simpa [ev] using h.symm
theorem ev_ofO {o : Option α} {s r : List Nat} {y : α × List Nat × List Nat} (h : ev sl rs (Rd.ofO o) s r = some y) : ∃ a, o = some a ∧ y = (a, s, r) := by
  cases o with
  | none => simp [Rd.ofO, ev] at h
  | some a => exact ⟨a, rfl, ev_ret h⟩
theorem ev_slot {t : Nat} {f : AV → Rd α} {s r : List Nat} {y : α × List Nat × List Nat} (h : ev sl rs (.slot t f) s r = some y) : ∃ a, sl t = some a ∧ ev sl rs (f a) (t :: s) r = some y := by
  simp only [ev] at h
  cases ht : sl t with
  | none => simp [ht] at h
  | some a => exact ⟨a, rfl, by simpa [ht] using h⟩
theorem ev_res {t : Nat} {f : RS → Rd α} {s r : List Nat} {y : α × List Nat × List Nat} (h : ev sl rs (.res t f) s r = some y) : ∃ a, rs t = some a ∧ ev sl rs (f a) s (t :: r) = some y := by
  simp only [ev] at h
  cases ht : rs t with
  | none => simp [ht] at h
  | some a => exact ⟨a, rfl, by simpa [ht] using h⟩
theorem ev_br {b : Bool} {x : Rd α} {s r : List Nat} {y : α × List Nat × List Nat} (h : ev sl rs (.br b x .fail) s r = some y) : b = true ∧ ev sl rs x s r = some y := by
  cases b
  · simp [ev] at h
  · exact ⟨rfl, h⟩
end

/-- A run is the reading, then what follows. -/
theorem run_ev {α : Type} (E : Env) : ∀ (x : Rd α) (s r : List Nat) (k : α → List Nat → List Nat → R) (res : AV), x.run E s r k = some res →
    ∃ a s1 r1, ev (get E.sl) (getR E.rs) x s r = some (a, s1, r1) ∧ k a s1 r1 = some res
  | .ret a, s, r, k, res, h => ⟨a, s, r, rfl, h⟩
  | .fail, _, _, _, _, h => by simp [Rd.run] at h
  | .slot t f, s, r, k, res, h => by
    simp only [Rd.run, ev] at h ⊢
    cases ht : get E.sl t with
    | none => simp [ht] at h
    | some a => simp only [ht] at h ⊢; exact run_ev E (f a) _ _ k res h
  | .res t f, s, r, k, res, h => by
    simp only [Rd.run, ev] at h ⊢
    cases ht : getR E.rs t with
    | none => simp [ht] at h
    | some a => simp only [ht] at h ⊢; exact run_ev E (f a) _ _ k res h
  | .br b u v, s, r, k, res, h => by
    simp only [Rd.run, ev] at h ⊢
    cases b
    · exact run_ev E v _ _ k res h
    · exact run_ev E u _ _ k res h

/-! ### data and cells -/

def zeroCells : Sh → List Value
  | .int k => [.int k 0]
  | .bool => [.bool false]
  | .str => [.string ⟨#[]⟩]
  | .err => [.nilIface]
  | .ptr => [.pointer none]
  | .sl _ => [.slice none 0 0]
  | .pair a b => zeroCells a ++ zeroCells b

section
variable {C : Cfg} {ρ : Nat → Value} {M : Nat → Prop} {w : World}

theorem zleaves_rel : ∀ s : Sh, All2 (LR C ρ M w) (zleaves s) (zeroCells s)
  | .int _ => .cons rfl .nil
  | .bool => .cons rfl .nil
  | .str => .cons rfl .nil
  | .err => .cons (fun _ _ => rfl) .nil
  | .ptr => .cons rfl .nil
  | .sl _ => .cons rfl .nil
  | .pair a b => (zleaves_rel a).append (zleaves_rel b)
theorem zleaves_len : ∀ s : Sh, (zleaves s).length = s.sz
  | .int _ | .bool | .str | .err | .ptr | .sl _ => rfl
  | .pair a b => by simp [zleaves, Sh.sz, zleaves_len a, zleaves_len b]
theorem zleaves_ok : ∀ s : Sh, ∀ a ∈ zleaves s, okLeaf a = true
  | .int _ | .bool | .str | .err | .ptr | .sl _ => by simp [zleaves, okLeaf]
  | .pair a b => by
    intro x hx
    simp only [zleaves, List.mem_append] at hx
    exact hx.elim (zleaves_ok a x) (zleaves_ok b x)
theorem leaves_len : ∀ (s : Sh) (x : s.T), (leaves s x).length = s.sz
  | .int _, _ | .bool, _ | .str, _ | .err, _ | .ptr, _ | .sl _, _ => rfl
  | .pair a b, x => by simp [leaves, Sh.sz, leaves_len a, leaves_len b]
theorem leaves_ok : ∀ (s : Sh) (x : s.T), ∀ a ∈ leaves s x, okLeaf a = true
  | .int _, _ | .bool, _ | .str, _ | .err, _ | .ptr, _ | .sl _, _ => by simp [leaves, okLeaf]
  | .pair a b, x => by
    intro y hy
    simp only [leaves, List.mem_append] at hy
    exact hy.elim (leaves_ok a _ y) (leaves_ok b _ y)
theorem leaves_ment : ∀ (s : Sh) (x : s.T) (id : Nat), ∀ a ∈ leaves s x, a.ment1 id = false
  | .int _, _, _ | .bool, _, _ | .str, _, _ | .err, _, _ | .ptr, _, _ | .sl _, _, _ => by simp [leaves, AV.ment1]
  | .pair a b, x, id => by
    intro y hy
    simp only [leaves, List.mem_append] at hy
    exact hy.elim (leaves_ment a _ id y) (leaves_ment b _ id y)

theorem leaves_rel : ∀ (s : Sh) (x : s.T) (cs : List Value), RR C M w s x cs → All2 (LR C ρ M w) (leaves s x) cs
  | .int _, x, cs, e => by simp only [RR] at e; subst e; exact .cons rfl .nil
  | .bool, x, cs, e => by simp only [RR] at e; subst e; exact .cons rfl .nil
  | .str, x, cs, e => by simp only [RR] at e; subst e; exact .cons rfl .nil
  | .err, x, cs, h => by
    simp only [RR] at h
    obtain ⟨v, rfl, h⟩ := h
    exact .cons h .nil
  | .ptr, x, cs, e => by simp only [RR] at e; subst e; exact .cons rfl .nil
  | .sl s, x, cs, h => by
    simp only [RR] at h
    obtain ⟨A, c, rfl, hc, h⟩ := h
    exact .cons ⟨A, c, rfl, hc, h⟩ .nil
  | .pair a b, x, cs, h => by
    have := (leaves_rel a x.1 _ h.1).append (leaves_rel b x.2 _ h.2)
    rw [List.take_append_drop] at this
    exact this

theorem castL_some {s' s : Sh} {l : List s'.T} {x : List s.T} (h : castL s' s l = some x) : ∃ e : s' = s, x = e ▸ l := by
  unfold castL at h
  split at h
  · rename_i e; exact ⟨e, by simpa using h.symm⟩
  · cases h

theorem ofLeaves_rep : ∀ (s : Sh) (l : List AV) (x : s.T) (vs : List Value), ofLeaves s l = some x → All2 (LR C ρ M w) l vs → RR C M w s x vs
  | .int k, l, x, vs, h, hr => by
    simp only [ofLeaves] at h
    split at h <;> simp at h
    obtain ⟨rfl, rfl⟩ := h
    cases hr with | cons h1 h2 => cases h2; simp only [LR] at h1; subst h1; exact rfl
  | .bool, l, x, vs, h, hr => by
    simp only [ofLeaves] at h
    split at h <;> simp at h
    subst h
    cases hr with | cons h1 h2 => cases h2; simp only [LR] at h1; subst h1; exact rfl
  | .str, l, x, vs, h, hr => by
    simp only [ofLeaves] at h
    split at h <;> simp at h
    subst h
    cases hr with | cons h1 h2 => cases h2; simp only [LR] at h1; subst h1; exact rfl
  | .err, l, x, vs, h, hr => by
    simp only [ofLeaves] at h
    split at h <;> simp at h
    subst h
    cases hr with | cons h1 h2 => cases h2; simp only [LR] at h1; exact ⟨_, rfl, h1⟩
  | .ptr, l, x, vs, h, hr => by
    simp only [ofLeaves] at h
    split at h <;> simp at h
    cases hr with | cons h1 h2 => cases h2; simp only [LR] at h1; subst h1; exact rfl
  | .sl s, l, x, vs, h, hr => by
    simp only [ofLeaves] at h
    split at h
    · rename_i s' l'
      obtain ⟨e, rfl⟩ := castL_some h
      subst e
      cases hr with | cons h1 h2 => cases h2; simp only [LR] at h1; obtain ⟨A, c, rfl, hc, hR⟩ := h1; exact ⟨A, c, rfl, hc, hR⟩
    · simp at h
      subst h
      cases hr with | cons h1 h2 => cases h2; simp only [LR] at h1; subst h1; exact ⟨none, 0, rfl, Nat.le_refl _, .inl rfl⟩
    · cases h
  | .pair a b, l, x, vs, h, hr => by
    simp only [ofLeaves] at h
    split at h <;> simp at h
    rename_i x1 y1 h1 h2
    subst h
    have r1 := ofLeaves_rep a _ _ _ h1 (hr.take a.sz)
    have r2 := ofLeaves_rep b _ _ _ h2 (hr.drop a.sz)
    exact ⟨r1, r2⟩
end

end Go.Pev
