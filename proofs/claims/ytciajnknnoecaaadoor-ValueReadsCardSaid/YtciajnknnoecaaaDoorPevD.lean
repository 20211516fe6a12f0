/- The pure evaluator, part D: how a frame and a world stand to an environment. Own text, over any program. -/
import Derived.Test.YtciajnknnoecaaaDoorPevC
namespace Go.Pev

/-- A value of one cell reads as this leaf. 'ρ': what the function's own things are, as values. -/
def LR (C : Cfg) (ρ : Nat → Value) (M : Nat → Prop) (w : World) : AV → Value → Prop
  | .int k n, v => v = .int k n
  | .bool b, v => v = .bool b
  | .str s, v => v = .string s
  | .err e, v => Rob M w (fun w => ErrV C w e v)
  | .sl s l, v => ∃ A c, v = .slice A l.length c ∧ l.length ≤ c ∧ RowR C M w s A l
  | .nsl, v => v = .slice none 0 0
  | .own id, v => v = ρ id
  | .ref id off, v => ∃ b, ρ id = .pointer (some ⟨b, 0, none⟩) ∧ v = .pointer (some ⟨b, off, none⟩)
  | .elt s x off, v => ∃ (ad : Addr) (cs : List Value), v = .pointer (some (ad.add off)) ∧ RR C M w s x cs ∧ Rob M w (fun w => ∀ j u, cs[j]? = some u → w.cell? (ad.add j) = some u)
  | .oelt id sz i off, v => ∃ g n c, ρ id = .slice (some ⟨g, 0, none⟩) n c ∧ v = .pointer (some ⟨g, i.toNat * sz + off, none⟩)
  | .obj id, v => v = ρ id
  | .nilp, v => v = .pointer none
  | .oth, v => ∃ t x, v = .iface t x
  | .iref t id off, v => ∃ b, ρ id = .pointer (some ⟨b, 0, none⟩) ∧ v = .iface t (.pointer (some ⟨b, off, none⟩))
  | .fn f, v => v = .func (.func f) #[] #[]
  | .undef, v => v = Go.undef
  | .ag _, _ => False
  | .tup _, _ => False
  | .objv .., _ => False

def SR (C : Cfg) (ρ : Nat → Value) (M : Nat → Prop) (w : World) : AV → Value → Prop
  | .ag fs, v => ∃ cs : List Value, v = .agg cs.toArray ∧ All2 (LR C ρ M w) fs cs
  | a, v => LR C ρ M w a v

def VR (C : Cfg) (ρ : Nat → Value) (M : Nat → Prop) (w : World) : AV → Value → Prop
  | .tup fs, v => ∃ vs : List Value, v = .tuple vs.toArray ∧ All2 (SR C ρ M w) fs vs
  | a, v => SR C ρ M w a v

section
variable {C : Cfg} {ρ ρ' : Nat → Value} {M M' : Nat → Prop} {w w' : World}

theorem LR.step {a : AV} {v : Value} (h : LR C ρ M w a v) (hk : KeepS M w w') (hs : ∀ k, M' k → k < w.heap.size → M k) (hρ : ∀ id, a.ment1 id = true → ρ' id = ρ id) : LR C ρ' M' w' a v := by
  cases a <;> simp only [LR] at h ⊢ <;> try exact h
  case err e => exact h.step hk hs
  case sl s l => obtain ⟨A, c, h1, h2, h3⟩ := h; exact ⟨A, c, h1, h2, h3.step hk hs⟩
  case own id => rw [hρ id (by simp [AV.ment1, Nat.beq_refl])]; exact h
  case ref id off => rw [hρ id (by simp [AV.ment1, Nat.beq_refl])]; exact h
  case elt s x off => obtain ⟨ad, cs, h1, h2, h3⟩ := h; exact ⟨ad, cs, h1, RR.step hk hs s x cs h2, h3.step hk hs⟩
  case oelt id sz i off => rw [hρ id (by simp [AV.ment1, Nat.beq_refl])]; exact h
  case obj id => rw [hρ id (by simp [AV.ment1, Nat.beq_refl])]; exact h
  case iref t id off => rw [hρ id (by simp [AV.ment1, Nat.beq_refl])]; exact h

theorem LRs.step {l : List AV} {vs : List Value} (h : All2 (LR C ρ M w) l vs) (hk : KeepS M w w') (hs : ∀ k, M' k → k < w.heap.size → M k) (hρ : ∀ id, l.any (AV.ment1 id) = true → ρ' id = ρ id) : All2 (LR C ρ' M' w') l vs :=
  h.imp_mem fun a _ ha hb => hb.step hk hs fun id hid => hρ id (List.any_eq_true.2 ⟨a, ha, hid⟩)

theorem SR.step {a : AV} {v : Value} (h : SR C ρ M w a v) (hk : KeepS M w w') (hs : ∀ k, M' k → k < w.heap.size → M k) (hρ : ∀ id, a.ment2 id = true → ρ' id = ρ id) : SR C ρ' M' w' a v := by
  cases a <;> first
    | (simp only [SR] at h ⊢; exact LR.step h hk hs hρ)
    | (simp only [SR] at h ⊢; obtain ⟨cs, h1, h2⟩ := h; exact ⟨cs, h1, LRs.step h2 hk hs hρ⟩)

theorem VR.step {a : AV} {v : Value} (h : VR C ρ M w a v) (hk : KeepS M w w') (hs : ∀ k, M' k → k < w.heap.size → M k) (hρ : ∀ id, a.ment id = true → ρ' id = ρ id) : VR C ρ' M' w' a v := by
  cases a <;> first
    | (simp only [VR] at h ⊢; exact SR.step h hk hs hρ)
    | (simp only [VR] at h ⊢; obtain ⟨cs, h1, h2⟩ := h; exact ⟨cs, h1, h2.imp_mem fun a _ ha hb => hb.step hk hs fun id hid => hρ id (List.any_eq_true.2 ⟨a, ha, hid⟩)⟩)

/-- Values of no shape at all: at whatever world. -/
theorem LR.flat {a : AV} {v : Value} (hf : a.flat1 = true) (h : LR C ρ M w a v) : LR C ρ' M' w' a v := by
  cases a <;> simp [AV.flat1] at hf <;> exact h
theorem SR.flat {a : AV} {v : Value} (hf : a.flat2 = true) (h : SR C ρ M w a v) : SR C ρ' M' w' a v := by
  cases a <;> first
    | (simp only [SR] at h ⊢; exact LR.flat hf h)
    | (simp only [SR] at h ⊢; obtain ⟨cs, h1, h2⟩ := h; exact ⟨cs, h1, h2.imp_mem fun a _ ha hb => hb.flat (List.all_eq_true.1 hf a ha)⟩)
theorem VR.flat {a : AV} {v : Value} (hf : a.flat = true) (h : VR C ρ M w a v) : VR C ρ' M' w' a v := by
  cases a <;> first
    | (simp only [VR] at h ⊢; exact SR.flat hf h)
    | (simp only [VR] at h ⊢; obtain ⟨cs, h1, h2⟩ := h; exact ⟨cs, h1, h2.imp_mem fun a _ ha hb => hb.flat (List.all_eq_true.1 hf a ha)⟩)

theorem LR.one {a : AV} {v : Value} (ho : okLeaf a = true) (h : LR C ρ M w a v) (hρ : ∀ id, a.ment1 id = true → (ρ id).oneCell' = true) : v.oneCell' = true := by
  cases a <;> simp [okLeaf] at ho <;> simp only [LR] at h
  case err e =>
    have h := h.now
    cases e with
    | none => simp only [ErrV] at h; subst h; rfl
    | some p =>
      obtain ⟨ps, n⟩ := p
      simp only [ErrV] at h
      cases ps with
      | nil => simp only [ErrAt] at h; subst h; rfl
      | cons p ps => simp only [ErrAt] at h; obtain ⟨b, u, rfl, _⟩ := h; rfl
  case sl s l => obtain ⟨A, c, rfl, _⟩ := h; rfl
  case own id => subst h; exact hρ id (by simp [AV.ment1, Nat.beq_refl])
  case ref id off => obtain ⟨b, _, rfl⟩ := h; rfl
  case elt s x off => obtain ⟨ad, cs, rfl, _⟩ := h; rfl
  case oelt id sz i off => obtain ⟨g, n, c, _, rfl⟩ := h; rfl
  case obj id => subst h; exact hρ id (by simp [AV.ment1, Nat.beq_refl])
  case iref t id off => obtain ⟨b, _, rfl⟩ := h; rfl
  case oth => obtain ⟨t, x, rfl⟩ := h; rfl
  all_goals (subst h; rfl)
end

/-- What a function's own thing is in memory; 'F': the blocks that may be written through it. -/
def ResOk (C : Cfg) (ρ : Nat → Value) (M : Nat → Prop) (w : World) (id : Nat) (F : Nat → Prop) : RS → Prop
  | .box t cs => ∃ b cells, ρ id = .pointer (some ⟨b, 0, none⟩) ∧ (∀ k, F k ↔ k = b) ∧ w.heap[b]? = some (.cells cells t (0, 0)) ∧ All2 (LR C ρ M w) cs cells.toList ∧ (∀ a ∈ cs, okLeaf a = true)
  | .row e s l => ∃ css : List (List Value), w.ownsRow 0 e s.sz (ρ id) l.length css.flatten ∧ (∀ k, F k ↔ (ρ id).ownBlock = some k) ∧ All2 (RR C M w s) l css
  | .fro s l => (∃ A c, ρ id = .slice A l.length c ∧ l.length ≤ c ∧ RowR C M w s A l) ∧ ∀ k, ¬ F k
  | .obj .. => False

/-- All that may be written. -/
def Mof (M0 : Nat → Prop) (rs : Nat → Option RS) (F : Nat → Nat → Prop) (k : Nat) : Prop := M0 k ∨ ∃ id st, rs id = some st ∧ F id k

/-- The package-level variables hold what is said, and nobody writes them. -/
def Glob (C : Cfg) (M0 : Nat → Prop) (w0 : World) : Prop := ∀ p ∈ C.glob, p.2.ok w0 p.1 ∧ p.1 < w0.heap.size ∧ ¬ M0 p.1
theorem GV.step {w w' : World} {b : Nat} (h : w'.heap[b]? = w.heap[b]?) : ∀ {g : GV}, g.ok w b → g.ok w' b
  | .is _, ⟨t, fr, hg⟩ => ⟨t, fr, h.trans hg⟩
  | .face, ⟨te, pe, t, fr, hg⟩ => ⟨te, pe, t, fr, h.trans hg⟩
theorem GV.cell {w : World} {b : Nat} {l : List Value} (h : (GV.is l).ok w b) (j : Nat) : w.cell? ⟨b, j, none⟩ = l[j]? := by
  obtain ⟨t, fr, h⟩ := h
  simp [World.cell?, h]

structure Rel (C : Cfg) (M0 : Nat → Prop) (w0 : World) (sl : Nat → Option AV) (rs : Nat → Option RS) (ρ : Nat → Value) (F : Nat → Nat → Prop) (a : Act) (w : World) : Prop where
  keep : KeepS (fun _ => False) w0 w
  m0 : ∀ k, M0 k → k < w0.heap.size
  slots : ∀ t av, sl t = some av → ∃ v, a.tmps[t]? = some v ∧ VR C ρ (Mof M0 rs F) w av v
  res : ∀ id st, rs id = some st → ResOk C ρ (Mof M0 rs F) w id (F id) st
  rng : ∀ id st k, rs id = some st → F id k → w0.heap.size ≤ k ∧ k < w.heap.size
  disj : ∀ i j s t k, rs i = some s → rs j = some t → i ≠ j → F i k → ¬ F j k
  one : ∀ id, (ρ id).oneCell' = true
  defers : a.defers = []
  glob : Glob C M0 w0

def updS (sl : Nat → Option AV) (dst : Option Nat) (v : AV) : Nat → Option AV := fun t => if dst = some t then some v else sl t
def updR (rs : Nat → Option RS) (ws : Ws) : Nat → Option RS := fun id => match get ws id with | some r => r | none => rs id

theorem ResOk.step {C : Cfg} {ρ ρ' : Nat → Value} {M M' : Nat → Prop} {w w' : World} {id : Nat} {F G : Nat → Prop} {st : RS} (h : ResOk C ρ M w id F st) (hk : KeepS G w w') (hG : ∀ k, G k → M k) (hF : ∀ k, F k → ¬ G k)
    (hs : ∀ k, M' k → k < w.heap.size → M k) (hρ0 : ρ' id = ρ id) (hρ : ∀ i, st.ment i = true → ρ' i = ρ i) : ResOk C ρ' M' w' id F st := by
  have hkM : KeepS M w w' := hk.mono fun i _ g => hG i g
  cases st with
  | box t cs =>
    obtain ⟨b, cells, h1, h2, h3, h4, h5⟩ := h
    have hb : b < w.heap.size := by
      rcases Nat.lt_or_ge b w.heap.size with h' | h'
      · exact h'
      · rw [Array.getElem?_eq_none h'] at h3; cases h3
    exact ⟨b, cells, hρ0 ▸ h1, h2, (hk.block b hb (hF b ((h2 b).2 rfl))).trans h3, LRs.step h4 hkM hs hρ, h5⟩
  | row e s l =>
    obtain ⟨css, h1, h2, h3⟩ := h
    refine ⟨css, ?_, fun k => by rw [h2 k, hρ0], h3.imp fun x cs hx => RR.step hkM hs s x cs hx⟩
    rw [hρ0]
    refine ⟨h1.1, ?_⟩
    rcases h1.2 with h | ⟨g, cap, cur, hv, hg, hh, r⟩
    · exact .inl h
    · have hb : g < w.heap.size := by
        rcases Nat.lt_or_ge g w.heap.size with h' | h'
        · exact h'
        · rw [Array.getElem?_eq_none h'] at hh; cases hh
      exact .inr ⟨g, cap, cur, hv, hg, (hk.block g hb (hF g ((h2 g).2 (by rw [hv]; rfl)))).trans hh, r⟩
  | fro s l =>
    obtain ⟨⟨A, c, h1, h2, h3⟩, h4⟩ := h
    exact ⟨⟨A, c, hρ0 ▸ h1, h2, h3.step hkM hs⟩, h4⟩
  | obj k s m => exact h.elim

theorem Rel.upd {C : Cfg} {M0 : Nat → Prop} {w0 : World} {sl : Nat → Option AV} {rs rs' : Nat → Option RS} {ρ ρ' : Nat → Value} {F F' : Nat → Nat → Prop} {a : Act} {w w' : World} {G : Nat → Prop}
    (h : Rel C M0 w0 sl rs ρ F a w) (U : Nat → Prop) (hk : KeepS G w w') (hGM : ∀ k, G k → Mof M0 rs F k ∧ w0.heap.size ≤ k)
    (hn : ∀ id, ¬ U id → rs' id = rs id ∧ F' id = F id)
    (hρs : ∀ t av id, sl t = some av → av.ment id = true → ρ' id = ρ id)
    (hρr : ∀ id st, ¬ U id → rs id = some st → ρ' id = ρ id ∧ ∀ i, st.ment i = true → ρ' i = ρ i)
    (hGo : ∀ id st k, ¬ U id → rs id = some st → F id k → ¬ G k)
    (hu : ∀ id st, U id → rs' id = some st → ((∀ k, Mof M0 rs' F' k → k < w.heap.size → Mof M0 rs F k) → ResOk C ρ' (Mof M0 rs' F') w' id (F' id) st) ∧
      ∀ k, F' id k → w0.heap.size ≤ k ∧ k < w'.heap.size ∧ (k < w.heap.size → Mof M0 rs F k) ∧ ∀ j t, j ≠ id → rs' j = some t → ¬ F' j k)
    (h1 : ∀ id, (ρ' id).oneCell' = true) : Rel C M0 w0 sl rs' ρ' F' a w' := by
  have hsub : ∀ k, Mof M0 rs' F' k → k < w.heap.size → Mof M0 rs F k := by
    intro k hk1 hk2
    rcases hk1 with h0 | ⟨id, st, hst, hF⟩
    · exact .inl h0
    · by_cases hU : U id
      · exact ((hu id st hU hst).2 k hF).2.2.1 hk2
      · obtain ⟨e1, e2⟩ := hn id hU
        exact .inr ⟨id, st, e1 ▸ hst, e2 ▸ hF⟩
  have hkM : KeepS (Mof M0 rs F) w w' := hk.mono fun i _ g => (hGM i g).1
  refine ⟨h.keep.trans2 hk (fun i hi g => ?_), h.m0, fun t av ht => ?_, fun id st hst => ?_, fun id st k hst hF => ?_, fun i j s t k hi hj hij hF => ?_, h1, h.defers, h.glob⟩
  · have := (hGM i g).2; omega
  · obtain ⟨v, e1, e2⟩ := h.slots t av ht
    exact ⟨v, e1, e2.step hkM hsub fun id hid => hρs t av id ht hid⟩
  · by_cases hU : U id
    · exact (hu id st hU hst).1 hsub
    · obtain ⟨e1, e2⟩ := hn id hU
      rw [e2]
      have hst' := e1 ▸ hst
      obtain ⟨r1, r2⟩ := hρr id st hU hst'
      exact (h.res id st hst').step hk (fun k g => (hGM k g).1) (fun k hF => hGo id st k hU hst' hF) hsub r1 r2
  · by_cases hU : U id
    · obtain ⟨b1, b2, _⟩ := (hu id st hU hst).2 k hF; exact ⟨b1, b2⟩
    · obtain ⟨e1, e2⟩ := hn id hU
      obtain ⟨b1, b2⟩ := h.rng id st k (e1 ▸ hst) (e2 ▸ hF)
      exact ⟨b1, Nat.lt_of_lt_of_le b2 hk.size⟩
  · by_cases hUi : U i
    · exact ((hu i s hUi hi).2 k hF).2.2.2 j t (Ne.symm hij) hj
    · by_cases hUj : U j
      · intro hF2; exact ((hu j t hUj hj).2 k hF2).2.2.2 i s hij hi hF
      · obtain ⟨e1, e2⟩ := hn i hUi
        obtain ⟨e3, e4⟩ := hn j hUj
        rw [e4]
        exact h.disj i j s t k (e1 ▸ hi) (e3 ▸ hj) hij (e2 ▸ hF)

theorem Rel.put {C : Cfg} {M0 : Nat → Prop} {w0 : World} {sl : Nat → Option AV} {rs : Nat → Option RS} {ρ : Nat → Value} {F : Nat → Nat → Prop} {a : Act} {w : World} (h : Rel C M0 w0 sl rs ρ F a w)
    (dst : Option Nat) (hd : ∀ d, dst = some d → d < a.tmps.size) (av : AV) (v : Value) (hv : VR C ρ (Mof M0 rs F) w av v) : Rel C M0 w0 (updS sl dst av) rs ρ F (a.put dst v) w := by
  refine ⟨h.keep, h.m0, fun t av' ht => ?_, h.res, h.rng, h.disj, h.one, ?_, h.glob⟩
  · cases dst with
    | none => simp only [updS] at ht; obtain ⟨u, e1, e2⟩ := h.slots t av' (by simpa using ht); exact ⟨u, e1, e2⟩
    | some d =>
      simp only [updS, Option.some.injEq] at ht
      by_cases hdt : d = t
      · subst hdt
        rw [if_pos rfl] at ht
        obtain rfl : av = av' := by simpa using ht
        exact ⟨v, by simp [Act.put, hd d rfl], hv⟩
      · rw [if_neg hdt] at ht
        obtain ⟨u, e1, e2⟩ := h.slots t av' ht
        exact ⟨u, by simp [Act.put, Array.getElem?_setIfInBounds_ne hdt, e1], e2⟩
  · cases dst <;> exact h.defers

/-- Nothing of one's own is touched. -/
theorem Rel.world {C : Cfg} {M0 : Nat → Prop} {w0 : World} {sl : Nat → Option AV} {rs : Nat → Option RS} {ρ : Nat → Value} {F : Nat → Nat → Prop} {a : Act} {w w' : World} (h : Rel C M0 w0 sl rs ρ F a w)
    (hk : KeepS (fun _ => False) w w') : Rel C M0 w0 sl rs ρ F a w' :=
  h.upd (fun _ => False) hk (fun _ g => g.elim) (fun _ _ => ⟨rfl, rfl⟩) (fun _ _ _ _ _ => rfl) (fun _ _ _ _ => ⟨rfl, fun _ _ => rfl⟩) (fun _ _ _ _ _ _ g => g) (fun _ _ u => u.elim) h.one

section
variable {C : Cfg} {M0 : Nat → Prop} {w0 : World} {sl sl' : Nat → Option AV} {rs rs' : Nat → Option RS} {ρ : Nat → Value} {F : Nat → Nat → Prop} {a : Act} {w : World}

theorem Rel.slot (h : Rel C M0 w0 sl rs ρ F a w) {t : Nat} {v : Value} {av : AV} (hv : a.tmps[t]? = some v) (hr : VR C ρ (Mof M0 rs F) w av v) : Rel C M0 w0 (updS sl (some t) av) rs ρ F a w := by
  refine ⟨h.keep, h.m0, fun t' av' ht => ?_, h.res, h.rng, h.disj, h.one, h.defers, h.glob⟩
  by_cases e : some t = some t'
  · obtain rfl := Option.some.inj e
    simp only [updS, if_true, Option.some.injEq] at ht
    subst ht
    exact ⟨v, hv, hr⟩
  · have e2 : updS sl (some t) av t' = sl t' := by simp only [updS]; rw [if_neg e]
    rw [e2] at ht
    exact h.slots t' av' ht

theorem Rel.sub (h : Rel C M0 w0 sl rs ρ F a w) (hs : ∀ t av, sl' t = some av → sl t = some av) (hr : ∀ id st, rs' id = some st → rs id = some st) : Rel C M0 w0 sl' rs' ρ F a w := by
  have hM : ∀ k, Mof M0 rs' F k → k < w.heap.size → Mof M0 rs F k := by
    rintro k (h0 | ⟨id, st, hst, hF⟩) _
    · exact .inl h0
    · exact .inr ⟨id, st, hr id st hst, hF⟩
  refine ⟨h.keep, h.m0, fun t av ht => ?_, fun id st hst => ?_, fun id st k hst => h.rng id st k (hr id st hst), fun i j s t k hi hj => h.disj i j s t k (hr i s hi) (hr j t hj), h.one, h.defers, h.glob⟩
  · obtain ⟨v, e1, e2⟩ := h.slots t av (hs t av ht)
    exact ⟨v, e1, e2.step (KeepS.refl _ _) hM fun _ _ => rfl⟩
  · exact (h.res id st (hr id st hst)).step (KeepS.refl (fun _ => False) _) (fun _ g => g.elim) (fun _ _ g => g) hM rfl fun _ _ => rfl

end

end Go.Pev
