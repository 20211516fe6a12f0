/- The pure evaluator, part F: one operation in the machine does what its step says. Own text, over any program. -/
import Derived.Test.YtciajnknnoecaaaDoorPevE
namespace Go.Pev

def OpRuns (P : Program) (a : Act) (o : Oper) (w : World) (R : Value → World → Prop) : Prop :=
  (∃ v w', (execOp a.eval o).run P w = .ok (.value v) w' ∧ R v w') ∨
  (∃ w', (execOp a.eval o).run P w = .ok .skip w' ∧ R Go.undef w') ∨
  (∃ f args w1, (execOp a.eval o).run P w = .ok (.enter f args) w1 ∧ Calls P f args w1 fun e w' => ∃ v, e = .returned v ∧ R v w')

theorem OpRuns.wp {P : Program} {a : Act} {o : Oper} {w : World} {R : Value → World → Prop} (h : OpRuns P a o w R) {next : Act → World → Prop} {Q : Exit → Act → World → Prop}
    (hn : ∀ v w', R v w' → next (a.put o.dst v) w') : o.wp P a w next Q := by
  unfold Oper.wp
  rcases h with ⟨v, w', hr, hR⟩ | ⟨w', hr, hR⟩ | ⟨f, args, w1, hr, hc⟩
  · rw [hr]; exact hn _ _ hR
  · rw [hr]; exact hn _ _ hR
  · rw [hr]
    refine hc.mono fun e w' h => ?_
    obtain ⟨v, rfl, hR⟩ := h
    exact hn _ _ hR

/-- A type's zero value and size are its shape's. -/
def TyOk (P : Program) (t : Nat) (s : Sh) : Prop := (P.info? t).map (fun i => (i.zero.map Value.cells, i.size)) = some (some (zeroCells s).toArray, s.sz)
def TysOk (P : Program) : List (Nat × Sh) → Prop
  | [] => True
  | p :: r => TyOk P p.1 p.2 ∧ TysOk P r

theorem TysOk.get {P : Program} : ∀ {l : List (Nat × Sh)}, TysOk P l → ∀ {t : Nat} {s : Sh}, Pev.get l t = some s → TyOk P t s
  | [], _, _, _, h => by simp [Pev.get] at h
  | (k, v) :: r, h, t, s, hg => by
    simp only [Pev.get] at hg
    split at hg
    · rename_i hb
      have := Nat.eq_of_beq_eq_true hb
      subst this
      obtain rfl : v = s := by simpa using hg
      exact h.1
    · exact TysOk.get h.2 hg

theorem TyOk.info {P : Program} {t : Nat} {s : Sh} (h : TyOk P t s) : ∃ i z, P.info? t = some i ∧ i.size = s.sz ∧ i.zero = some z ∧ z.cells = (zeroCells s).toArray := by
  unfold TyOk at h
  cases hi : P.info? t with
  | none => simp [hi] at h
  | some i =>
    simp only [hi, Option.map_some, Option.some.injEq, Prod.mk.injEq] at h
    cases hz : i.zero with
    | none => simp [hz] at h
    | some z => exact ⟨i, z, rfl, h.2, hz, by simpa [hz] using h.1⟩

/-- The hypotheses on a program that all steps want. -/
structure Fit (P : Program) (T : Tabs) : Prop where
  tys : TysOk P T.shs
  errno : P.underlying T.errno = some (.int .i64)
  eqs : T.eqs.all (eqOkB P T.shs) = true
  comp : (P.info? T.errno).map (·.comparable) = some true
  ne : T.errno ≠ T.fptr

section
variable {P : Program} {T : Tabs} {M0 : Nat → Prop} {w0 : World} {sl : Nat → Option AV} {rs : Nat → Option RS} {ρ : Nat → Value} {F : Nat → Nat → Prop} {a : Act} {w : World}

abbrev RelE (T : Tabs) (M0 : Nat → Prop) (w0 : World) (sl : Nat → Option AV) (rs : Nat → Option RS) (a : Act) (w : World) : Prop := ∃ ρ F, Rel T.toCfg M0 w0 sl rs ρ F a w

theorem constAV_rel {C : Cfg} {M : Nat → Prop} {v : Value} {av : AV} (h : constAV v = some av) : VR C ρ M w av v := by
  unfold constAV at h
  split at h <;> simp at h <;> subst h <;> first | rfl | (exact fun _ _ => rfl)

theorem opd_rel (h : Rel T.toCfg M0 w0 sl rs ρ F a w) {x : Operand} {s r s1 r1 : List Nat} {av : AV} (he : ev sl rs (opd x) s r = some (av, s1, r1)) : VR T.toCfg ρ (Mof M0 rs F) w av (a.eval x) := by
  cases x with
  | tmp t =>
    simp only [opd] at he
    obtain ⟨a1, h1, h2⟩ := ev_slot he
    have := ev_ret h2
    simp only [Prod.mk.injEq] at this
    obtain ⟨rfl, _, _⟩ := this
    obtain ⟨v, e1, e2⟩ := h.slots t _ h1
    simp only [Act.eval, Array.getD_eq_getD_getElem?, e1, Option.getD_some]
    exact e2
  | const v =>
    simp only [opd] at he
    obtain ⟨a1, h1, h2⟩ := ev_ofO he
    simp only [Prod.mk.injEq] at h2
    obtain ⟨rfl, _, _⟩ := h2
    exact constAV_rel h1
  | global g => simp [opd, ev] at he
  | func f =>
    simp only [opd] at he
    have := ev_ret he
    simp only [Prod.mk.injEq] at this
    obtain ⟨rfl, _, _⟩ := this
    rfl

theorem updR_nil : updR rs [] = rs := by funext id; simp [updR, get]

/-- An operation that yields a value in the very world. -/
theorem runs_value (h : Rel T.toCfg M0 w0 sl rs ρ F a w) {o : Oper} (hd : ∀ d, o.dst = some d → d < a.tmps.size) {v : Value} {av : AV} (hr : (execOp a.eval o).run P w = .ok (.value v) w) (hv : VR T.toCfg ρ (Mof M0 rs F) w av v) :
    OpRuns P a o w fun v w' => RelE T M0 w0 (updS sl o.dst av) (updR rs []) (a.put o.dst v) w' :=
  .inl ⟨v, w, hr, ρ, F, by rw [updR_nil]; exact h.put o.dst hd av v hv⟩

/-- Nothing speaks of this number yet. -/
structure Fresh (sl : Nat → Option AV) (rs : Nat → Option RS) (d : Nat) : Prop where
  slots : ∀ t av, sl t = some av → av.ment d = false
  res : ∀ id st, rs id = some st → st.ment d = false

theorem get_single (d : Nat) (r : Option RS) (id : Nat) : get [(d, r)] id = if d = id then some r else none := by
  simp only [get]
  by_cases h : d = id
  · subst h; simp [Nat.beq_refl]
  · rw [if_neg h]
    split
    · rename_i hb; exact absurd (Nat.eq_of_beq_eq_true hb) h
    · rfl

theorem updR_single (d : Nat) (st : RS) (id : Nat) : updR rs [(d, some st)] id = if d = id then some st else rs id := by
  simp only [updR, get_single]
  by_cases h : d = id <;> simp [h]

/-- A new block is made, and it is this thing's. -/
theorem runs_new (h : Rel T.toCfg M0 w0 sl rs ρ F a w) {o : Oper} {d : Nat} (hdst : o.dst = some d) (hd : d < a.tmps.size) (hf : Fresh sl rs d) (st : RS) (av : AV) (v : Value) (ob : Obj)
    (hr : (execOp a.eval o).run P w = .ok (.value v) (w.alloc ob)) (hv1 : v.oneCell' = true) (hav : av = .ref d 0 ∨ av = .own d) (hav2 : av = .ref d 0 → v = .pointer (some ⟨w.heap.size, 0, none⟩))
    (hst : ∀ ρ' M', ρ' d = v → (∀ id, st.ment id = true → ρ' id = ρ id) → (∀ k, M' k → k < w.heap.size → Mof M0 rs F k) → ResOk T.toCfg ρ' M' (w.alloc ob) d (fun k => k = w.heap.size) st)
    (hsm : st.ment d = false) :
    OpRuns P a o w fun v w' => RelE T M0 w0 (updS sl o.dst av) (updR rs [(d, some st)]) (a.put o.dst v) w' := by
  refine .inl ⟨v, w.alloc ob, hr, fun id => if id = d then v else ρ id, fun id => if id = d then (fun k => k = w.heap.size) else F id, ?_⟩
  have hsz := h.keep.size
  have base : Rel T.toCfg M0 w0 sl (updR rs [(d, some st)]) (fun id => if id = d then v else ρ id) (fun id => if id = d then (fun k => k = w.heap.size) else F id) a (w.alloc ob) := by
    refine h.upd (fun id => id = d) (KeepS.alloc w ob) (fun _ g => g.elim) (fun id hid => ⟨?_, ?_⟩) (fun t av id ht hm => ?_) (fun id st' hid hst' => ⟨?_, fun i hi => ?_⟩) (fun _ _ _ _ _ _ g => g) (fun id st' hid hst' => ?_) (fun id => ?_)
    · rw [updR_single, if_neg (Ne.symm hid)]
    · simp only [if_neg hid]
    · by_cases e : id = d
      · subst e; rw [hf.slots t av ht] at hm; cases hm
      · simp only [if_neg e]
    · simp only [if_neg hid]
    · by_cases e : i = d
      · subst e; rw [hf.res id st' hst'] at hi; cases hi
      · simp only [if_neg e]
    · subst hid
      rw [updR_single, if_pos rfl] at hst'
      obtain rfl : st = st' := by simpa using hst'
      refine ⟨fun hs => ?_, fun k hk => ?_⟩
      · simp only [if_true]
        refine hst _ _ (by simp) (fun i hi => ?_) hs
        by_cases e : i = id
        · subst e; rw [hsm] at hi; cases hi
        · simp only [if_neg e]
      · simp only [if_true] at hk
        subst hk
        refine ⟨hsz, by simp, fun h' => absurd h' (Nat.lt_irrefl _), fun j t hj ht => ?_⟩
        simp only [if_neg hj]
        rw [updR_single, if_neg (Ne.symm hj)] at ht
        intro hF
        exact absurd (h.rng j t _ ht hF).2 (Nat.lt_irrefl _)
    · by_cases e : id = d
      · simp only [if_pos e]; exact hv1
      · simp only [if_neg e]; exact h.one id
  rw [hdst]
  refine base.put (some d) (fun _ e => by obtain rfl := Option.some.inj e; exact hd) av v ?_
  rcases hav with e | e
  · subst e
    simp only [VR, SR, LR, if_true]
    exact ⟨w.heap.size, hav2 rfl, hav2 rfl⟩
  · subst e
    simp only [VR, SR, LR, if_true]
end

end Go.Pev
