/- The pure evaluator, part L: operators. Own text, over any program. -/
import Derived.Test.YtciajnknnoecaaaDoorPevK
import Derived.Laws.StructEq
namespace Go.Pev

/-- The cells of flat data. -/
def fcells : (s : Sh) → s.T → List Value
  | .int k, x => [.int k x]
  | .bool, x => [.bool x]
  | .str, x => [.string x]
  | .err, _ => []
  | .ptr, _ => []
  | .sl _, _ => []
  | .pair a b, x => fcells a x.1 ++ fcells b x.2

theorem fcells_len : ∀ (s : Sh) (x : s.T), s.flat = true → (fcells s x).length = s.sz
  | .int _, _, _ | .bool, _, _ | .str, _, _ => rfl
  | .err, _, h => by simp [Sh.flat] at h
  | .ptr, _, h => by simp [Sh.flat] at h
  | .sl _, _, h => by simp [Sh.flat] at h
  | .pair a b, x, h => by
    simp only [Sh.flat, Bool.and_eq_true] at h
    simp [fcells, Sh.sz, fcells_len a x.1 h.1, fcells_len b x.2 h.2]

theorem RR.fcells {C : Cfg} {M : Nat → Prop} {w : World} : ∀ (s : Sh) (x : s.T) (cs : List Value), s.flat = true → RR C M w s x cs → cs = Pev.fcells s x
  | .int _, _, _, _, h => h
  | .bool, _, _, _, h => h
  | .str, _, _, _, h => h
  | .err, _, _, hf, _ => by simp [Sh.flat] at hf
  | .ptr, _, _, hf, _ => by simp [Sh.flat] at hf
  | .sl _, _, _, hf, _ => by simp [Sh.flat] at hf
  | .pair a b, x, cs, hf, h => by
    simp only [Sh.flat, Bool.and_eq_true] at hf
    have h1 := RR.fcells a x.1 _ hf.1 h.1
    have h2 := RR.fcells b x.2 _ hf.2 h.2
    rw [← List.take_append_drop a.sz cs, h1, h2]
    rfl

/-- A value of flat data of this type. -/
def IsVal (P : Program) (t : TypeId) (s : Sh) (x : s.T) (v : Value) : Prop := (aggOf P t = some true ∧ v = .agg (fcells s x).toArray) ∨ (aggOf P t = some false ∧ fcells s x = [v])

section
variable {P : Program} {shs : List (Nat × Sh)} {w : World}

/-- One value out of cells at a place. -/
theorem part_ok (ht : TysOk P shs) {t : TypeId} {s : Sh} (hs : get shs t = some s) (hf : s.flat = true) {x : s.T} {v : Value} (hv : IsVal P t s x v) (l r : List Value) : (part t (l ++ (fcells s x ++ r)).toArray l.length).run P w = .ok v w := by
  obtain ⟨i, z, hi, hsz, _⟩ := (ht.get hs).info
  have hlen := fcells_len s x hf
  rcases hv with ⟨ha, rfl⟩ | ⟨ha, h1⟩
  · simp only [part, Sem.run_bind, aggOf_true ha, Result.andThen_ok, if_true, sizeOf, typeInfo, run_program, hi, Sem.run_pure, hsz]
    congr 2
    apply Array.ext'
    simp only [List.extract_toArray, List.toList_toArray, List.extract_eq_take_drop]
    rw [List.drop_left, show l.length + s.sz - l.length = (fcells s x).length by omega, List.take_left]
  · simp only [part, Sem.run_bind, aggOf_false ha, Result.andThen_ok, Bool.false_eq_true, if_false, h1]
    simp

theorem eqFields_ok (ht : TysOk P shs) {chk : TypeId → Sh → Bool} {D : Nat} (ih : ∀ t s, chk t s = true → s.flat = true → ∀ x y, ∃ vx vy, IsVal P t s x vx ∧ IsVal P t s y vy ∧ (Op.equalIn D t vx vy).run P w = .ok (eqB s x y) w) :
    ∀ (fs : List Field) (s : Sh) (off : Nat), eqChkF chk shs fs s off = true → s.flat = true → ∀ (x y : s.T) (l m : List Value), l.length = off → m.length = off →
      (Op.eqFields D (l ++ fcells s x).toArray (m ++ fcells s y).toArray fs).run P w = .ok (eqB s x y) w
  | [], _, _, h, _, _, _, _, _, _, _ => by simp [eqChkF] at h
  | [f], s, off, h, hf, x, y, l, m, hl, hm => by
    simp only [eqChkF, Bool.and_eq_true, bne_iff_ne, ne_eq, beq_iff_eq, decide_eq_true_eq] at h
    obtain ⟨⟨⟨h1, h2⟩, h3⟩, h4⟩ := h
    obtain ⟨vx, vy, e1, e2, e3⟩ := ih _ _ h3 hf x y
    have p1 := part_ok (w := w) ht h4 hf e1 l []
    have p2 := part_ok (w := w) ht h4 hf e2 m []
    rw [List.append_nil, hl] at p1
    rw [List.append_nil, hm] at p2
    simp only [Op.eqFields, ne_eq, h1, not_false_eq_true, if_true, Sem.run_bind, h2, p1, p2, Result.andThen_ok, e3]
    cases eqB s x y <;> simp
  | f :: g :: fs, s, off, h, hf, x, y, l, m, hl, hm => by
    cases s with
    | pair a b =>
      simp only [eqChkF, Bool.and_eq_true, bne_iff_ne, ne_eq, beq_iff_eq, decide_eq_true_eq] at h
      obtain ⟨⟨⟨⟨h1, h2⟩, h3⟩, h4⟩, h5⟩ := h
      simp only [Sh.flat, Bool.and_eq_true] at hf
      obtain ⟨vx, vy, e1, e2, e3⟩ := ih _ _ h3 hf.1 x.1 y.1
      have p1 := part_ok (w := w) ht h4 hf.1 e1 l (fcells b x.2)
      have p2 := part_ok (w := w) ht h4 hf.1 e2 m (fcells b y.2)
      rw [hl] at p1
      rw [hm] at p2
      have rest := eqFields_ok ht ih (g :: fs) b (off + a.sz) h5 hf.2 x.2 y.2 (l ++ fcells a x.1) (m ++ fcells a y.1) (by simp [hl, fcells_len a x.1 hf.1]) (by simp [hm, fcells_len a y.1 hf.1])
      rw [List.append_assoc, List.append_assoc] at rest
      rw [Op.eqFields]
      simp only [ne_eq, h1, not_false_eq_true, if_true, Sem.run_bind, h2, fcells, p1, p2, Result.andThen_ok, e3, eqB]
      cases eqB a x.1 y.1
      · simp
      · simpa using rest
    | _ => simp [eqChkF] at h

theorem eqIn_ok (ht : TysOk P shs) : ∀ (d : Nat) (t : TypeId) (s : Sh), eqChk P shs d t s = true → s.flat = true → ∀ (D : Nat), d ≤ D → ∀ (w : World) (x y : s.T), ∃ vx vy, IsVal P t s x vx ∧ IsVal P t s y vy ∧ (Op.equalIn D t vx vy).run P w = .ok (eqB s x y) w
  | 0, _, _, h, _, _, _, _, _, _ => by simp [eqChk] at h
  | d + 1, t, s, h, hf, D, hD, w, x, y => by
    obtain ⟨D, rfl⟩ : ∃ n, D = n + 1 := ⟨D - 1, by omega⟩
    simp only [eqChk] at h
    split at h
    · rename_i k hu
      have ha : aggOf P t = some false := by simp [aggOf, hu]
      cases s with
      | int k' => exact ⟨_, _, .inr ⟨ha, rfl⟩, .inr ⟨ha, rfl⟩, by simp [Op.equalIn, underlying, hu, eqB]⟩
      | _ => cases h
    · rename_i hu
      have ha : aggOf P t = some false := by simp [aggOf, hu]
      have := of_decide_eq_true h
      subst this
      exact ⟨_, _, .inr ⟨ha, rfl⟩, .inr ⟨ha, rfl⟩, by simp [Op.equalIn, underlying, hu, eqB]⟩
    · rename_i hu
      have ha : aggOf P t = some false := by simp [aggOf, hu]
      have := of_decide_eq_true h
      subst this
      exact ⟨_, _, .inr ⟨ha, rfl⟩, .inr ⟨ha, rfl⟩, by simp [Op.equalIn, underlying, hu, eqB, beq_toListBytes]⟩
    · rename_i fs hu
      simp only [Bool.and_eq_true, Bool.not_eq_true'] at h
      have ha : aggOf P t = some true := by simp [aggOf, hu]
      have hfo : P.fieldsOf t = fs := by simp [Program.fieldsOf, hu]
      refine ⟨_, _, .inl ⟨ha, rfl⟩, .inl ⟨ha, rfl⟩, ?_⟩
      rw [run_equalIn_struct (P := P) w D t _ _ (by rw [hfo]; exact hu) h.1, hfo]
      have := eqFields_ok (w := w) ht (D := D) (fun t s hc hf x y => eqIn_ok ht d t s hc hf D (by omega) w x y) fs.toList s 0 h.2 hf x y [] [] rfl rfl
      simpa using this
    · cases h

theorem eqStruct_ok (ht : TysOk P shs) {t : TypeId} (hok : eqOkB P shs t = true) {s : Sh} (hs : get shs t = some s) (hf : s.flat = true) (x y : s.T) (cx cy : Operand) :
    ((do eqGuard .eql t cx cy (.agg (fcells s x).toArray) (.agg (fcells s y).toArray); binOp .eql t (.agg (fcells s x).toArray) (.agg (fcells s y).toArray)) : Sem Value).run P w = .ok (.bool (eqB s x y)) w ∧
    ((do eqGuard .neq t cx cy (.agg (fcells s x).toArray) (.agg (fcells s y).toArray); binOp .neq t (.agg (fcells s x).toArray) (.agg (fcells s y).toArray)) : Sem Value).run P w = .ok (.bool !(eqB s x y)) w := by
  simp only [eqOkB, hs, Bool.and_eq_true, Bool.not_eq_true', decide_eq_true_eq] at hok
  obtain ⟨⟨h1, h2⟩, h3⟩ := hok
  obtain ⟨vx, vy, e1, e2, e3⟩ := eqIn_ok ht 6 t s h1 hf Op.maxDepth (by decide) w x y
  rcases e1 with ⟨_, rfl⟩ | ⟨e, _⟩
  · rcases e2 with ⟨_, rfl⟩ | ⟨e, _⟩
    · constructor <;> simp [eqGuard, h2, binOp, Op.equal, e3]
    · rw [h3] at e; cases e
  · rw [h3] at e; cases e

end

end Go.Pev
