/- The pure evaluator, part M: binary operators, written out. Own text, over any program. -/
import Derived.Test.YtciajnknnoecaaaDoorPevL
namespace Go.Pev

section
variable {P : Program} {T : Tabs} {M0 : Nat → Prop} {w0 : World} {sl : Nat → Option AV} {rs : Nat → Option RS} {ρ : Nat → Value} {F : Nat → Nat → Prop} {a : Act} {w : World} {o : Oper} {out : Out} {s r s1 r1 : List Nat}

theorem intBin_ok {op : BinOp} {k k' : IntKind} {x y : Int} {av : AV} (h : intBin op k x y = some av) (hk : op = .shl ∨ op = .shr ∨ k' = k) (t : TypeId) : ∃ v, (binOp op t (.int k x) (.int k' y)).run P w = .ok v w ∧ ∀ {C : Cfg} {ρ : Nat → Value} {M : Nat → Prop}, VR C ρ M w av v := by
  by_cases hs : op = .shl ∨ op = .shr
  · rcases hs with rfl | rfl <;> simp only [intBin] at h <;> split at h <;> simp at h <;> subst h
    · rename_i n
      refine ⟨.int k _, ?_, rfl⟩
      simp [binOp, Op.shift]
      omega
    · rename_i n
      refine ⟨.int k _, ?_, rfl⟩
      simp [binOp, Op.shift]
      omega
  · have hk' : k' = k := by rcases hk with h | h | h <;> first | exact h | exact absurd (Or.inl h) hs | exact absurd (Or.inr h) hs
    subst hk'
    cases op <;> simp only [intBin] at h <;> try (cases h; done)
    all_goals try (simp at hs; done)
    case quo =>
      split at h <;> simp at h
      subst h
      refine ⟨.int k' _, ?_, rfl⟩
      simp [binOp, Op.intDiv]
      omega
    case rem =>
      split at h <;> simp at h
      subst h
      refine ⟨.int k' _, ?_, rfl⟩
      simp [binOp, Op.intDiv]
      omega
    all_goals (simp only [Option.some.injEq] at h; subst h; refine ⟨_, ?_, rfl⟩; simp [binOp, Op.intArith, Op.intBits, Op.intCmp])

theorem strBin_ok {op : BinOp} {x y : ByteArray} {av : AV} (h : ev sl rs (strBin op x y) s r = some (av, s1, r1)) (t : TypeId) : ∃ v, (binOp op t (.string x) (.string y)).run P w = .ok v w ∧ ∀ {C : Cfg} {ρ : Nat → Value} {M : Nat → Prop}, VR C ρ M w av v := by
  cases op <;> simp only [strBin] at h <;> try (simp [ev] at h; done)
  case add =>
    obtain ⟨b, h2⟩ := ev_br h
    have := ev_ret h2
    simp only [Prod.mk.injEq] at this
    obtain ⟨rfl, _, _⟩ := this
    simp only [decide_eq_true_eq] at b
    refine ⟨.string (x ++ y), ?_, rfl⟩
    have hm : IntKind.i64.max = 9223372036854775807 := by decide
    have : ¬ (((x.size + y.size : Nat) : Int) > IntKind.i64.max) := by rw [hm]; omega
    simp only [binOp, Op.stringOp, this, if_false]
    rfl
  all_goals
    have := ev_ret h
    simp only [Prod.mk.injEq] at this
    obtain ⟨rfl, _, _⟩ := this
    refine ⟨_, ?_, rfl⟩
    simp [binOp, Op.stringOp]

theorem guard_skip {op : BinOp} {t : TypeId} {cx cy : Operand} {u v : Value} (h : (∀ xs ys, u = .agg xs → v = .agg ys → False) ∧ (u = .nilIface → v = .nilIface → (∃ c, cx = .const c) ∨ (∃ c, cy = .const c))) : (eqGuard op t cx cy u v).run P w = .ok () w := by
  obtain ⟨h1, h2⟩ := h
  have rest : ∀ op, op = .eql ∨ op = .neq → (eqGuard op t cx cy u v).run P w = .ok () w := by
    intro op hop
    unfold eqGuard
    rcases hop with rfl | rfl <;> simp only [Bool.not_true, Bool.false_eq_true, if_false]
    all_goals
      split
      · have h3 := h2 rfl rfl
        rcases h3 with ⟨c, rfl⟩ | ⟨c, rfl⟩ <;> simp
      · exact (h1 _ _ rfl rfl).elim
      · rfl
  cases op <;> first | exact rest _ (.inl rfl) | exact rest _ (.inr rfl) | rfl

theorem maxDepth_two : ∃ d, Op.maxDepth = d + 2 := ⟨9998, rfl⟩

theorem isNilC_spec {x : Operand} (h : isNilC x = true) : x = .const .nilIface := by
  unfold isNilC at h
  split at h
  · rfl
  · cases h

/-- An error that is not nil. -/
theorem errV_some {C : Cfg} {p : List (Int × Int) × Int} {v : Value} (h : ErrV C w (some p) v) : ∃ u x, v = .iface u x := by
  obtain ⟨ps, n⟩ := p
  cases ps with
  | nil => exact ⟨_, _, h⟩
  | cons q ps => obtain ⟨b, u, e, _⟩ := h; exact ⟨_, _, e⟩

theorem isIface_spec {t : TypeId} (h : isIface P t = true) : ∃ ms, P.underlying t = some (.interface ms) := by
  unfold isIface at h
  split at h
  · exact ⟨_, by assumption⟩
  · cases h

theorem run_eq_nil {t : TypeId} (ht : isIface P t = true) {C : Cfg} {e : Err} {v : Value} (h : ErrV C w e v) : (Op.equal t v .nilIface).run P w = .ok e.isNone w ∧ (Op.equal t .nilIface v).run P w = .ok e.isNone w := by
  obtain ⟨ms, hu⟩ := isIface_spec ht
  obtain ⟨md, hmd⟩ := maxDepth_two
  cases e with
  | none => simp only [ErrV] at h; subst h; constructor <;> simp [Op.equal, Op.equalIn, hmd, underlying, hu]
  | some p => obtain ⟨u, x, rfl⟩ := errV_some h; constructor <;> simp [Op.equal, Op.equalIn, hmd, underlying, hu]

theorem run_eq_two {t tn : TypeId} {ms : Array (String × TypeId)} {i : TypeInfo} {k : IntKind} (hi : P.underlying t = some (.interface ms)) (hn : P.underlying tn = some (.int k)) (hinfo : P.info? tn = some i) (hc : i.comparable = true) (d : Nat) (x y : Int) :
    (Op.equalIn (d + 2) t (.iface tn (.int k x)) (.iface tn (.int k y))).run P w = .ok (x == y) w := by
  simp [Op.equalIn, run_underlying hi, run_underlying hn, typeInfo, hinfo, hc]

theorem run_eq_errs (hf : Fit P T) {t : TypeId} (ht : isIface P t = true) {e f : Err} {r : Bool} (he : errEq e f = some r) {u v : Value} (h1 : ErrV T.toCfg w e u) (h2 : ErrV T.toCfg w f v) : (Op.equal t u v).run P w = .ok r w := by
  obtain ⟨ms, hu⟩ := isIface_spec ht
  obtain ⟨md, hmd⟩ := maxDepth_two
  unfold errEq at he
  split at he <;> simp at he <;> subst he
  · simp only [ErrV] at h1; subst h1; obtain ⟨q, x, rfl⟩ := errV_some h2; simp [Op.equal, Op.equalIn, hmd, underlying, hu]
  · simp only [ErrV] at h2; subst h2; obtain ⟨q, x, rfl⟩ := errV_some h1; simp [Op.equal, Op.equalIn, hmd, underlying, hu]
  · simp only [ErrV, ErrAt] at h1 h2
    subst h1; subst h2
    have hc := hf.comp
    cases hi : P.info? T.errno with
    | none => simp [hi] at hc
    | some i =>
      simp only [hi, Option.map_some, Option.some.injEq] at hc
      unfold Op.equal
      rw [hmd]
      exact run_eq_two hu hf.errno hi hc md _ _
  · simp only [ErrV, ErrAt] at h1 h2
    obtain ⟨b, x, rfl, _⟩ := h2
    subst h1
    simp [Op.equal, Op.equalIn, hmd, underlying, hu, hf.ne]
  · simp only [ErrV, ErrAt] at h1 h2
    obtain ⟨b, x, rfl, _⟩ := h1
    subst h2
    simp [Op.equal, Op.equalIn, hmd, underlying, hu, Ne.symm hf.ne]

theorem errV_form {C : Cfg} {e : Err} {v : Value} (h : ErrV C w e v) : v = .nilIface ∨ ∃ u x, v = .iface u x := by
  cases e with
  | none => exact .inl h
  | some p => exact .inr (errV_some h)

theorem run_bin_iface {t : TypeId} {u v : Value} {r : Bool} (hu : u = .nilIface ∨ ∃ q x, u = .iface q x) (hv : v = .nilIface ∨ ∃ q x, v = .iface q x) (h : (Op.equal t u v).run P w = .ok r w) :
    (binOp .eql t u v).run P w = .ok (.bool r) w ∧ (binOp .neq t u v).run P w = .ok (.bool !r) w := by
  rcases hu with rfl | ⟨q, x, rfl⟩ <;> rcases hv with rfl | ⟨q', x', rfl⟩ <;> constructor <;> simp [binOp, h]

set_option maxHeartbeats 2000000 in
theorem run_eq_ptr {t e : TypeId} (hu : P.underlying t = some (.pointer e)) (d : Nat) (p : Addr) :
    (Op.equalIn (d + 2) t (.pointer none) (.pointer none)).run P w = .ok true w ∧ (Op.equalIn (d + 2) t (.pointer (some p)) (.pointer none)).run P w = .ok false w ∧ (Op.equalIn (d + 2) t (.pointer none) (.pointer (some p))).run P w = .ok false w := by
  refine ⟨?_, ?_, ?_⟩ <;> simp only [Op.equalIn, Sem.run_bind, run_underlying hu, Result.andThen_ok, Sem.run_pure, Option.isNone]

theorem ptrEq_ok {op : BinOp} {t : TypeId} {u v : Value} {q : Bool} {av : AV} (h : ev sl rs (ptrEq op (isPtrT P t) q) s r = some (av, s1, r1)) (hq : (u = .pointer none ∧ v = .pointer none ∧ q = true) ∨ (∃ p, u = .pointer (some p) ∧ v = .pointer none ∧ q = false) ∨ (∃ p, u = .pointer none ∧ v = .pointer (some p) ∧ q = false)) :
    ∃ z, (binOp op t u v).run P w = .ok z w ∧ ∀ {C : Cfg} {ρ : Nat → Value} {M : Nat → Prop}, VR C ρ M w av z := by
  unfold ptrEq at h
  split at h <;> try (simp [ev] at h; done)
  rename_i hp
  unfold isPtrT at hp
  split at hp <;> try (cases hp; done)
  rename_i e he
  obtain ⟨md, hmd⟩ := maxDepth_two
  split at h <;> try (simp [ev] at h; done)
  all_goals
    have := ev_ret h
    simp only [Prod.mk.injEq] at this
    obtain ⟨rfl, _, _⟩ := this
    refine ⟨.bool _, ?_, rfl⟩
    rcases hq with ⟨rfl, rfl, rfl⟩ | ⟨p, rfl, rfl, rfl⟩ | ⟨p, rfl, rfl, rfl⟩
    · have := (run_eq_ptr (w := w) he md ⟨0, 0, none⟩).1
      simp only [binOp, Op.equal, hmd, Sem.run_bind, this, Result.andThen_ok, Sem.run_pure]
    · have := (run_eq_ptr (w := w) he md p).2.1
      simp only [binOp, Op.equal, hmd, Sem.run_bind, this, Result.andThen_ok, Sem.run_pure]
    · have := (run_eq_ptr (w := w) he md p).2.2
      simp only [binOp, Op.equal, hmd, Sem.run_bind, this, Result.andThen_ok, Sem.run_pure]

theorem ok_binOp (hf : Fit P T) (h : Rel T.toCfg M0 w0 sl rs ρ F a w) (hd : ∀ d, o.dst = some d → d < a.tmps.size) {op : BinOp} {t t' : TypeId} {x y : Operand} (hop : o.op = .binOp op t x y t') (he : ev sl rs (step P T o) s r = some (out, s1, r1)) : Goal P T M0 w0 sl rs a w o out := by
  simp only [step, hop] at he
  obtain ⟨u, s2, r2, h1, h2⟩ := ev_bind _ _ _ _ _ he
  have hx := opd_rel h h1
  obtain ⟨v, s3, r3, h3, h4⟩ := ev_bind _ _ _ _ _ h2
  have hy := opd_rel h h3
  obtain ⟨av, s4, r4, h5, h6⟩ := ev_bind _ _ _ _ _ h4
  obtain rfl := ret_out h6
  have fin : ∀ {z : Value}, (eqGuard op t x y (a.eval x) (a.eval y)).run P w = .ok () w → (binOp op t (a.eval x) (a.eval y)).run P w = .ok z w → VR T.toCfg ρ (Mof M0 rs F) w av z → Goal P T M0 w0 sl rs a w o ⟨av, []⟩ := by
    intro z g1 g2 g3
    refine runs_value h hd (v := z) ?_ g3
    simp only [execOp, hop, Sem.run_bind, g1, g2, Result.andThen_ok]
    rfl
  unfold binAV at h5
  split at h5 <;> try (simp [ev] at h5; done)
  · rename_i k p k' q
    simp only [VR, SR, LR] at hx hy
    have hg : (eqGuard op t x y (a.eval x) (a.eval y)).run P w = .ok () w := guard_skip ⟨(fun xs ys e => by rw [hx] at e; cases e), (fun e => by rw [hx] at e; cases e)⟩
    have key : intBin op k p q = some av ∧ (op = .shl ∨ op = .shr ∨ k' = k) := by
      split at h5
      · obtain ⟨av', e1, e2⟩ := ev_ofO h5
        simp only [Prod.mk.injEq] at e2
        obtain ⟨rfl, _, _⟩ := e2
        exact ⟨e1, .inl rfl⟩
      · obtain ⟨av', e1, e2⟩ := ev_ofO h5
        simp only [Prod.mk.injEq] at e2
        obtain ⟨rfl, _, _⟩ := e2
        exact ⟨e1, .inr (.inl rfl)⟩
      · split at h5 <;> try (simp [ev] at h5; done)
        rename_i hk
        obtain ⟨av', e1, e2⟩ := ev_ofO h5
        simp only [Prod.mk.injEq] at e2
        obtain ⟨rfl, _, _⟩ := e2
        exact ⟨e1, .inr (.inr hk)⟩
    obtain ⟨z, e1, e2⟩ := intBin_ok (P := P) (w := w) key.1 key.2 t
    exact fin hg (by rw [hx, hy]; exact e1) e2
  · simp only [VR, SR, LR] at hx hy
    have hg : (eqGuard op t x y (a.eval x) (a.eval y)).run P w = .ok () w := guard_skip ⟨(fun xs ys e => by rw [hx] at e; cases e), (fun e => by rw [hx] at e; cases e)⟩
    obtain ⟨z, e1, e2⟩ := strBin_ok (P := P) (w := w) h5 t
    exact fin hg (by rw [hx, hy]; exact e1) e2
  · simp only [VR, SR, LR] at hx hy
    have hg : (eqGuard op t x y (a.eval x) (a.eval y)).run P w = .ok () w := guard_skip ⟨(fun xs ys e => by rw [hx] at e; cases e), (fun e => by rw [hx] at e; cases e)⟩
    split at h5 <;> try (simp [ev] at h5; done)
    rename_i hb
    have hu : P.underlying t = some .bool := by
      unfold isBoolT at hb
      split at hb
      · assumption
      · cases hb
    split at h5 <;> try (simp [ev] at h5; done)
    all_goals
      have := ev_ret h5
      simp only [Prod.mk.injEq] at this
      obtain ⟨rfl, _, _⟩ := this
      refine fin hg (z := .bool _) ?_ rfl
      rw [hx, hy]
      obtain ⟨md, hmd⟩ := maxDepth_two
      simp [binOp, Op.equal, Op.equalIn, hmd, underlying, hu]
  · rename_i e f
    simp only [VR, SR, LR] at hx hy
    have hx := hx.now
    have hy := hy.now
    split at h5 <;> try (simp [ev] at h5; done)
    rename_i hi
    have close : ∀ {q : Bool}, (Op.equal t (a.eval x) (a.eval y)).run P w = .ok q w → (eqGuard op t x y (a.eval x) (a.eval y)).run P w = .ok () w → ev sl rs (match op with | .eql => .ret (.bool q) | .neq => .ret (.bool !q) | _ => .fail) s3 r3 = some (av, s4, r4) → Goal P T M0 w0 sl rs a w o ⟨av, []⟩ := by
      intro q g1 g2 g3
      have := run_bin_iface (errV_form hx) (errV_form hy) g1
      split at g3 <;> try (simp [ev] at g3; done)
      all_goals
        have e := ev_ret g3
        simp only [Prod.mk.injEq] at e
        obtain ⟨rfl, _, _⟩ := e
      · exact fin g2 this.1 rfl
      · exact fin g2 this.2 rfl
    have noagg : ∀ xs ys, a.eval x = .agg xs → a.eval y = .agg ys → False := by
      intro xs ys e _
      rcases errV_form hx with h' | ⟨q, z, h'⟩ <;> rw [h'] at e <;> cases e
    split at h5
    · rename_i hc
      have hyc := isNilC_spec hc
      have hye : a.eval y = .nilIface := by rw [hyc]; rfl
      refine close (q := e.isNone) (by rw [hye]; exact (run_eq_nil hi hx).1) (guard_skip ⟨noagg, fun _ _ => .inr ⟨_, hyc⟩⟩) h5
    · rename_i hc _
      have hxc := isNilC_spec hc
      have hxe : a.eval x = .nilIface := by rw [hxc]; rfl
      refine close (q := f.isNone) (by rw [hxe]; exact (run_eq_nil hi hy).2) (guard_skip ⟨noagg, fun _ _ => .inl ⟨_, hxc⟩⟩) h5
    · split at h5 <;> try (simp [ev] at h5; done)
      rename_i q hq
      refine close (q := q) (run_eq_errs hf hi hq hx hy) (guard_skip ⟨noagg, fun e1 e2 => ?_⟩) h5
      exfalso
      unfold errEq at hq
      split at hq <;> simp at hq
      · obtain ⟨u, z, e3⟩ := errV_some hy; rw [e3] at e2; cases e2
      · obtain ⟨u, z, e3⟩ := errV_some hx; rw [e3] at e1; cases e1
      · obtain ⟨u, z, e3⟩ := errV_some hx; rw [e3] at e1; cases e1
      · obtain ⟨u, z, e3⟩ := errV_some hx; rw [e3] at e1; cases e1
      · obtain ⟨u, z, e3⟩ := errV_some hx; rw [e3] at e1; cases e1
  · rename_i l m
    split at h5 <;> try (simp [ev] at h5; done)
    rename_i st hq hst
    split at h5 <;> try (simp [ev] at h5; done)
    rename_i p q hfl hp hq'
    obtain ⟨cs, e1, e2⟩ := hx.ag
    obtain ⟨ds, e3, e4⟩ := hy.ag
    have c1 := RR.fcells st p cs hfl (ofLeaves_rep st l p cs hp e2)
    have c2 := RR.fcells st q ds hfl (ofLeaves_rep st m q ds hq' e4)
    subst c1; subst c2
    have hok : eqOkB P T.shs t = true := List.all_eq_true.1 hf.eqs t (by simpa using hq)
    have := eqStruct_ok (w := w) hf.tys hok hst hfl p q x y
    rw [← e1, ← e3] at this
    split at h5 <;> try (simp [ev] at h5; done)
    all_goals
      have e := ev_ret h5
      simp only [Prod.mk.injEq] at e
      obtain ⟨rfl, _, _⟩ := e
    · refine runs_value h hd (v := .bool _) ?_ rfl
      simp only [execOp, hop, Sem.run_bind] at this ⊢
      rw [this.1]; rfl
    · refine runs_value h hd (v := .bool _) ?_ rfl
      simp only [execOp, hop, Sem.run_bind] at this ⊢
      rw [this.2]; rfl
  all_goals
    simp only [VR, SR, LR] at hx hy
  · obtain ⟨u, z, hx⟩ := hx
    have hy := hy.now
    split at h5 <;> try (simp [ev] at h5; done)
    rename_i hi hc
    have hyc := isNilC_spec hc
    have hye : a.eval y = .nilIface := by rw [hyc]; rfl
    obtain ⟨ms, hu⟩ := isIface_spec hi
    obtain ⟨md, hmd⟩ := maxDepth_two
    have g1 : (Op.equal t (a.eval x) (a.eval y)).run P w = .ok false w := by rw [hx, hye]; simp [Op.equal, Op.equalIn, hmd, underlying, hu]
    have g2 := run_bin_iface (.inr ⟨_, _, hx⟩) (.inl hye) g1
    split at h5 <;> try (simp [ev] at h5; done)
    all_goals
      have e := ev_ret h5
      simp only [Prod.mk.injEq] at e
      obtain ⟨rfl, _, _⟩ := e
    · exact fin (guard_skip ⟨(fun xs ys e _ => by rw [hx] at e; cases e), fun _ _ => .inr ⟨_, hyc⟩⟩) g2.1 rfl
    · exact fin (guard_skip ⟨(fun xs ys e _ => by rw [hx] at e; cases e), fun _ _ => .inr ⟨_, hyc⟩⟩) g2.2 rfl
  · obtain ⟨z, e1, e2⟩ := ptrEq_ok (P := P) (w := w) h5 (.inl ⟨hx, hy, rfl⟩)
    exact fin (guard_skip ⟨(fun xs ys e => by rw [hx] at e; cases e), (fun e => by rw [hx] at e; cases e)⟩) e1 e2
  · obtain ⟨ad, cs, hx, _⟩ := hx
    obtain ⟨z, e1, e2⟩ := ptrEq_ok (P := P) (w := w) h5 (.inr (.inl ⟨_, hx, hy, rfl⟩))
    exact fin (guard_skip ⟨(fun xs ys e => by rw [hx] at e; cases e), (fun e => by rw [hx] at e; cases e)⟩) e1 e2
  · obtain ⟨ad, cs, hy, _⟩ := hy
    obtain ⟨z, e1, e2⟩ := ptrEq_ok (P := P) (w := w) h5 (.inr (.inr ⟨_, hx, hy, rfl⟩))
    exact fin (guard_skip ⟨(fun xs ys e => by rw [hx] at e; cases e), (fun e => by rw [hx] at e; cases e)⟩) e1 e2

end

end Go.Pev
