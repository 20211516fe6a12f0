/- The pure evaluator, part P: any operation; a region's operations in the text's order. Own text, over any program. -/
import Derived.Test.YtciajnknnoecaaaDoorPevO
namespace Go.Pev

section
variable {P : Program} {T : Tabs} {M0 : Nat → Prop} {w0 : World} {sl : Nat → Option AV} {rs : Nat → Option RS} {ρ : Nat → Value} {F : Nat → Nat → Prop} {a : Act} {w : World} {o : Oper} {out : Out} {s r s1 r1 : List Nat}

theorem step_ok (hf : Fit P T) (hsp : SpecsOk P T) (h : Rel T.toCfg M0 w0 sl rs ρ F a w) (hd : ∀ d, o.dst = some d → d < a.tmps.size) (he : ev sl rs (step P T o) s r = some (out, s1, r1)) (hnew : NewOk sl rs o.dst out.ws) : Goal P T M0 w0 sl rs a w o out := by
  cases hop : o.op with
  | move x => exact ok_move h hd (.inl hop) (by simpa only [step, hop] using he)
  | assign x => exact ok_move h hd (.inr hop) (by simpa only [step, hop] using he)
  | pick c x y => exact ok_pick h hd hop he
  | alloc t => exact ok_alloc hf h hd hop he hnew
  | box t x => exact ok_box h hd hop he hnew
  | build t ps => exact ok_build hf h hd hop he
  | buildSlice t n ps => exact ok_buildSlice hf h hd hop he hnew
  | load t x => exact ok_load hf h hd hop he
  | store t x y => exact ok_store hf h hd hop he
  | nilCheck x => exact ok_nilCheck h hd hop he
  | binOp op t x y t' => exact ok_binOp hf h hd hop he
  | unOp u t x => exact ok_unOp h hd hop he
  | convert src dst x => exact ok_convert h hd hop he
  | makeInterface t x => exact ok_makeInterface h hd hop hf he
  | fieldAddr t x j => exact ok_fieldAddr hf h hd hop he
  | field t x j => exact ok_field hf h hd hop he
  | indexAddr t x i => exact ok_indexAddr hf h hd hop he
  | index t x i => exact ok_index h hd hop he
  | slice t x lo hi m => cases m with
    | none => exact ok_slice hf h hd hop he
    | some m => simp [step, hop, ev] at he
  | extract x i => exact ok_extract h hd hop he
  | call c =>
    cases hc : c.callee with
    | builtin b => cases b <;> first | exact ok_len h hd hop hc he | exact ok_minmax h hd hop (.inl hc) he | exact ok_minmax h hd hop (.inr hc) he | exact ok_append hf h hd hop hc he hnew | (simp [step, hop, hc, ev] at he; done)
    | value f => cases f <;> first | exact ok_call hsp h hd hop hc he | (simp [step, hop, hc, ev] at he; done)
    | invoke x n => simp [step, hop, hc, ev] at he
  | _ => simp [step, hop, ev] at he

/-! ### what 'evalOps' shows of each operation -/

/-- The slots that the guard reads, when it lets the operation run. -/
def GoOk (ops : Array Oper) (o : Oper) (sl : Nat → Option AV) (s0 : List Nat) : Prop :=
  (o.guard = none ∧ s0 = []) ∨ ∃ g want t, o.guard = some (g, want) ∧ (ops[g]?).bind (·.dst) = some t ∧ sl t = some (.bool want) ∧ s0 = [t]
def SkipOk (ops : Array Oper) (o : Oper) (sl : Nat → Option AV) (t : Nat) : Prop :=
  ∃ g want, o.guard = some (g, want) ∧ (ops[g]?).bind (·.dst) = some t ∧ (sl t = some .undef ∨ sl t = some (.bool !want))

/-- One operation, at these slots and things. -/
inductive Did (P : Program) (T : Tabs) (ops : Array Oper) (o : Oper) (sl : Nat → Option AV) (rs : Nat → Option RS) : Tr → Prop
  | go {s0 s r : List Nat} {out : Out} (hg : GoOk ops o sl s0) (he : ev sl rs (step P T o) s0 [] = some (out, s, r)) : Did P T ops o sl rs ⟨o.dst, s, r, out.v, out.ws⟩
  | skip {t : Nat} (hg : SkipOk ops o sl t) : Did P T ops o sl rs ⟨o.dst, [t], [], .undef, []⟩

/-- The new number, if the operation makes a thing. -/
def NewAt (tr : Tr) (d : Nat) (st : RS) : Prop := tr.dst = some d ∧ get tr.ws d = some (some st)

theorem wanted_go {ops : Array Oper} (h : Rel T.toCfg M0 w0 sl rs ρ F a w) {s0 : List Nat} (hg : GoOk ops o sl s0) : Region.wanted o (yielded ops a.tmps) = true := by
  rcases hg with ⟨hg, _⟩ | ⟨g, want, t, hg, ht, hs, _⟩
  · simp [Region.wanted, hg]
  · obtain ⟨v, e1, e2⟩ := h.slots t _ hs
    simp only [VR, SR, LR] at e2
    subst e2
    simp [Region.wanted, hg, yielded, ht, e1]
theorem wanted_skip {ops : Array Oper} (h : Rel T.toCfg M0 w0 sl rs ρ F a w) {t : Nat} (hg : SkipOk ops o sl t) : Region.wanted o (yielded ops a.tmps) = false := by
  obtain ⟨g, want, hg, ht, hs⟩ := hg
  rcases hs with hs | hs
  · obtain ⟨v, e1, e2⟩ := h.slots t _ hs
    simp only [VR, SR, LR] at e2
    subst e2
    simp [Region.wanted, hg, yielded, ht, e1, Go.undef]
  · obtain ⟨v, e1, e2⟩ := h.slots t _ hs
    simp only [VR, SR, LR] at e2
    subst e2
    simp [Region.wanted, hg, yielded, ht, e1]

/-- One operation of a region: whatever comes after it. -/
theorem did_ok (hf : Fit P T) (hsp : SpecsOk P T) {ops : Array Oper} {i : Nat} (ho : ops[i]? = some o) (h : RelE T M0 w0 sl rs a w) (hd : ∀ d, o.dst = some d → d < a.tmps.size) {tr : Tr} (hdid : Did P T ops o sl rs tr)
    (hnew : ∀ d st, NewAt tr d st → Fresh sl rs d ∧ Ws.ment d tr.ws = false ∧ st.ment d = false) {K : Act → World → Prop} {Q : Exit → Act → World → Prop}
    (hK : ∀ a' w', a'.tmps.size = a.tmps.size → RelE T M0 w0 (updS sl tr.dst tr.v) (updR rs tr.ws) a' w' → K a' w') : wpOp P ops Q i K a w := by
  obtain ⟨ρ, F, h⟩ := h
  unfold wpOp
  simp only [ho]
  have hput : ∀ v, (a.put o.dst v).tmps.size = a.tmps.size := fun v => by cases o.dst <;> simp [Act.put]
  cases hdid with
  | go hg he =>
    rw [if_pos (wanted_go h hg)]
    exact .inl ((step_ok hf hsp h hd he ⟨fun d st e1 e2 => hnew d st ⟨e1, e2⟩⟩).wp fun v w' hr => hK _ _ (hput v) hr)
  | skip hg =>
    rw [if_neg (by rw [wanted_skip h hg]; simp)]
    refine hK _ _ (hput _) ⟨ρ, F, ?_⟩
    rw [updR_nil]
    exact h.undef hd

/-! ### environments as functions -/

/-- As 'E', for all that is asked of it. -/
structure Same (E E2 : Env) : Prop where
  sl : get E2.sl = get E.sl
  ment : ∀ d, slMent d E2.sl = slMent d E.sl
  rs : E2.rs = E.rs

theorem Same.refl (E : Env) : Same E E := ⟨rfl, fun _ => rfl, rfl⟩

theorem get_cons {α : Type} (k : Nat) (v : α) (l : List (Nat × α)) (t : Nat) : get ((k, v) :: l) t = if k = t then some v else get l t := by
  simp only [get]
  by_cases h : k = t
  · subst h; simp [Nat.beq_refl]
  · rw [if_neg h]
    split
    · rename_i hb; exact absurd (Nat.eq_of_beq_eq_true hb) h
    · rfl

theorem same_bool {E : Env} {t : Nat} {b : Bool} (h : get E.sl t = some (.bool b)) : Same E ⟨(t, .bool b) :: E.sl, E.rs⟩ := by
  refine ⟨?_, fun d => by simp [slMent, AV.ment, AV.ment2, AV.ment1], rfl⟩
  funext i
  rw [get_cons]
  split
  · rename_i e; subst e; exact h.symm
  · rfl

/-- An environment holds no more than these slots and things do, and is read as they are. -/
inductive OpFact (P : Program) (T : Tabs) (ops : Array Oper) (o : Oper) (E : Env) (tr : Tr) (E1 : Env) : Prop
  | mk (E2 : Env) (hs : Same E E2) (hd : Did P T ops o (get E.sl) (getR E.rs) tr) (hn : okNew E2 tr.dst tr.ws = true) (h1 : E1 = upd E2 tr.dst ⟨tr.v, tr.ws⟩)

inductive Runs (P : Program) (T : Tabs) (ops : Array Oper) : List Oper → Env → List Tr → Env → Prop
  | nil {E} : Runs P T ops [] E [] E
  | cons {o rest E tr E1 trs E'} : OpFact P T ops o E tr E1 → Runs P T ops rest E1 trs E' → Runs P T ops (o :: rest) E (tr :: trs) E'

theorem evalOp_fact {ops : Array Oper} {E : Env} {k : Env → Tr → R} {res : AV} (h : evalOp P T ops o E k = some res) : ∃ tr E1, OpFact P T ops o E tr E1 ∧ k E1 tr = some res := by
  have go : ∀ {E2 : Env} {s0 : List Nat}, Same E E2 → GoOk ops o (get E.sl) s0 → evalOp.go P T o k E2 s0 = some res → ∃ tr E1, OpFact P T ops o E tr E1 ∧ k E1 tr = some res := by
    intro E2 s0 hs hg h
    unfold evalOp.go at h
    obtain ⟨out, s1, r1, h1, h2⟩ := run_ev _ _ _ _ _ _ h
    split at h2 <;> try (cases h2; done)
    rename_i hn
    refine ⟨_, _, .mk E2 hs (.go hg (out := out) (s := s1) (r := r1) ?_) hn rfl, h2⟩
    rw [hs.sl, hs.rs] at h1
    exact h1
  have skip : ∀ {E2 : Env} {t : Nat}, Same E E2 → SkipOk ops o (get E.sl) t → evalOp.skip o k E2 [t] = some res → ∃ tr E1, OpFact P T ops o E tr E1 ∧ k E1 tr = some res := by
    intro E2 t hs hg h
    unfold evalOp.skip at h
    exact ⟨_, _, .mk E2 hs (.skip hg) (by unfold okNew; cases o.dst <;> simp [get]) rfl, h⟩
  unfold evalOp at h
  split at h
  · rename_i hg
    exact go (Same.refl E) (.inl ⟨hg, rfl⟩) h
  · rename_i g want hg
    split at h <;> try (cases h; done)
    rename_i t ht
    split at h <;> try (cases h; done)
    · rename_i b hb
      unfold evalOp.br at h
      cases b <;> cases want <;> simp only [cond_true, cond_false] at h
      · exact go (same_bool hb) (.inr ⟨g, _, t, hg, ht, hb, rfl⟩) h
      · exact skip (same_bool hb) ⟨g, _, hg, ht, .inr hb⟩ h
      · exact skip (same_bool hb) ⟨g, _, hg, ht, .inr hb⟩ h
      · exact go (same_bool hb) (.inr ⟨g, _, t, hg, ht, hb, rfl⟩) h
    · rename_i hu
      exact skip (Same.refl E) ⟨g, _, hg, ht, .inl hu⟩ h

theorem evalOps_runs {ops : Array Oper} : ∀ {l : List Oper} {E : Env} {acc : List Tr} {k : Env → List Tr → R} {res : AV}, evalOps P T ops l E acc k = some res → ∃ trs E', Runs P T ops l E trs E' ∧ k E' (trs.reverse ++ acc) = some res
  | [], E, acc, k, res, h => ⟨[], E, .nil, h⟩
  | o :: l, E, acc, k, res, h => by
    simp only [evalOps] at h
    obtain ⟨tr, E1, h1, h2⟩ := evalOp_fact h
    obtain ⟨trs, E', h3, h4⟩ := evalOps_runs h2
    exact ⟨tr :: trs, E', .cons h1 h3, by simpa using h4⟩

theorem upd_sl (E : Env) (dst : Option Nat) (out : Out) : get (upd E dst out).sl = updS (get E.sl) dst out.v := by
  funext t
  cases dst with
  | none => simp [upd, updS]
  | some d => simp only [upd, get_cons, updS, Option.some.injEq]
theorem upd_rs (E : Env) (dst : Option Nat) (out : Out) : getR (upd E dst out).rs = updR (getR E.rs) out.ws := by
  funext id
  simp only [upd, getR, updR, get_append]
  cases get out.ws id with
  | none => rfl
  | some q => cases q <;> rfl

theorem get_mem {α : Type} {l : List (Nat × α)} {t : Nat} {x : α} (h : get l t = some x) : (t, x) ∈ l := by
  induction l with
  | nil => simp [get] at h
  | cons p l ih =>
    obtain ⟨k, v⟩ := p
    rw [get_cons] at h
    split at h
    · rename_i e; subst e; obtain rfl := Option.some.inj h; exact List.mem_cons_self
    · exact List.mem_cons_of_mem _ (ih h)

theorem slMent_get {d : Nat} {l : List (Nat × AV)} (h : slMent d l = false) {t : Nat} {av : AV} (ht : get l t = some av) : av.ment d = false := by
  have := get_mem ht
  unfold slMent at h
  rw [List.any_eq_false] at h
  simpa using h _ this

theorem wsMent_mem {d : Nat} {l : Ws} (h : Ws.ment d l = false) {id : Nat} {st : RS} (ht : (id, some st) ∈ l) : st.ment d = false := by
  induction l with
  | nil => simp at ht
  | cons p l ih =>
    obtain ⟨k, q⟩ := p
    cases q with
    | none =>
      simp only [Ws.ment] at h
      rcases List.mem_cons.1 ht with e | ht
      · cases e
      · exact ih h ht
    | some r =>
      simp only [Ws.ment, Bool.or_eq_false_iff] at h
      rcases List.mem_cons.1 ht with e | ht
      · cases e; exact h.1
      · exact ih h.2 ht

theorem getR_mem {l : List (Nat × Option RS)} {id : Nat} {st : RS} (h : getR l id = some st) : (id, some st) ∈ l := by
  unfold getR at h
  split at h
  · rename_i r hg; obtain rfl := Option.some.inj h; exact get_mem hg
  · cases h

theorem okNew_fresh {E E2 : Env} (hs : Same E E2) {tr : Tr} (h : okNew E2 tr.dst tr.ws = true) {d : Nat} {st : RS} (hn : NewAt tr d st) : (slMent d E.sl = false ∧ rsMent d E.rs = false) ∧ Ws.ment d tr.ws = false ∧ st.ment d = false := by
  obtain ⟨e1, e2⟩ := hn
  unfold okNew at h
  rw [e1] at h
  simp only [e2, Bool.and_eq_true, Bool.not_eq_true'] at h
  rw [hs.ment, hs.rs] at h
  exact ⟨h.1.1, h.1.2, h.2⟩

theorem fresh_of {E : Env} {d : Nat} (h : slMent d E.sl = false ∧ rsMent d E.rs = false) : Fresh (get E.sl) (getR E.rs) d :=
  ⟨fun _ _ ht => slMent_get h.1 ht, fun _ _ ht => wsMent_mem h.2 (getR_mem ht)⟩

abbrev RelEnv (T : Tabs) (M0 : Nat → Prop) (w0 : World) (E : Env) (a : Act) (w : World) : Prop := RelE T M0 w0 (get E.sl) (getR E.rs) a w

theorem OpFact.next {ops : Array Oper} {E E1 : Env} {tr : Tr} (h : OpFact P T ops o E tr E1) : get E1.sl = updS (get E.sl) tr.dst tr.v ∧ getR E1.rs = updR (getR E.rs) tr.ws := by
  obtain ⟨E2, hs, hd, hn, rfl⟩ := h
  rw [upd_sl, upd_rs, hs.sl, hs.rs]
  exact ⟨rfl, rfl⟩

/-- A region without a draw. -/
theorem runs_ok (hf : Fit P T) (hsp : SpecsOk P T) {ops : Array Oper} {Q : Exit → Act → World → Prop} : ∀ {n : Nat} {l : List Oper} {E E' : Env} {trs : List Tr} {a : Act} {w : World}, (∀ j, l[j]? = ops[n + j]?) → (∀ o ∈ l, ∀ d, o.dst = some d → d < a.tmps.size) → Runs P T ops l E trs E' → RelEnv T M0 w0 E a w →
    (∀ a' w', a'.tmps.size = a.tmps.size → RelEnv T M0 w0 E' a' w' → Q .normal a' w') → wpOps P ops Q (List.range' n l.length) a w
  | n, [], E, E', trs, a, w, _, _, hr, h, hQ => by cases hr; simp only [List.length_nil, List.range'_zero, wpOps]; exact hQ a w rfl h
  | n, o :: l, E, E', trs, a, w, hops, hd, hr, h, hQ => by
    cases hr with | cons hfact hruns => ?_
    rename_i tr E1 trs
    have h0 : ops[n]? = some o := by simpa using (hops 0).symm
    simp only [List.length_cons, List.range'_succ]
    rw [wpOps_cons]
    obtain ⟨q1, q2⟩ := hfact.next
    obtain ⟨E2, hs, hdid, hn, hE1⟩ := hfact
    refine did_ok hf hsp h0 h (hd o List.mem_cons_self) hdid (fun d st hnew => ?_) fun a' w' hsz hr => ?_
    · obtain ⟨g1, g2⟩ := okNew_fresh hs hn hnew
      exact ⟨fresh_of g1, g2⟩
    · rw [← q1, ← q2] at hr
      refine runs_ok hf hsp (n := n + 1) (fun j => ?_) (fun o' ho' d hd' => ?_) hruns hr fun a2 w2 hsz2 hr2 => hQ a2 w2 (hsz2.trans hsz) hr2
      · have := hops (j + 1)
        rw [show n + 1 + j = n + (j + 1) by omega]
        simpa using this
      · rw [hsz]; exact hd o' (List.mem_cons_of_mem _ ho') d hd'

end

end Go.Pev
