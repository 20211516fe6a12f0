/- The pure evaluator, part I: the operations, one by one (1). Own text, over any program. -/
import Derived.Test.YtciajnknnoecaaaDoorPevH
namespace Go.Pev

structure NewOk (sl : Nat → Option AV) (rs : Nat → Option RS) (dst : Option Nat) (ws : Ws) : Prop where
  ok : ∀ d st, dst = some d → get ws d = some (some st) → Fresh sl rs d ∧ Ws.ment d ws = false ∧ st.ment d = false

section
variable {P : Program} {T : Tabs} {M0 : Nat → Prop} {w0 : World} {sl : Nat → Option AV} {rs : Nat → Option RS} {ρ : Nat → Value} {F : Nat → Nat → Prop} {a : Act} {w : World} {o : Oper} {out : Out} {s r s1 r1 : List Nat}

abbrev Goal (P : Program) (T : Tabs) (M0 : Nat → Prop) (w0 : World) (sl : Nat → Option AV) (rs : Nat → Option RS) (a : Act) (w : World) (o : Oper) (out : Out) : Prop :=
  OpRuns P a o w fun v w' => RelE T M0 w0 (updS sl o.dst out.v) (updR rs out.ws) (a.put o.dst v) w'

theorem ret_out {av : AV} (he : ev sl rs (.ret (⟨av, []⟩ : Out)) s r = some (out, s1, r1)) : out = ⟨av, []⟩ := by
  have := ev_ret he
  simp only [Prod.mk.injEq] at this
  exact this.1

theorem ok_move (h : Rel T.toCfg M0 w0 sl rs ρ F a w) (hd : ∀ d, o.dst = some d → d < a.tmps.size) {x : Operand} (hop : o.op = .move x ∨ o.op = .assign x) (he : ev sl rs ((opd x).bind fun v => .ret (⟨v, []⟩ : Out)) s r = some (out, s1, r1)) : Goal P T M0 w0 sl rs a w o out := by
  obtain ⟨v, s2, r2, h1, h2⟩ := ev_bind _ _ _ _ _ he
  obtain rfl := ret_out h2
  refine runs_value h hd (v := a.eval x) ?_ (opd_rel h h1)
  rcases hop with hop | hop <;> simp [execOp, hop]

theorem ok_pick (h : Rel T.toCfg M0 w0 sl rs ρ F a w) (hd : ∀ d, o.dst = some d → d < a.tmps.size) {c x y : Operand} (hop : o.op = .pick c x y) (he : ev sl rs (step P T o) s r = some (out, s1, r1)) : Goal P T M0 w0 sl rs a w o out := by
  simp only [step, hop] at he
  obtain ⟨v, s2, r2, h1, h2⟩ := ev_bind _ _ _ _ _ he
  cases v <;> simp only [ev, reduceCtorEq] at h2
  rename_i b
  have hc := opd_rel h h1
  simp only [VR, SR, LR] at hc
  cases b with
  | true =>
    obtain ⟨v, s3, r3, h3, h4⟩ := ev_bind _ _ _ _ _ h2
    obtain rfl := ret_out h4
    exact runs_value h hd (v := a.eval x) (by simp [execOp, hop, hc, asBool]) (opd_rel h h3)
  | false =>
    obtain ⟨v, s3, r3, h3, h4⟩ := ev_bind _ _ _ _ _ h2
    obtain rfl := ret_out h4
    exact runs_value h hd (v := a.eval y) (by simp [execOp, hop, hc, asBool]) (opd_rel h h3)

theorem box_res {t : TypeId} {l : List AV} {cs : List Value} (hl : All2 (LR T.toCfg ρ (Mof M0 rs F) w) l cs) (hok : ∀ x ∈ l, okLeaf x = true) {d : Nat} {ρ' : Nat → Value} {M' : Nat → Prop} (h1 : ρ' d = .pointer (some ⟨w.heap.size, 0, none⟩))
    (h2 : ∀ id, RS.ment id (.box t l) = true → ρ' id = ρ id) (h3 : ∀ k, M' k → k < w.heap.size → Mof M0 rs F k) : ResOk T.toCfg ρ' M' (w.alloc (.cells cs.toArray t)) d (fun k => k = w.heap.size) (.box t l) :=
  ⟨w.heap.size, cs.toArray, h1, fun _ => Iff.rfl, heap_alloc_new w _, LRs.step hl ((KeepS.alloc w _).mono fun _ _ g => g.elim) h3 h2, hok⟩

theorem ok_alloc (hf : Fit P T) (h : Rel T.toCfg M0 w0 sl rs ρ F a w) (hd : ∀ d, o.dst = some d → d < a.tmps.size) {t : TypeId} (hop : o.op = .alloc t) (he : ev sl rs (step P T o) s r = some (out, s1, r1)) (hnew : NewOk sl rs o.dst out.ws) : Goal P T M0 w0 sl rs a w o out := by
  simp only [step, hop] at he
  split at he <;> try (simp [ev] at he; done)
  rename_i st hst
  split at he <;> try (simp [ev] at he; done)
  rename_i d hdst
  have := ev_ret he
  simp only [Prod.mk.injEq] at this
  obtain ⟨rfl, _, _⟩ := this
  obtain ⟨i, z, hi, hsz, hz, hzc⟩ := (hf.tys.get hst).info
  obtain ⟨hfr, _, hm⟩ := hnew.ok d _ hdst (by rw [get_single, if_pos rfl])
  refine runs_new h hdst (hd d hdst) hfr (.box t (zleaves st)) (.ref d 0) (.pointer (some ⟨w.heap.size, 0, none⟩)) (.cells (zeroCells st).toArray t) ?_ rfl (.inl rfl) (fun _ => rfl) (fun ρ' M' e1 e2 e3 => box_res (rs := rs) (zleaves_rel st) (zleaves_ok st) e1 e2 e3) hm
  simp [execOp, hop, Instr.alloc, zeroValue, typeInfo, hi, hz, newVar, newRow, hzc]

theorem ok_box (h : Rel T.toCfg M0 w0 sl rs ρ F a w) (hd : ∀ d, o.dst = some d → d < a.tmps.size) {t : TypeId} {x : Operand} (hop : o.op = .box t x) (he : ev sl rs (step P T o) s r = some (out, s1, r1)) (hnew : NewOk sl rs o.dst out.ws) : Goal P T M0 w0 sl rs a w o out := by
  simp only [step, hop] at he
  obtain ⟨v, s2, r2, h1, h2⟩ := ev_bind _ _ _ _ _ he
  have hx := opd_rel h h1
  split at h2 <;> try (simp [ev] at h2; done)
  · rename_i st l hst hagg
    split at h2 <;> try (simp [ev] at h2; done)
    split at h2 <;> try (simp [ev] at h2; done)
    rename_i hlen _ d hdst
    have := ev_ret h2
    simp only [Prod.mk.injEq] at this
    obtain ⟨rfl, _, _⟩ := this
    obtain ⟨cs, hv, hl⟩ := hx.ag
    obtain ⟨hfr, _, hm⟩ := hnew.ok d _ hdst (by rw [get_single, if_pos rfl])
    refine runs_new h hdst (hd d hdst) hfr (.box t l) (.ref d 0) (.pointer (some ⟨w.heap.size, 0, none⟩)) (.cells cs.toArray t) ?_ rfl (.inl rfl) (fun _ => rfl) (fun ρ' M' e1 e2 e3 => box_res (rs := rs) hl (List.all_eq_true.1 hlen.2) e1 e2 e3) hm
    simp [execOp, hop, Instr.box, newVar, newRow, hv, Value.cells]
  · rename_i st v hst hagg
    split at h2 <;> try (simp [ev] at h2; done)
    split at h2 <;> try (simp [ev] at h2; done)
    rename_i hok _ d hdst
    have := ev_ret h2
    simp only [Prod.mk.injEq] at this
    obtain ⟨rfl, _, _⟩ := this
    have hl := hx.toLR hok.2
    obtain ⟨hfr, _, hm⟩ := hnew.ok d _ hdst (by rw [get_single, if_pos rfl])
    refine runs_new h hdst (hd d hdst) hfr (.box t [_]) (.ref d 0) (.pointer (some ⟨w.heap.size, 0, none⟩)) (.cells #[a.eval x] t) ?_ rfl (.inl rfl) (fun _ => rfl) (fun ρ' M' e1 e2 e3 => box_res (rs := rs) (cs := [a.eval x]) (.cons hl .nil) (by intro y hy; rw [List.mem_singleton.1 hy]; exact hok.2) e1 e2 e3) hm
    have hc := cells_one (hl.one hok.2 fun id _ => h.one id)
    simp [execOp, hop, Instr.box, newVar, newRow, hc]

theorem ok_load (hf : Fit P T) (h : Rel T.toCfg M0 w0 sl rs ρ F a w) (hd : ∀ d, o.dst = some d → d < a.tmps.size) {t : TypeId} {x : Operand} (hop : o.op = .load t x) (he : ev sl rs (step P T o) s r = some (out, s1, r1)) : Goal P T M0 w0 sl rs a w o out := by
  simp only [step, hop] at he
  split at he <;> try (simp [ev] at he; done)
  rename_i st hst
  have hty := hf.tys.get hst
  obtain ⟨v, s2, r2, h1, h2⟩ := ev_bind _ _ _ _ _ he
  have hx := opd_rel h h1
  have fin : ∀ {l : List AV} {vs : List Value} {p : Addr} {off : Nat} {s4 r4 : List Nat}, All2 (LR T.toCfg ρ (Mof M0 rs F) w) l vs → (∀ (j : Nat) (u : Value), vs[j]? = some u → w.cell? (p.add j) = some u) → a.eval x = .pointer (some (p.add off)) →
      ev sl rs ((Rd.ofO (loadAV P t st.sz l off)).bind fun v => .ret (⟨v, []⟩ : Out)) s4 r4 = some (out, s1, r1) → Goal P T M0 w0 sl rs a w o out := by
    intro l vs p off s4 r4 hl hc hp hev
    obtain ⟨av, s5, r5, h5, h6⟩ := ev_bind _ _ _ _ _ hev
    obtain ⟨av', e1, e2⟩ := ev_ofO h5
    simp only [Prod.mk.injEq] at e2
    obtain ⟨rfl, _, _⟩ := e2
    obtain rfl := ret_out h6
    obtain ⟨v, g1, g2⟩ := load_ok hty hl p off hc e1
    exact runs_value h hd (v := v) (by simp [execOp, hop, hp, g1]) g2
  split at h2 <;> try (simp [ev] at h2; done)
  · rename_i id off
    obtain ⟨q, h3, h4⟩ := ev_res h2
    split at h4 <;> try (simp [ev] at h4; done)
    rename_i t' cs
    obtain ⟨b, cells, e1, e2, e3, e4, e5⟩ := h.res id _ h3
    simp only [VR, SR, LR] at hx
    obtain ⟨b', e6, e7⟩ := hx
    rw [e1] at e6
    obtain rfl : b = b' := by simpa using e6
    refine fin e4 (p := ⟨b, 0, none⟩) (off := off) (fun j u hj => ?_) (by rw [e7, addr_at]) h4
    rw [addr_at]
    simp only [World.cell?, e3, Option.isSome_none, Bool.false_eq_true, if_false]
    simpa using hj
  · rename_i s0 x0 off
    simp only [VR, SR, LR] at hx
    obtain ⟨ad, cs, e1, e2, e3⟩ := hx
    exact fin (l := leaves s0 x0) (vs := cs) (p := ad) (off := off) (leaves_rel s0 x0 cs e2) e3.now e1 h2
  · rename_i id sz i off
    obtain ⟨q, h3, h4⟩ := ev_res h2
    split at h4 <;> try (simp [ev] at h4; done)
    rename_i e0 s0 l0
    split at h4 <;> try (simp [ev] at h4; done)
    rename_i hsz
    obtain ⟨b1, h5⟩ := ev_br h4
    obtain ⟨b2, h6⟩ := ev_br h5
    simp only [VR, SR, LR] at hx
    obtain ⟨g, n, c, e1, e2⟩ := hx
    obtain ⟨css, ⟨hlen, hown⟩, hF, hel⟩ := h.res id _ h3
    have hi : i.toNat < l0.length := by simp at b1 b2; omega
    obtain ⟨cs, f1, f2⟩ := row_cells hel (i := i.toNat) (List.getElem?_eq_getElem hi)
    have hgi : getI l0 i s0.dflt = l0[i.toNat] := by simp [getI, hi]
    rw [hgi] at h6
    subst hsz
    refine fin (l := leaves s0 l0[i.toNat]) (vs := cs) (p := ⟨g, i.toNat * s0.sz, none⟩) (off := off) (leaves_rel s0 _ cs f1) (fun j u hj => ?_) ?_ h6
    · have hk := f2 j u hj
      rcases hown with ⟨hv, hn⟩ | ⟨g', cap, cur, hv, _, hg, hnc, _, hcs, htake⟩
      · omega
      · rw [e1] at hv
        obtain ⟨rfl, _⟩ : g = g' ∧ _ := by simpa using hv
        rw [← htake, List.getElem?_take] at hk
        split at hk
        · have ha : ((⟨g, i.toNat * s0.sz, none⟩ : Addr).add j) = ⟨g, i.toNat * s0.sz + j, none⟩ := by rw [← addr_at, addr_add, addr_at]
          rw [ha]
          simp only [World.cell?, hg, Option.isSome_none, Bool.false_eq_true, if_false]
          simpa using hk
        · cases hk
    · rw [e2, ← addr_at g (i.toNat * s0.sz), addr_add, addr_at]

end

end Go.Pev
