/- The pure evaluator, part K: the operations, one by one (3): operators, conversions, slices, indexes, lengths. Own text, over any program. -/
import Derived.Test.YtciajnknnoecaaaDoorPevJ
import Derived.Laws.Cover1
import Derived.WideLaws
import Derived.LaidEql
import Derived.Laws.BytesArg
import Derived.Laws.IdiomStrings
namespace Go.Pev

section
variable {P : Program} {T : Tabs} {M0 : Nat → Prop} {w0 : World} {sl : Nat → Option AV} {rs : Nat → Option RS} {ρ : Nat → Value} {F : Nat → Nat → Prop} {a : Act} {w : World} {o : Oper} {out : Out} {s r s1 r1 : List Nat}

theorem elemOf_spec {t e : TypeId} (h : elemOf' P t = some e) : P.underlying t = some (.slice e) := by
  unfold elemOf' at h
  split at h <;> simp at h
  subst h; assumption

theorem RowR.get {C : Cfg} {M : Nat → Prop} {st : Sh} {A : Option Addr} {x : List st.T} (h : RowR C M w st A x) {i : Nat} (hi : i < x.length) :
    ∃ ad cs, A = some ad ∧ RR C M w st (x[i]) cs ∧ Rob M w (fun w => ∀ j u, cs[j]? = some u → w.cell? ((ad.add (i * st.sz)).add j) = some u) := by
  rcases h with rfl | ⟨ad, css, e1, e2, e3⟩
  · simp at hi
  · obtain ⟨cs, f1, f2⟩ := row_cells e2 (i := i) (List.getElem?_eq_getElem hi)
    refine ⟨ad, cs, e1, f1, fun w' hw j u hj => ?_⟩
    rw [addr_add]
    exact e3 w' hw _ _ (f2 j u hj)

theorem run_indexAt {t e : TypeId} {st : Sh} (he : elemOf' P t = some e) (ht : TyOk P e st) (ad : Addr) (n c : Nat) (k : IntKind) (i : Int) (h0 : 0 ≤ i) (h1 : i < n) :
    (Instr.indexAt t (.slice (some ad) n c) (.int k i)).run P w = .ok (.pointer (some (ad.add (i.toNat * st.sz)))) w := by
  obtain ⟨ti, z, hi, hsz, _⟩ := ht.info
  simp [Instr.indexAt, asIntOf, underlying, elemOf_spec he, h0, h1, sizeOf, typeInfo, hi, hsz]

theorem ok_indexAddr (hf : Fit P T) (h : Rel T.toCfg M0 w0 sl rs ρ F a w) (hd : ∀ d, o.dst = some d → d < a.tmps.size) {t : TypeId} {x i : Operand} (hop : o.op = .indexAddr t x i) (he : ev sl rs (step P T o) s r = some (out, s1, r1)) : Goal P T M0 w0 sl rs a w o out := by
  simp only [step, hop] at he
  split at he <;> try (simp [ev] at he; done)
  rename_i e hel
  split at he <;> try (simp [ev] at he; done)
  rename_i st hst
  obtain ⟨v, s2, r2, h1, h2⟩ := ev_bind _ _ _ _ _ he
  have hx := opd_rel h h1
  obtain ⟨vi, s3, r3, h3, h4⟩ := ev_bind _ _ _ _ _ h2
  have hi := opd_rel h h3
  split at h4 <;> try (simp [ev] at h4; done)
  rename_i k n
  simp only [VR, SR, LR] at hi
  have fin : ∀ {l : List st.T} {A : Option Addr} {c : Nat} {s4 r4 : List Nat}, a.eval x = .slice A l.length c → RowR T.toCfg (Mof M0 rs F) w st A l →
      ev sl rs (.br (decide (0 ≤ n)) (.br (decide (n < l.length)) (.ret (⟨.elt st (getI l n st.dflt) 0, []⟩ : Out)) .fail) .fail) s4 r4 = some (out, s1, r1) → Goal P T M0 w0 sl rs a w o out := by
    intro l A c s4 r4 hv hR hev
    obtain ⟨b1, h5⟩ := ev_br hev
    obtain ⟨b2, h6⟩ := ev_br h5
    obtain rfl := ret_out h6
    simp only [decide_eq_true_eq] at b1 b2
    have hlt : n.toNat < l.length := by omega
    obtain ⟨ad, cs, rfl, f1, f2⟩ := hR.get hlt
    have hg : getI l n st.dflt = l[n.toNat] := by simp [getI, hlt]
    refine runs_value h hd (v := .pointer (some (ad.add (n.toNat * st.sz)))) ?_ ⟨ad.add (n.toNat * st.sz), cs, rfl, ?_, f2⟩
    · simp only [execOp, hop, hv, hi, Sem.run_bind, run_indexAt hel (hf.tys.get hst) ad _ c k n b1 b2]
      rfl
    · rw [hg]; exact f1
  split at h4 <;> try (simp [ev] at h4; done)
  · rename_i s0 l
    split at h4 <;> try (simp [ev] at h4; done)
    rename_i hs
    subst hs
    simp only [VR, SR, LR] at hx
    obtain ⟨A, c, e1, e2, e3⟩ := hx
    exact fin e1 e3 h4
  · rename_i id
    obtain ⟨q, h5, h6⟩ := ev_res h4
    simp only [VR, SR, LR] at hx
    split at h6 <;> try (simp [ev] at h6; done)
    · rename_i e' s0 l
      split at h6 <;> try (simp [ev] at h6; done)
      rename_i hs
      obtain ⟨rfl, rfl⟩ := hs
      obtain ⟨b1, h7⟩ := ev_br h6
      obtain ⟨b2, h8⟩ := ev_br h7
      obtain rfl := ret_out h8
      simp only [decide_eq_true_eq] at b1 b2
      obtain ⟨css, ⟨hlen, hown⟩, hF, hrr⟩ := h.res id _ h5
      rcases hown with ⟨hv, hn⟩ | ⟨g, cap, cur, hv, _⟩
      · omega
      · have hv2 : a.eval x = .slice (some ⟨g, 0, none⟩) l.length cap := hx.trans hv
        refine runs_value h hd (v := .pointer (some ⟨g, n.toNat * s0.sz, none⟩)) ?_ ⟨g, l.length, cap, hv, rfl⟩
        simp only [execOp, hop, hv2, hi, Sem.run_bind, run_indexAt hel (hf.tys.get hst) ⟨g, 0, none⟩ _ cap k n b1 b2, addr_at]
        rfl
    · rename_i s0 l
      split at h6 <;> try (simp [ev] at h6; done)
      rename_i hs
      subst hs
      obtain ⟨⟨A, c, e1, e2, e3⟩, _⟩ := h.res id _ h5
      exact fin (hx.trans e1) e3 h6

theorem ok_len (h : Rel T.toCfg M0 w0 sl rs ρ F a w) (hd : ∀ d, o.dst = some d → d < a.tmps.size) {c : Call} (hop : o.op = .call c) (hc : c.callee = .builtin .len) (he : ev sl rs (step P T o) s r = some (out, s1, r1)) : Goal P T M0 w0 sl rs a w o out := by
  simp only [step, hop, hc] at he
  split at he <;> try (simp [ev] at he; done)
  rename_i x t hca hct
  have ha : c.args = #[x] := by rw [← Array.toArray_toList (xs := c.args), hca]
  have ht : c.argTypes = #[t] := by rw [← Array.toArray_toList (xs := c.argTypes), hct]
  obtain ⟨v, s2, r2, h1, h2⟩ := ev_bind _ _ _ _ _ he
  have hx := opd_rel h h1
  have fin : ∀ (n : Nat) (A : Option Addr) (cp : Nat) (e : TypeId), a.eval x = .slice A n cp → elemOf' P t = some e → Goal P T M0 w0 sl rs a w o ⟨.int .i64 n, []⟩ := by
    intro n A cp e hv hel
    refine runs_value h hd (v := .int .i64 n) ?_ rfl
    simp [execOp, hop, resolve, hc, ha, ht, invoke, builtin, Builtin.len_, underlying, elemOf_spec hel, hv, goInt]
  split at h2 <;> try (simp [ev] at h2; done)
  · split at h2 <;> try (simp [ev] at h2; done)
    rename_i hu
    obtain rfl := ret_out h2
    simp only [VR, SR, LR] at hx
    refine runs_value h hd (v := .int .i64 _) ?_ rfl
    simp [execOp, hop, resolve, hc, ha, ht, invoke, builtin, Builtin.len_, underlying, hu, hx, goInt]
  · split at h2 <;> try (simp [ev] at h2; done)
    rename_i e hu
    obtain rfl := ret_out h2
    exact fin 0 none 0 e hx hu
  · split at h2 <;> try (simp [ev] at h2; done)
    rename_i e hu
    obtain rfl := ret_out h2
    simp only [VR, SR, LR] at hx
    obtain ⟨A, cp, e1, _⟩ := hx
    exact fin _ A cp e e1 hu
  · obtain ⟨q, h5, h6⟩ := ev_res h2
    simp only [VR, SR, LR] at hx
    split at h6 <;> try (simp [ev] at h6; done)
    · split at h6 <;> try (simp [ev] at h6; done)
      rename_i e hu
      obtain rfl := ret_out h6
      obtain ⟨css, ⟨hlen, hown⟩, _⟩ := h.res _ _ h5
      rcases hown with ⟨hv, hn⟩ | ⟨g, cap, cur, hv, _⟩
      · exact fin _ none 0 e (by rw [hx, hv, hn]) hu
      · exact fin _ _ cap e (hx.trans hv) hu
    · split at h6 <;> try (simp [ev] at h6; done)
      rename_i e hu
      obtain rfl := ret_out h6
      obtain ⟨⟨A, cp, e1, _⟩, _⟩ := h.res _ _ h5
      exact fin _ A cp e (hx.trans e1) hu

/-- A second operand of append (or bytes to be a string): where it lies, and what it reads as. -/
theorem appSrc_ok (h : Rel T.toCfg M0 w0 sl rs ρ F a w) {st : Sh} {x : AV} {v : Value} {l : List st.T} (hx : VR T.toCfg ρ (Mof M0 rs F) w x v) (he : ev sl rs (appSrc st x) s r = some (l, s1, r1)) :
    ∃ A c css, v = .slice A l.length c ∧ All2 (RR T.toCfg (Mof M0 rs F) w st) l css ∧ (A = none → l = []) ∧ ∀ ad, A = some ad → ∀ (j : Nat) (u : Value), css.flatten[j]? = some u → w.cell? (ad.add j) = some u := by
  have rowcase : ∀ {s' : Sh} {l' : List s'.T} {A : Option Addr} {c : Nat}, v = .slice A l'.length c → RowR T.toCfg (Mof M0 rs F) w s' A l' → castL s' st l' = some l →
      ∃ A c css, v = .slice A l.length c ∧ All2 (RR T.toCfg (Mof M0 rs F) w st) l css ∧ (A = none → l = []) ∧ ∀ ad, A = some ad → ∀ (j : Nat) (u : Value), css.flatten[j]? = some u → w.cell? (ad.add j) = some u := by
    intro s' l' A c hv hR hc
    obtain ⟨e, rfl⟩ := castL_some hc
    subst e
    rcases hR with rfl | ⟨ad, css, rfl, e2, e3⟩
    · exact ⟨A, c, [], hv, .nil, fun _ => rfl, fun ad _ j u hj => by simp at hj⟩
    · exact ⟨some ad, c, css, hv, e2, (fun h => by cases h), (fun ad' h' => by obtain rfl := Option.some.inj h'; exact e3.now)⟩
  unfold appSrc at he
  split at he <;> try (simp [ev] at he; done)
  · rename_i id
    simp only [VR, SR, LR] at hx
    obtain ⟨q, h5, h6⟩ := ev_res he
    split at h6 <;> try (simp [ev] at h6; done)
    · rename_i e' s' l'
      obtain ⟨l2, e1, e2⟩ := ev_ofO h6
      simp only [Prod.mk.injEq] at e2
      obtain ⟨rfl, _, _⟩ := e2
      obtain ⟨e, rfl⟩ := castL_some e1
      subst e
      obtain ⟨css, ⟨hlen, hown⟩, hF, hrr⟩ := h.res id _ h5
      rcases hown with ⟨hv, hn⟩ | ⟨g, cap, cur, hv, _, hg, hnc, _, hcs, htake⟩
      · have : l' = [] := List.eq_nil_of_length_eq_zero hn
        subst this
        exact ⟨none, 0, [], by rw [hx, hv]; rfl, .nil, fun _ => rfl, fun ad h' => by cases h'⟩
      · refine ⟨some ⟨g, 0, none⟩, cap, css, hx.trans hv, hrr, (fun h' => by cases h'), fun ad h' j u hj => ?_⟩
        obtain rfl := Option.some.inj h'
        rw [addr_at]
        simp only [World.cell?, hg, Option.isSome_none, Bool.false_eq_true, if_false]
        rw [← htake, List.getElem?_take] at hj
        split at hj
        · simpa using hj
        · cases hj
    · rename_i s' l'
      obtain ⟨l2, e1, e2⟩ := ev_ofO h6
      simp only [Prod.mk.injEq] at e2
      obtain ⟨rfl, _, _⟩ := e2
      obtain ⟨⟨A, c, f1, f2, f3⟩, _⟩ := h.res id _ h5
      exact rowcase (hx.trans f1) f3 e1
  · rename_i s' l'
    obtain ⟨l2, e1, e2⟩ := ev_ofO he
    simp only [Prod.mk.injEq] at e2
    obtain ⟨rfl, _, _⟩ := e2
    simp only [VR, SR, LR] at hx
    obtain ⟨A, c, f1, f2, f3⟩ := hx
    exact rowcase f1 f3 e1
  · have := ev_ret he
    simp only [Prod.mk.injEq] at this
    obtain ⟨rfl, _, _⟩ := this
    simp only [VR, SR, LR] at hx
    exact ⟨none, 0, [], hx, .nil, fun _ => rfl, fun ad h' => by cases h'⟩

theorem u8_css {C : Cfg} {M : Nat → Prop} {w : World} : ∀ {l : List Int} {css : List (List Value)}, All2 (RR C M w (.int .u8)) l css → css.flatten = l.map (Value.int .u8)
  | _, _, .nil => rfl
  | _, _, .cons h t => by simp only [RR] at h; subst h; simp [u8_css t]

theorem ok_convert (h : Rel T.toCfg M0 w0 sl rs ρ F a w) (hd : ∀ d, o.dst = some d → d < a.tmps.size) {src dst : TypeId} {x : Operand} (hop : o.op = .convert src dst x) (he : ev sl rs (step P T o) s r = some (out, s1, r1)) : Goal P T M0 w0 sl rs a w o out := by
  simp only [step, hop] at he
  obtain ⟨v, s2, r2, h1, h2⟩ := ev_bind _ _ _ _ _ he
  have hx := opd_rel h h1
  split at h2
  · split at h2 <;> try (simp [ev] at h2; done)
    rename_i hs hdd
    obtain rfl := ret_out h2
    simp only [VR, SR, LR] at hx
    refine runs_value h hd (v := .int _ _) ?_ rfl
    simp [execOp, hop, hx, convert, underlying, hs, hdd, Conv.intToInt]
  · rename_i b
    split at h2 <;> try (simp [ev] at h2; done)
    · rename_i hs hdd
      obtain rfl := ret_out h2
      simp only [VR, SR, LR] at hx
      refine runs_value h hd (v := .string _) ?_ rfl
      simp [execOp, hop, hx, convert, underlying, hs, hdd]
    · rename_i e hs hdd
      split at h2 <;> try (simp [ev] at h2; done)
      rename_i he8
      obtain rfl := ret_out h2
      simp only [VR, SR, LR] at hx
      have hrun := run_bytes_of_string w src dst e b hs hdd he8
      have hk : KeepS (fun _ => False) w (w.drew.alloc (.cells (bytesRow b (grownCap w b.size 0 e)) e ((bytesRow b (grownCap w b.size 0 e)).size, (bytesRow b (grownCap w b.size 0 e)).size + 1))) := (KeepS.drew w).trans (KeepS.alloc _ _)
      refine .inl ⟨.slice (some ⟨w.heap.size, 0, none⟩) b.size (grownCap w b.size 0 e), w.drew.alloc (.cells (bytesRow b (grownCap w b.size 0 e)) e ((bytesRow b (grownCap w b.size 0 e)).size, (bytesRow b (grownCap w b.size 0 e)).size + 1)), ?_, ρ, F, ?_⟩
      rotate_left
      · rw [updR_nil]
        refine (h.world hk).put o.dst hd (.sl (.int .u8) (u8s b)) (.slice (some ⟨w.heap.size, 0, none⟩) b.size (grownCap w b.size 0 e)) ?_
        have hul : (u8s b).length = b.size := by simp only [u8s, List.length_map, Array.length_toList]; rfl
        refine ⟨some ⟨w.heap.size, 0, none⟩, grownCap w b.size 0 e, by rw [hul], by rw [hul]; exact grownCap_ge w b.size 0 e, .inr ⟨⟨w.heap.size, 0, none⟩, (u8s b).map fun n => [.int .u8 n], rfl, ?_, ?_⟩⟩
        · generalize u8s b = l
          induction l with
          | nil => exact .nil
          | cons n l ih => exact .cons rfl ih
        · intro w' hw' j u hj
          have hb : w.heap.size < (w.drew.alloc (.cells (bytesRow b (grownCap w b.size 0 e)) e ((bytesRow b (grownCap w b.size 0 e)).size, (bytesRow b (grownCap w b.size 0 e)).size + 1))).heap.size := by simp
          have hnM : ¬ Mof M0 rs F w.heap.size := by
            rintro (h0 | ⟨id, st, hst, hF⟩)
            · have := h.m0 _ h0; have := h.keep.size; omega
            · have := (h.rng id st _ hst hF).2; omega
          rw [addr_at]
          have hheap := (hw'.block w.heap.size hb hnM).trans (heap_alloc_new w.drew _)
          simp only [World.cell?, hheap, Option.isSome_none, Bool.false_eq_true, if_false]
          have hfl : ((u8s b).map fun n => [Value.int .u8 n]).flatten = (u8s b).map (Value.int .u8) := by
            generalize u8s b = l
            induction l with
            | nil => rfl
            | cons n l ih => simp [ih]
          rw [hfl] at hj
          have hlt : j < b.size := by
            rw [← hul]
            have := (List.getElem?_eq_some_iff.1 hj).1
            simpa using this
          have hlt' : j < b.data.size := hlt
          simp only [bytesRow]
          rw [Array.getElem?_append_left (by simpa using hlt')]
          simp only [u8s, List.map_map, List.getElem?_map] at hj
          simpa using hj
      · simp only [execOp, hop, hx, Sem.run_bind, hrun]
        rfl
  · split at h2 <;> try (simp [ev] at h2; done)
    rename_i e hel hdd
    split at h2 <;> try (simp [ev] at h2; done)
    rename_i he8
    obtain ⟨(l : List Int), s3, r3, h3, h4⟩ := ev_bind _ _ _ _ _ h2
    obtain rfl := ret_out h4
    obtain ⟨A, c, css, e1, e2, e3, e4⟩ := appSrc_ok h hx h3
    refine runs_value h hd (v := .string _) ?_ rfl
    have hrun : (convert src dst (a.eval x)).run P w = .ok (.string (strOfNums l)) w := by
      rw [e1]
      cases A with
      | none =>
        have hl : l = [] := e3 rfl
        subst hl
        exact run_convert_bytes_nil w src e (elemOf_spec hel) he8 _ _ dst hdd
      | some ad =>
        have hl := run_loadCells_list (P := P) w ad (l.map (Value.int .u8)) (by rw [← u8_css e2]; exact e4 ad rfl)
        rw [List.length_map] at hl
        rw [run_convert_bytes_string w src dst e _ _ c (elemOf_spec hel) he8 hdd, run_bytesToString w _ _ c l hl, foldl_push_bytes]
        simp [strOfNums, ByteArray.empty, ByteArray.emptyWithCapacity]
        rfl
    simp only [execOp, hop, Sem.run_bind, hrun]
    rfl

theorem run_sliceStr {t : TypeId} (hu : P.underlying t = some .string) (st : ByteArray) (lo hi : Option Value) (l h : Int) (hl : lo = none ∧ l = 0 ∨ ∃ k, lo = some (.int k l)) (hh : hi = none ∧ h = st.size ∨ ∃ k, hi = some (.int k h)) (h0 : 0 ≤ l) (h1 : l ≤ h) (h2 : h ≤ st.size) :
    (Instr.sliceAt t (.string st) lo hi none).run P w = .ok (.string (st.extract l.toNat h.toNat)) w := by
  have h3 : 0 ≤ h := by omega
  have hm : max h 0 = h := by omega
  have hn : ¬ h < l := by omega
  rcases hl with ⟨rfl, rfl⟩ | ⟨k, rfl⟩ <;> rcases hh with ⟨rfl, rfl⟩ | ⟨k', rfl⟩ <;>
    simp [hm, Instr.sliceAt, underlying, hu, Instr.slice, Instr.sliceBounds, Instr.sliceBound, asIntOf, h0, h1, h2, h3]

theorem run_sliceRow {t e : TypeId} {se : Sh} (hel : elemOf' P t = some e) (ht : TyOk P e se) (A : Option Addr) (n c : Nat) (hnc : n ≤ c) (lo hi : Option Value) (l h : Int) (hl : lo = none ∧ l = 0 ∨ ∃ k, lo = some (.int k l)) (hh : hi = none ∧ h = n ∨ ∃ k, hi = some (.int k h)) (h0 : 0 ≤ l) (h1 : l ≤ h) (h2 : h ≤ n) :
    (Instr.sliceAt t (.slice A n c) lo hi none).run P w = .ok (.slice (if c = l.toNat then A else A.map (·.add (l.toNat * se.sz))) (h.toNat - l.toNat) (c - l.toNat)) w := by
  obtain ⟨ti, z, hi', hsz, _⟩ := ht.info
  have h3 : 0 ≤ h := by omega
  have h4 : h ≤ c := by omega
  have hm : max h 0 = h := by omega
  have hn : ¬ h < l := by omega
  rcases hl with ⟨rfl, rfl⟩ | ⟨k, rfl⟩ <;> rcases hh with ⟨rfl, rfl⟩ | ⟨k', rfl⟩ <;>
    simp [hm, Instr.sliceAt, underlying, elemOf_spec hel, Instr.slice, Instr.sliceBounds, Instr.sliceBound, asIntOf, h0, h1, h3, h4, sizeOf, typeInfo, hi', hsz]

theorem bound_ok (h : Rel T.toCfg M0 w0 sl rs ρ F a w) {x : Option Operand} {n : Nat} {i : Int} (he : ev sl rs (step.bound x n) s r = some (i, s1, r1)) : (x.map a.eval = none ∧ i = n) ∨ ∃ k, x.map a.eval = some (.int k i) := by
  cases x with
  | none =>
    have := ev_ret he
    simp only [Prod.mk.injEq] at this
    exact .inl ⟨rfl, this.1⟩
  | some y =>
    simp only [step.bound] at he
    obtain ⟨v, s2, r2, h1, h2⟩ := ev_bind _ _ _ _ _ he
    have hx := opd_rel h h1
    split at h2 <;> try (simp [ev] at h2; done)
    rename_i k j
    have := ev_ret h2
    simp only [Prod.mk.injEq] at this
    obtain ⟨rfl, _, _⟩ := this
    simp only [VR, SR, LR] at hx
    exact .inr ⟨k, by simp [hx]⟩

theorem ok_minmax (h : Rel T.toCfg M0 w0 sl rs ρ F a w) (hd : ∀ d, o.dst = some d → d < a.tmps.size) {c : Call} (hop : o.op = .call c) (hc : c.callee = .builtin .min ∨ c.callee = .builtin .max) (he : ev sl rs (step P T o) s r = some (out, s1, r1)) : Goal P T M0 w0 sl rs a w o out := by
  rcases hc with hc | hc
  all_goals
    simp only [step, hop, hc] at he
    split at he <;> try (simp [ev] at he; done)
    rename_i x y hca
    have ha : c.args = #[x, y] := by rw [← Array.toArray_toList (xs := c.args), hca]
    obtain ⟨v, s2, r2, h1, h2⟩ := ev_bind _ _ _ _ _ he
    have hx := opd_rel h h1
    obtain ⟨v', s3, r3, h3, h4⟩ := ev_bind _ _ _ _ _ h2
    have hy := opd_rel h h3
    split at h4 <;> try (simp [ev] at h4; done)
    rename_i k m k' n
    obtain rfl := ret_out h4
    simp only [VR, SR, LR] at hx hy
    refine runs_value h hd (v := .int k _) ?_ rfl
    simp [execOp, hop, resolve, hc, ha, invoke, builtin, Builtin.min_, Builtin.max_, Builtin.min2, Builtin.max2, hx, hy, Bool.cond_decide]

theorem ok_slice (hf : Fit P T) (h : Rel T.toCfg M0 w0 sl rs ρ F a w) (hd : ∀ d, o.dst = some d → d < a.tmps.size) {t : TypeId} {x : Operand} {lo hi : Option Operand} (hop : o.op = .slice t x lo hi none) (he : ev sl rs (step P T o) s r = some (out, s1, r1)) : Goal P T M0 w0 sl rs a w o out := by
  simp only [step, hop] at he
  obtain ⟨v, s2, r2, h1, h2⟩ := ev_bind _ _ _ _ _ he
  have hx := opd_rel h h1
  split at h2 <;> try (simp [ev] at h2; done)
  · rename_i str
    split at h2 <;> try (simp [ev] at h2; done)
    rename_i hu
    obtain ⟨l, s3, r3, h3, h4⟩ := ev_bind _ _ _ _ _ h2
    obtain ⟨hh, s4, r4, h5, h6⟩ := ev_bind _ _ _ _ _ h4
    obtain ⟨b1, h7⟩ := ev_br h6
    obtain ⟨b2, h8⟩ := ev_br h7
    obtain ⟨b3, h9⟩ := ev_br h8
    obtain rfl := ret_out h9
    simp only [decide_eq_true_eq] at b1 b2 b3
    simp only [VR, SR, LR] at hx
    refine runs_value h hd (v := .string _) ?_ rfl
    have := run_sliceStr (w := w) hu str (lo.map a.eval) (hi.map a.eval) l hh (by simpa using bound_ok h h3) (bound_ok h h5) b1 b2 b3
    simp only [execOp, hop, hx, Sem.run_bind, Option.map_none, this]
    rfl
  · rename_i s0 xs
    split at h2 <;> try (simp [ev] at h2; done)
    rename_i e hel
    split at h2 <;> try (simp [ev] at h2; done)
    rename_i se hse
    split at h2 <;> try (simp [ev] at h2; done)
    rename_i hs
    subst hs
    obtain ⟨l, s3, r3, h3, h4⟩ := ev_bind _ _ _ _ _ h2
    obtain ⟨hh, s4, r4, h5, h6⟩ := ev_bind _ _ _ _ _ h4
    obtain ⟨b1, h7⟩ := ev_br h6
    obtain ⟨b2, h8⟩ := ev_br h7
    obtain ⟨b3, h9⟩ := ev_br h8
    obtain rfl := ret_out h9
    simp only [decide_eq_true_eq] at b1 b2 b3
    simp only [VR, SR, LR] at hx
    obtain ⟨A, c, e1, e2, e3⟩ := hx
    have hlen : ((xs.drop l.toNat).take (hh - l).toNat).length = hh.toNat - l.toNat := by
      simp only [List.length_take, List.length_drop]; omega
    refine runs_value h hd (v := .slice (if c = l.toNat then A else A.map (·.add (l.toNat * s0.sz))) (hh.toNat - l.toNat) (c - l.toNat)) ?_ ⟨_, c - l.toNat, by rw [hlen], by rw [hlen]; omega, ?_⟩
    · have := run_sliceRow (w := w) hel (hf.tys.get hse) A xs.length c e2 (lo.map a.eval) (hi.map a.eval) l hh (by simpa using bound_ok h h3) (bound_ok h h5) b1 b2 b3
      simp only [execOp, hop, e1, Sem.run_bind, Option.map_none, this]
      rfl
    · by_cases hc : c = l.toNat
      · left
        refine List.eq_nil_of_length_eq_zero ?_
        rw [hlen]; omega
      · rw [if_neg hc]
        rcases e3 with rfl | ⟨ad, css, rfl, f2, f3⟩
        · exact .inl (by simp)
        · refine .inr ⟨ad.add (l.toNat * s0.sz), (css.drop l.toNat).take (hh - l).toNat, rfl, (f2.drop _).take _, fun w' hw j u hj => ?_⟩
          rw [addr_add]
          refine f3 w' hw _ _ ?_
          exact flatten_cut (fun c hc => by obtain ⟨z, _, hz⟩ := f2.mem_right c hc; exact RR.len s0 z c hz) hj
where
  flatten_cut {css : List (List Value)} {n i m j : Nat} {u : Value} (hn : ∀ c ∈ css, c.length = n) (hj : ((css.drop i).take m).flatten[j]? = some u) : css.flatten[i * n + j]? = some u := by
    induction i generalizing css with
    | zero =>
      simp only [List.drop_zero, Nat.zero_mul, Nat.zero_add] at hj ⊢
      induction m generalizing css j with
      | zero => simp at hj
      | succ m ih =>
        cases css with
        | nil => simp at hj
        | cons c r =>
          simp only [List.take_succ_cons, List.flatten_cons] at hj ⊢
          rw [List.getElem?_append] at hj ⊢
          split
          · rename_i hlt; simpa [hlt] using hj
          · rename_i hlt; rw [if_neg hlt] at hj; exact ih (fun c hc => hn c (List.mem_cons_of_mem _ hc)) hj
    | succ i ih =>
      cases css with
      | nil => simp at hj
      | cons c r =>
        have hc := hn c List.mem_cons_self
        simp only [List.drop_succ_cons] at hj
        simp only [List.flatten_cons]
        rw [List.getElem?_append_right (by rw [hc, Nat.succ_mul]; omega)]
        rw [show (i + 1) * n + j - c.length = i * n + j by rw [hc, Nat.succ_mul]; omega]
        exact ih (fun c hc => hn c (List.mem_cons_of_mem _ hc)) hj

end

end Go.Pev
