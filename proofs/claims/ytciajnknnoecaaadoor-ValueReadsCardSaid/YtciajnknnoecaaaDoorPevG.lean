/- The pure evaluator, part G: loads, stores, rows as data. Own text, over any program. -/
import Derived.Test.YtciajnknnoecaaaDoorPevF
import Derived.Laws.CopyRow
namespace Go.Pev

section
variable {P : Program} {T : Tabs} {M0 : Nat → Prop} {w0 : World} {sl : Nat → Option AV} {rs : Nat → Option RS} {ρ : Nat → Value} {F : Nat → Nat → Prop} {a : Act} {w : World} {C : Cfg} {M : Nat → Prop}

theorem LR.toSR {x : AV} {v : Value} (h : LR C ρ M w x v) : SR C ρ M w x v := by cases x <;> first | exact h | exact h.elim
theorem LR.toVR {x : AV} {v : Value} (h : LR C ρ M w x v) : VR C ρ M w x v := by cases x <;> first | exact h | exact h.elim
theorem SR.toVR {x : AV} {v : Value} (h : SR C ρ M w x v) : VR C ρ M w x v := by cases x <;> first | exact h | exact h.elim
theorem VR.toSR {x : AV} {v : Value} (hx : ∀ l, x ≠ .tup l) (h : VR C ρ M w x v) : SR C ρ M w x v := by cases x <;> first | exact h | exact absurd rfl (hx _)
theorem VR.toLR {x : AV} {v : Value} (hx : okLeaf x = true) (h : VR C ρ M w x v) : LR C ρ M w x v := by cases x <;> first | exact h | (simp [okLeaf] at hx)
theorem VR.ag {l : List AV} {v : Value} (h : VR C ρ M w (.ag l) v) : ∃ cs : List Value, v = .agg cs.toArray ∧ All2 (LR C ρ M w) l cs := h
theorem cells_one {v : Value} (h : v.oneCell' = true) : v.cells = #[v] := by cases v <;> first | rfl | simp [Value.oneCell'] at h
/-- A value that is no tuple, as its leaves and its cells. -/
theorem VR.lv (h1 : ∀ id, (ρ id).oneCell' = true) {x : AV} {v : Value} (h : VR C ρ M w x v) (hx : (∃ l, x = .ag l) ∨ okLeaf x = true) : ∃ cs : List Value, v.cells = cs.toArray ∧ All2 (LR C ρ M w) x.lv cs ∧ ((∃ l, x = .ag l ∧ v = .agg cs.toArray) ∨ cs = [v]) := by
  rcases hx with ⟨l, rfl⟩ | hx
  · obtain ⟨cs, rfl, h2⟩ := h.ag
    exact ⟨cs, rfl, h2, .inl ⟨l, rfl, rfl⟩⟩
  · have hl := h.toLR hx
    have hlv : x.lv = [x] := by cases x <;> first | rfl | simp [okLeaf] at hx
    exact ⟨[v], cells_one (hl.one hx fun id _ => h1 id), by rw [hlv]; exact .cons hl .nil, .inr rfl⟩

theorem addr_add (ad : Addr) (m n : Nat) : (ad.add m).add n = ad.add (m + n) := by
  unfold Addr.add
  by_cases hm : m = 0
  · subst hm; simp
  · by_cases hn : n = 0
    · subst hn; simp [hm]
    · have : ¬ (m + n = 0) := by omega
      simp [hm, hn, Nat.add_assoc]
theorem addr_at (b n : Nat) : (⟨b, 0, none⟩ : Addr).add n = ⟨b, n, none⟩ := by
  unfold Addr.add
  by_cases hn : n = 0
  · subst hn; simp
  · simp [hn]

theorem aggOf_true {t : TypeId} (h : aggOf P t = some true) : (isAgg t).run P w = .ok true w := by
  unfold aggOf at h
  unfold isAgg underlying
  cases hu : P.underlying t with
  | none => simp [hu] at h
  | some d => simp [hu] at h ⊢; cases d <;> simp at h ⊢
theorem aggOf_false {t : TypeId} (h : aggOf P t = some false) : (isAgg t).run P w = .ok false w := by
  unfold aggOf at h
  unfold isAgg underlying
  cases hu : P.underlying t with
  | none => simp [hu] at h
  | some d => simp [hu] at h ⊢; cases d <;> simp at h ⊢

/-- A load out of cells that read as these leaves. -/
theorem load_ok {t : TypeId} {st : Sh} (ht : TyOk P t st) {l : List AV} {vs : List Value} (hl : All2 (LR C ρ M w) l vs) (p : Addr) (off : Nat) (hc : ∀ j u, vs[j]? = some u → w.cell? (p.add j) = some u) {av : AV}
    (h : loadAV P t st.sz l off = some av) : ∃ v, (Instr.loadAt t (.pointer (some (p.add off)))).run P w = .ok v w ∧ VR C ρ M w av v := by
  unfold loadAV at h
  split at h
  · rename_i hagg
    split at h
    · rename_i hle
      obtain rfl : AV.ag ((l.drop off).take st.sz) = av := by simpa using h
      have h2 := (hl.drop off).take st.sz
      have hlen := hl.length
      have hcs : ((vs.drop off).take st.sz).length = st.sz := by simp; omega
      refine ⟨.agg ((vs.drop off).take st.sz).toArray, ?_, ⟨_, rfl, h2⟩⟩
      obtain ⟨i, z, hi, hsz, _⟩ := ht.info
      have hload := run_loadCells_list (P := P) w (p.add off) ((vs.drop off).take st.sz) (fun j u hj => by
        rw [addr_add]
        refine hc _ _ ?_
        rw [List.getElem?_take] at hj
        split at hj
        · rw [List.getElem?_drop] at hj; exact hj
        · cases hj)
      rw [hcs] at hload
      simp only [Instr.loadAt, Instr.sureAddr, loadVar, Sem.run_bind, Sem.run_pure, Result.andThen_ok, aggOf_true hagg, if_true, sizeOf, typeInfo, run_program, hi, hsz, hload]
    · cases h
  · rename_i hagg
    rw [List.head?_drop] at h
    obtain ⟨u, hu, hr⟩ := hl.get off av h
    refine ⟨u, ?_, hr.toVR⟩
    have := hc off u hu
    simp only [Instr.loadAt, Instr.sureAddr, loadVar, Sem.run_bind, Sem.run_pure, Result.andThen_ok, aggOf_false hagg, Bool.false_eq_true, if_false, run_load, this]
  · cases h

/-! ### rows of one's own count as data -/

def FreezeWs (rs : Nat → Option RS) (ws : Ws) : Prop := ∀ id r, get ws id = some r → ∃ e s l, rs id = some (.row e s l) ∧ r = some (.fro s l)

theorem get_append {α : Type} (l m : List (Nat × α)) (t : Nat) : get (l ++ m) t = match get l t with | some a => some a | none => get m t := by
  induction l with
  | nil => rfl
  | cons p l ih =>
    obtain ⟨k, v⟩ := p
    simp only [List.cons_append, get]
    split <;> first | rfl | exact ih

theorem FreezeWs.nil : FreezeWs rs [] := fun id r h => by simp [get] at h
theorem FreezeWs.append {x y : Ws} (h : FreezeWs rs x) (h' : FreezeWs rs y) : FreezeWs rs (x ++ y) := by
  intro id r hg
  rw [get_append] at hg
  cases hx : get x id with
  | none => rw [hx] at hg; exact h' id r hg
  | some q => rw [hx] at hg; obtain rfl : q = r := by simpa using hg
              exact h id _ hx

theorem Rel.freeze (h : Rel C M0 w0 sl rs ρ F a w) {ws : Ws} (hz : FreezeWs rs ws) : Rel C M0 w0 sl (updR rs ws) ρ (fun id => if (get ws id).isSome then (fun _ => False) else F id) a w := by
  refine h.upd (G := fun _ => False) (fun id => (get ws id).isSome) (KeepS.refl _ _) (fun _ g => g.elim) (fun id hid => ?_) (fun _ _ _ _ _ => rfl) (fun _ _ _ _ => ⟨rfl, fun _ _ => rfl⟩) (fun _ _ _ _ _ _ g => g) (fun id st hid hst => ?_) h.one
  · have : get ws id = none := by cases hg : get ws id with | none => rfl | some r => simp [hg] at hid
    exact ⟨by simp [updR, this], by simp [this]⟩
  · obtain ⟨r, hr⟩ := Option.isSome_iff_exists.1 hid
    obtain ⟨e, s, l, e1, rfl⟩ := hz id r hr
    simp only [updR, hr, Option.some.injEq] at hst
    subst hst
    refine ⟨fun hs => ?_, fun k hk => by simp [hr] at hk⟩
    simp only [hr, Option.isSome_some, if_true]
    refine ⟨?_, fun k hk => hk⟩
    obtain ⟨css, ⟨hlen, hown⟩, hF, hel⟩ := h.res id _ e1
    rcases hown with ⟨hv, hn⟩ | ⟨g, cap, cur, hv, _, hg, hnc, _, hcs, htake⟩
    · have : l = [] := List.eq_nil_of_length_eq_zero hn
      subst this
      exact ⟨none, 0, by rw [hv]; rfl, Nat.le_refl _, .inl rfl⟩
    · refine ⟨some ⟨g, 0, none⟩, cap, hv, hnc, ?_⟩
      have hgb : g < w.heap.size := by
        rcases Nat.lt_or_ge g w.heap.size with h' | h'
        · exact h'
        · rw [Array.getElem?_eq_none h'] at hg; cases hg
      have hFg : F id g := (hF g).2 (by rw [hv]; rfl)
      have hnm : ¬ Mof M0 (updR rs ws) (fun id => if (get ws id).isSome then (fun _ => False) else F id) g := by
        rintro (h0 | ⟨j, st, hj, hFj⟩)
        · have := h.m0 g h0; have := (h.rng id _ g e1 hFg).1; omega
        · by_cases hjs : (get ws j).isSome
          · simp only [hjs, if_true] at hFj
          · simp only [hjs] at hFj
            have hj' : rs j = some st := by
              have : get ws j = none := by cases hgj : get ws j with | none => rfl | some r => simp [hgj] at hjs
              simpa [updR, this] using hj
            by_cases hij : j = id
            · subst hij; simp [hr] at hjs
            · exact h.disj j id st _ g hj' e1 hij (by simpa using hFj) hFg
      refine .inr ⟨⟨g, 0, none⟩, css, rfl, hel.imp fun x cs hx => RR.step (KeepS.refl _ w) hs s x cs hx, fun w' hw j u hju => ?_⟩
      have hheap := hw.block g hgb hnm
      rw [addr_at]
      unfold World.cell?
      simp only [hheap, hg, Option.isSome_none, Bool.false_eq_true, if_false]
      rw [← htake] at hju
      rw [List.getElem?_take] at hju
      split at hju
      · simpa using hju
      · cases hju

end

end Go.Pev
