/- The pure evaluator, part T: a statement's arguments as data; what is read behind the call. Own text, over any program. -/
import Derived.Test.YtciajnknnoecaaaDoorPevS
import Derived.ChangeOld
import Derived.Deep.Slices
import Derived.ChangeShapes
import Derived.Carry
namespace Go.Pev

section
variable {H : Type} {enc : TypeId × Value → H} {P : Program} {w w' : World} {base : Nat} {spare : Nat → Bool} {held : Bool} {C : Cfg}

def argFs (P : Program) (chk : TypeId → Sh → Bool) : List Field → Sh → Nat → Bool
  | [], _, _ => false
  | f :: fs, s, off => match fs, s with
    | [], s => Nat.beq f.offset off && chk f.type s && Nat.beq (P.cellsOf f.type) s.sz
    | g :: fs, .pair a b => Nat.beq f.offset off && chk f.type a && Nat.beq (P.cellsOf f.type) a.sz && argFs P chk (g :: fs) b (off + a.sz)
    | _ :: _, _ => false
/-- A type of arguments has this shape. -/
def argShp (P : Program) : Nat → TypeId → Sh → Bool
  | 0, _, _ => false
  | d + 1, t, s => match P.underlying t with
    | some (.int k) => decide (s = .int k)
    | some .bool => decide (s = .bool)
    | some .string => decide (s = .str)
    | some (.slice e) => match s with
      | .sl s' => argShp P d e s' && Nat.beq (P.cellsOf e) s'.sz
      | _ => false
    | some (.struct fs) => argFs P (argShp P d) fs.toList s 0 && Nat.beq (P.cellsOf t) s.sz
    | _ => false

theorem cells_rob {a : Addr} {n : Nat} {cs : List Value} (h : w.cells? base a n = some cs) : Rob (fun _ => False) w (fun w => ∀ j u, cs[j]? = some u → w.cell? (a.add j) = some u) := by
  intro w' hw j u hj
  obtain ⟨_, hl, hc⟩ := World.cells?_some h
  have hjn : j < n := by rw [← hl]; exact (List.getElem?_eq_some_iff.1 hj).1
  have h1 := (hc j hjn).trans hj
  exact (World.cell?_of_block (hw.block _ (World.block_lt_of_cell? w _ h1) (fun f => f))).trans h1

theorem all2_of {α β : Type} {r : α → β → Prop} : ∀ (n : Nat), (∀ i, i < n → ∃ a b, r a b) → ∀ (Q : Nat → α → β → Prop), (∀ i, i < n → ∃ a b, r a b ∧ Q i a b) → ∃ (l : List α) (m : List β), l.length = n ∧ All2 r l m ∧ ∀ i, i < n → ∃ a b, l[i]? = some a ∧ m[i]? = some b ∧ Q i a b
  | 0, _, _, _ => ⟨[], [], rfl, .nil, fun i hi => absurd hi (Nat.not_lt_zero _)⟩
  | n + 1, h0, Q, h => by
    obtain ⟨l, m, h1, h2, h3⟩ := all2_of n (fun i hi => h0 i (by omega)) (fun i a b => Q (i + 1) a b) (fun i hi => h (i + 1) (by omega))
    obtain ⟨a, b, h4, h5⟩ := h 0 (by omega)
    refine ⟨a :: l, b :: m, by simp [h1], .cons h4 h2, fun i hi => ?_⟩
    cases i with
    | zero => exact ⟨a, b, by simp, by simp, h5⟩
    | succ i => obtain ⟨a', b', g1, g2, g3⟩ := h3 i (by omega); exact ⟨a', b', by simpa using g1, by simpa using g2, g3⟩

/-- Integers of their kinds, strings no longer than any is. -/
def wfS : (s : Sh) → s.T → Prop
  | .int k, x => (Lit.int k x).wf = true
  | .str, x => x.size ≤ maxLen
  | .sl s, l => ∀ x ∈ l, wfS s x
  | .pair a b, x => wfS a x.1 ∧ wfS b x.2
  | _, _ => True

theorem All2.left {α β : Type} {r : α → β → Prop} {p : α → Prop} : ∀ {l : List α} {m : List β}, All2 (fun x y => r x y ∧ p x) l m → All2 r l m ∧ ∀ x ∈ l, p x
  | _, _, .nil => ⟨.nil, fun _ h => by cases h⟩
  | _, _, .cons h t => ⟨.cons h.1 t.left.1, fun x hx => by
    rcases List.mem_cons.1 hx with rfl | hx
    · exact h.2
    · exact t.left.2 x hx⟩

theorem fields_RR {d : Nat} (ih : ∀ (t : TypeId) (s : Sh) (fuel : Nat) (cs : List Value) (x : DataW H × List MemPlace), argShp P d t s = true → DataW.trod enc P w base spare held fuel t cs = some x → ∃ y : s.T, RR C (fun _ => False) w s y cs ∧ wfS s y) {n : Nat} {cs : List Value} :
    ∀ (fs : List Field) (s : Sh) (off : Nat), argFs P (argShp P d) fs s off = true → cs.length = off + s.sz → (∀ f ∈ fs, ∃ x, DataW.trod enc P w base spare held n f.type ((cs.drop f.offset).take (P.cellsOf f.type)) = some x) → ∃ y : s.T, RR C (fun _ => False) w s y (cs.drop off) ∧ wfS s y
  | [], _, _, h, _, _ => by simp [argFs] at h
  | [f], s, off, h, hl, hx => by
    simp only [argFs, Bool.and_eq_true] at h
    obtain ⟨⟨h1, h2⟩, h3⟩ := h
    obtain ⟨x, hx⟩ := hx f List.mem_cons_self
    have e1 := Nat.eq_of_beq_eq_true h1
    have e3 := Nat.eq_of_beq_eq_true h3
    obtain ⟨y, hy, hw⟩ := ih _ _ _ _ _ h2 hx
    rw [e1, e3, List.take_of_length_le (by simp; omega)] at hy
    exact ⟨y, hy, hw⟩
  | f :: g :: fs, s, off, h, hl, hx => by
    cases s <;> simp only [argFs] at h <;> try (cases h; done)
    rename_i a b
    simp only [Bool.and_eq_true] at h
    obtain ⟨⟨⟨h1, h2⟩, h3⟩, h4⟩ := h
    have e1 := Nat.eq_of_beq_eq_true h1
    have e3 := Nat.eq_of_beq_eq_true h3
    obtain ⟨x, hx0⟩ := hx f List.mem_cons_self
    obtain ⟨y, hy, hw⟩ := ih _ _ _ _ _ h2 hx0
    rw [e1, e3] at hy
    obtain ⟨z, hz, hv⟩ := fields_RR ih (g :: fs) b (off + a.sz) h4 (by simp only [Sh.sz] at hl; omega) (fun f hf => hx f (List.mem_cons_of_mem _ hf))
    exact ⟨(y, z), ⟨hy, by rw [List.drop_drop]; exact hz⟩, hw, hv⟩

theorem trod_RR : ∀ (d : Nat) (t : TypeId) (s : Sh) (fuel : Nat) (cs : List Value) (x : DataW H × List MemPlace), argShp P d t s = true → DataW.trod enc P w base spare held fuel t cs = some x → ∃ y : s.T, RR C (fun _ => False) w s y cs ∧ wfS s y
  | 0, _, _, _, _, _, h, _ => by simp [argShp] at h
  | d + 1, t, s, fuel, cs, x, h, hx => by
    simp only [argShp] at h
    split at h
    · rename_i k hu
      have hs : s = .int k := by simpa using h
      subst hs
      obtain ⟨n, hn, _, hw⟩ := DataW.trod_int hu hx
      exact ⟨n, hn, hw⟩
    · rename_i hu
      have hs : s = .bool := by simpa using h
      subst hs
      have key : ∃ b : Bool, cs = [.bool b] := by
        cases fuel with
        | zero => simp [DataW.trod] at hx
        | succ n =>
          unfold DataW.trod at hx
          rw [hu] at hx
          split at hx <;> simp_all
      obtain ⟨n, hn⟩ := key
      exact ⟨n, hn, trivial⟩
    · rename_i hu
      have hs : s = .str := by simpa using h
      subst hs
      obtain ⟨n, hn, _, hw⟩ := DataW.trod_string hu hx
      exact ⟨n, hn, hw⟩
    · rename_i e hu
      split at h <;> try (cases h; done)
      rename_i s'
      simp only [Bool.and_eq_true] at h
      obtain ⟨h1, h2⟩ := h
      have e2 := Nat.eq_of_beq_eq_true h2
      rcases Deep.open_slice hu hx with ⟨rfl, _⟩ | ⟨a, len, cap, m, n, D, Pl, rfl, hb, hl, hm, hmm, rfl, hel⟩
      · exact ⟨[], ⟨none, 0, rfl, Nat.le_refl _, .inl rfl⟩, fun _ h => by cases h⟩
      · have hlm : len ≤ m := by rw [hmm]; split <;> omega
        have each : ∀ i, i < len → ∃ (y : s'.T) (cs' : List Value), (RR C (fun _ => False) w s' y cs' ∧ wfS s' y) ∧ w.cells? base (a.add (i * s'.sz)) s'.sz = some cs' := by
          intro i hi
          obtain ⟨cs', g1, g2⟩ := hel i (by omega)
          obtain ⟨y, hy⟩ := trod_RR d e s' n cs' _ h1 g2
          rw [e2] at g1
          exact ⟨y, cs', hy, g1⟩
        obtain ⟨l, css, q1, q2, q3⟩ := all2_of (r := fun y cs' => RR C (fun _ => False) w s' y cs' ∧ wfS s' y) len (fun i hi => let ⟨y, cs', h, _⟩ := each i hi; ⟨y, cs', h⟩) (fun i _ cs' => w.cells? base (a.add (i * s'.sz)) s'.sz = some cs') (fun i hi => let ⟨y, cs', h, h'⟩ := each i hi; ⟨y, cs', h, h'⟩)
        obtain ⟨q2, q4⟩ := q2.left
        refine ⟨l, ⟨some a, cap, by rw [q1], by rw [q1]; exact hl, .inr ⟨a, css, rfl, q2, ?_⟩⟩, q4⟩
        intro w' hw j u hj
        have hcl : ∀ c ∈ css, c.length = s'.sz := fun c hc => by
          obtain ⟨x, _, hx⟩ := q2.mem_right c hc
          exact RR.len s' x c hx
        rw [flatten_ext s'.sz_pos hcl] at hj
        cases hi : css[j / s'.sz]? with
        | none => rw [hi] at hj; cases hj
        | some c =>
          rw [hi] at hj
          have hlt : j / s'.sz < len := by
            have := (List.getElem?_eq_some_iff.1 hi).1
            rw [← q2.length, q1] at this
            exact this
          obtain ⟨_, b, _, g2, g3⟩ := q3 _ hlt
          rw [hi] at g2
          obtain rfl := Option.some.inj g2
          have := cells_rob g3 w' hw (j % s'.sz) u hj
          rw [addr_add, Nat.div_add_mod'] at this
          exact this
    · rename_i fs hu
      simp only [Bool.and_eq_true] at h
      obtain ⟨h1, h2⟩ := h
      obtain ⟨xs, n, rfl, rfl, hlen, hxl, hf⟩ := DataW.trod_struct hu hx
      have e2 := Nat.eq_of_beq_eq_true h2
      obtain ⟨y, hy, hw⟩ := fields_RR (C := C) (n := n) (cs := cs) (fun t s fuel cs x => trod_RR d t s fuel cs x) fs.toList s 0 h1 (by omega) (fun f hfm => by
        obtain ⟨i, hi⟩ := List.getElem?_of_mem hfm
        have hi' : fs[i]? = some f := by simpa using hi
        have := hf i f hi'
        have hlt : i < xs.length := by rw [hxl]; exact (Array.getElem?_eq_some_iff.1 hi').1
        rw [List.getElem?_eq_getElem hlt] at this
        exact ⟨_, this⟩)
      exact ⟨y, by simpa using hy, hw⟩
    · cases h

theorem sameAt_keep (hk : KeepS (fun _ => False) w w') {p : MemPlace} (hb : p.block < w.heap.size) : w.sameAt w' p := by
  cases p with
  | cell b off => exact World.cell?_of_block (a := ⟨b, off, none⟩) (hk.block b hb (fun f => f))
  | map b => exact hk.block b hb (fun f => f)

theorem trodAll_keep (hk : KeepS (fun _ => False) w w') : ∀ {ts : List TypeId} {vs : List Value} {ds : List (DataW H)} {ps : List MemPlace}, DataW.TrodAll enc P w base spare held ts vs ds ps → DataW.TrodAll enc P w' base spare held ts vs ds ps
  | [], [], [], _, h => h
  | _ :: _, _ :: _, _ :: _, _, ⟨p, q, ⟨n, h1⟩, h2, h3⟩ => ⟨p, q, ⟨n, DataW.trod_carry n _ _ _ h1 fun x hx => sameAt_keep hk (DataW.trod_lt n _ _ _ h1 x hx)⟩, trodAll_keep hk h2, h3⟩
  | [], [], _ :: _, _, h => h.elim
  | [], _ :: _, _, _, h => h.elim
  | _ :: _, [], _, _, h => h.elim
  | _ :: _, _ :: _, [], _, h => h.elim

theorem keptBut_keep (hk : KeepS (fun _ => False) w w') (may : MemPlace → Prop) : w.keptBut w' may :=
  ⟨hk.os, hk.output, fun i hi => by rw [hk.block i hi (fun f => f)]; exact (World.keptBut_refl w may).2.2 i hi⟩

/-- The arguments read as they did, behind a call that writes nothing of theirs. -/
theorem trodAll_after (hl : laidOutB P = true) (hk : KeepS (fun _ => False) w w') : ∀ {ts : List TypeId} {vs : List Value} {ds : List (DataW H)} {ps : List MemPlace}, (∀ t ∈ ts, P.readableRec t = true ∧ t < P.types.size) → DataW.TrodAll enc P w 0 (fun _ => true) true ts vs ds ps → DataW.TrodAll enc P w' 0 (fun b => decide (b < w.heap.size)) true ts vs ds ps
  | [], [], [], _, _, h => h
  | t :: ts, v :: vs, d :: ds, ps, hr, ⟨p, q, h1, h2, h3⟩ => ⟨p, q, RowKit.Below.trod hl (hr t List.mem_cons_self).1 (hr t List.mem_cons_self).2 h1 hk.below (fun x hx => by obtain ⟨n, hn⟩ := h1; exact DataW.trod_lt n _ _ _ hn x hx),
      trodAll_after hl hk (fun t ht => hr t (List.mem_cons_of_mem _ ht)) h2, h3⟩
  | [], [], _ :: _, _, _, h => h.elim
  | [], _ :: _, _, _, _, h => h.elim
  | _ :: _, [], _, _, _, h => h.elim
  | _ :: _, _ :: _, [], _, _, h => h.elim

end

end Go.Pev
