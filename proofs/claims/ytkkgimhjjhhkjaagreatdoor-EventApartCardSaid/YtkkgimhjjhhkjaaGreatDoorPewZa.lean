/- The pure evaluator, part T: a statement's arguments as data; what is read behind the call. Own text, over any program. -/
import Derived.Test.YtkkgimhjjhhkjaaGreatDoorPewSa
import Derived.ChangeOld
import Derived.Deep.Slices
import Derived.ChangeShapes
import Derived.Carry
import Derived.OneCell
import Derived.Lib.LaidTab
import Derived.Stop.LaidErr
import Derived.LaidHandle
import Derived.RowKit
import Derived.SizedLaws
namespace Go.Pev
section
variable {H : Type} {enc : TypeId × Value → H} {P : Program} {w w' : World} {base : Nat} {spare : Nat → Bool} {held : Bool} {C : Cfg}
def argFs (P : Program) (chk : TypeId → Sh → Bool) : List Field → Sh → Nat → Bool
  | [], _, _ => false
  | f :: fs, s, off => match fs, s with
    | [], s => Nat.beq f.offset off && chk f.type s && Nat.beq (P.cellsOf f.type) s.sz
    | g :: fs, .pair a b => Nat.beq f.offset off && chk f.type a && Nat.beq (P.cellsOf f.type) a.sz && argFs P chk (g :: fs) b (off + a.sz)
    | _ :: _, _ => false
def argShp (P : Program) : Nat → TypeId → Sh → Bool
  | 0, _, _ => false
  | d + 1, t, s => match P.underlying t with
    | some (.int k) => decide (s = .int k)
    | some .bool => decide (s = .bool)
    | some .string => decide (s = .str)
    | some (.slice e) => match s with
      | .sl s' => argShp P d e s' && Nat.beq (P.cellsOf e) s'.sz
      | _ => false
    | some (.struct fs) => argFs P (argShp P d) fs.toList s 0 && Nat.beq (P.cellsOf t) s.sz
    | _ => false
theorem cells_rob {a : Addr} {n : Nat} {cs : List Value} (h : w.cells? base a n = some cs) : Rob (fun _ => False) w (fun w => ∀ j u, cs[j]? = some u → w.cell? (a.add j) = some u) := by
  intro w' hw j u hj
  obtain ⟨_, hl, hc⟩ := World.cells?_some h
  have hjn : j < n := by rw [← hl]; exact (List.getElem?_eq_some_iff.1 hj).1
  have h1 := (hc j hjn).trans hj
  exact (World.cell?_of_block (hw.block _ (World.block_lt_of_cell? w _ h1) (fun f => f))).trans h1
theorem all2_of {α β : Type} {r : α → β → Prop} : ∀ (n : Nat), (∀ i, i < n → ∃ a b, r a b) → ∀ (Q : Nat → α → β → Prop), (∀ i, i < n → ∃ a b, r a b ∧ Q i a b) → ∃ (l : List α) (m : List β), l.length = n ∧ All2 r l m ∧ ∀ i, i < n → ∃ a b, l[i]? = some a ∧ m[i]? = some b ∧ Q i a b
  | 0, _, _, _ => ⟨[], [], rfl, .nil, fun i hi => absurd hi (Nat.not_lt_zero _)⟩
  | n + 1, h0, Q, h => by
    obtain ⟨l, m, h1, h2, h3⟩ := all2_of n (fun i hi => h0 i (by omega)) (fun i a b => Q (i + 1) a b) (fun i hi => h (i + 1) (by omega))
    obtain ⟨a, b, h4, h5⟩ := h 0 (by omega)
    refine ⟨a :: l, b :: m, by simp [h1], .cons h4 h2, fun i hi => ?_⟩
    cases i with
    | zero => exact ⟨a, b, by simp, by simp, h5⟩
    | succ i => obtain ⟨a', b', g1, g2, g3⟩ := h3 i (by omega); exact ⟨a', b', by simpa using g1, by simpa using g2, g3⟩
def wfS : (s : Sh) → s.T → Prop
  | .int k, x => (Lit.int k x).wf = true
  | .str, x => x.size ≤ maxLen
  | .sl s, l => l.length ≤ maxLen ∧ ∀ x ∈ l, wfS s x
  | .pair a b, x => wfS a x.1 ∧ wfS b x.2
  | _, _ => True
theorem All2.left {α β : Type} {r : α → β → Prop} {p : α → Prop} : ∀ {l : List α} {m : List β}, All2 (fun x y => r x y ∧ p x) l m → All2 r l m ∧ ∀ x ∈ l, p x
  | _, _, .nil => ⟨.nil, fun _ h => by cases h⟩
  | _, _, .cons h t => ⟨.cons h.1 t.left.1, fun x hx => by
    rcases List.mem_cons.1 hx with rfl | hx
    · exact h.2
    · exact t.left.2 x hx⟩
theorem fields_RR {d : Nat} (ih : ∀ (t : TypeId) (s : Sh) (fuel : Nat) (cs : List Value) (x : DataW H × List MemPlace), argShp P d t s = true → DataW.trod enc P w base spare held fuel t cs = some x → ∃ y : s.T, RR C (fun _ => False) w s y cs ∧ wfS s y) {n : Nat} {cs : List Value} :
    ∀ (fs : List Field) (s : Sh) (off : Nat), argFs P (argShp P d) fs s off = true → cs.length = off + s.sz → (∀ f ∈ fs, ∃ x, DataW.trod enc P w base spare held n f.type ((cs.drop f.offset).take (P.cellsOf f.type)) = some x) → ∃ y : s.T, RR C (fun _ => False) w s y (cs.drop off) ∧ wfS s y
  | [], _, _, h, _, _ => by simp [argFs] at h
  | [f], s, off, h, hl, hx => by
    simp only [argFs, Bool.and_eq_true] at h
    obtain ⟨⟨h1, h2⟩, h3⟩ := h
    obtain ⟨x, hx⟩ := hx f List.mem_cons_self
    have e1 := Nat.eq_of_beq_eq_true h1
    have e3 := Nat.eq_of_beq_eq_true h3
    obtain ⟨y, hy, hw⟩ := ih _ _ _ _ _ h2 hx
    rw [e1, e3, List.take_of_length_le (by simp; omega)] at hy
    exact ⟨y, hy, hw⟩
  | f :: g :: fs, s, off, h, hl, hx => by
    cases s <;> simp only [argFs] at h <;> try (cases h; done)
    rename_i a b
    simp only [Bool.and_eq_true] at h
    obtain ⟨⟨⟨h1, h2⟩, h3⟩, h4⟩ := h
    have e1 := Nat.eq_of_beq_eq_true h1
    have e3 := Nat.eq_of_beq_eq_true h3
    obtain ⟨x, hx0⟩ := hx f List.mem_cons_self
    obtain ⟨y, hy, hw⟩ := ih _ _ _ _ _ h2 hx0
    rw [e1, e3] at hy
    obtain ⟨z, hz, hv⟩ := fields_RR ih (g :: fs) b (off + a.sz) h4 (by simp only [Sh.sz] at hl; omega) (fun f hf => hx f (List.mem_cons_of_mem _ hf))
    exact ⟨(y, z), ⟨hy, by rw [List.drop_drop]; exact hz⟩, hw, hv⟩
theorem trod_RR : ∀ (d : Nat) (t : TypeId) (s : Sh) (fuel : Nat) (cs : List Value) (x : DataW H × List MemPlace), argShp P d t s = true → DataW.trod enc P w base spare held fuel t cs = some x → ∃ y : s.T, RR C (fun _ => False) w s y cs ∧ wfS s y
  | 0, _, _, _, _, _, h, _ => by simp [argShp] at h
  | d + 1, t, s, fuel, cs, x, h, hx => by
    simp only [argShp] at h
    split at h
    · rename_i k hu
      have hs : s = .int k := by simpa using h
      subst hs
      obtain ⟨n, hn, _, hw⟩ := DataW.trod_int hu hx
      exact ⟨n, hn, hw⟩
    · rename_i hu
      have hs : s = .bool := by simpa using h
      subst hs
      have key : ∃ b : Bool, cs = [.bool b] := by
        cases fuel with
        | zero => simp [DataW.trod] at hx
        | succ n =>
          unfold DataW.trod at hx
          rw [hu] at hx
          split at hx <;> simp_all
      obtain ⟨n, hn⟩ := key
      exact ⟨n, hn, trivial⟩
    · rename_i hu
      have hs : s = .str := by simpa using h
      subst hs
      obtain ⟨n, hn, _, hw⟩ := DataW.trod_string hu hx
      exact ⟨n, hn, hw⟩
    · rename_i e hu
      split at h <;> try (cases h; done)
      rename_i s'
      simp only [Bool.and_eq_true] at h
      obtain ⟨h1, h2⟩ := h
      have e2 := Nat.eq_of_beq_eq_true h2
      rcases Deep.open_slice hu hx with ⟨rfl, _⟩ | ⟨a, len, cap, m, n, D, Pl, rfl, hb, hl, hm, hmm, rfl, hel⟩
      · exact ⟨[], ⟨none, 0, rfl, Nat.le_refl _, .inl rfl⟩, Nat.zero_le _, fun _ h => by cases h⟩
      · have hlm : len ≤ m := by rw [hmm]; split <;> omega
        have each : ∀ i, i < len → ∃ (y : s'.T) (cs' : List Value), (RR C (fun _ => False) w s' y cs' ∧ wfS s' y) ∧ w.cells? base (a.add (i * s'.sz)) s'.sz = some cs' := by
          intro i hi
          obtain ⟨cs', g1, g2⟩ := hel i (by omega)
          obtain ⟨y, hy⟩ := trod_RR d e s' n cs' _ h1 g2
          rw [e2] at g1
          exact ⟨y, cs', hy, g1⟩
        obtain ⟨l, css, q1, q2, q3⟩ := all2_of (r := fun y cs' => RR C (fun _ => False) w s' y cs' ∧ wfS s' y) len (fun i hi => let ⟨y, cs', h, _⟩ := each i hi; ⟨y, cs', h⟩) (fun i _ cs' => w.cells? base (a.add (i * s'.sz)) s'.sz = some cs') (fun i hi => let ⟨y, cs', h, h'⟩ := each i hi; ⟨y, cs', h, h'⟩)
        obtain ⟨q2, q4⟩ := q2.left
        refine ⟨l, ⟨some a, cap, by rw [q1], by rw [q1]; exact hl, .inr ⟨a, css, rfl, q2, ?_⟩⟩, by rw [q1]; exact Nat.le_trans hl hm, q4⟩
        intro w' hw j u hj
        have hcl : ∀ c ∈ css, c.length = s'.sz := fun c hc => by
          obtain ⟨x, _, hx⟩ := q2.mem_right c hc
          exact RR.len s' x c hx
        rw [flatten_ext s'.sz_pos hcl] at hj
        cases hi : css[j / s'.sz]? with
        | none => rw [hi] at hj; cases hj
        | some c =>
          rw [hi] at hj
          have hlt : j / s'.sz < len := by
            have := (List.getElem?_eq_some_iff.1 hi).1
            rw [← q2.length, q1] at this
            exact this
          obtain ⟨_, b, _, g2, g3⟩ := q3 _ hlt
          rw [hi] at g2
          obtain rfl := Option.some.inj g2
          have := cells_rob g3 w' hw (j % s'.sz) u hj
          rw [addr_add, Nat.div_add_mod'] at this
          exact this
    · rename_i fs hu
      simp only [Bool.and_eq_true] at h
      obtain ⟨h1, h2⟩ := h
      obtain ⟨xs, n, rfl, rfl, hlen, hxl, hf⟩ := DataW.trod_struct hu hx
      have e2 := Nat.eq_of_beq_eq_true h2
      obtain ⟨y, hy, hw⟩ := fields_RR (C := C) (n := n) (cs := cs) (fun t s fuel cs x => trod_RR d t s fuel cs x) fs.toList s 0 h1 (by omega) (fun f hfm => by
        obtain ⟨i, hi⟩ := List.getElem?_of_mem hfm
        have hi' : fs[i]? = some f := by simpa using hi
        have := hf i f hi'
        have hlt : i < xs.length := by rw [hxl]; exact (Array.getElem?_eq_some_iff.1 hi').1
        rw [List.getElem?_eq_getElem hlt] at this
        exact ⟨_, this⟩)
      exact ⟨y, by simpa using hy, hw⟩
    · cases h
theorem sameAt_keep (hk : KeepS (fun _ => False) w w') {p : MemPlace} (hb : p.block < w.heap.size) : w.sameAt w' p := by
  cases p with
  | cell b off => exact World.cell?_of_block (a := ⟨b, off, none⟩) (hk.block b hb (fun f => f))
  | map b => exact hk.block b hb (fun f => f)
theorem trodAll_keep (hk : KeepS (fun _ => False) w w') : ∀ {ts : List TypeId} {vs : List Value} {ds : List (DataW H)} {ps : List MemPlace}, DataW.TrodAll enc P w base spare held ts vs ds ps → DataW.TrodAll enc P w' base spare held ts vs ds ps
  | [], [], [], _, h => h
  | _ :: _, _ :: _, _ :: _, _, ⟨p, q, ⟨n, h1⟩, h2, h3⟩ => ⟨p, q, ⟨n, DataW.trod_carry n _ _ _ h1 fun x hx => sameAt_keep hk (DataW.trod_lt n _ _ _ h1 x hx)⟩, trodAll_keep hk h2, h3⟩
  | [], [], _ :: _, _, h => h.elim
  | [], _ :: _, _, _, h => h.elim
  | _ :: _, [], _, _, h => h.elim
  | _ :: _, _ :: _, [], _, h => h.elim
theorem keptBut_keep (hk : KeepS (fun _ => False) w w') (may : MemPlace → Prop) : w.keptBut w' may :=
  ⟨hk.os, hk.output, fun i hi => by rw [hk.block i hi (fun f => f)]; exact (World.keptBut_refl w may).2.2 i hi⟩
theorem trodAll_after (hl : laidOutB P = true) (hk : KeepS (fun _ => False) w w') : ∀ {ts : List TypeId} {vs : List Value} {ds : List (DataW H)} {ps : List MemPlace}, (∀ t ∈ ts, P.readableRec t = true ∧ t < P.types.size) → DataW.TrodAll enc P w 0 (fun _ => true) true ts vs ds ps → DataW.TrodAll enc P w' 0 (fun b => decide (b < w.heap.size)) true ts vs ds ps
  | [], [], [], _, _, h => h
  | t :: ts, v :: vs, d :: ds, ps, hr, ⟨p, q, h1, h2, h3⟩ => ⟨p, q, RowKit.Below.trod hl (hr t List.mem_cons_self).1 (hr t List.mem_cons_self).2 h1 hk.below (fun x hx => by obtain ⟨n, hn⟩ := h1; exact DataW.trod_lt n _ _ _ hn x hx),
      trodAll_after hl hk (fun t ht => hr t (List.mem_cons_of_mem _ ht)) h2, h3⟩
  | [], [], _ :: _, _, _, h => h.elim
  | [], _ :: _, _, _, _, h => h.elim
  | _ :: _, [], _, _, _, h => h.elim
  | _ :: _, _ :: _, [], _, _, h => h.elim
end
end Go.Pev
/- The pure evaluator, part U: a contract holds beside package variables too; what errors.As leaves in its target. Own text, over any program. -/
namespace Go.Pev
section
variable {C : Cfg} {g : List (Nat × GV)} {M : Nat → Prop} {w : World}
theorem ErrAt_glob : ∀ (ps : List (Int × Int)) (n : Int) (v : Value), ErrAt { C with glob := g } w ps n v = ErrAt C w ps n v
  | [], _, _ => rfl
  | p :: ps, n, v => by simp only [ErrAt, ErrAt_glob ps]
theorem ErrV_glob (e : Err) (v : Value) : ErrV { C with glob := g } w e v = ErrV C w e v := by
  cases e with
  | none => rfl
  | some x => obtain ⟨ps, n⟩ := x; exact ErrAt_glob ps n v
theorem All2.congr {α β : Type} {r r' : α → β → Prop} (h : ∀ a b, r a b = r' a b) (l : List α) (m : List β) : All2 r l m = All2 r' l m := by
  rw [show r = r' from funext fun a => funext fun b => h a b]
theorem RR_glob : ∀ (s : Sh) (x : s.T) (cs : List Value), RR { C with glob := g } M w s x cs = RR C M w s x cs
  | .int _, _, _ => rfl
  | .bool, _, _ => rfl
  | .str, _, _ => rfl
  | .err, x, cs => by simp only [RR, ErrV_glob]
  | .ptr, _, _ => rfl
  | .rf _, _, _ => rfl
  | .pt s, x, cs => by simp only [RR, RR_glob s]
  | .sl s, x, cs => by
    simp only [RR]
    simp only [All2.congr (fun a b => RR_glob s a b)]
  | .pair a b, x, cs => by simp only [RR, RR_glob a, RR_glob b]
theorem RowR_glob (s : Sh) (A : Option Addr) (x : List s.T) : RowR { C with glob := g } M w s A x = RowR C M w s A x := by
  simp only [RowR, All2.congr (fun a b => RR_glob s a b)]
variable {ρ : Nat → Value}
theorem LR_glob (a : AV) (v : Value) : LR { C with glob := g } ρ M w a v = LR C ρ M w a v := by
  cases a <;> simp only [LR, ErrV_glob, RowR_glob, RR_glob]
theorem SR_glob (a : AV) (v : Value) : SR { C with glob := g } ρ M w a v = SR C ρ M w a v := by
  cases a <;> simp only [SR, All2.congr (fun a b => LR_glob a b), LR_glob]
theorem VR_glob (a : AV) (v : Value) : VR { C with glob := g } ρ M w a v = VR C ρ M w a v := by
  cases a <;> simp only [VR, All2.congr (fun a b => SR_glob a b), SR_glob]
theorem ValR_glob (ag : Bool) (s : Sh) (x : s.T) (v : Value) : ValR { C with glob := g } M w ag s x v = ValR C M w ag s x v := by
  cases ag <;> simp only [ValR, RR_glob]
theorem EntR_glob {ka va : Bool} {k v : Sh} (p : k.T × v.T) (e : MapEntry) : EntR { C with glob := g } M w ka va k v p e = EntR C M w ka va k v p e := by
  simp only [EntR, ValR_glob]
theorem MapR_glob {ka va : Bool} {k v : Sh} {l : List (k.T × v.T)} {es : Array MapEntry} {clock : Nat} : MapR { C with glob := g } M w ka va k v l es clock ↔ MapR C M w ka va k v l es clock :=
  ⟨fun ⟨m, hp, h⟩ => ⟨m, hp, h.ents.imp fun p e h => (EntR_glob p e) ▸ h, h.keys, h.born, h.nodup⟩, fun ⟨m, hp, h⟩ => ⟨m, hp, h.ents.imp fun p e h => (EntR_glob p e).symm ▸ h, h.keys, h.born, h.nodup⟩⟩
theorem NodeR_glob {v : Value} {G : Nat → Prop} {x : Node} : NodeR { C with glob := g } M w v G x ↔ NodeR C M w v G x := by
  cases x with
  | box t s x => simp only [NodeR, RR_glob]
  | map ka va k v' l => simp only [NodeR, MapR_glob]
  | row e s l => simp only [NodeR, All2.congr (fun a b => RR_glob s a b)]
  | gone => exact Iff.rfl
theorem ItR_glob {G : Nat → Nat → Prop} {id : Nat} {x : It} : ItR { C with glob := g } ρ M w G id x ↔ ItR C ρ M w G id x := by
  cases x with
  | it n ka va k v left cur pend =>
    cases n with
    | none => exact Iff.rfl
    | some m => simp only [ItR, EntR_glob, All2.congr (fun a b => EntR_glob (ka := ka) (va := va) (k := k) (v := v) a b)]
  | mark n ka va k v x => exact Iff.rfl
theorem RegG_glob {F : Nat → Prop} {G : Nat → Nat → Prop} {lk : List Nat} {its : List (Nat × It)} {H : List Node} : RegG { C with glob := g } ρ M w F G lk its H ↔ RegG C ρ M w F G lk its H :=
  ⟨fun h => ⟨h.len, fun n x hx => NodeR_glob.1 (h.node n x hx), h.lt, h.disj, h.fp, fun p hp => ItR_glob.1 (h.walks p hp), h.sep, h.lock, h.nolk⟩,
   fun h => ⟨h.len, fun n x hx => NodeR_glob.2 (h.node n x hx), h.lt, h.disj, h.fp, fun p hp => ItR_glob.2 (h.walks p hp), h.sep, h.lock, h.nolk⟩⟩
theorem ResOk_glob {id : Nat} {F : Nat → Prop} {st : RS} : ResOk { C with glob := g } ρ M w id F st ↔ ResOk C ρ M w id F st := by
  cases st with
  | box t cs => simp only [ResOk, All2.congr (fun a b => LR_glob (ρ := ρ) a b)]
  | row e s l => simp only [ResOk, All2.congr (fun a b => RR_glob s a b)]
  | fro s l => simp only [ResOk, RowR_glob]
  | tok => exact Iff.rfl
  | reg lk its H => simp only [ResOk, RegG_glob]
  | obj k s m => exact Iff.rfl
theorem Mem.less {B : Base} {w0 : World} {rs : Nat → Option RS} {F : Nat → Nat → Prop} (h : Mem { C with glob := g } B w0 rs ρ F w) (hsub : ∀ p ∈ C.glob, p ∈ g) : Mem C B w0 rs ρ F w :=
  ⟨h.keep, h.m0, h.wl, h.lsz, fun id st hst => ResOk_glob.1 (h.res id st hst), h.rng, h.disj, h.one, h.bone, h.ext, fun p hp => h.glob p (hsub p hp), h.own7, h.lkz⟩
theorem Mem.more {B : Base} {w0 : World} {rs : Nat → Option RS} {F : Nat → Nat → Prop} (h : Mem C B w0 rs ρ F w) (hg : Glob { C with glob := g } (fun k => B.M0 k ∨ B.W k ∨ C.L k) w0) : Mem { C with glob := g } B w0 rs ρ F w :=
  ⟨h.keep, h.m0, h.wl, h.lsz, fun id st hst => ResOk_glob.2 (h.res id st hst), h.rng, h.disj, h.one, h.bone, h.ext, hg, h.own7, h.lkz⟩
theorem Contract.glob {P : Program} {f : Nat} {args : List AV} {res : AV} (h : Contract P C f args res) (hsub : ∀ p ∈ C.glob, p ∈ g) : Contract P { C with glob := g } f args res := by
  intro B w ρ F vs hm ha
  have hm' : Mem { ((C.at B.b0 B.n0).lk B.L) with glob := g } B w (getR (inArgs args).2) ρ F w := hm
  have ha' : All2 (VR { ((C.at B.b0 B.n0).lk B.L) with glob := g } ρ (Mof B (getR (inArgs args).2) F) w) (inArgs args).1 vs := ha
  rw [All2.congr (fun x v => VR_glob x v)] at ha'
  refine (h B w ρ F vs (hm'.less hsub) ha').mono fun e w' ⟨v, b, n, ρ', F', h1, h2, h3⟩ => ⟨v, b, n, ρ', F', h1, ?_, ?_⟩
  · show VR { ((C.at b n).lk B.L) with glob := g } ρ' _ w' (outV res) v
    rw [VR_glob]; exact h2
  · exact Mem.more (C := (C.at b n).lk B.L) h3 hm'.glob
theorem SR_base {b : Nat → Value} {n : Nat} {L : Nat → Prop} {x : AV} {v : Value} (hx : x.rfree2 = true) : SR ((C.at b n).lk L) ρ M w x v = SR C ρ M w x v := by
  rw [SR_lk, SR_at _ _ hx]
theorem VR_base {b : Nat → Value} {n : Nat} {L : Nat → Prop} {x : AV} {v : Value} (hx : x.rfree = true) : VR ((C.at b n).lk L) ρ M w x v = VR C ρ M w x v := by
  rw [VR_lk, VR_at _ _ hx]
theorem inArgs_all : ∀ {args : List AV}, args.all (fun x => x.pure2 || (match x with | .fn _ => true | _ => false)) = true → inArgs args = (args, [])
  | [], _ => rfl
  | x :: r, h => by
    simp only [List.all_cons, Bool.and_eq_true, Bool.or_eq_true] at h
    have hx : inArg x = (x, []) := by
      rcases h.1 with hx | hx
      · cases x <;> first | rfl | (cases hx; done) | skip
        rename_i l
        have key : ∀ l : List AV, l.all AV.pure1 = true → inLeaves l = (l, []) := by
          intro l
          induction l with
          | nil => intro _; rfl
          | cons y l ih =>
            intro hl
            simp only [List.all_cons, Bool.and_eq_true] at hl
            simp only [inLeaves, inLeaf_pure hl.1, ih hl.2, List.nil_append]
        show (AV.ag (inLeaves l).1, (inLeaves l).2) = _
        rw [key l hx]
      · cases x <;> first | rfl | cases hx
    have hn : ∀ lk H, x ≠ .hin lk H := by
      intro lk H e
      subst e
      rcases h.1 with h | h <;> cases h
    rw [inArgs_cons hn, hx, inArgs_all h.2]
    rfl
def dataIn (x : AV) : Bool := (x.pure2 || (match x with | .fn _ => true | _ => false)) && x.rfree2
theorem Contract.of0 {P : Program} {f : Nat} {args : List AV} {res : AV} (h : Contract0 P C f args res) (ha : args.all dataIn = true) (hr : (res.pure && res.rfree) = true) : Contract P C f args res := by
  intro B w ρ F vs hm hv
  have hall : args.all (fun x => x.pure2 || (match x with | .fn _ => true | _ => false)) = true := List.all_eq_true.2 fun x hx => by
    have := List.all_eq_true.1 ha x hx
    unfold dataIn at this
    exact (Bool.and_eq_true_iff.1 this).1
  have hin := inArgs_all hall
  rw [hin] at hm hv ⊢
  rw [Bool.and_eq_true] at hr
  have hM : ∀ k, Mof B (getR []) F k → B.M0 k := by
    rintro k (h0 | ⟨id, st, hst, _⟩)
    · exact h0
    · cases hst
  have hv' : All2 (SR C (fun _ => .nilIface) B.M0 w) args vs := hv.imp_mem fun x v hx hxv => by
    have hd := List.all_eq_true.1 ha x hx
    unfold dataIn at hd
    rw [Bool.and_eq_true, Bool.or_eq_true] at hd
    have hnt : (∀ l, x ≠ .tup l) ∧ ∀ f l, x ≠ .clo f l := by
      rcases hd.1 with h | h
      · exact pure2_not h
      · exact ⟨fun l e => (by subst e; cases h), fun f l e => (by subst e; cases h)⟩
    have hs := VR.toSR' hxv hnt
    rw [SR_base hd.2] at hs
    refine hs.step (KeepS.refl _ _) (fun k hk _ => .inl hk) fun id hid => ?_
    rcases hd.1 with h | h
    · rw [pure_ment2 h] at hid; cases hid
    · cases x <;> first | (cases h; done) | cases hid
  have hg : Glob C B.M0 w := fun p hp => by
    obtain ⟨g1, g2, g3⟩ := hm.glob p hp
    exact ⟨g1, g2, fun hk => g3 (.inl hk)⟩
  refine (h B.M0 w vs (fun k hk => (hm.m0 k hk).1) hg hv').mono fun e w' ⟨v, h1, h2, h3⟩ => ⟨v, B.b0, B.n0, ρ, F, h1, ?_, ?_⟩
  · have hov : outV res = res ∧ outW [] res = [] := by
      cases res <;> first | exact ⟨rfl, rfl⟩ | cases hr.1
    rw [hov.1, hov.2]
    have h2 : VR C (fun _ => .nilIface) B.M0 w' res v := h2
    rw [VR_base hr.2]
    exact h2.step (KeepS.refl _ _) (fun k hk _ => hM k hk) fun id hid => by rw [pure_ment hr.1] at hid; cases hid
  · have hov : outW [] res = [] := by cases res <;> first | rfl | cases hr.1
    rw [hov]
    refine ⟨(KeepS.refl _ w).trans (h3.mono fun _ _ f => f.elim), hm.m0, hm.wl, hm.lsz, fun id st hst => ?_, fun id st k hst => ?_, fun i j s t k hi => ?_, hm.one, hm.bone, hm.ext, hm.glob, fun h' => ?_, fun lk its H h' => ?_⟩
    · cases hst
    · cases hst
    · cases hi
    · cases h'
    · cases h'
theorem SpecsOk.cons {P : Program} {T : Tabs} (hs : SpecsOk P T) {f : Nat} {sp : CSpec} (h : EnterOk P f ∧ CSpecOk P T.toCfg f sp) : SpecsOk P { T with specs := (f, sp) :: T.specs } :=
  ⟨(fun f' sp' hg => by
    rw [show Pev.get ({ T with specs := (f, sp) :: T.specs } : Tabs).specs f' = if f = f' then some sp else Pev.get T.specs f' from get_cons _ _ _ _] at hg
    split at hg
    · rename_i e; subst e; obtain rfl := Option.some.inj hg; exact h
    · exact hs.specs f' sp' hg), hs.as.imp id fun h => ⟨h.enter, h.calls⟩⟩
theorem Rob.fault {p : Int × Int} {ps : List (Int × Int)} {n : Int} {v : Value} (h : Rob M w (fun w => ErrAt C w (p :: ps) n v)) :
    ∃ b u, v = .iface C.fptr (.pointer (some ⟨b, 0, none⟩)) ∧ w.heap[b]? = some (.cells #[.int .i64 p.1, .int .i64 p.2, u] C.fault (0, 0)) ∧ ¬ M b ∧ b < w.heap.size ∧ Rob M w (fun w => ErrAt C w ps n u) := by
  obtain ⟨b, u, h1, h2, h3⟩ := h.now
  have hlt : b < w.heap.size := by
    rcases Nat.lt_or_ge b w.heap.size with h | h
    · exact h
    · rw [Array.getElem?_eq_none h] at h2; cases h2
  have hnM : ¬ M b := by
    intro hM
    obtain ⟨b2, u2, g1, g2, _⟩ := h (w.setRow b #[]) ((KeepS.setRow w b #[]).mono fun k _ e => e ▸ hM)
    rw [h1] at g1
    obtain rfl : b = b2 := by simpa using g1
    have e : (w.setRow b #[]).heap[b]? = some (.cells #[] C.fault (0, 0)) := by simp [World.setRow, Array.getElem?_modify, h2]
    rw [e] at g2
    simp at g2
  refine ⟨b, u, h1, h2, hnM, hlt, fun w2 hk => ?_⟩
  obtain ⟨b2, u2, g1, g2, g3⟩ := h w2 hk
  rw [h1] at g1
  obtain rfl : b = b2 := by simpa using g1
  rw [hk.block b hlt hnM, h2] at g2
  obtain rfl : u = u2 := by simpa using g2
  exact g3
theorem Rob.elt {ρ : Nat → Value} {p : Int × Int} {ps : List (Int × Int)} {n : Int} {b : Nat} {u : Value} (h2 : w.heap[b]? = some (.cells #[.int .i64 p.1, .int .i64 p.2, u] C.fault (0, 0))) (hnM : ¬ M b) (hlt : b < w.heap.size) (h : Rob M w (fun w => ErrAt C w ps n u)) :
    LR C ρ M w (.elt FSh (p, some (ps, n)) 0) (.pointer (some ⟨b, 0, none⟩)) := by
  refine ⟨⟨b, 0, none⟩, [.int .i64 p.1, .int .i64 p.2, u], rfl, ⟨⟨rfl, rfl⟩, u, rfl, h⟩, fun w2 hk j x hj => ?_⟩
  rw [addr_at]
  simp only [World.cell?, hk.block b hlt hnM, h2, Option.isSome_none, Bool.false_eq_true, if_false]
  simpa using hj
end
end Go.Pev
/- The pure evaluator, part V: what a row's listed variables give. Own text, over any program. -/
namespace Go.Pev
open Go.RowKit Go.ChangeShapes
theorem noOrc {P : Program} {T : Tabs} {A : Anns} (h : A.orc = []) (f : Nat) : ∀ c ∈ loopsF P f, OrcOk P T A c := by
  intro c _ o ho
  unfold orcOf at ho
  split at ho
  · rw [h] at ho; simp [get] at ho
  · cases ho
theorem GV.of_var {P : Program} {W : World} {n : String} {g : Nat} {cs : List Value} (hg : P.globalNamed n = some g) (h : W.var? P n = some cs.toArray) : (GV.is cs).ok W g := by
  unfold World.var? at h
  simp only [hg, Option.bind_some] at h
  split at h
  · rename_i cs' t fr hh
    obtain rfl := Option.some.inj h
    exact ⟨t, fr, hh⟩
  · cases h
theorem GV.to_var {P : Program} {W : World} {n : String} {g : Nat} {cs : List Value} (hg : P.globalNamed n = some g) (h : (GV.is cs).ok W g) : W.var? P n = some cs.toArray := by
  obtain ⟨t, fr, h⟩ := h
  simp [World.var?, hg, h]
theorem GV.face_of_head {P : Program} {n nm : String} {d : DataW Unit} {r : List (String × DataW Unit)} {W : World} {g : Nat} {ti : TypeId} {ms : Array (String × TypeId)}
    (h : laidMet P ((n, .iface nm d) :: r) W) (hg : P.globalNamed n = some g) (ht : (P.globals[g]?).map (·.type) = some ti) (hi : P.underlying ti = some (.interface ms)) : GV.face.ok W g := by
  obtain ⟨ps, ⟨g0, t0, cs0, f0, p0, q0, hg0, ht0, hv0, hd0, _, e0⟩, _, hrows⟩ := h
  obtain rfl := Option.some.inj (hg.symm.trans hg0)
  obtain rfl := Option.some.inj (ht.symm.trans ht0)
  obtain ⟨l0⟩ := cs0
  obtain ⟨_, u, v, rfl, _, _⟩ := iface_of_trod hi hd0
  obtain ⟨t, fr, hh⟩ := GV.of_var (cs := [.iface u v]) hg hv0
  exact ⟨u, v, t, fr, hh⟩
theorem GV.lt {W : World} {g : Nat} : ∀ {x : GV}, x.ok W g → g < W.heap.size
  | .is _, ⟨_, _, h⟩ => by
    rcases Nat.lt_or_ge g W.heap.size with h' | h'
    · exact h'
    · rw [Array.getElem?_eq_none h'] at h; cases h
  | .face, ⟨_, _, _, _, h⟩ => by
    rcases Nat.lt_or_ge g W.heap.size with h' | h'
    · exact h'
    · rw [Array.getElem?_eq_none h'] at h; cases h
  | .num, ⟨_, h⟩ => World.block_lt_of_cell? _ ⟨g, 0, none⟩ h
theorem Glob.none {C : Cfg} {W : World} (h : C.glob = []) : Glob C (fun _ => False) W := by intro p hp; rw [h] at hp; cases hp
theorem Glob.cons {C : Cfg} {W : World} {g : Nat} {x : GV} {l : List (Nat × GV)} (hx : x.ok W g) (h : Glob { C with glob := l } (fun _ => False) W) : Glob { C with glob := (g, x) :: l } (fun _ => False) W := by
  intro p hp
  rcases List.mem_cons.1 hp with rfl | hp
  · exact ⟨hx, GV.lt hx, fun h => h⟩
  · exact h p hp
theorem GV.of_handle {P : Program} {W : World} {n : String} {nm : List UInt8} {d : DataW Unit} {g : Nat} {u ty : TypeId} (hd : d.handleName? = some nm) (hf : d.funcsIn?.isNone = true) (hg : P.globalNamed n = some g) (hrt : (P.cutTypes.find? (·.1 == "internal/reflectlite.rtype")).map (·.2) = some u)
    (hone : ((List.range P.types.size).filter fun t => P.rowNamed t nm) = [ty]) (h : handlesMet P [(n, d)] W) : (GV.is [.iface u (.agg #[typeHandle P ty])]).ok W g := by
  have h2 := h _ (List.mem_singleton.2 rfl)
  dsimp only at h2
  cases hfi : d.funcsIn? with
  | some x => rw [hfi] at hf; cases hf
  | none =>
    rw [hfi] at h2
    obtain ⟨name, u', ty', e1, e2, e3, e4, e5⟩ := h2
    obtain rfl := Option.some.inj (hd.symm.trans e1)
    obtain rfl := Option.some.inj (hrt.symm.trans e2)
    have hm : ty' ∈ (List.range P.types.size).filter fun t => P.rowNamed t nm := List.mem_filter.2 ⟨List.mem_range.2 e3, e4⟩
    rw [hone] at hm
    obtain rfl := List.mem_singleton.1 hm
    exact GV.of_var hg e5
end Go.Pev
namespace Go
variable {H : Type} {enc : TypeId × Value → H}
theorem returnsInHanded_and_shaped {a : Assume} {C : Checked} {os : Os} {f : FuncId} {fn : Func} {s : ChangeSpec} {conds : List PathCond} {apart fresh handsOn again : Bool} {X : World → Array Value → Prop}
    (hX : ∀ (w w' : World) (args : Array Value), w.heap = w'.heap → X w args → X w' args)
    (own : ownKnob C.prog.godebug = none) (started : os.Started) (noInit : C.prog.inits.idxOf? f = none) (hfn : C.prog.funcs[f]? = some fn)
    (witness : ∃ (w : World) (tape : Tape) (i : Input), w.os = os ∧ (w.forCall tape i).Shaped C.prog ∧ i.vars = [] ∧ Input.okWide C.prog (w.forCall tape i) .any w.heap.size f i ∧
      ((s.pre enc C.prog fn conds apart (w.forCall tape i).memory i.args ∧ X (w.forCall tape i).memory i.args) ∧ sizedMet enc C.prog fn (OpenSpec.ofChange s) apart (w.forCall tape i).memory i.args) ∧ a.holds C.prog (lone (Frame.enter C.prog f i.args .normal) [] (w.forCall tape i)))
    (contract : ∀ (W : World) (base : Nat) (args : Array Value) (ds gs : List (DataW H)) (before : List MemPlace),
      (∀ (j : Nat) t v, fn.params[j]? = some t → args[j]? = some v → Value.okWide C.prog W .any base t v) →
      DataW.Whole enc C.prog fn.params.toList s.vars apart W args.toList ds gs before →
      conds.all (PathCond.test C.prog ⟨fn.params.toList, ds, s.plain.varTypes C.prog, gs⟩) = true →
      (DataW.weightsEach C.prog (fn.params.toList ++ s.plain.varTypes C.prog) (ds ++ gs)).all (· ≤ reachBytes) = true → X W args → W.ShapedOpen C.prog →
      a.holds C.prog (lone (Frame.enter C.prog f args .normal) [] W) →
      Calls C.prog f args W fun e W' => ∃ v, e = .returned v ∧ s.post enc C.prog fn apart fresh handsOn again W args v W') :
    ReturnsInHanded a C os f .any (fun w args => (s.pre enc C.prog fn conds apart w args ∧ X w args) ∧ sizedMet enc C.prog fn (OpenSpec.ofChange s) apart w args) (s.post enc C.prog fn apart fresh handsOn again) := by
  refine returnsInHanded_of_calls own started noInit witness ?_
  intro w tape i _ hsh _ hok hpre hholds
  obtain ⟨_, _, _, fn', hfn', _, _, _, _, hval⟩ := hok
  have e : fn' = fn := Option.some.inj (hfn'.symm.trans hfn)
  subst e
  obtain ⟨⟨⟨ds, gs, before, hw, hc⟩, hx⟩, hz⟩ := hpre
  have hw' := DataW.Whole.of_heap (w' := w.forCall tape i) (by rfl) hw
  refine (contract (w.forCall tape i) w.heap.size i.args ds gs before hval hw' hc (hz.weights hw) (hX _ _ _ (by rfl) hx) hsh hholds).mono fun e W' ⟨v, he, hp⟩ => ?_
  subst he
  exact ChangeSpec.post_blind hp
end Go
/- The pure evaluator, part W: trees over plain data; loops and functions told by them, once for all. Own text, over any program. -/
namespace Go.Pev
structure GoodW {α : Type} (W : (α → Prop) → Prop) : Prop where
  conj : ∀ p q : α → Prop, W p → W q → W fun a => p a ∧ q a
  mono : ∀ p q : α → Prop, (∀ a, p a → q a) → W p → W q
  strict : ¬ W fun _ => False
theorem anyW_good {α : Type} (l : List α) : GoodW (anyW l) :=
  ⟨fun p q hp hq => ⟨hp.1, fun a ha => ⟨hp.2 a ha, hq.2 a ha⟩⟩, fun p q hpq hp => ⟨hp.1, fun a ha => hpq a (hp.2 a ha)⟩, fun h => by
    obtain ⟨h1, h2⟩ := h
    cases l with
    | nil => exact h1 rfl
    | cons a l => exact h2 a List.mem_cons_self⟩
theorem relR_is {α ρ : Type} {W : (α → Prop) → Prop} (hW : GoodW W) {f : α → Option ρ} {r : ρ} (h : W fun a => f a = some r) : relR W f = some r := relR_eq hW.conj hW.mono hW.strict h
theorem relR_none {α ρ : Type} {W : (α → Prop) → Prop} (hW : GoodW W) {f : α → Option ρ} (h : W fun a => f a = none) : relR W f = none := by
  cases hr : relR W f with
  | none => rfl
  | some r =>
    exfalso
    refine hW.strict (hW.mono _ _ (fun a ha => ?_) (hW.conj _ _ h (relR_some hr)))
    have := ha.1.symm.trans ha.2
    cases this
inductive LT (S Q : Type) : Type 1 where
  | ret (q : Q)
  | next (s : S)
  | fail
  | br (b : Bool) (x y : LT S Q)
  | opt {α : Type} (o : Option α) (k : α → LT S Q)
  | alt {α β : Type} (o : α ⊕ β) (k : α → LT S Q) (l : β → LT S Q)
  | rel {α : Type} (W : (α → Prop) → Prop) (hW : GoodW W) (k : α → LT S Q)
noncomputable def LT.run {S Q : Type} {ρ : Type} : LT S Q → (Q → Option ρ) → (S → Option ρ) → Option ρ
  | .ret q, f, _ => f q
  | .next s, _, g => g s
  | .fail, _, _ => none
  | .br b x y, f, g => cond b (x.run f g) (y.run f g)
  | .opt o k, f, g => match o with
    | some a => (k a).run f g
    | none => none
  | .alt o k l, f, g => match o with
    | .inl a => (k a).run f g
    | .inr a => (l a).run f g
  | .rel W _ k, f, g => relR W fun a => (k a).run f g
abbrev FT (Q : Type) := LT Empty Q
noncomputable def LT.fin {Q : Type} (t : FT Q) : Option Q := t.run some (fun e => nomatch e)
noncomputable def LT.loop {S Q : Type} (bd : S → LT S Q) : Nat → S → Option Q
  | 0, _ => none
  | n + 1, s => (bd s).run some (LT.loop bd n)
def FUEL : Nat := 1000000000000
theorem LT.run_ok {S Q ρ : Type} {f : Q → Option ρ} {g : S → Option ρ} {g0 : S → Option Q} {res : Option ρ} : ∀ (t : LT S Q) (q : Q), (∀ s, g0 s = some q → g s = f q) → t.run some g0 = some q → t.run f g = f q
  | .ret q, q', _, h => by
    simp only [LT.run, Option.some.injEq] at h ⊢
    rw [h]
  | .next s, q', hg, h => hg s h
  | .fail, _, _, h => by cases h
  | .br b x y, q', hg, h => by
    cases b
    · exact LT.run_ok (res := res) y q' hg h
    · exact LT.run_ok (res := res) x q' hg h
  | .opt none k, q', hg, h => by cases h
  | .opt (some a) k, q', hg, h => LT.run_ok (res := res) (k a) q' hg h
  | .alt (.inl a) k l, q', hg, h => LT.run_ok (res := res) (k a) q' hg h
  | .alt (.inr a) k l, q', hg, h => LT.run_ok (res := res) (l a) q' hg h
  | .rel W hW k, q', hg, h => by
    have h' : W fun a => (k a).run f g = f q' := hW.mono _ _ (fun a ha => LT.run_ok (res := res) (k a) q' hg ha) (relR_some h)
    show relR W (fun a => (k a).run f g) = f q'
    cases hf : f q' with
    | none => rw [hf] at h'; exact relR_none hW h'
    | some r => rw [hf] at h'; exact relR_is hW h'
def LT.wp {S Q : Type} : LT S Q → (Q → Prop) → (S → Prop) → Prop
  | .ret q, p, _ => p q
  | .next s, _, g => g s
  | .fail, _, _ => False
  | .br b x y, p, g => match b with | true => x.wp p g | false => y.wp p g
  | .opt o k, p, g => match o with
    | some a => (k a).wp p g
    | none => False
  | .alt o k l, p, g => match o with
    | .inl a => (k a).wp p g
    | .inr a => (l a).wp p g
  | .rel W _ k, p, g => W fun a => (k a).wp p g
def LT.loopW {S Q : Type} (bd : S → LT S Q) : Nat → S → (Q → Prop) → Prop
  | 0, _, _ => False
  | n + 1, s, p => (bd s).wp p fun s' => LT.loopW bd n s' p
theorem LT.wp_mono {S Q : Type} {p q : Q → Prop} {g g' : S → Prop} (hp : ∀ x, p x → q x) (hg : ∀ s, g s → g' s) : ∀ t : LT S Q, t.wp p g → t.wp q g'
  | .ret x, h => hp x h
  | .next s, h => hg s h
  | .fail, h => h
  | .br true x y, h => LT.wp_mono hp hg x h
  | .br false x y, h => LT.wp_mono hp hg y h
  | .opt (some a) k, h => LT.wp_mono hp hg (k a) h
  | .opt none k, h => h
  | .alt (.inl a) k l, h => LT.wp_mono hp hg (k a) h
  | .alt (.inr a) k l, h => LT.wp_mono hp hg (l a) h
  | .rel W hW k, h => hW.mono _ _ (fun a ha => LT.wp_mono hp hg (k a) ha) h
theorem LT.wp_conj {S Q : Type} {p q : Q → Prop} {g g' : S → Prop} : ∀ t : LT S Q, t.wp p g → t.wp q g' → t.wp (fun x => p x ∧ q x) fun s => g s ∧ g' s
  | .ret x, h, h' => ⟨h, h'⟩
  | .next s, h, h' => ⟨h, h'⟩
  | .fail, h, _ => h
  | .br true x y, h, h' => LT.wp_conj x h h'
  | .br false x y, h, h' => LT.wp_conj y h h'
  | .opt (some a) k, h, h' => LT.wp_conj (k a) h h'
  | .opt none k, h, _ => h
  | .alt (.inl a) k l, h, h' => LT.wp_conj (k a) h h'
  | .alt (.inr a) k l, h, h' => LT.wp_conj (l a) h h'
  | .rel W hW k, h, h' => hW.mono _ _ (fun a ha => LT.wp_conj (k a) ha.1 ha.2) (hW.conj _ _ h h')
theorem LT.wp_strict {S Q : Type} : ∀ t : LT S Q, ¬ t.wp (fun _ => False) fun _ => False
  | .ret x, h => h
  | .next s, h => h
  | .fail, h => h
  | .br true x y, h => LT.wp_strict x h
  | .br false x y, h => LT.wp_strict y h
  | .opt (some a) k, h => LT.wp_strict (k a) h
  | .opt none k, h => h
  | .alt (.inl a) k l, h => LT.wp_strict (k a) h
  | .alt (.inr a) k l, h => LT.wp_strict (l a) h
  | .rel W hW k, h => hW.strict (hW.mono _ _ (fun a ha => LT.wp_strict (k a) ha) h)
theorem LT.loopW_good {S Q : Type} (bd : S → LT S Q) : ∀ (n : Nat) (s : S), (∀ p q : Q → Prop, LT.loopW bd n s p → LT.loopW bd n s q → LT.loopW bd n s fun a => p a ∧ q a) ∧ (∀ p q : Q → Prop, (∀ a, p a → q a) → LT.loopW bd n s p → LT.loopW bd n s q) ∧ ¬ LT.loopW bd n s fun _ => False
  | 0, s => ⟨fun _ _ h _ => h, fun _ _ _ h => h, fun h => h⟩
  | n + 1, s => ⟨fun p q h h' => LT.wp_mono (fun _ h => h) (fun s' hs => (LT.loopW_good bd n s').1 p q hs.1 hs.2) _ (LT.wp_conj _ h h'), fun p q hpq h => LT.wp_mono hpq (fun s' hs => (LT.loopW_good bd n s').2.1 p q hpq hs) _ h, fun h => LT.wp_strict (bd s) (LT.wp_mono (fun _ h => h) (fun s' hs => (LT.loopW_good bd n s').2.2 hs) _ h)⟩
theorem LT.good {S Q : Type} (bd : S → LT S Q) (n : Nat) (s : S) : GoodW (LT.loopW bd n s) := ⟨(LT.loopW_good bd n s).1, (LT.loopW_good bd n s).2.1, (LT.loopW_good bd n s).2.2⟩
theorem LT.wp_run {S Q ρ : Type} {p : Q → Prop} {g' : S → Prop} {f : Q → Option ρ} {g : S → Option ρ} {r : ρ} (hp : ∀ q, p q → f q = some r) (hg : ∀ s, g' s → g s = some r) : ∀ t : LT S Q, t.wp p g' → t.run f g = some r
  | .ret x, h => hp x h
  | .next s, h => hg s h
  | .fail, h => h.elim
  | .br true x y, h => LT.wp_run hp hg x h
  | .br false x y, h => LT.wp_run hp hg y h
  | .opt (some a) k, h => LT.wp_run hp hg (k a) h
  | .opt none k, h => h.elim
  | .alt (.inl a) k l, h => LT.wp_run hp hg (k a) h
  | .alt (.inr a) k l, h => LT.wp_run hp hg (l a) h
  | .rel W hW k, h => relR_is hW (hW.mono _ _ (fun a ha => LT.wp_run hp hg (k a) ha) h)
inductive CPat where
  | d (s : Sh)
  | ag (s : Sh)
  | fnc (f : Nat) (ss : List Sh)
inductive Pat where
  | rfo (t : TypeId) (off : Nat)
  | rel (e : TypeId) (s : Sh) (off : Nat)
  | itr (id : Nat)
  | stp (id : Nat)
  | sub (id : Nat)
  | fnc (f : Nat) (ss : List Sh)
  | clo (f : Nat) (ps : List CPat)
  | d (s : Sh)
  | ag (s : Sh)
  | elt (s : Sh) (off : Nat)
  | pel (s : Sh)
  | own (id : Nat)
  | ref (id off : Nat)
  | fn (f : Nat)
  | nsl
  | nilp
  | oth
  | undef
structure IPat where
  id : Nat
  ka : Bool
  va : Bool
  k : Sh
  v : Sh
inductive RPat where
  | box (t : TypeId) (ps : List Pat)
  | row (e : TypeId) (s : Sh)
  | fro (s : Sh)
  | tok
  | reg (its : List IPat)
def leaf1 : (s : Sh) → s.T → AV
  | .int k, x => .int k x
  | .bool, x => .bool x
  | .str, x => .str x
  | .err, x => .err x
  | .ptr, _ => .nilp
  | .rf k, x => .rf k x
  | .pt s, x => .pel s x
  | .sl s, x => .sl s x
  | .pair a b, x => .ag (leaves a x.1 ++ leaves b x.2)
def unleaf1 : (s : Sh) → AV → Option s.T
  | .int k, a => match a with | .int k' n => (if k' = k then some n else none) | _ => none
  | .bool, a => match a with | .bool b => some b | _ => none
  | .str, a => match a with | .str b => some b | _ => none
  | .err, a => match a with | .err b => some b | _ => none
  | .ptr, a => match a with | .nilp => some () | _ => none
  | .rf k, a => match a with | .rf k' x => (if k' = k then some x else none) | _ => none
  | .pt s, a => match a with | .pel s' x => castP s' s x | _ => none
  | .sl s, a => match a with | .sl s' x => castL s' s x | _ => none
  | .pair _ _, _ => none
def unleaves : (s : Sh) → List AV → Option s.T
  | .int k, l => match l with | [a] => unleaf1 (.int k) a | _ => none
  | .bool, l => match l with | [a] => unleaf1 .bool a | _ => none
  | .str, l => match l with | [a] => unleaf1 .str a | _ => none
  | .err, l => match l with | [a] => unleaf1 .err a | _ => none
  | .ptr, l => match l with | [a] => unleaf1 .ptr a | _ => none
  | .rf k, l => match l with | [a] => unleaf1 (.rf k) a | _ => none
  | .pt s, l => match l with | [a] => unleaf1 (.pt s) a | _ => none
  | .sl s, l => match l with | [a] => unleaf1 (.sl s) a | _ => none
  | .pair a b, l => match unleaves a (l.take a.sz), unleaves b (l.drop a.sz) with
    | some x, some y => some (x, y)
    | _, _ => none
def encA (s : Sh) (x : s.T) : AV := leaf1 s x
def decA (s : Sh) (a : AV) : Option s.T :=
  match s with
  | .pair u v => match a with | .ag l => unleaves (.pair u v) l | _ => none
  | s => unleaf1 s a
theorem unleaf1_ok : ∀ (s : Sh) (a : AV) (x : s.T), unleaf1 s a = some x → a = leaf1 s x
  | .int k, a, x, h => by
    simp only [unleaf1] at h
    split at h <;> simp at h
    obtain ⟨rfl, rfl⟩ := h
    rfl
  | .bool, a, x, h => by simp only [unleaf1] at h; split at h <;> simp at h; subst h; rfl
  | .str, a, x, h => by simp only [unleaf1] at h; split at h <;> simp at h; subst h; rfl
  | .err, a, x, h => by simp only [unleaf1] at h; split at h <;> simp at h; subst h; rfl
  | .ptr, a, x, h => by simp only [unleaf1] at h; split at h <;> simp at h; rfl
  | .rf k, a, x, h => by
    simp only [unleaf1] at h
    split at h <;> simp at h
    obtain ⟨rfl, rfl⟩ := h
    rfl
  | .pt s, a, x, h => by
    simp only [unleaf1] at h
    split at h <;> try (cases h; done)
    obtain ⟨e, rfl⟩ := castP_some h
    subst e; rfl
  | .sl s, a, x, h => by
    simp only [unleaf1] at h
    split at h <;> try (cases h; done)
    obtain ⟨e, rfl⟩ := castL_some h
    subst e; rfl
  | .pair _ _, a, x, h => by cases h
theorem unleaves_ok : ∀ (s : Sh) (l : List AV) (x : s.T), unleaves s l = some x → l = leaves s x
  | .int k, l, x, h => by
    simp only [unleaves] at h
    split at h <;> try (cases h; done)
    rw [unleaf1_ok _ _ _ h]; rfl
  | .bool, l, x, h => by
    simp only [unleaves] at h
    split at h <;> try (cases h; done)
    rw [unleaf1_ok _ _ _ h]; rfl
  | .str, l, x, h => by
    simp only [unleaves] at h
    split at h <;> try (cases h; done)
    rw [unleaf1_ok _ _ _ h]; rfl
  | .err, l, x, h => by
    simp only [unleaves] at h
    split at h <;> try (cases h; done)
    rw [unleaf1_ok _ _ _ h]; rfl
  | .ptr, l, x, h => by
    simp only [unleaves] at h
    split at h <;> try (cases h; done)
    rw [unleaf1_ok _ _ _ h]; rfl
  | .rf k, l, x, h => by
    simp only [unleaves] at h
    split at h <;> try (cases h; done)
    rw [unleaf1_ok _ _ _ h]; rfl
  | .pt s, l, x, h => by
    simp only [unleaves] at h
    split at h <;> try (cases h; done)
    rw [unleaf1_ok _ _ _ h]; rfl
  | .sl s, l, x, h => by
    simp only [unleaves] at h
    split at h <;> try (cases h; done)
    rw [unleaf1_ok _ _ _ h]; rfl
  | .pair a b, l, x, h => by
    simp only [unleaves] at h
    split at h <;> simp at h
    rename_i y z hy hz
    subst h
    show l = leaves a y ++ leaves b z
    rw [← unleaves_ok a _ _ hy, ← unleaves_ok b _ _ hz, List.take_append_drop]
theorem decA_ok {s : Sh} {a : AV} {x : s.T} (h : decA s a = some x) : a = encA s x := by
  unfold decA at h
  split at h
  · rename_i u v
    split at h <;> try (cases h; done)
    rw [unleaves_ok _ _ _ h]
    rfl
  · exact unleaf1_ok _ _ _ h
def ATX : List Sh → Type → Type
  | [], X => X
  | s :: l, X => s.T × ATX l X
def CTX : List CPat → Type → Type
  | [], X => X
  | .d s :: l, X => s.T × CTX l X
  | .ag s :: l, X => s.T × CTX l X
  | .fnc _ ss :: l, X => ATX ss (CTX l X)
def encAs {X : Type} : (l : List Sh) → ATX l X → List AV × X
  | [], x => ([], x)
  | s :: l, x => (leaf1 s x.1 :: (encAs l x.2).1, (encAs l x.2).2)
def decAs {X : Type} : (l : List Sh) → List AV → X → Option (ATX l X)
  | [], m, y => match m with | [] => some y | _ => none
  | s :: l, m, y => match m with | a :: m => (match unleaf1 s a with | some x => (match decAs l m y with | some z => some (x, z) | none => none) | none => none) | _ => none
theorem decAs_ok {X : Type} : ∀ (l : List Sh) (m : List AV) (y : X) (z : ATX l X), decAs l m y = some z → encAs l z = (m, y)
  | [], m, y, z, h => by
    unfold decAs at h
    split at h <;> try (cases h; done)
    obtain rfl := Option.some.inj h
    rfl
  | s :: l, m, y, z, h => by
    unfold decAs at h
    split at h <;> try (cases h; done)
    split at h <;> try (cases h; done)
    split at h <;> try (cases h; done)
    rename_i a m _ x hx _ z' hz
    obtain rfl := Option.some.inj h
    have h2 := decAs_ok l m y z' hz
    simp only [encAs, h2, ← unleaf1_ok _ _ _ hx]
def encCs {X : Type} : (l : List CPat) → CTX l X → List AV × X
  | [], x => ([], x)
  | .d s :: l, x => (leaf1 s x.1 :: (encCs l x.2).1, (encCs l x.2).2)
  | .ag s :: l, x => (.ag (leaves s x.1) :: (encCs l x.2).1, (encCs l x.2).2)
  | .fnc f ss :: l, x => (.fnc f (encAs ss x).1 :: (encCs l (encAs ss x).2).1, (encCs l (encAs ss x).2).2)
def decCs {X : Type} : (l : List CPat) → List AV → X → Option (CTX l X)
  | [], m, y => match m with | [] => some y | _ => none
  | .d s :: l, m, y => match m with | a :: m => (match unleaf1 s a with | some x => (match decCs l m y with | some z => some (x, z) | none => none) | none => none) | _ => none
  | .ag s :: l, m, y => match m with | .ag a :: m => (match unleaves s a with | some x => (match decCs l m y with | some z => some (x, z) | none => none) | none => none) | _ => none
  | .fnc f ss :: l, m, y => match m with | .fnc g a :: m => (match Nat.beq g f with | true => (match decCs l m y with | some z => decAs ss a z | none => none) | false => none) | _ => none
theorem decCs_ok {X : Type} : ∀ (l : List CPat) (m : List AV) (y : X) (z : CTX l X), decCs l m y = some z → encCs l z = (m, y)
  | [], m, y, z, h => by
    unfold decCs at h
    split at h <;> try (cases h; done)
    obtain rfl := Option.some.inj h
    rfl
  | .d s :: l, m, y, z, h => by
    unfold decCs at h
    split at h <;> try (cases h; done)
    split at h <;> try (cases h; done)
    split at h <;> try (cases h; done)
    rename_i a m _ x hx _ z' hz
    obtain rfl := Option.some.inj h
    have h2 := decCs_ok l m y z' hz
    simp only [encCs, h2, ← unleaf1_ok _ _ _ hx]
  | .ag s :: l, m, y, z, h => by
    unfold decCs at h
    split at h <;> try (cases h; done)
    split at h <;> try (cases h; done)
    split at h <;> try (cases h; done)
    rename_i a m _ x hx _ z' hz
    obtain rfl := Option.some.inj h
    have h2 := decCs_ok l m y z' hz
    simp only [encCs, h2, ← unleaves_ok _ _ _ hx]
  | .fnc f ss :: l, m, y, z, h => by
    unfold decCs at h
    split at h <;> try (cases h; done)
    split at h <;> try (cases h; done)
    split at h <;> try (cases h; done)
    rename_i g a m _ hb _ z' hz
    have h2 := decCs_ok l m y z' hz
    have h3 := decAs_ok ss a z' z h
    have : g = f := Nat.eq_of_beq_eq_true hb
    subst this
    simp only [encCs, h3, h2]
def Pat.TX : Pat → Type → Type
  | .rfo _ _, X => Nat × X
  | .rel _ _ _, X => Nat × Int × X
  | .sub _, X => Nat × X
  | .fnc _ ss, X => ATX ss X
  | .clo _ ps, X => CTX ps X
  | .d s, X => s.T × X
  | .ag s, X => s.T × X
  | .elt s _, X => s.T × X
  | .pel s, X => Option s.T × X
  | _, X => X
def PTX : List Pat → Type → Type
  | [], X => X
  | p :: l, X => p.TX (PTX l X)
def STX : List (Nat × Pat) → Type → Type
  | [], X => X
  | p :: l, X => p.2.TX (STX l X)
def ITX : List IPat → Type → Type
  | [], X => X
  | p :: l, X => Option Nat × List (p.k.T × p.v.T) × ITX l X
def RTX : List (Nat × RPat) → Type → Type
  | [], X => X
  | (_, .tok) :: l, X => RTX l X
  | (_, .reg its) :: l, X => List Nat × ITX its (List Node × RTX l X)
  | (_, .box _ ps) :: l, X => PTX ps (RTX l X)
  | (_, .row _ s) :: l, X => List s.T × RTX l X
  | (_, .fro s) :: l, X => List s.T × RTX l X
structure EP where
  sl : List (Nat × Pat)
  rs : List (Nat × RPat)
def EP.T (e : EP) : Type := STX e.sl (RTX e.rs Unit)
def Pat.enc {X : Type} : (p : Pat) → p.TX X → AV × X
  | .rfo t off, x => (.rfo t x.1 off, x.2)
  | .rel e s off, x => (.rel e s x.1 x.2.1 off, x.2.2)
  | .itr id, x => (.itr id, x)
  | .stp id, x => (.stp id, x)
  | .sub id, x => (.sub id x.1, x.2)
  | .fnc f ss, x => (.fnc f (encAs ss x).1, (encAs ss x).2)
  | .clo f ps, x => (.clo f (encCs ps x).1, (encCs ps x).2)
  | .d s, x => (leaf1 s x.1, x.2)
  | .ag s, x => (.ag (leaves s x.1), x.2)
  | .elt s off, x => (.elt s x.1 off, x.2)
  | .pel s, x => (.pel s x.1, x.2)
  | .own id, x => (.own id, x)
  | .ref id off, x => (.ref id off, x)
  | .fn f, x => (.fn f, x)
  | .nsl, x => (.nsl, x)
  | .nilp, x => (.nilp, x)
  | .oth, x => (.oth, x)
  | .undef, x => (.undef, x)
def Pat.dec {X : Type} : (p : Pat) → AV → X → Option (p.TX X)
  | .rfo t off, a, y => match a with | .rfo t' n off' => (match Nat.beq t' t with | true => (match Nat.beq off' off with | true => some (n, y) | false => none) | false => none) | _ => none
  | .rel e s off, a, y => match a with | .rel e' s' n i off' => (match Nat.beq e' e with | true => (match Nat.beq off' off with | true => (if s' = s then some (n, i, y) else none) | false => none) | false => none) | _ => none
  | .itr id, a, y => match a with | .itr i => (match Nat.beq i id with | true => some y | false => none) | _ => none
  | .stp id, a, y => match a with | .stp i => (match Nat.beq i id with | true => some y | false => none) | _ => none
  | .sub id, a, y => match a with | .sub i n => (match Nat.beq i id with | true => some (n, y) | false => none) | _ => none
  | .fnc f ss, a, y => match a with | .fnc g l => (match Nat.beq g f with | true => decAs ss l y | false => none) | _ => none
  | .clo f ps, a, y => match a with | .clo g l => (match Nat.beq g f with | true => decCs ps l y | false => none) | _ => none
  | .d s, a, y => match unleaf1 s a with | some x => some (x, y) | none => none
  | .ag s, a, y => match a with | .ag l => (match unleaves s l with | some x => some (x, y) | none => none) | _ => none
  | .elt s off, a, y => match a with | .elt s' x off' => (match Nat.beq off' off with | true => (match castE s' s x with | some x => some (x, y) | none => none) | false => none) | _ => none
  | .pel s, a, y => match a with | .pel s' x => (match castP s' s x with | some x => some (x, y) | none => none) | _ => none
  | .own id, a, y => match a with | .own i => (match Nat.beq i id with | true => some y | false => none) | _ => none
  | .ref id off, a, y => match a with | .ref i o => (match Nat.beq i id with | true => (match Nat.beq o off with | true => some y | false => none) | false => none) | _ => none
  | .fn f, a, y => match a with | .fn i => (match Nat.beq i f with | true => some y | false => none) | _ => none
  | .nsl, a, y => match a with | .nsl => some y | _ => none
  | .nilp, a, y => match a with | .nilp => some y | _ => none
  | .oth, a, y => match a with | .oth => some y | _ => none
  | .undef, a, y => match a with | .undef => some y | _ => none
theorem beq_true {a b : Nat} (h : Nat.beq a b = true) : a = b := Nat.eq_of_beq_eq_true h
theorem Pat.dec_ok {X : Type} : ∀ (p : Pat) (a : AV) (y : X) (z : p.TX X), p.dec a y = some z → p.enc z = (a, y)
  | .rfo t off, a, y, z, h => by
    change (match (generalizing := false) a with | .rfo t' n off' => (match Nat.beq t' t with | true => (match Nat.beq off' off with | true => some (n, y) | false => none) | false => none) | _ => none : Option (Nat × X)) = some z at h
    split at h <;> try (cases h; done)
    split at h <;> try (cases h; done)
    split at h <;> try (cases h; done)
    rename_i hb _ hb2
    obtain rfl := Option.some.inj h
    rw [beq_true hb, beq_true hb2]; rfl
  | .rel e s off, a, y, z, h => by
    change (match (generalizing := false) a with | .rel e' s' n i off' => (match Nat.beq e' e with | true => (match Nat.beq off' off with | true => (if s' = s then some (n, i, y) else none) | false => none) | false => none) | _ => none : Option (Nat × Int × X)) = some z at h
    split at h <;> try (cases h; done)
    split at h <;> try (cases h; done)
    split at h <;> try (cases h; done)
    split at h <;> try (cases h; done)
    rename_i hb _ hb2 hs
    obtain rfl := Option.some.inj h
    rw [beq_true hb, beq_true hb2, hs]; rfl
  | .itr id, a, y, z, h => by
    change (match (generalizing := false) a with | .itr i => (match Nat.beq i id with | true => some y | false => none) | _ => none : Option X) = some z at h
    split at h <;> try (cases h; done)
    split at h <;> try (cases h; done)
    rename_i hb
    obtain rfl := Option.some.inj h
    rw [beq_true hb]; rfl
  | .stp id, a, y, z, h => by
    change (match (generalizing := false) a with | .stp i => (match Nat.beq i id with | true => some y | false => none) | _ => none : Option X) = some z at h
    split at h <;> try (cases h; done)
    split at h <;> try (cases h; done)
    rename_i hb
    obtain rfl := Option.some.inj h
    rw [beq_true hb]; rfl
  | .sub id, a, y, z, h => by
    change (match (generalizing := false) a with | .sub i n => (match Nat.beq i id with | true => some (n, y) | false => none) | _ => none : Option (Nat × X)) = some z at h
    split at h <;> try (cases h; done)
    split at h <;> try (cases h; done)
    rename_i hb
    obtain rfl := Option.some.inj h
    rw [beq_true hb]; rfl
  | .fnc f ss, a, y, z, h => by
    change (match (generalizing := false) a with | .fnc g l => (match Nat.beq g f with | true => decAs ss l y | false => none) | _ => none : Option (ATX ss X)) = some z at h
    split at h <;> try (cases h; done)
    split at h <;> try (cases h; done)
    rename_i hb
    have h2 := decAs_ok ss _ _ _ h
    show (AV.fnc f (encAs ss z).1, (encAs ss z).2) = _
    rw [h2, beq_true hb]
  | .clo f ps, a, y, z, h => by
    change (match (generalizing := false) a with | .clo g l => (match Nat.beq g f with | true => decCs ps l y | false => none) | _ => none : Option (CTX ps X)) = some z at h
    split at h <;> try (cases h; done)
    split at h <;> try (cases h; done)
    rename_i hb
    have h2 := decCs_ok ps _ _ _ h
    show (AV.clo f (encCs ps z).1, (encCs ps z).2) = _
    rw [h2, beq_true hb]
  | .d s, a, y, z, h => by
    change (match unleaf1 s a with | some x => some (x, y) | none => none : Option (s.T × X)) = some z at h
    split at h <;> try (cases h; done)
    rename_i x hx
    obtain rfl := Option.some.inj h
    rw [unleaf1_ok _ _ _ hx]; rfl
  | .ag s, a, y, z, h => by
    change (match (generalizing := false) a with | .ag l => (match unleaves s l with | some x => some (x, y) | none => none) | _ => none : Option (s.T × X)) = some z at h
    split at h <;> try (cases h; done)
    split at h <;> try (cases h; done)
    rename_i x hx
    obtain rfl := Option.some.inj h
    rw [unleaves_ok _ _ _ hx]; rfl
  | .elt s off, a, y, z, h => by
    change (match (generalizing := false) a with | .elt s' x off' => (match Nat.beq off' off with | true => (match castE s' s x with | some x => some (x, y) | none => none) | false => none) | _ => none : Option (s.T × X)) = some z at h
    split at h <;> try (cases h; done)
    split at h <;> try (cases h; done)
    split at h <;> try (cases h; done)
    rename_i hb _ x hx
    obtain rfl := Option.some.inj h
    obtain ⟨e, rfl⟩ := castE_some hx
    subst e
    rw [beq_true hb]; rfl
  | .pel s, a, y, z, h => by
    change (match (generalizing := false) a with | .pel s' x => (match castP s' s x with | some x => some (x, y) | none => none) | _ => none : Option (Option s.T × X)) = some z at h
    split at h <;> try (cases h; done)
    split at h <;> try (cases h; done)
    rename_i x hx
    obtain rfl := Option.some.inj h
    obtain ⟨e, rfl⟩ := castP_some hx
    subst e; rfl
  | .own id, a, y, z, h => by
    change (match (generalizing := false) a with | .own i => (match Nat.beq i id with | true => some y | false => none) | _ => none : Option X) = some z at h
    split at h <;> try (cases h; done)
    split at h <;> try (cases h; done)
    rename_i hb
    obtain rfl := Option.some.inj h
    rw [beq_true hb]; rfl
  | .ref id off, a, y, z, h => by
    change (match (generalizing := false) a with | .ref i o => (match Nat.beq i id with | true => (match Nat.beq o off with | true => some y | false => none) | false => none) | _ => none : Option X) = some z at h
    split at h <;> try (cases h; done)
    split at h <;> try (cases h; done)
    split at h <;> try (cases h; done)
    rename_i hb _ hb2
    obtain rfl := Option.some.inj h
    rw [beq_true hb, beq_true hb2]; rfl
  | .fn f, a, y, z, h => by
    change (match (generalizing := false) a with | .fn i => (match Nat.beq i f with | true => some y | false => none) | _ => none : Option X) = some z at h
    split at h <;> try (cases h; done)
    split at h <;> try (cases h; done)
    rename_i hb
    obtain rfl := Option.some.inj h
    rw [beq_true hb]; rfl
  | .nsl, a, y, z, h => by
    change (match (generalizing := false) a with | .nsl => some y | _ => none : Option X) = some z at h
    split at h <;> try (cases h; done)
    obtain rfl := Option.some.inj h
    rfl
  | .nilp, a, y, z, h => by
    change (match (generalizing := false) a with | .nilp => some y | _ => none : Option X) = some z at h
    split at h <;> try (cases h; done)
    obtain rfl := Option.some.inj h
    rfl
  | .oth, a, y, z, h => by
    change (match (generalizing := false) a with | .oth => some y | _ => none : Option X) = some z at h
    split at h <;> try (cases h; done)
    obtain rfl := Option.some.inj h
    rfl
  | .undef, a, y, z, h => by
    change (match (generalizing := false) a with | .undef => some y | _ => none : Option X) = some z at h
    split at h <;> try (cases h; done)
    obtain rfl := Option.some.inj h
    rfl
def encP {X : Type} : (l : List Pat) → PTX l X → List AV × X
  | [], x => ([], x)
  | p :: l, x => ((p.enc x).1 :: (encP l (p.enc x).2).1, (encP l (p.enc x).2).2)
def decP {X : Type} : (l : List Pat) → List AV → X → Option (PTX l X)
  | [], m, y => match m with | [] => some y | _ => none
  | p :: l, m, y => match m with | a :: m => (match decP l m y with | some z => p.dec a z | none => none) | _ => none
theorem decP_ok {X : Type} : ∀ (l : List Pat) (m : List AV) (y : X) (z : PTX l X), decP l m y = some z → encP l z = (m, y)
  | [], m, y, z, h => by
    unfold decP at h
    split at h <;> try (cases h; done)
    obtain rfl := Option.some.inj h
    rfl
  | p :: l, m, y, z, h => by
    unfold decP at h
    split at h <;> try (cases h; done)
    split at h <;> try (cases h; done)
    rename_i a m _ z' hz
    have h1 := Pat.dec_ok p a z' z h
    have h2 := decP_ok l m y z' hz
    simp only [encP, h1, h2]
def encS {X : Type} : (l : List (Nat × Pat)) → STX l X → List (Nat × AV) × X
  | [], x => ([], x)
  | p :: l, x => ((p.1, (p.2.enc x).1) :: (encS l (p.2.enc x).2).1, (encS l (p.2.enc x).2).2)
def decS {X : Type} : (l : List (Nat × Pat)) → List (Nat × AV) → X → Option (STX l X)
  | [], m, y => match m with | [] => some y | _ => none
  | p :: l, m, y => match m with
    | (t, a) :: m => (match Nat.beq t p.1 with | true => (match decS l m y with | some z => p.2.dec a z | none => none) | false => none)
    | _ => none
theorem decS_ok {X : Type} : ∀ (l : List (Nat × Pat)) (m : List (Nat × AV)) (y : X) (z : STX l X), decS l m y = some z → encS l z = (m, y)
  | [], m, y, z, h => by
    unfold decS at h
    split at h <;> try (cases h; done)
    obtain rfl := Option.some.inj h
    rfl
  | p :: l, m, y, z, h => by
    unfold decS at h
    split at h <;> try (cases h; done)
    split at h <;> try (cases h; done)
    split at h <;> try (cases h; done)
    rename_i t a m _ hb _ z' hz
    have h1 := Pat.dec_ok p.2 a z' z h
    have h2 := decS_ok l m y z' hz
    simp only [encS, h1, h2, beq_true hb]
def encI {X : Type} : (l : List IPat) → ITX l X → List (Nat × It) × X
  | [], x => ([], x)
  | p :: l, x => ((p.id, .it x.1 p.ka p.va p.k p.v x.2.1 none none) :: (encI l x.2.2).1, (encI l x.2.2).2)
def castK (k' v' k v : Sh) (l : List (k'.T × v'.T)) : Option (List (k.T × v.T)) := if h : k' = k ∧ v' = v then some (h.1 ▸ h.2 ▸ l) else none
theorem castK_some {k' v' k v : Sh} {l : List (k'.T × v'.T)} {m : List (k.T × v.T)} (h : castK k' v' k v l = some m) : ∃ e : k' = k ∧ v' = v, m = e.1 ▸ e.2 ▸ l := by
  unfold castK at h
  split at h
  · rename_i e; exact ⟨e, (Option.some.inj h).symm⟩
  · cases h
def decI {X : Type} : (l : List IPat) → List (Nat × It) → X → Option (ITX l X)
  | [], m, y => match m with | [] => some y | _ => none
  | p :: l, m, y => match m with
    | (i, .it n ka va k v left none none) :: m => (match Nat.beq i p.id with | true => (if ka = p.ka ∧ va = p.va then (match castK k v p.k p.v left with | some left => (match decI l m y with | some z => some (n, left, z) | none => none) | none => none) else none) | false => none)
    | _ => none
theorem decI_ok {X : Type} : ∀ (l : List IPat) (m : List (Nat × It)) (y : X) (z : ITX l X), decI l m y = some z → encI l z = (m, y)
  | [], m, y, z, h => by
    unfold decI at h
    split at h <;> try (cases h; done)
    obtain rfl := Option.some.inj h
    rfl
  | ⟨id, ka, va, k, v⟩ :: l, m, y, z, h => by
    unfold decI at h
    split at h <;> try (cases h; done)
    split at h <;> try (cases h; done)
    split at h <;> try (cases h; done)
    split at h <;> try (cases h; done)
    split at h <;> try (cases h; done)
    rename_i hb hab _ left hl _ z' hz
    obtain ⟨e, rfl⟩ := castK_some hl
    obtain ⟨e1, e2⟩ := e
    obtain ⟨e3, e4⟩ := hab
    simp only at e1 e2 e3 e4
    subst e1
    subst e2
    subst e3
    subst e4
    obtain rfl := Option.some.inj h
    have h2 := decI_ok l _ y z' hz
    simp only [encI, h2, beq_true hb]
def encR {X : Type} : (l : List (Nat × RPat)) → RTX l X → List (Nat × Option RS) × X
  | [], x => ([], x)
  | (id, .tok) :: l, x => ((id, some .tok) :: (encR l x).1, (encR l x).2)
  | (id, .reg its) :: l, x => ((id, some (.reg x.1 (encI its x.2).1 (encI its x.2).2.1)) :: (encR l (encI its x.2).2.2).1, (encR l (encI its x.2).2.2).2)
  | (id, .box t ps) :: l, x => ((id, some (.box t (encP ps x).1)) :: (encR l (encP ps x).2).1, (encR l (encP ps x).2).2)
  | (id, .row e s) :: l, x => ((id, some (.row e s x.1)) :: (encR l x.2).1, (encR l x.2).2)
  | (id, .fro s) :: l, x => ((id, some (.fro s x.1)) :: (encR l x.2).1, (encR l x.2).2)
def decR {X : Type} : (l : List (Nat × RPat)) → List (Nat × Option RS) → X → Option (RTX l X)
  | [], m, y => match m with | [] => some y | _ => none
  | (id, .tok) :: l, m, y => match m with
    | (i, some .tok) :: m => (match Nat.beq i id with | true => decR l m y | false => none)
    | _ => none
  | (id, .reg its) :: l, m, y => match m with
    | (i, some (.reg lk is H)) :: m => (match Nat.beq i id with | true => (match decR l m y with | some z => (match decI its is (H, z) with | some q => some (lk, q) | none => none) | none => none) | false => none)
    | _ => none
  | (id, .box t ps) :: l, m, y => match m with
    | (i, some (.box t' cs)) :: m => (match Nat.beq i id with | true => (match Nat.beq t' t with | true => (match decR l m y with | some z => decP ps cs z | none => none) | false => none) | false => none)
    | _ => none
  | (id, .row e s) :: l, m, y => match m with
    | (i, some (.row e' s' x)) :: m => (match Nat.beq i id with | true => (match Nat.beq e' e with | true => (match castL s' s x with | some x => (match decR l m y with | some z => some (x, z) | none => none) | none => none) | false => none) | false => none)
    | _ => none
  | (id, .fro s) :: l, m, y => match m with
    | (i, some (.fro s' x)) :: m => (match Nat.beq i id with | true => (match castL s' s x with | some x => (match decR l m y with | some z => some (x, z) | none => none) | none => none) | false => none)
    | _ => none
theorem decR_ok {X : Type} : ∀ (l : List (Nat × RPat)) (m : List (Nat × Option RS)) (y : X) (z : RTX l X), decR l m y = some z → encR l z = (m, y)
  | [], m, y, z, h => by
    unfold decR at h
    split at h <;> try (cases h; done)
    obtain rfl := Option.some.inj h
    rfl
  | (id, .tok) :: l, m, y, z, h => by
    unfold decR at h
    split at h <;> try (cases h; done)
    split at h <;> try (cases h; done)
    rename_i hb
    have h2 := decR_ok l _ _ _ h
    simp only [encR, h2, beq_true hb]
  | (id, .reg its) :: l, m, y, z, h => by
    unfold decR at h
    split at h <;> try (cases h; done)
    split at h <;> try (cases h; done)
    split at h <;> try (cases h; done)
    split at h <;> try (cases h; done)
    rename_i hb _ z' hz _ q hq
    obtain rfl := Option.some.inj h
    have h2 := decR_ok l _ _ _ hz
    have h3 := decI_ok its _ _ _ hq
    simp only [encR, h2, h3, beq_true hb]
  | (id, .box t ps) :: l, m, y, z, h => by
    unfold decR at h
    split at h <;> try (cases h; done)
    split at h <;> try (cases h; done)
    split at h <;> try (cases h; done)
    split at h <;> try (cases h; done)
    rename_i hb _ ht _ z' hz
    have h1 := decP_ok ps _ _ _ h
    have h2 := decR_ok l _ _ _ hz
    simp only [encR, h1, h2, beq_true hb, beq_true ht]
  | (id, .row e s) :: l, m, y, z, h => by
    unfold decR at h
    split at h <;> try (cases h; done)
    split at h <;> try (cases h; done)
    split at h <;> try (cases h; done)
    split at h <;> try (cases h; done)
    split at h <;> try (cases h; done)
    rename_i hb _ ht _ x hx _ z' hz
    obtain rfl := Option.some.inj h
    obtain ⟨e', rfl⟩ := castL_some hx
    subst e'
    have h2 := decR_ok l _ _ _ hz
    simp only [encR, h2, beq_true hb, beq_true ht]
  | (id, .fro s) :: l, m, y, z, h => by
    unfold decR at h
    split at h <;> try (cases h; done)
    split at h <;> try (cases h; done)
    split at h <;> try (cases h; done)
    split at h <;> try (cases h; done)
    rename_i hb _ x hx _ z' hz
    obtain rfl := Option.some.inj h
    obtain ⟨e', rfl⟩ := castL_some hx
    subst e'
    have h2 := decR_ok l _ _ _ hz
    simp only [encR, h2, beq_true hb]
def EP.enc (e : EP) (x : e.T) : Env := ⟨(encS e.sl x).1, (encR e.rs (encS e.sl x).2).1⟩
def EP.dec (e : EP) (E : Env) : Option e.T := match decR e.rs E.rs () with | some y => decS e.sl E.sl y | none => none
theorem EP.dec_ok {e : EP} {E : Env} {x : e.T} (h : e.dec E = some x) : E = e.enc x := by
  unfold EP.dec at h
  split at h <;> try (cases h; done)
  rename_i y hy
  have h1 := decS_ok _ _ _ _ h
  have h2 := decR_ok _ _ _ _ hy
  unfold EP.enc
  rw [h1, h2]
def RetT : List (Exit × EP) → Type
  | [] => Empty
  | [p] => p.2.T
  | p :: q :: l => p.2.T ⊕ RetT (q :: l)
def exK : (l : List (Exit × EP)) → (Exit → Env → R) → RetT l → R
  | [], _, q => nomatch q
  | [p], k, q => k p.1 (p.2.enc q)
  | p :: p' :: l, k, q => match q with
    | .inl x => k p.1 (p.2.enc x)
    | .inr y => exK (p' :: l) k y
def genOrc (h : EP) (xs : List (Exit × EP)) (F : h.T → Option (RetT xs)) : Orc := fun E k => match h.dec E with
  | some st => match F st with
    | some q => exK xs k q
    | none => none
  | none => none
theorem LT.loop_ok {S Q : Type} {bd : S → LT S Q} {lo : Nat → S → R} {f : Q → R} (hs : ∀ m st, lo (m + 1) st = (bd st).run f (lo m)) : ∀ (m : Nat) (st : S) (q : Q), LT.loop bd m st = some q → lo m st = f q
  | 0, _, _, h => by cases h
  | m + 1, st, q, h => by
    rw [hs]
    exact LT.run_ok (res := none) (bd st) q (fun s' h' => LT.loop_ok hs m s' q h') h
noncomputable def genOrcW (h : EP) (xs : List (Exit × EP)) (W : h.T → (RetT xs → Prop) → Prop) : Orc := fun E k => match h.dec E with
  | some st => relR (W st) (exK xs k)
  | none => none
theorem LT.loopW_ok {S Q : Type} {bd : S → LT S Q} {lo : Nat → S → R} {f : Q → R} {res : AV} (hs : ∀ m st, lo (m + 1) st = (bd st).run f (lo m)) : ∀ (m : Nat) (st : S), LT.loopW bd m st (fun q => f q = some res) → lo m st = some res
  | 0, _, h => h.elim
  | m + 1, st, h => by
    rw [hs]
    exact LT.wp_run (fun _ h => h) (fun s' h' => LT.loopW_ok hs m s' h') (bd st) h
theorem genOrcW_ok {P : Program} {T : Tabs} {A : Anns} {c : Code} {h : EP} {xs : List (Exit × EP)} {W : h.T → (RetT xs → Prop) → Prop} {bd : h.T → LT h.T (RetT xs)} (N : h.T → Nat) (ho : orcOf A c = some (genOrcW h xs W))
    (hF : ∀ st p, W st p → LT.loopW bd (N st) st p)
    (hs : ∀ st m k, loopX A c (prep T (annOf A c)) (evalC P T A c) (m + 1) (h.enc st) (outK T A c k) = (bd st).run (exK xs k) (fun st' => loopX A c (prep T (annOf A c)) (evalC P T A c) m (h.enc st') (outK T A c k))) : OrcOk P T A c := by
  intro o ho' E k r hr
  obtain rfl : o = genOrcW h xs W := by rw [ho] at ho'; exact (Option.some.inj ho').symm
  unfold genOrcW at hr
  split at hr <;> try (cases hr; done)
  rename_i st hst
  refine ⟨N st, ?_⟩
  rw [EP.dec_ok hst]
  exact LT.loopW_ok (lo := fun m st => loopX A c (prep T (annOf A c)) (evalC P T A c) m (h.enc st) (outK T A c k)) (fun m st => hs st m k) (N st) st (hF st _ (relR_some hr))
theorem genOrc_ok {P : Program} {T : Tabs} {A : Anns} {c : Code} {h : EP} {xs : List (Exit × EP)} {F : h.T → Option (RetT xs)} {bd : h.T → LT h.T (RetT xs)} (N : h.T → Nat) (ho : orcOf A c = some (genOrc h xs F))
    (hF : ∀ st q, F st = some q → LT.loop bd (N st) st = some q)
    (hs : ∀ st m k, loopX A c (prep T (annOf A c)) (evalC P T A c) (m + 1) (h.enc st) (outK T A c k) = (bd st).run (exK xs k) (fun st' => loopX A c (prep T (annOf A c)) (evalC P T A c) m (h.enc st') (outK T A c k))) : OrcOk P T A c := by
  intro o ho' E k r hr
  obtain rfl : o = genOrc h xs F := by rw [ho] at ho'; exact (Option.some.inj ho').symm
  unfold genOrc at hr
  split at hr <;> try (cases hr; done)
  rename_i st hst
  split at hr <;> try (cases hr; done)
  rename_i q hq
  refine ⟨N st, ?_⟩
  rw [EP.dec_ok hst, ← hr]
  exact LT.loop_ok (lo := fun m st => loopX A c (prep T (annOf A c)) (evalC P T A c) m (h.enc st) (outK T A c k)) (fun m st => hs st m k) (N st) st q (hF st q hq)
def loopN (P : Program) (f i : Nat) : Code := match (loopsF P f)[i]? with | some c => c | none => .skip
def OrcsOk (P : Program) (T : Tabs) (A : Anns) : List Code → Prop
  | [] => True
  | c :: l => OrcOk P T A c ∧ OrcsOk P T A l
theorem loopsAll {P : Program} {T : Tabs} {A : Anns} {f : Nat} {l : List Code} (h : loopsF P f = l) (h' : OrcsOk P T A l) : ∀ c ∈ loopsF P f, OrcOk P T A c := by
  rw [h]
  clear h
  induction l with
  | nil => intro c hc; cases hc
  | cons c l ih =>
    intro c' hc
    rcases List.mem_cons.1 hc with rfl | hc
    · exact h'.1
    · exact ih h'.2 c' hc
def ArgT : List Sh → Type
  | [] => Unit
  | [s] => s.T
  | s :: t :: l => s.T × ArgT (t :: l)
def encArgs : (l : List Sh) → ArgT l → List AV
  | [], _ => []
  | [s], x => [encA s x]
  | s :: t :: l, x => encA s x.1 :: encArgs (t :: l) x.2
def decArgs : (l : List Sh) → List AV → Option (ArgT l)
  | [], m => match m with | [] => some () | _ => none
  | [s], m => match m with | [a] => decA s a | _ => none
  | s :: t :: l, m => match m with
    | a :: m => match decA s a, decArgs (t :: l) m with
      | some x, some y => some (x, y)
      | _, _ => none
    | _ => none
theorem decArgs_ok : ∀ (l : List Sh) (m : List AV) (x : ArgT l), decArgs l m = some x → m = encArgs l x
  | [], m, x, h => by
    unfold decArgs at h
    split at h <;> try (cases h; done)
    rfl
  | [s], [a], x, h => by
    have h' : decA s a = some x := h
    rw [decA_ok h']; rfl
  | [s], [], x, h => by cases h
  | [s], _ :: _ :: _, x, h => by cases h
  | s :: t :: l, m, x, h => by
    unfold decArgs at h
    split at h <;> try (cases h; done)
    split at h <;> try (cases h; done)
    rename_i y z hy hz
    obtain rfl := Option.some.inj h
    rw [decA_ok hy, decArgs_ok (t :: l) _ _ hz]
    rfl
def encRs : (l : List Sh) → ArgT l → AV
  | [s], x => encA s x
  | l, x => .tup (encArgs l x)
def resSh : List Sh → Sh
  | [] => .ptr
  | [s] => s
  | s :: t :: l => .pair s (resSh (t :: l))
def toRes : (l : List Sh) → ArgT l → (resSh l).T
  | [], _ => ()
  | [_], x => x
  | _ :: t :: l, x => (x.1, toRes (t :: l) x.2)
def ofRes : (l : List Sh) → (resSh l).T → ArgT l
  | [], _ => ()
  | [_], x => x
  | _ :: t :: l, x => (x.1, ofRes (t :: l) x.2)
theorem ofRes_toRes : ∀ (l : List Sh) (x : ArgT l), ofRes l (toRes l x) = x
  | [], _ => rfl
  | [_], _ => rfl
  | s :: t :: l, x => by
    show (x.1, ofRes (t :: l) (toRes (t :: l) x.2)) = x
    rw [ofRes_toRes (t :: l) x.2]; rfl
def resOf : (l : List Sh) → Option (ArgT l) → Option (resSh l).T
  | l, o => match o with | some x => some (toRes l x) | none => none
def genSpec (sa sr : List Sh) (F : ArgT sa → Option (resSh sr).T) : CSpec := { f := fun args => match decArgs sa args with
  | some x => .opt (F x) fun r => .ret (encRs sr (ofRes sr r))
  | none => .fail }
theorem genSpec_ok {P : Program} {T : Tabs} {A : Anns} {g : Nat} {sa sr : List Sh} {F : ArgT sa → Option (resSh sr).T} {bd : ArgT sa → FT (resSh sr).T} (hf : Fit P T) (hsp : SpecsOk P T) (hm : P.follows .mixedOrders = true) (hfn : fnOk P g = true) (hO : ∀ c ∈ loopsF P g, OrcOk P T A c)
    (hF : ∀ x, F x = (bd x).fin)
    (h : ∀ x, evalF P T A g (encArgs sa x) = (bd x).run (fun r => some (encRs sr (ofRes sr r))) (fun e => nomatch e)) : CSpecOk P T.toCfg g (genSpec sa sr F) := by
  intro args res hr
  unfold genSpec at hr
  simp only at hr
  split at hr <;> try (cases hr; done)
  rename_i x hx
  rw [hF] at hr
  cases hb : (bd x).fin with
  | none => rw [hb] at hr; cases hr
  | some r =>
    rw [hb] at hr
    have hr' : encRs sr (ofRes sr r) = res := Option.some.inj hr
    subst hr'
    rw [decArgs_ok _ _ _ hx]
    refine evalF_ok hf hsp hm hfn hO ?_
    rw [h]
    exact LT.run_ok (res := none) (bd x) r (fun s => nomatch s) hb
end Go.Pev
namespace Go.Pev
theorem handSpec {P : Program} {C : Cfg} {g : Nat} {sa sr : List Sh} {F : ArgT sa → Option (resSh sr).T} (h : ∀ x r, F x = some r → Contract P C g (encArgs sa x) (encRs sr (ofRes sr r))) : CSpecOk P C g (genSpec sa sr F) := by
  intro args res hr
  unfold genSpec at hr
  simp only at hr
  split at hr <;> try (cases hr; done)
  rename_i x hx
  cases hb : F x with
  | none => rw [hb] at hr; cases hr
  | some r =>
    rw [hb] at hr
    have hr' : encRs sr (ofRes sr r) = res := Option.some.inj hr
    subst hr'
    rw [decArgs_ok _ _ _ hx]
    exact h x r hb
theorem oldSpec {P : Program} {C : Cfg} {g : Nat} {sp : CSpec} {sa sr : List Sh} {F : ArgT sa → Option (resSh sr).T} (h : CSpecOk P C g sp) (hF : ∀ x r, F x = some r → (sp.f (encArgs sa x)).get = some (encRs sr (ofRes sr r))) : CSpecOk P C g (genSpec sa sr F) :=
  handSpec fun x r hr => h _ _ (hF x r hr)
end Go.Pev
namespace Go.Pev
noncomputable def sealed {α : Type} (x : α) : α := Classical.choose (⟨x, rfl⟩ : ∃ y, y = x)
theorem sealed_eq {α : Type} (x : α) : sealed x = x := Classical.choose_spec (⟨x, rfl⟩ : ∃ y, y = x)
end Go.Pev
namespace Go.Pev
def decRs : (l : List Sh) → AV → Option (ArgT l)
  | [s], a => decA s a
  | [], a => match a with | .tup m => decArgs [] m | _ => none
  | s :: t :: l, a => match a with | .tup m => decArgs (s :: t :: l) m | _ => none
theorem decRs_ok : ∀ (l : List Sh) (a : AV) (x : ArgT l), decRs l a = some x → a = encRs l x
  | [s], a, x, h => decA_ok h
  | [], .tup m, x, h => by rw [decArgs_ok _ _ _ (show decArgs [] m = some x from h)]; rfl
  | s :: t :: l, .tup m, x, h => by rw [decArgs_ok _ _ _ (show decArgs (s :: t :: l) m = some x from h)]; rfl
def ofSpec (sa sr : List Sh) (sp : CSpec) (x : ArgT sa) : Option (resSh sr).T := match (sp.f (encArgs sa x)).get with
  | some r => (match decRs sr r with | some y => some (toRes sr y) | none => none)
  | none => none
noncomputable def sealSpec (sa sr : List Sh) (sp : CSpec) (x : ArgT sa) : Option (resSh sr).T := sealed (ofSpec sa sr sp x)
theorem sealSpec_eq {sa sr : List Sh} {sp : CSpec} {x : ArgT sa} : sealSpec sa sr sp x = ofSpec sa sr sp x := sealed_eq _
theorem sealSpec_ok {P : Program} {C : Cfg} {g : Nat} {sp : CSpec} {sa sr : List Sh} (h : CSpecOk P C g sp) : CSpecOk P C g (genSpec sa sr (sealSpec sa sr sp)) :=
  oldSpec h fun x r hr => by
    rw [sealSpec_eq] at hr
    unfold ofSpec at hr
    split at hr <;> try (cases hr; done)
    rename_i a ha
    split at hr <;> try (cases hr; done)
    rename_i y hy
    obtain rfl := Option.some.inj hr
    rw [ha, decRs_ok _ _ _ hy, ofRes_toRes]
end Go.Pev
/- The pure evaluator, part Wa: functions with rows that are handed over, captured values, the region. Own text, over any program. -/
namespace Go.Pev
inductive AP where
  | d (s : Sh)
  | fn (f : Nat)
  | fnc (f : Nat) (ss : List Sh)
  | clo (f : Nat) (ps : List CPat)
  | row (e : TypeId) (s : Sh)
  | bag (e : TypeId) (s : Sh)
  | hin
def ATy : List AP → Type
  | [] => Unit
  | .d s :: l => s.T × ATy l
  | .fn _ :: l => ATy l
  | .fnc _ ss :: l => ATX ss (ATy l)
  | .clo _ ps :: l => CTX ps (ATy l)
  | .row _ s :: l => List s.T × ATy l
  | .bag _ s :: l => (Bool × List s.T) × ATy l
  | .hin :: l => List Nat × List Node × ATy l
def encAP : (l : List AP) → ATy l → List AV
  | [], _ => []
  | .d s :: l, x => encA s x.1 :: encAP l x.2
  | .fn f :: l, x => .fn f :: encAP l x
  | .fnc f ss :: l, x => .fnc f (encAs ss x).1 :: encAP l (encAs ss x).2
  | .clo f ps :: l, x => .clo f (encCs ps x).1 :: encAP l (encCs ps x).2
  | .row e s :: l, x => .rowv e s x.1 :: encAP l x.2
  | .bag e s :: l, x => .ag [.bool x.1.1, .rowv e s x.1.2] :: encAP l x.2
  | .hin :: l, x => .hin x.1 x.2.1 :: encAP l x.2.2
def decAP : (l : List AP) → List AV → Option (ATy l)
  | [], m => match m with | [] => some () | _ => none
  | .d s :: l, m => match m with | a :: m => (match decA s a with | some x => (match decAP l m with | some y => some (x, y) | none => none) | none => none) | _ => none
  | .fn f :: l, m => match m with | .fn g :: m => (match Nat.beq g f with | true => decAP l m | false => none) | _ => none
  | .fnc f ss :: l, m => match m with | .fnc g a :: m => (match Nat.beq g f with | true => (match decAP l m with | some y => decAs ss a y | none => none) | false => none) | _ => none
  | .clo f ps :: l, m => match m with | .clo g a :: m => (match Nat.beq g f with | true => (match decAP l m with | some y => decCs ps a y | none => none) | false => none) | _ => none
  | .row e s :: l, m => match m with | .rowv e' s' x :: m => (match Nat.beq e' e with | true => (match castL s' s x with | some x => (match decAP l m with | some y => some (x, y) | none => none) | none => none) | false => none) | _ => none
  | .bag e s :: l, m => match m with | .ag [.bool b, .rowv e' s' x] :: m => (match Nat.beq e' e with | true => (match castL s' s x with | some x => (match decAP l m with | some y => some ((b, x), y) | none => none) | none => none) | false => none) | _ => none
  | .hin :: l, m => match m with | .hin lk H :: m => (match decAP l m with | some y => some (lk, H, y) | none => none) | _ => none
theorem decAP_ok : ∀ (l : List AP) (m : List AV) (x : ATy l), decAP l m = some x → m = encAP l x
  | [], m, x, h => by
    unfold decAP at h
    split at h <;> try (cases h; done)
    rfl
  | .d s :: l, m, x, h => by
    unfold decAP at h
    split at h <;> try (cases h; done)
    split at h <;> try (cases h; done)
    split at h <;> try (cases h; done)
    rename_i a m _ y hy _ z hz
    obtain rfl := Option.some.inj h
    show a :: m = encA s y :: encAP l z
    rw [decA_ok hy, decAP_ok l _ _ hz]
  | .fn f :: l, m, x, h => by
    unfold decAP at h
    split at h <;> try (cases h; done)
    split at h <;> try (cases h; done)
    rename_i g m _ hb
    rw [beq_true hb, decAP_ok l _ _ h]; rfl
  | .fnc f ss :: l, m, x, h => by
    unfold decAP at h
    split at h <;> try (cases h; done)
    split at h <;> try (cases h; done)
    split at h <;> try (cases h; done)
    rename_i g a m _ hb _ y hy
    have h2 := decAs_ok ss _ _ _ h
    show AV.fnc g a :: m = .fnc f (encAs ss x).1 :: encAP l (encAs ss x).2
    rw [h2, beq_true hb, decAP_ok l _ _ hy]
  | .clo f ps :: l, m, x, h => by
    unfold decAP at h
    split at h <;> try (cases h; done)
    split at h <;> try (cases h; done)
    split at h <;> try (cases h; done)
    rename_i g a m _ hb _ y hy
    have h2 := decCs_ok ps _ _ _ h
    show AV.clo g a :: m = .clo f (encCs ps x).1 :: encAP l (encCs ps x).2
    rw [h2, beq_true hb, decAP_ok l _ _ hy]
  | .row e s :: l, m, x, h => by
    unfold decAP at h
    split at h <;> try (cases h; done)
    split at h <;> try (cases h; done)
    split at h <;> try (cases h; done)
    split at h <;> try (cases h; done)
    rename_i e' s' q m _ hb _ y hy _ z hz
    obtain rfl := Option.some.inj h
    obtain ⟨es, rfl⟩ := castL_some hy
    subst es
    show AV.rowv e' s' q :: m = .rowv e s' q :: encAP l z
    rw [beq_true hb, decAP_ok l _ _ hz]
  | .bag e s :: l, m, x, h => by
    unfold decAP at h
    split at h <;> try (cases h; done)
    split at h <;> try (cases h; done)
    split at h <;> try (cases h; done)
    split at h <;> try (cases h; done)
    rename_i b e' s' q m _ hb _ y hy _ z hz
    obtain rfl := Option.some.inj h
    obtain ⟨es, rfl⟩ := castL_some hy
    subst es
    show AV.ag [.bool b, .rowv e' s' q] :: m = .ag [.bool b, .rowv e s' q] :: encAP l z
    rw [beq_true hb, decAP_ok l _ _ hz]
  | .hin :: l, m, x, h => by
    unfold decAP at h
    split at h <;> try (cases h; done)
    split at h <;> try (cases h; done)
    rename_i lk H m _ z hz
    obtain rfl := Option.some.inj h
    show AV.hin lk H :: m = .hin lk H :: encAP l z
    rw [decAP_ok l _ _ hz]
inductive RI where
  | d (s : Sh)
  | row (e : TypeId) (s : Sh)
  | bag (e : TypeId) (s : Sh)
  | own (e : TypeId) (s : Sh)
  | reg
def RI.T : RI → Type
  | .d s => s.T
  | .row _ s => List s.T
  | .bag _ s => Bool × List s.T
  | .own _ s => List s.T
  | .reg => List Node
def RIT : List RI → Type
  | [] => Unit
  | [i] => i.T
  | i :: j :: l => i.T × RIT (j :: l)
def RI.val : (i : RI) → i.T → List AV
  | .d s, x => [encA s x]
  | .row e s, x => [.rowv e s x]
  | .bag e s, x => [.ag [.bool x.1, .rowv e s x.2]]
  | .own _ _, _ => []
  | .reg, _ => []
def RI.ow : (i : RI) → i.T → Option AV
  | .own e s, x => some (.rowv e s x)
  | .d _, _ => none
  | .row _ _, _ => none
  | .bag _ _, _ => none
  | .reg, _ => none
def RI.rg : (i : RI) → i.T → Option (List Node)
  | .reg, x => some x
  | .d _, _ => none
  | .row _ _, _ => none
  | .bag _ _, _ => none
  | .own _ _, _ => none
def rvals : (l : List RI) → RIT l → List AV
  | [], _ => []
  | [i], x => i.val x
  | i :: j :: l, x => i.val x.1 ++ rvals (j :: l) x.2
def rown : (l : List RI) → RIT l → AV
  | [], _ => .undef
  | [i], x => (match i.ow x with | some a => a | none => .undef)
  | i :: j :: l, x => match i.ow x.1 with | some a => a | none => rown (j :: l) x.2
def rreg : (l : List RI) → RIT l → List Node
  | [], _ => []
  | [i], x => (match i.rg x with | some a => a | none => [])
  | i :: j :: l, x => match i.rg x.1 with | some a => a | none => rreg (j :: l) x.2
def rone : List AV → AV
  | [a] => a
  | l => .tup l
def encRet (l : List RI) (x : RIT l) : AV := .outs (rone (rvals l x)) (rown l x) (rreg l x)
def genSpecR (ap : List AP) (l : List RI) (own : Option Nat) (reg : Bool) (F : ATy ap → Option (RIT l)) : CSpec :=
  { f := fun args => match decAP ap args with
      | some x => .opt (F x) fun r => .ret (encRet l r)
      | none => .fail
    own := own
    reg := reg }
theorem genSpecR_ok {P : Program} {T : Tabs} {A : Anns} {g : Nat} {ap : List AP} {l : List RI} {own : Option Nat} {reg : Bool} {F : ATy ap → Option (RIT l)} {bd : ATy ap → FT (RIT l)} (hf : Fit P T) (hsp : SpecsOk P T) (hm : P.follows .mixedOrders = true) (hfn : fnOk P g = true) (hO : ∀ c ∈ loopsF P g, OrcOk P T A c)
    (hF : ∀ x, F x = (bd x).fin)
    (h : ∀ x, evalF P T A g (encAP ap x) = (bd x).run (fun r => some (encRet l r)) (fun e => nomatch e)) : CSpecOk P T.toCfg g (genSpecR ap l own reg F) := by
  intro args res hr
  unfold genSpecR at hr
  simp only at hr
  split at hr <;> try (cases hr; done)
  rename_i x hx
  rw [hF] at hr
  cases hb : (bd x).fin with
  | none => rw [hb] at hr; cases hr
  | some r =>
    rw [hb] at hr
    have hr' : encRet l r = res := Option.some.inj hr
    subst hr'
    rw [decAP_ok _ _ _ hx]
    refine evalF_ok hf hsp hm hfn hO ?_
    rw [h]
    exact LT.run_ok (res := none) (bd x) r (fun s => nomatch s) hb
theorem handSpecR {P : Program} {C : Cfg} {g : Nat} {ap : List AP} {l : List RI} {own : Option Nat} {reg : Bool} {F : ATy ap → Option (RIT l)} (h : ∀ x r, F x = some r → Contract P C g (encAP ap x) (encRet l r)) : CSpecOk P C g (genSpecR ap l own reg F) := by
  intro args res hr
  unfold genSpecR at hr
  simp only at hr
  split at hr <;> try (cases hr; done)
  rename_i x hx
  cases hb : F x with
  | none => rw [hb] at hr; cases hr
  | some r =>
    rw [hb] at hr
    have hr' : encRet l r = res := Option.some.inj hr
    subst hr'
    rw [decAP_ok _ _ _ hx]
    exact h x r hb
end Go.Pev
/- The pure evaluator, part X: plain laws of trees; arguments of any shape. Own text, over any program. -/
namespace Go.Pev
section
variable {S Q α β : Type}
theorem LT.run_ret {ρ : Type} (q : Q) (f : Q → Option ρ) (g : S → Option ρ) : (LT.ret q : LT S Q).run f g = f q := rfl
theorem LT.run_next {ρ : Type} (s : S) (f : Q → Option ρ) (g : S → Option ρ) : (LT.next s : LT S Q).run f g = g s := rfl
theorem LT.run_fail {ρ : Type} (f : Q → Option ρ) (g : S → Option ρ) : (LT.fail : LT S Q).run f g = none := rfl
theorem LT.run_br {ρ : Type} (b : Bool) (x y : LT S Q) (f : Q → Option ρ) (g : S → Option ρ) : (LT.br b x y).run f g = if b = true then x.run f g else y.run f g := by cases b <;> rfl
theorem LT.run_some {ρ : Type} (a : α) (k : α → LT S Q) (f : Q → Option ρ) (g : S → Option ρ) : (LT.opt (some a) k).run f g = (k a).run f g := rfl
theorem LT.run_opt {ρ : Type} (o : Option α) (k : α → LT S Q) (f : Q → Option ρ) (g : S → Option ρ) : (LT.opt o k).run f g = o.bind fun a => (k a).run f g := by cases o <;> rfl
theorem LT.run_inl {ρ : Type} (a : α) (k : α → LT S Q) (l : β → LT S Q) (f : Q → Option ρ) (g : S → Option ρ) : (LT.alt (.inl a) k l).run f g = (k a).run f g := rfl
theorem LT.run_inr {ρ : Type} (a : β) (k : α → LT S Q) (l : β → LT S Q) (f : Q → Option ρ) (g : S → Option ρ) : (LT.alt (.inr a) k l).run f g = (l a).run f g := rfl
theorem LT.run_rel {ρ : Type} (W : (α → Prop) → Prop) (hW : GoodW W) (k : α → LT S Q) (f : Q → Option ρ) (g : S → Option ρ) {r : ρ} (h : W fun a => (k a).run f g = some r) : (LT.rel W hW k).run f g = some r := relR_is hW h
theorem LT.run_any {ρ : Type} (l : List α) (k : α → LT S Q) (f : Q → Option ρ) (g : S → Option ρ) {r : ρ} (hl : l ≠ []) (h : ∀ a ∈ l, (k a).run f g = some r) : (LT.rel (anyW l) (anyW_good l) k).run f g = some r := relR_is (anyW_good l) ⟨hl, h⟩
theorem LT.fin_rel (W : (α → Prop) → Prop) (hW : GoodW W) (k : α → FT Q) {r : Q} (h : W fun a => (k a).fin = some r) : (LT.rel W hW k : FT Q).fin = some r := relR_is hW h
theorem LT.fin_ret (q : Q) : (LT.ret q : FT Q).fin = some q := rfl
theorem LT.fin_fail : (LT.fail : FT Q).fin = none := rfl
theorem LT.fin_br (b : Bool) (x y : FT Q) : (LT.br b x y).fin = if b = true then x.fin else y.fin := by cases b <;> rfl
theorem LT.fin_some (a : α) (k : α → FT Q) : (LT.opt (some a) k : FT Q).fin = (k a).fin := rfl
theorem LT.fin_opt (o : Option α) (k : α → FT Q) : (LT.opt o k : FT Q).fin = o.bind fun a => (k a).fin := by cases o <;> rfl
theorem LT.fin_inl (a : α) (k : α → FT Q) (l : β → FT Q) : (LT.alt (.inl a) k l : FT Q).fin = (k a).fin := rfl
theorem LT.fin_inr (a : β) (k : α → FT Q) (l : β → FT Q) : (LT.alt (.inr a) k l : FT Q).fin = (l a).fin := rfl
theorem LT.loop_succ (bd : S → LT S Q) (n : Nat) (s : S) : LT.loop bd (n + 1) s = (bd s).run some (LT.loop bd n) := rfl
theorem LT.loop_pos (bd : S → LT S Q) {n : Nat} (h : 0 < n) (s : S) : LT.loop bd n s = (bd s).run some (LT.loop bd (n - 1)) := by
  obtain ⟨m, rfl⟩ : ∃ m, n = m + 1 := ⟨n - 1, by omega⟩
  rfl
end
theorem fuel_is : FUEL = 1000000000000 := rfl
theorem i64_wrap (n : Int) (h1 : -9223372036854775808 ≤ n) (h2 : n ≤ 9223372036854775807) : IntKind.i64.wrap n = n := by rw [IntKind.wrap_i64]; omega
theorem appLim_ok {b n m : Nat} (h : (n + m) * b ≤ 140737488355328) : appLim b n m = true := decide_eq_true h
theorem getI_nat {α : Type} (l : List α) (i : Nat) (d : α) : getI l (Int.ofNat i) d = l.getD i d := rfl
theorem getI_cast {α : Type} (l : List α) (i : Nat) (d : α) : getI l (i : Int) d = l.getD i d := rfl
theorem getI_lt {α : Type} {l : List α} {i : Nat} {d : α} (h : i < l.length) : getI l (i : Int) d = l[i] := by
  show l.getD i d = _
  rw [List.getD_eq_getElem?_getD, List.getElem?_eq_getElem h]; rfl
theorem bytes_ext {a b : ByteArray} (h : a.data.toList = b.data.toList) : a = b := by
  rcases a with ⟨⟨l⟩⟩; rcases b with ⟨⟨m⟩⟩
  simp only at h
  rw [h]
theorem bytes_beq (a b : ByteArray) : (a.toList == b.toList) = decide (a = b) := by
  rw [ByteArray.toList_eq a, ByteArray.toList_eq b]
  by_cases h : a = b
  · subst h; simp
  · rw [decide_eq_false h, beq_eq_false_iff_ne]
    exact fun e => h (bytes_ext e)
def stOk (P : Program) (t : TypeId) (s : Sh) : Bool := match P.underlying t with
  | some (.struct _) => (match s with | .pair _ _ => true | _ => false)
  | _ => true
open Go.ChangeShapes Go.WideShapes Go.RowKit in
theorem open_sh {H : Type} {enc : TypeId × Value → H} {P : Program} {W : World} {base : Nat} {t : TypeId} {s : Sh} {v : Value} {d : DataW H} {ps : List MemPlace} {C : Cfg} (hc : argShp P 8 t s = true) (hst : stOk P t s = true)
    (hv : Value.okWide P W .any base t v) (h : DataW.Trod enc P W 0 (fun _ => true) true t v d ps) : ∃ x : s.T, SR C (fun _ => .nilIface) (fun _ => False) W (encA s x) v ∧ wfS s x := by
  obtain ⟨n, hn⟩ := h
  obtain ⟨y, hy, hw⟩ := trod_RR (C := C) 8 t s n v.cells.toList _ hc hn
  refine ⟨y, ?_, hw⟩
  have hl := leaves_rel (ρ := fun _ => .nilIface) s y _ hy
  simp only [argShp] at hc
  split at hc
  · rename_i k hu
    have hs : s = .int k := by simpa using hc
    subst hs
    obtain ⟨n, rfl⟩ := okWide_int hu hv
    simp only [RR, Value.cells] at hy
    simp at hy
    subst hy
    rfl
  · rename_i hu
    have hs : s = .bool := by simpa using hc
    subst hs
    obtain ⟨n, rfl⟩ := okWide_bool hu hv
    simp only [RR, Value.cells] at hy
    simp at hy
    subst hy
    rfl
  · rename_i hu
    have hs : s = .str := by simpa using hc
    subst hs
    obtain ⟨n, rfl⟩ := okWide_string hu hv
    simp only [RR, Value.cells] at hy
    simp at hy
    subst hy
    rfl
  · rename_i e hu
    split at hc <;> try (cases hc; done)
    rename_i s'
    obtain ⟨a, len, cap, rfl⟩ := okWide_slice hu hv
    simp only [Value.cells] at hl
    cases hl with | cons h1 h2 => exact h1
  · rename_i fs hu
    obtain ⟨cs, rfl, _⟩ := okWide_struct hu hv
    unfold stOk at hst
    rw [hu] at hst
    cases s <;> try (cases hst; done)
    exact ⟨cs.toList, rfl, hl⟩
  · cases hc
def fnsEq : List AV → List Nat → Bool
  | [], [] => true
  | a :: l, f :: r => match a with | .fn i => (match Nat.beq i f with | true => fnsEq l r | false => false) | _ => false
  | _, _ => false
theorem fnsEq_ok : ∀ (l : List AV) (r : List Nat), fnsEq l r = true → l = r.map .fn
  | [], [], _ => rfl
  | a :: l, f :: r, h => by
    unfold fnsEq at h
    split at h <;> try (cases h; done)
    split at h <;> try (cases h; done)
    rename_i hb
    rw [fnsEq_ok l r h, Nat.eq_of_beq_eq_true hb]; rfl
  | [], _ :: _, h => by cases h
  | _ :: _, [], h => by cases h
def genSpecX (sa sr : List Sh) (ex : List Nat) (F : ArgT sa → Option (resSh sr).T) : CSpec := { f := fun args => match fnsEq (args.drop sa.length) ex with
  | true => (match decArgs sa (args.take sa.length) with
    | some x => .opt (F x) fun r => .ret (encRs sr (ofRes sr r))
    | none => .fail)
  | false => .fail }
theorem genSpecX_ok {P : Program} {T : Tabs} {A : Anns} {g : Nat} {sa sr : List Sh} {ex : List Nat} {F : ArgT sa → Option (resSh sr).T} {bd : ArgT sa → FT (resSh sr).T} (hf : Fit P T) (hsp : SpecsOk P T) (hm : P.follows .mixedOrders = true) (hfn : fnOk P g = true) (hO : ∀ c ∈ loopsF P g, OrcOk P T A c)
    (hF : ∀ x, F x = (bd x).fin)
    (h : ∀ x, evalF P T A g (encArgs sa x ++ ex.map .fn) = (bd x).run (fun r => some (encRs sr (ofRes sr r))) (fun e => nomatch e)) : CSpecOk P T.toCfg g (genSpecX sa sr ex F) := by
  intro args res hr
  unfold genSpecX at hr
  simp only at hr
  split at hr <;> try (cases hr; done)
  rename_i he
  split at hr <;> try (cases hr; done)
  rename_i x hx
  rw [hF] at hr
  cases hb : (bd x).fin with
  | none => rw [hb] at hr; cases hr
  | some r =>
    rw [hb] at hr
    have hr' : encRs sr (ofRes sr r) = res := Option.some.inj hr
    subst hr'
    have ha : args = encArgs sa x ++ ex.map .fn := by
      rw [← decArgs_ok _ _ _ hx, ← fnsEq_ok _ _ he, List.take_append_drop]
    rw [ha]
    refine evalF_ok hf hsp hm hfn hO ?_
    rw [h]
    exact LT.run_ok (res := none) (bd x) r (fun s => nomatch s) hb
def base0 : Base := ⟨fun _ => False, fun _ => False, fun _ => False, fun _ => .nilIface, 0, .nilIface, []⟩
theorem mem0 {C : Cfg} {W : World} (hg : Glob C (fun _ => False) W) : Mem ((C.at base0.b0 base0.n0).lk base0.L) base0 W (getR [(REG, some (.reg [] [] []))]) (fun _ => .nilIface) (fun _ _ => False) W := by
  have hrs : ∀ id st, getR [(REG, some (RS.reg [] [] []))] id = some st → id = REG ∧ st = .reg [] [] [] := by
    intro id st h
    rw [getR_cons] at h
    split at h
    · rename_i e; exact ⟨e.symm, (Option.some.inj h).symm⟩
    · cases h
  refine ⟨KeepS.refl _ _, fun k f => f.elim, fun k f => f.elim, fun k f => f.elim, fun id st hst => ?_, fun id st k _ f => f.elim, fun i j s t k _ _ _ f => f.elim, fun _ => rfl, fun n hn => absurd hn (Nat.not_lt_zero n), ⟨Nat.le_refl _, fun i hi => absurd hi (Nat.not_lt_zero i)⟩, fun p hp => ?_, fun h => ?_, fun lk its H h => ?_⟩
  · obtain ⟨rfl, rfl⟩ := hrs id st hst
    refine ⟨rfl, fun _ _ => False, rfl, fun n x hx => by simp at hx, fun n k f => f.elim, fun m n k _ f => f.elim, fun k => ⟨fun f => f.elim, fun h => ?_⟩, fun p hp => (by cases hp), .nil, fun n k f => f.elim, fun p hp => (by cases hp)⟩
    rcases h with ⟨n, f⟩ | ⟨p, hp, _⟩
    · exact f
    · cases hp
  · obtain ⟨g1, g2, g3⟩ := hg p hp
    exact ⟨g1, g2, fun h => h.elim id fun h => h.elim id id⟩
  · obtain ⟨st, hst⟩ := Option.isSome_iff_exists.1 h
    exact absurd (hrs 7000 st hst).1 (by decide)
  · have := (hrs REG _ h).2
    cases this; rfl
theorem Contract.top {P : Program} {C : Cfg} {f : Nat} {args : List AV} {b : Bool} {o : AV} {H : List Node} {W : World} {vs : List Value} (h : Contract P C f (args ++ [.hin [] []]) (.outs (.bool b) o H)) (ha : args.all dataIn = true) (hg : Glob C (fun _ => False) W) (hv : All2 (SR C (fun _ => .nilIface) (fun _ => False) W) args vs) :
    Calls P f vs.toArray W fun e w' => e = .returned (.bool b) ∧ KeepS (fun _ => False) W w' := by
  have hall : args.all (fun x => x.pure2 || (match x with | .fn _ => true | _ => false)) = true := List.all_eq_true.2 fun x hx => by
    have := List.all_eq_true.1 ha x hx
    unfold dataIn at this
    exact (Bool.and_eq_true_iff.1 this).1
  have hnh : ∀ x ∈ args, ∀ lk H, x ≠ .hin lk H := by
    intro x hx lk H e
    have := List.all_eq_true.1 hall x hx
    subst e
    cases this
  have hin : inArgs (args ++ [.hin [] []]) = (args, [(REG, some (.reg [] [] []))]) := by
    rw [inArgs_app hnh, inArgs_all hall]
    simp [inArgs]
  have h1 := h base0 W (fun _ => .nilIface) (fun _ _ => False) vs
  rw [hin] at h1
  refine (h1 (mem0 hg) (hv.imp_mem fun x v hx hxv => ?_)).mono fun e w' ⟨v, b', n, ρ', F', e1, e2, e3⟩ => ?_
  · have hd := List.all_eq_true.1 ha x hx
    unfold dataIn at hd
    rw [Bool.and_eq_true] at hd
    have hs : SR ((C.at base0.b0 base0.n0).lk base0.L) (fun _ => .nilIface) (fun _ => False) W x v := by rw [SR_base hd.2]; exact hxv
    refine SR.toVR (hs.step (KeepS.refl _ _) (fun k hk _ => ?_) fun _ _ => rfl)
    rcases hk with f | ⟨_, _, _, f⟩
    · exact f
    · exact f
  · have e2 : v = .bool b := e2
    subst e2
    exact ⟨e1, e3.keep⟩
end Go.Pev
/- The pure evaluator, part Y: plain laws of the region's things and of maps. Own text, over any program. -/
namespace Go.Pev
section
variable {H : List Node} {n m : Nat}
theorem castE_self (s : Sh) (x : s.T) : castE s s x = some x := by simp [castE]
theorem castL_self (s : Sh) (l : List s.T) : castL s s l = some l := by simp [castL]
theorem getBox_at {t : TypeId} {s : Sh} {x : s.T} (h : H[n]? = some (.box t s x)) : getBox t s H n = some x := by
  unfold getBox
  rw [h]
  simp only [if_true, castE_self]
theorem getMap_at {ka va : Bool} {k v : Sh} {l : List (k.T × v.T)} (h : H[n]? = some (.map ka va k v l)) : getMap ka va k v H n = some l := by
  unfold getMap
  rw [h]
  simp
theorem getRow_at {e : TypeId} {s : Sh} {l : List s.T} (h : H[n]? = some (.row e s l)) : getRow e s H n = some l := by
  unfold getRow
  rw [h]
  simp only [if_true, castL_self]
theorem at_lt {x : Node} (h : H[n]? = some x) : n < H.length := (List.getElem?_eq_some_iff.1 h).1
theorem set_at {x y : Node} (h : H[n]? = some y) : (H.set n x)[n]? = some x := by rw [List.getElem?_set_self (at_lt h)]
theorem set_ne {x : Node} (h : n ≠ m) : (H.set n x)[m]? = H[m]? := List.getElem?_set_ne h
theorem app_lt {x : Node} {L : List Node} (h : H[n]? = some x) : (H ++ L)[n]? = some x := by rw [List.getElem?_append_left (at_lt h)]; exact h
theorem app_new {x : Node} : (H ++ [x])[H.length]? = some x := by simp
theorem wrOk_nil : wrOk [] [] n = true := rfl
theorem wrOk_mark {d : Nat} {a b : Bool} {k v : Sh} {x : k.T} : wrOk [] [(d, .mark m a b k v x)] n = true := rfl
theorem wrOk_it {id : Nat} {a b : Bool} {k v : Sh} {l : List (k.T × v.T)} {c : Option (k.T × v.T)} {p : Option (Option (k.T × v.T))} (h : m ≠ n) : wrOk [] [(id, .it (some m) a b k v l c p)] n = true := by
  have : Nat.beq m n = false := by
    cases hb : Nat.beq m n with
    | false => rfl
    | true => exact absurd (Nat.eq_of_beq_eq_true hb) h
  simp [wrOk, itFree, this]
end
section
variable {k v : Sh}
theorem look_ins (hf : k.flat = true) {x z : k.T} {y : v.T} : ∀ l : List (k.T × v.T), (∀ p ∈ l, eqB k p.1 x = false) → lookL k v z (insL k v x y l) = if eqB k x z = true then some y else lookL k v z l
  | [], _ => by
    simp only [insL, lookL]
    cases eqB k x z <;> simp
  | p :: l, h => by
    have hp := h p List.mem_cons_self
    simp only [insL]
    split
    · simp only [lookL]
      cases eqB k x z <;> simp
    · simp only [lookL]
      rw [look_ins hf l fun q hq => h q (List.mem_cons_of_mem _ hq)]
      cases hz : eqB k p.1 z with
      | false => simp
      | true =>
        have e := eqB_eq k _ _ hf hz
        have : eqB k x z = false := by rw [← e, eqB_symm]; exact hp
        simp [this]
theorem del_no (hf : k.flat = true) (x : k.T) : ∀ {l : List (k.T × v.T)}, l.Pairwise (fun p q => eqB k p.1 q.1 = false) → ∀ p ∈ delL k v x l, eqB k p.1 x = false := by
  intro l hl p hp
  rw [delL_filter hf x l hl] at hp
  simpa using (List.mem_filter.1 hp).2
theorem look_del (hf : k.flat = true) {x z : k.T} : ∀ {l : List (k.T × v.T)}, l.Pairwise (fun p q => eqB k p.1 q.1 = false) → lookL k v z (delL k v x l) = if eqB k x z = true then none else lookL k v z l
  | [], _ => by simp [delL, lookL]
  | p :: l, h => by
    obtain ⟨h1, h2⟩ := List.pairwise_cons.1 h
    simp only [delL]
    cases hp : eqB k p.1 x with
    | true =>
      have e := eqB_eq k _ _ hf hp
      simp only [lookL]
      rw [← e]
      cases hz : eqB k p.1 z with
      | true =>
        simp only [if_true]
        have e2 := eqB_eq k _ _ hf hz
        rw [← e2]
        cases hl : lookL k v p.1 l with
        | none => rfl
        | some y =>
          have := h1 _ ((lookL_some hf h2).1 hl)
          rw [eqB_self k _ hf] at this; cases this
      | false => simp
    | false =>
      simp only [lookL]
      rw [look_del hf h2]
      cases hz : eqB k p.1 z with
      | false => simp
      | true =>
        have e := eqB_eq k _ _ hf hz
        have : eqB k x z = false := by rw [← e, eqB_symm]; exact hp
        simp [this]
def Keys (k v : Sh) (l : List (k.T × v.T)) : Prop := l.Pairwise fun p q => eqB k p.1 q.1 = false
theorem look_put (hf : k.flat = true) {x z : k.T} {y : v.T} {l : List (k.T × v.T)} (hl : Keys k v l) : lookL k v z (putL k v x y l) = if eqB k x z = true then some y else lookL k v z l := by
  unfold putL
  rw [look_ins hf _ (del_no hf x hl), look_del hf hl]
  cases eqB k x z <;> simp
theorem keys_del {x : k.T} {l : List (k.T × v.T)} (hl : Keys k v l) : Keys k v (delL k v x l) := hl.sublist (delL_sub x l)
theorem keys_put (hf : k.flat = true) {x : k.T} {y : v.T} {l : List (k.T × v.T)} (hl : Keys k v l) : Keys k v (putL k v x y l) := by
  refine keys_perm (putL_perm x y l).symm (List.pairwise_cons.2 ⟨fun q hq => ?_, keys_del hl⟩)
  rw [eqB_symm]
  exact del_no hf x hl q hq
theorem keys_nil : Keys k v [] := .nil
theorem len_put (hf : k.flat = true) {x : k.T} {y : v.T} {l : List (k.T × v.T)} (hl : Keys k v l) : (putL k v x y l).length = if (lookL k v x l).isSome = true then l.length else l.length + 1 := by
  rw [(putL_perm x y l).length_eq, List.length_cons, delL_idx, lookL_idx]
  cases hi : idxL k v x l with
  | none => simp
  | some i =>
    obtain ⟨p, h1, h2⟩ := idxL_some hi
    have hlt := (List.getElem?_eq_some_iff.1 h1).1
    simp only [Option.bind_some, h1, Option.map_some, Option.isSome_some, if_true, List.length_eraseIdx, hlt]
    omega
end
end Go.Pev
/- Maps told in their keys' order: the order is a line, and equal look-ups make equal lists (own). -/
namespace Go.Pev
open Go
theorem bl_cons (a : UInt8) (x : List UInt8) (b : UInt8) (y : List UInt8) : Op.bytesLess (a :: x) (b :: y) = (decide (a < b) || (a == b && Op.bytesLess x y)) := rfl
theorem bl_tri : ∀ l m : List UInt8, (Op.bytesLess l m = true ∧ Op.bytesLess m l = false ∧ l ≠ m) ∨ (Op.bytesLess l m = false ∧ Op.bytesLess m l = false ∧ l = m) ∨ (Op.bytesLess l m = false ∧ Op.bytesLess m l = true ∧ l ≠ m)
  | [], [] => .inr (.inl ⟨rfl, rfl, rfl⟩)
  | [], _ :: _ => .inl ⟨rfl, rfl, by simp⟩
  | _ :: _, [] => .inr (.inr ⟨rfl, rfl, by simp⟩)
  | a :: x, b :: y => by
    simp only [bl_cons]
    rcases Nat.lt_trichotomy a.toNat b.toNat with h | h | h
    · have h1 : a < b := h
      have h2 : ¬ b < a := fun h' => by have : b.toNat < a.toNat := h'; omega
      have h3 : a ≠ b := fun e => by subst e; omega
      refine .inl ⟨by simp [h1], by simp [h2, Ne.symm h3], by simp [h3]⟩
    · have h3 : a = b := UInt8.toNat_inj.1 h
      subst h3
      have h1 : ¬ a < a := fun h' => by have : a.toNat < a.toNat := h'; omega
      rcases bl_tri x y with ⟨q1, q2, q3⟩ | ⟨q1, q2, q3⟩ | ⟨q1, q2, q3⟩
      · exact .inl ⟨by simp [q1], by simp [h1, q2], by simpa using q3⟩
      · exact .inr (.inl ⟨by simp [h1, q1], by simp [h1, q2], by simpa using q3⟩)
      · exact .inr (.inr ⟨by simp [h1, q1], by simp [q2], by simpa using q3⟩)
    · have h1 : b < a := h
      have h2 : ¬ a < b := fun h' => by have : a.toNat < b.toNat := h'; omega
      have h3 : a ≠ b := fun e => by subst e; omega
      refine .inr (.inr ⟨by simp [h2, h3], by simp [h1], by simp [h3]⟩)
theorem bl_trans : ∀ l m n : List UInt8, Op.bytesLess l m = true → Op.bytesLess m n = true → Op.bytesLess l n = true
  | _, _, [], _, h => by simp [Op.bytesLess] at h
  | [], _, _ :: _, _, _ => rfl
  | _ :: _, [], _, h, _ => by simp [Op.bytesLess] at h
  | a :: x, b :: y, c :: z, h1, h2 => by
    simp only [bl_cons, Bool.or_eq_true, decide_eq_true_eq, Bool.and_eq_true, beq_iff_eq] at h1 h2 ⊢
    rcases h1 with h1 | ⟨rfl, h1⟩ <;> rcases h2 with h2 | ⟨rfl, h2⟩
    · exact .inl (by have e1 : a.toNat < b.toNat := h1; have e2 : b.toNat < c.toNat := h2; show a.toNat < c.toNat; omega)
    · exact .inl h1
    · exact .inl h2
    · exact .inr ⟨rfl, bl_trans x y z h1 h2⟩
theorem ltB_tri : ∀ (s : Sh) (x y : s.T), s.flat = true → (ltB s x y = true ∧ ltB s y x = false ∧ eqB s x y = false) ∨ (ltB s x y = false ∧ ltB s y x = false ∧ eqB s x y = true) ∨ (ltB s x y = false ∧ ltB s y x = true ∧ eqB s x y = false)
  | .int _, x, y, _ => by
    have key : ∀ x y : Int, (decide (x < y) = true ∧ decide (y < x) = false ∧ (x == y) = false) ∨ (decide (x < y) = false ∧ decide (y < x) = false ∧ (x == y) = true) ∨ (decide (x < y) = false ∧ decide (y < x) = true ∧ (x == y) = false) := by
      intro x y
      rcases Int.lt_trichotomy x y with h | h | h
      · exact .inl ⟨decide_eq_true h, decide_eq_false (by omega), by simp; omega⟩
      · exact .inr (.inl ⟨decide_eq_false (by omega), decide_eq_false (by omega), by simp [h]⟩)
      · exact .inr (.inr ⟨decide_eq_false (by omega), decide_eq_true h, by simp; omega⟩)
    exact key x y
  | .bool, x, y, _ => by
    show ((!(x : Bool) && (y : Bool)) = true ∧ (!(y : Bool) && (x : Bool)) = false ∧ ((x : Bool) == y) = false) ∨ ((!(x : Bool) && (y : Bool)) = false ∧ (!(y : Bool) && (x : Bool)) = false ∧ ((x : Bool) == y) = true) ∨ ((!(x : Bool) && (y : Bool)) = false ∧ (!(y : Bool) && (x : Bool)) = true ∧ ((x : Bool) == y) = false)
    generalize (x : Bool) = p, (y : Bool) = q
    cases p <;> cases q <;> decide
  | .str, x, y, _ => by
    show (Op.bytesLess (x : ByteArray).toList (y : ByteArray).toList = true ∧ Op.bytesLess (y : ByteArray).toList (x : ByteArray).toList = false ∧ ((x : ByteArray).toList == (y : ByteArray).toList) = false) ∨ (Op.bytesLess (x : ByteArray).toList (y : ByteArray).toList = false ∧ Op.bytesLess (y : ByteArray).toList (x : ByteArray).toList = false ∧ ((x : ByteArray).toList == (y : ByteArray).toList) = true) ∨ (Op.bytesLess (x : ByteArray).toList (y : ByteArray).toList = false ∧ Op.bytesLess (y : ByteArray).toList (x : ByteArray).toList = true ∧ ((x : ByteArray).toList == (y : ByteArray).toList) = false)
    rcases bl_tri (x : ByteArray).toList (y : ByteArray).toList with ⟨a, b, c⟩ | ⟨a, b, c⟩ | ⟨a, b, c⟩
    · exact .inl ⟨a, b, by simpa using c⟩
    · exact .inr (.inl ⟨a, b, by simpa using c⟩)
    · exact .inr (.inr ⟨a, b, by simpa using c⟩)
  | .pair a b, x, y, h => by
    simp only [Sh.flat, Bool.and_eq_true] at h
    simp only [ltB, eqB]
    have hs : eqB a y.1 x.1 = eqB a x.1 y.1 := eqB_symm a _ _
    rw [hs]
    rcases ltB_tri a x.1 y.1 h.1 with ⟨p1, p2, p3⟩ | ⟨p1, p2, p3⟩ | ⟨p1, p2, p3⟩
    · rw [p1, p2, p3]; exact .inl ⟨rfl, rfl, rfl⟩
    · rw [p1, p2, p3]
      rcases ltB_tri b x.2 y.2 h.2 with ⟨q1, q2, q3⟩ | ⟨q1, q2, q3⟩ | ⟨q1, q2, q3⟩
      · rw [q1, q2, q3]; exact .inl ⟨rfl, rfl, rfl⟩
      · rw [q1, q2, q3]; exact .inr (.inl ⟨rfl, rfl, rfl⟩)
      · rw [q1, q2, q3]; exact .inr (.inr ⟨rfl, rfl, rfl⟩)
    · rw [p1, p2, p3]; exact .inr (.inr ⟨rfl, rfl, rfl⟩)
  | .err, _, _, h => by cases h
  | .ptr, _, _, h => by cases h
  | .rf _, _, _, h => by cases h
  | .pt _, _, _, h => by cases h
  | .sl _, _, _, h => by cases h
theorem ltB_trans : ∀ (s : Sh) (x y z : s.T), s.flat = true → ltB s x y = true → ltB s y z = true → ltB s x z = true
  | .int _, x, y, z, _, h, h' => by
    have h1 : (x : Int) < y := of_decide_eq_true h
    have h2 : (y : Int) < z := of_decide_eq_true h'
    exact decide_eq_true (Int.lt_trans h1 h2)
  | .bool, x, y, z, _, h, h' => by
    have h1 : (!(x : Bool) && (y : Bool)) = true := h
    have h2 : (!(y : Bool) && (z : Bool)) = true := h'
    show (!(x : Bool) && (z : Bool)) = true
    revert h1 h2
    generalize (x : Bool) = p, (y : Bool) = q, (z : Bool) = r
    cases p <;> cases q <;> cases r <;> decide
  | .str, x, y, z, _, h, h' => bl_trans _ _ _ h h'
  | .pair a b, x, y, z, hf, h, h' => by
    simp only [Sh.flat, Bool.and_eq_true] at hf
    simp only [ltB, Bool.or_eq_true, Bool.and_eq_true] at h h' ⊢
    rcases h with h | ⟨h1, h2⟩
    · rcases h' with h' | ⟨h3, h4⟩
      · exact .inl (ltB_trans a _ _ _ hf.1 h h')
      · rw [← eqB_eq a _ _ hf.1 h3]; exact .inl h
    · have e := eqB_eq a _ _ hf.1 h1
      rcases h' with h' | ⟨h3, h4⟩
      · rw [e]; exact .inl h'
      · rw [e]; exact .inr ⟨h3, ltB_trans b _ _ _ hf.2 h2 h4⟩
  | .err, _, _, _, h, _, _ => by cases h
  | .ptr, _, _, _, h, _, _ => by cases h
  | .rf _, _, _, _, h, _, _ => by cases h
  | .pt _, _, _, _, h, _, _ => by cases h
  | .sl _, _, _, _, h, _, _ => by cases h
section
variable {k v : Sh}
def Sorted (k v : Sh) (l : List (k.T × v.T)) : Prop := l.Pairwise fun p q => ltB k p.1 q.1 = true
theorem lt_ne (hf : k.flat = true) {x y : k.T} (h : ltB k x y = true) : eqB k x y = false := by
  rcases ltB_tri k x y hf with ⟨_, _, c⟩ | ⟨a, _, _⟩ | ⟨_, _, c⟩
  · exact c
  · rw [a] at h; cases h
  · exact c
theorem Sorted.keys (hf : k.flat = true) {l : List (k.T × v.T)} (h : Sorted k v l) : Keys k v l := List.Pairwise.imp (fun {p q} e => lt_ne hf e) h
theorem sorted_nil : Sorted k v [] := .nil
theorem mem_ins {x : k.T} {y : v.T} : ∀ {l : List (k.T × v.T)} {p : k.T × v.T}, p ∈ insL k v x y l → p = (x, y) ∨ p ∈ l
  | [], p, h => .inl (by simpa [insL] using h)
  | q :: l, p, h => by
    simp only [insL] at h
    split at h
    · rcases List.mem_cons.1 h with h | h
      · exact .inl h
      · exact .inr h
    · rcases List.mem_cons.1 h with h | h
      · exact .inr (h ▸ List.mem_cons_self)
      · rcases mem_ins h with h | h
        · exact .inl h
        · exact .inr (List.mem_cons_of_mem _ h)
theorem sorted_ins (hf : k.flat = true) {x : k.T} {y : v.T} : ∀ {l : List (k.T × v.T)}, Sorted k v l → (∀ p ∈ l, eqB k p.1 x = false) → Sorted k v (insL k v x y l)
  | [], _, _ => by simp [insL, Sorted]
  | q :: l, h, hn => by
    obtain ⟨h1, h2⟩ := List.pairwise_cons.1 h
    simp only [insL]
    split
    · rename_i hlt
      exact List.pairwise_cons.2 ⟨fun p hp => by
        rcases List.mem_cons.1 hp with rfl | hp
        · exact hlt
        · exact ltB_trans k _ _ _ hf hlt (h1 p hp), h⟩
    · rename_i hlt
      refine List.pairwise_cons.2 ⟨fun p hp => ?_, sorted_ins hf h2 fun p hp => hn p (List.mem_cons_of_mem _ hp)⟩
      rcases mem_ins hp with rfl | hp
      · have hq := hn q List.mem_cons_self
        rcases ltB_tri k q.1 x hf with ⟨c, _, _⟩ | ⟨_, _, c⟩ | ⟨_, c, _⟩
        · exact c
        · rw [c] at hq; cases hq
        · rw [c] at hlt; cases hlt
      · exact h1 p hp
theorem sorted_put (hf : k.flat = true) {x : k.T} {y : v.T} {l : List (k.T × v.T)} (h : Sorted k v l) : Sorted k v (putL k v x y l) :=
  sorted_ins hf (h.sublist (delL_sub x l)) (del_no hf x (h.keys hf))
theorem look_lt (hf : k.flat = true) {x : k.T} : ∀ {l : List (k.T × v.T)}, (∀ p ∈ l, ltB k x p.1 = true) → lookL k v x l = none
  | [], _ => rfl
  | p :: l, h => by
    have := lt_ne hf (h p List.mem_cons_self)
    rw [eqB_symm] at this
    simp only [lookL, this]
    exact look_lt hf fun q hq => h q (List.mem_cons_of_mem _ hq)
theorem sorted_ext (hf : k.flat = true) : ∀ {l m : List (k.T × v.T)}, Sorted k v l → Sorted k v m → (∀ z, lookL k v z l = lookL k v z m) → l = m
  | [], [], _, _, _ => rfl
  | [], q :: m, _, _, h => by
    have := h q.1
    simp only [lookL, eqB_self k _ hf] at this; cases this
  | p :: l, [], _, _, h => by
    have := h p.1
    simp only [lookL, eqB_self k _ hf] at this; cases this
  | p :: l, q :: m, h1, h2, h => by
    obtain ⟨a1, a2⟩ := List.pairwise_cons.1 h1
    obtain ⟨b1, b2⟩ := List.pairwise_cons.1 h2
    have key : eqB k p.1 q.1 = true := by
      rcases ltB_tri k p.1 q.1 hf with ⟨c, _, _⟩ | ⟨_, _, c⟩ | ⟨_, c, _⟩
      · have := h p.1
        rw [look_lt (l := q :: m) hf (fun r hr => by
          rcases List.mem_cons.1 hr with rfl | hr
          · exact c
          · exact ltB_trans k _ _ _ hf c (b1 r hr))] at this
        simp only [lookL, eqB_self k _ hf] at this; cases this
      · exact c
      · have := h q.1
        rw [look_lt (l := p :: l) hf (fun r hr => by
          rcases List.mem_cons.1 hr with rfl | hr
          · exact c
          · exact ltB_trans k _ _ _ hf c (a1 r hr))] at this
        simp only [lookL, eqB_self k _ hf] at this; cases this
    have e := eqB_eq k _ _ hf key
    have hv : p.2 = q.2 := by
      have := h p.1
      simp only [lookL, eqB_self k _ hf] at this
      rw [eqB_symm, key] at this
      exact Option.some.inj this
    have hp : p = q := Prod.ext e hv
    subst hp
    have rest : l = m := sorted_ext hf a2 b2 fun z => by
      have hz := h z
      simp only [lookL] at hz
      cases hc : eqB k p.1 z with
      | false => rw [hc] at hz; exact hz
      | true =>
        have ez := eqB_eq k _ _ hf hc
        subst ez
        rw [look_lt hf a1, look_lt hf b1]
    rw [rest]
end
end Go.Pev
/- Walks along a list, told by a fold that may end early. -/
namespace Go.Pev
open Go
def foldE {σ α Q : Type} (step : σ → α → σ ⊕ Q) (out : σ → Q) : σ → List α → Q
  | s, [] => out s
  | s, x :: l => match step s x with
    | .inl t => foldE step out t l
    | .inr q => q
theorem foldE_cons {σ α Q : Type} (step : σ → α → σ ⊕ Q) (out : σ → Q) (s : σ) (x : α) (l : List α) : foldE step out s (x :: l) = (match step s x with | .inl t => foldE step out t l | .inr q => q) := by
  rw [foldE]
theorem foldE_nil {σ α Q : Type} (step : σ → α → σ ⊕ Q) (out : σ → Q) (s : σ) : foldE step out s [] = out s := rfl
theorem foldE_l {σ α Q : Type} {step : σ → α → σ ⊕ Q} {out : σ → Q} {s t : σ} {x : α} {l : List α} (h : step s x = .inl t) : foldE step out s (x :: l) = foldE step out t l := by rw [foldE_cons, h]
theorem foldE_r {σ α Q : Type} {step : σ → α → σ ⊕ Q} {out : σ → Q} {s : σ} {q : Q} {x : α} {l : List α} (h : step s x = .inr q) : foldE step out s (x :: l) = q := by rw [foldE_cons, h]
theorem foldE_loop {S Q α σ : Type} {bd : S → LT S Q} (l : List α) (st : Nat → σ → S) (step : σ → α → σ ⊕ Q) (out : σ → Q) (I : Nat → σ → Prop)
    (hs : ∀ (i : Nat) (h : i < l.length) (s : σ) (g : S → Option Q), I i s → (bd (st i s)).run some g = (match step s l[i] with | .inl t => g (st (i + 1) t) | .inr q => some q))
    (hI : ∀ (i : Nat) (h : i < l.length) (s t : σ), I i s → step s l[i] = .inl t → I (i + 1) t)
    (he : ∀ (s : σ) (g : S → Option Q), I l.length s → (bd (st l.length s)).run some g = some (out s)) :
    ∀ (m i : Nat) (s : σ), i ≤ l.length → l.length - i < m → I i s → LT.loop bd m (st i s) = some (foldE step out s (l.drop i))
  | 0, _, _, _, h, _ => by omega
  | m + 1, i, s, h1, h2, h3 => by
    rw [LT.loop_succ]
    by_cases hi : i = l.length
    · subst hi
      rw [he s _ h3, List.drop_length]; rfl
    · have h : i < l.length := by omega
      rw [hs i h s _ h3, List.drop_eq_getElem_cons h]
      unfold foldE
      have hI' := hI i h s
      revert hI'
      cases step s l[i] with
      | inr q => exact fun _ => rfl
      | inl t => exact fun hI' => foldE_loop l st step out I hs hI he m (i + 1) t (by omega) (by omega) (hI' t h3 rfl)
theorem foldE_run {S Q α σ : Type} {bd : S → LT S Q} (l : List α) (hl : l.length ≤ 1000000000) (st : Nat → σ → S) (step : σ → α → σ ⊕ Q) (out : σ → Q)
    (hs : ∀ (i : Nat) (h : i < l.length) (s : σ) (g : S → Option Q), (bd (st i s)).run some g = (match step s l[i] with | .inl t => g (st (i + 1) t) | .inr q => some q))
    (he : ∀ (s : σ) (g : S → Option Q), (bd (st l.length s)).run some g = some (out s)) (s : σ) : LT.loop bd FUEL (st 0 s) = some (foldE step out s l) :=
  foldE_loop l st step out (fun _ _ => True) (fun i h s g _ => hs i h s g) (fun _ _ _ _ _ _ => trivial) (fun s g _ => he s g) FUEL 0 s (Nat.zero_le _) (by rw [fuel_is]; omega) trivial
theorem foldE_runI {S Q α σ : Type} {bd : S → LT S Q} (l : List α) (hl : l.length ≤ 1000000000) (st : Nat → σ → S) (step : σ → α → σ ⊕ Q) (out : σ → Q) (I : Nat → σ → Prop)
    (hs : ∀ (i : Nat) (h : i < l.length) (s : σ) (g : S → Option Q), I i s → (bd (st i s)).run some g = (match step s l[i] with | .inl t => g (st (i + 1) t) | .inr q => some q))
    (hI : ∀ (i : Nat) (h : i < l.length) (s t : σ), I i s → step s l[i] = .inl t → I (i + 1) t)
    (he : ∀ (s : σ) (g : S → Option Q), I l.length s → (bd (st l.length s)).run some g = some (out s)) (s : σ) (h0 : I 0 s) : LT.loop bd FUEL (st 0 s) = some (foldE step out s l) :=
  foldE_loop l st step out I hs hI he FUEL 0 s (Nat.zero_le _) (by rw [fuel_is]; omega) h0
section
variable {α : Type} {l : List α} {i : Nat}
theorem dlt (h : i < l.length) : decide ((i : Int) < Int.ofNat l.length) = true := decide_eq_true (by simp only [Int.ofNat_eq_natCast]; omega)
theorem dge0 : decide ((0 : Int) ≤ (i : Int)) = true := decide_eq_true (by omega)
theorem dend : decide ((l.length : Int) < Int.ofNat l.length) = false := decide_eq_false (by simp only [Int.ofNat_eq_natCast]; omega)
theorem wsucc (h : i < 1000000000000) : IntKind.i64.wrap ((i : Int) + 1) = ((i + 1 : Nat) : Int) := by rw [i64_wrap _ (by omega) (by omega)]; omega
end
section
variable {S Q ρ α β : Type} {f : Q → Option ρ} {g : S → Option ρ}
theorem rn_t {b : Bool} {x y : LT S Q} (h : b = true) : (LT.br b x y).run f g = x.run f g := by subst h; rfl
theorem rn_f {b : Bool} {x y : LT S Q} (h : b = false) : (LT.br b x y).run f g = y.run f g := by subst h; rfl
theorem rn_o {o : Option α} {a : α} {k : α → LT S Q} (h : o = some a) : (LT.opt o k).run f g = (k a).run f g := by subst h; rfl
theorem rn_in {l : List β} {i : Nat} (h : i < l.length) {x y z w : LT S Q} : (LT.br (decide ((i : Int) < Int.ofNat l.length)) (LT.br (decide ((0 : Int) ≤ (i : Int))) (LT.br (decide ((i : Int) < Int.ofNat l.length)) x y) z) w).run f g = x.run f g :=
  (rn_t (dlt h)).trans ((rn_t dge0).trans (rn_t (dlt h)))
theorem rn_out {l : List β} {x w : LT S Q} : (LT.br (decide ((l.length : Int) < Int.ofNat l.length)) x w).run f g = w.run f g := rn_f dend
theorem rn_ret {q : Q} : (LT.ret q : LT S Q).run f g = f q := rfl
theorem rn_next {s : S} : (LT.next s : LT S Q).run f g = g s := rfl
end
section
variable {Q α : Type}
theorem fn_t {b : Bool} {x y : FT Q} (h : b = true) : (LT.br b x y : FT Q).fin = x.fin := by subst h; rfl
theorem fn_f {b : Bool} {x y : FT Q} (h : b = false) : (LT.br b x y : FT Q).fin = y.fin := by subst h; rfl
theorem fn_o {o : Option α} {a : α} {k : α → FT Q} (h : o = some a) : (LT.opt o k : FT Q).fin = (k a).fin := by subst h; rfl
theorem fn_r {q : Q} : (LT.ret q : FT Q).fin = some q := rfl
end
end Go.Pev
