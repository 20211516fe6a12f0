/- The pure evaluator, part A: shapes of data, what a value in memory reads as, worlds that keep what they held. Own text, over any program. -/
import Derived.Below
import Derived.LoopN
import Derived.Orders
import Derived.Laws.AppendOwn
import Derived.Laws.Entries
import Derived.Laws.Slices
import Derived.Laws.Strings
import Derived.Laws.Cells
import Derived.Laws.NewBlocks
import Derived.Laws.CopyRow
namespace Go.Pev
inductive RK where
  | ptr | map | sli
  deriving DecidableEq
def RK.nil : RK → Value
  | .ptr => .pointer none
  | .map => .map none
  | .sli => .slice none 0 0
def RK.fits : RK → Value → Bool
  | .ptr, .pointer (some _) => true
  | .map, .map (some _) => true
  | .sli, .slice _ _ _ => true
  | _, _ => false
theorem RK.fits_ptr {v : Value} (h : RK.ptr.fits v = true) : ∃ p, v = .pointer (some p) := by
  cases v <;> try (cases h; done)
  rename_i o
  cases o <;> first | exact ⟨_, rfl⟩ | cases h
theorem RK.fits_map {v : Value} (h : RK.map.fits v = true) : ∃ p, v = .map (some p) := by
  cases v <;> try (cases h; done)
  rename_i o
  cases o <;> first | exact ⟨_, rfl⟩ | cases h
theorem RK.fits_sli {v : Value} (h : RK.sli.fits v = true) : ∃ p n c, v = .slice p n c := by
  cases v <;> first | exact ⟨_, _, _, rfl⟩ | cases h
inductive Sh where
  | int (k : IntKind)
  | bool
  | str
  | err
  | ptr
  | rf (k : RK)
  | pt (s : Sh)
  | sl (s : Sh)
  | pair (a b : Sh)
  deriving DecidableEq
abbrev Err := Option (List (Int × Int) × Int)
abbrev Sh.T : Sh → Type
  | .int _ => Int
  | .bool => Bool
  | .str => ByteArray
  | .err => Err
  | .ptr => Unit
  | .rf _ => Option Nat
  | .pt s => Option (Sh.T s)
  | .sl s => List (Sh.T s)
  | .pair a b => Sh.T a × Sh.T b
def Sh.dflt : (s : Sh) → s.T
  | .int _ => (0 : Int)
  | .bool => false
  | .str => (⟨#[]⟩ : ByteArray)
  | .err => (none : Err)
  | .ptr => ()
  | .rf _ => (none : Option Nat)
  | .pt _ => none
  | .sl _ => []
  | .pair a b => (a.dflt, b.dflt)
def Sh.sz : Sh → Nat
  | .pair a b => a.sz + b.sz
  | _ => 1
inductive Node where
  | box (t : TypeId) (s : Sh) (x : s.T)
  | map (ka va : Bool) (k v : Sh) (l : List (k.T × v.T))
  | row (e : TypeId) (s : Sh) (l : List s.T)
  | gone
inductive It where
  | it (n : Option Nat) (ka va : Bool) (k v : Sh) (left : List (k.T × v.T)) (cur : Option (k.T × v.T)) (pend : Option (Option (k.T × v.T)))
  | mark (n : Nat) (ka va : Bool) (k v : Sh) (x : k.T)
structure KeepS (F : Nat → Prop) (w w' : World) : Prop where
  os : w'.os = w.os
  tape : w'.tape = w.tape
  output : w'.output = w.output
  size : w.heap.size ≤ w'.heap.size
  block : ∀ k, k < w.heap.size → ¬ F k → w'.heap[k]? = w.heap[k]?
theorem KeepS.refl (F : Nat → Prop) (w : World) : KeepS F w w := ⟨rfl, rfl, rfl, Nat.le_refl _, fun _ _ _ => rfl⟩
theorem KeepS.trans {F : Nat → Prop} {a b c : World} (h : KeepS F a b) (k : KeepS F b c) : KeepS F a c :=
  ⟨k.os.trans h.os, k.tape.trans h.tape, k.output.trans h.output, Nat.le_trans h.size k.size, fun i hi hf => (k.block i (Nat.lt_of_lt_of_le hi h.size) hf).trans (h.block i hi hf)⟩
theorem KeepS.trans2 {F G : Nat → Prop} {a b c : World} (h : KeepS F a b) (k : KeepS G b c) (hG : ∀ i, i < a.heap.size → G i → F i) : KeepS F a c :=
  ⟨k.os.trans h.os, k.tape.trans h.tape, k.output.trans h.output, Nat.le_trans h.size k.size, fun i hi hf => (k.block i (Nat.lt_of_lt_of_le hi h.size) (fun g => hf (hG i hi g))).trans (h.block i hi hf)⟩
theorem KeepS.mono {F G : Nat → Prop} {a b : World} (h : KeepS F a b) (hG : ∀ i, i < a.heap.size → F i → G i) : KeepS G a b :=
  ⟨h.os, h.tape, h.output, h.size, fun i hi hf => h.block i hi (fun f => hf (hG i hi f))⟩
theorem KeepS.of_below {w w' : World} (h : RowKit.Below w.heap.size w w') : KeepS (fun _ => False) w w' := ⟨h.os, h.tape, h.output, h.size, fun k hk _ => h.block k hk⟩
theorem KeepS.below {w w' : World} (h : KeepS (fun _ => False) w w') : RowKit.Below w.heap.size w w' := ⟨h.os, h.tape, h.output, h.size, fun k hk => h.block k hk (fun f => f)⟩
theorem KeepS.of_grown {w w' : World} {row : Option Nat} (h : w.grownBy w' row) : KeepS (fun k => some k = row) w w' := ⟨h.os, h.tape, h.output, h.size, fun k hk hf => h.block k hk hf⟩
theorem KeepS.alloc (w : World) (o : Obj) : KeepS (fun _ => False) w (w.alloc o) := of_below ((RowKit.Below.refl _ _).alloc (Nat.le_refl _) o)
theorem KeepS.drew (w : World) : KeepS (fun _ => False) w w.drew := ⟨rfl, rfl, rfl, Nat.le_refl _, fun _ _ _ => rfl⟩
theorem KeepS.setCell (w : World) (p : Addr) (u : Value) : KeepS (fun k => k = p.block) w (w.setCell p u) :=
  ⟨rfl, rfl, rfl, by simp [World.setCell], fun k _ hf => RowKit.Below.heap_setCell _ _ _ _ hf⟩
def Rob (M : Nat → Prop) (w : World) (p : World → Prop) : Prop := ∀ w', KeepS M w w' → p w'
theorem Rob.now {M : Nat → Prop} {w : World} {p : World → Prop} (h : Rob M w p) : p w := h w (KeepS.refl _ _)
theorem Rob.step {M M' : Nat → Prop} {w w' : World} {p : World → Prop} (h : Rob M w p) (hk : KeepS M w w') (hs : ∀ k, M' k → k < w.heap.size → M k) : Rob M' w' p :=
  fun w2 h2 => h w2 (hk.trans2 h2 (fun i hi g => hs i g hi))
theorem Rob.imp {M : Nat → Prop} {w : World} {p q : World → Prop} (h : Rob M w p) (hpq : ∀ w', p w' → q w') : Rob M w q := fun w' hw => hpq _ (h w' hw)
theorem Rob.and {M : Nat → Prop} {w : World} {p q : World → Prop} (h : Rob M w p) (h' : Rob M w q) : Rob M w (fun w => p w ∧ q w) := fun w' hw => ⟨h w' hw, h' w' hw⟩
theorem Rob.const {M : Nat → Prop} {w : World} {p : Prop} (h : p) : Rob M w (fun _ => p) := fun _ _ => h
inductive GV where
  | is (l : List Value)
  | face
  | num
def GV.ok (w : World) (b : Nat) : GV → Prop
  | .is l => ∃ t fr, w.heap[b]? = some (.cells l.toArray t fr)
  | .face => ∃ te pe t fr, w.heap[b]? = some (.cells #[.iface te pe] t fr)
  | .num => ∃ n, w.cell? ⟨b, 0, none⟩ = some (.int .i64 n)
structure Cfg where
  errno : TypeId
  fptr : TypeId
  fault : TypeId
  glob : List (Nat × GV)
  β : Nat → Value := fun _ => .nilIface
  N : Nat := 0
  L : Nat → Prop := fun _ => False
abbrev Cfg.at (C : Cfg) (b : Nat → Value) (n : Nat) : Cfg := { C with β := b, N := n }
abbrev Cfg.lk (C : Cfg) (L : Nat → Prop) : Cfg := { C with L := L }
theorem Cfg.at_at (C : Cfg) (b c : Nat → Value) (n m : Nat) : (C.at b n).at c m = C.at c m := rfl
def Ext (C C' : Cfg) : Prop := ∃ b n, C' = C.at b n ∧ C.N ≤ n ∧ ∀ i, i < C.N → b i = C.β i
theorem Ext.refl (C : Cfg) : Ext C C := ⟨C.β, C.N, rfl, Nat.le_refl _, fun _ _ => rfl⟩
theorem Ext.trans {A B C : Cfg} (h : Ext A B) (k : Ext B C) : Ext A C := by
  obtain ⟨b, n, rfl, h1, h2⟩ := h
  obtain ⟨c, m, rfl, k1, k2⟩ := k
  exact ⟨c, m, rfl, Nat.le_trans h1 k1, fun i hi => (k2 i (Nat.lt_of_lt_of_le hi h1)).trans (h2 i hi)⟩
def ErrAt (C : Cfg) (w : World) : List (Int × Int) → Int → Value → Prop
  | [], n, v => v = .iface C.errno (.int .i64 n)
  | p :: ps, n, v => ∃ b u, v = .iface C.fptr (.pointer (some ⟨b, 0, none⟩)) ∧ w.heap[b]? = some (.cells #[.int .i64 p.1, .int .i64 p.2, u] C.fault (0, 0)) ∧ ErrAt C w ps n u
def ErrV (C : Cfg) (w : World) : Err → Value → Prop
  | none, v => v = .nilIface
  | some (ps, n), v => ErrAt C w ps n v
theorem ErrAt_at (C : Cfg) (b : Nat → Value) (n : Nat) (w : World) : ∀ (ps : List (Int × Int)) (k : Int) (v : Value), ErrAt (C.at b n) w ps k v = ErrAt C w ps k v
  | [], _, _ => rfl
  | p :: ps, k, v => by simp only [ErrAt, ErrAt_at C b n w ps]
theorem ErrV_at (C : Cfg) (b : Nat → Value) (n : Nat) (w : World) (e : Err) (v : Value) : ErrV (C.at b n) w e v = ErrV C w e v := by
  cases e with
  | none => rfl
  | some x => exact ErrAt_at C b n w x.1 x.2 v
inductive All2 {α β : Type} (r : α → β → Prop) : List α → List β → Prop
  | nil : All2 r [] []
  | cons {a b l m} : r a b → All2 r l m → All2 r (a :: l) (b :: m)
section
variable {α β : Type} {r r' : α → β → Prop}
theorem All2.length : ∀ {l : List α} {m : List β}, All2 r l m → l.length = m.length
  | _, _, .nil => rfl
  | _, _, .cons _ h => by simp [h.length]
theorem All2.imp (hr : ∀ a b, r a b → r' a b) : ∀ {l : List α} {m : List β}, All2 r l m → All2 r' l m
  | _, _, .nil => .nil
  | _, _, .cons h t => .cons (hr _ _ h) (t.imp hr)
theorem All2.imp_mem : ∀ {l : List α} {m : List β}, All2 r l m → (∀ a b, a ∈ l → r a b → r' a b) → All2 r' l m
  | _, _, .nil, _ => .nil
  | _, _, .cons h t, hr => .cons (hr _ _ List.mem_cons_self h) (t.imp_mem fun a b ha => hr a b (List.mem_cons_of_mem _ ha))
theorem All2.append : ∀ {l l' : List α} {m m' : List β}, All2 r l m → All2 r l' m' → All2 r (l ++ l') (m ++ m')
  | _, _, _, _, .nil, h => h
  | _, _, _, _, .cons h t, h' => .cons h (t.append h')
theorem All2.take : ∀ (n : Nat) {l : List α} {m : List β}, All2 r l m → All2 r (l.take n) (m.take n)
  | 0, _, _, _ => .nil
  | _ + 1, _, _, .nil => .nil
  | n + 1, _, _, .cons h t => .cons h (t.take n)
theorem All2.drop : ∀ (n : Nat) {l : List α} {m : List β}, All2 r l m → All2 r (l.drop n) (m.drop n)
  | 0, _, _, h => h
  | _ + 1, _, _, .nil => .nil
  | n + 1, _, _, .cons _ t => t.drop n
theorem All2.get : ∀ {l : List α} {m : List β}, All2 r l m → ∀ (i : Nat) (a : α), l[i]? = some a → ∃ b : β, m[i]? = some b ∧ r a b
  | _, _, .nil, i, a, h => by simp at h
  | _, _, .cons hab _, 0, a, h => by simp at h; subst h; exact ⟨_, rfl, hab⟩
  | _, _, .cons _ t, i + 1, a, h => t.get i a (by simpa using h)
end
def RR (C : Cfg) (M : Nat → Prop) (w : World) : (s : Sh) → s.T → List Value → Prop
  | .int k, x, cs => cs = [.int k x]
  | .bool, x, cs => cs = [.bool x]
  | .str, x, cs => cs = [.string x]
  | .err, x, cs => ∃ v, cs = [v] ∧ Rob M w (fun w => ErrV C w x v)
  | .ptr, _, cs => cs = [.pointer none]
  | .rf k, x, cs => (x = none ∧ cs = [k.nil]) ∨ ∃ n, x = some n ∧ n < C.N ∧ cs = [C.β n] ∧ k.fits (C.β n) = true
  | .pt s, x, cs => (x = none ∧ cs = [.pointer none]) ∨ ∃ y ad ys, x = some y ∧ cs = [.pointer (some ad)] ∧ RR C M w s y ys ∧ Rob M w (fun w => ∀ j u, ys[j]? = some u → w.cell? (ad.add j) = some u)
  | .sl s, x, cs => ∃ A c, cs = [.slice A x.length c] ∧ x.length ≤ c ∧ (x = [] ∨ ∃ ad css, A = some ad ∧ All2 (RR C M w s) x css ∧ Rob M w (fun w => ∀ j u, css.flatten[j]? = some u → w.cell? (ad.add j) = some u))
  | .pair a b, x, cs => RR C M w a x.1 (cs.take a.sz) ∧ RR C M w b x.2 (cs.drop a.sz)
def RowR (C : Cfg) (M : Nat → Prop) (w : World) (s : Sh) (A : Option Addr) (x : List s.T) : Prop :=
  x = [] ∨ ∃ ad css, A = some ad ∧ All2 (RR C M w s) x css ∧ Rob M w (fun w => ∀ j u, css.flatten[j]? = some u → w.cell? (ad.add j) = some u)
theorem RR.step {C : Cfg} {M M' : Nat → Prop} {w w' : World} (hk : KeepS M w w') (hs : ∀ k, M' k → k < w.heap.size → M k) : ∀ (s : Sh) (x : s.T) (cs : List Value), RR C M w s x cs → RR C M' w' s x cs
  | .int _, _, _, h => h
  | .bool, _, _, h => h
  | .str, _, _, h => h
  | .err, _, _, ⟨v, h1, h2⟩ => ⟨v, h1, h2.step hk hs⟩
  | .ptr, _, _, h => h
  | .rf _, _, _, h => h
  | .pt s, _, _, h => h.imp_right fun ⟨y, ad, ys, e1, e2, e3, e4⟩ => ⟨y, ad, ys, e1, e2, RR.step hk hs s y ys e3, e4.step hk hs⟩
  | .sl s, _, _, ⟨A, c, h1, h2, h3⟩ => ⟨A, c, h1, h2, h3.imp_right fun ⟨ad, css, e1, e2, e3⟩ => ⟨ad, css, e1, e2.imp fun x cs => RR.step hk hs s x cs, e3.step hk hs⟩⟩
  | .pair a b, x, _, ⟨h1, h2⟩ => ⟨RR.step hk hs a x.1 _ h1, RR.step hk hs b x.2 _ h2⟩
theorem RowR.step {C : Cfg} {M M' : Nat → Prop} {w w' : World} (hk : KeepS M w w') (hs : ∀ k, M' k → k < w.heap.size → M k) {s : Sh} {A : Option Addr} {x : List s.T} (h : RowR C M w s A x) : RowR C M' w' s A x :=
  h.imp_right fun ⟨ad, css, e1, e2, e3⟩ => ⟨ad, css, e1, e2.imp fun x cs => RR.step hk hs s x cs, e3.step hk hs⟩
theorem RR.ext {C C' : Cfg} {M : Nat → Prop} {w : World} (hC : Ext C C') : ∀ (s : Sh) (x : s.T) (cs : List Value), RR C M w s x cs → RR C' M w s x cs
  | .int _, _, _, h => h
  | .bool, _, _, h => h
  | .str, _, _, h => h
  | .err, _, _, ⟨v, h1, h2⟩ => ⟨v, h1, h2.imp fun w' h => by obtain ⟨b, n, rfl, _⟩ := hC; rw [ErrV_at]; exact h⟩
  | .ptr, _, _, h => h
  | .rf _, _, _, h => h.imp_right fun ⟨n, e1, e2, e3, e4⟩ => by
    obtain ⟨b, m, rfl, h1, h2⟩ := hC
    exact ⟨n, e1, Nat.lt_of_lt_of_le e2 h1, by rw [e3]; exact congrArg (fun z => [z]) (h2 n e2).symm, (congrArg _ (h2 n e2)).trans e4⟩
  | .pt s, _, _, h => h.imp_right fun ⟨y, ad, ys, e1, e2, e3, e4⟩ => ⟨y, ad, ys, e1, e2, RR.ext hC s y ys e3, e4⟩
  | .sl s, _, _, ⟨A, c, h1, h2, h3⟩ => ⟨A, c, h1, h2, h3.imp_right fun ⟨ad, css, e1, e2, e3⟩ => ⟨ad, css, e1, e2.imp fun x cs => RR.ext hC s x cs, e3⟩⟩
  | .pair a b, x, _, ⟨h1, h2⟩ => ⟨RR.ext hC a x.1 _ h1, RR.ext hC b x.2 _ h2⟩
theorem RowR.ext {C C' : Cfg} {M : Nat → Prop} {w : World} (hC : Ext C C') {s : Sh} {A : Option Addr} {x : List s.T} (h : RowR C M w s A x) : RowR C' M w s A x :=
  h.imp_right fun ⟨ad, css, e1, e2, e3⟩ => ⟨ad, css, e1, e2.imp fun x cs => RR.ext hC s x cs, e3⟩
theorem ErrAt_lk (C : Cfg) (L : Nat → Prop) (w : World) : ∀ (ps : List (Int × Int)) (k : Int) (v : Value), ErrAt (C.lk L) w ps k v = ErrAt C w ps k v
  | [], _, _ => rfl
  | p :: ps, k, v => by simp only [ErrAt, ErrAt_lk C L w ps]
theorem ErrV_lk (C : Cfg) (L : Nat → Prop) (w : World) (e : Err) (v : Value) : ErrV (C.lk L) w e v = ErrV C w e v := by
  cases e with
  | none => rfl
  | some x => exact ErrAt_lk C L w x.1 x.2 v
theorem All2.congr' {α β : Type} {r r' : α → β → Prop} (h : ∀ a b, r a b = r' a b) (l : List α) (m : List β) : All2 r l m = All2 r' l m := by
  rw [show r = r' from funext fun a => funext fun b => h a b]
theorem RR_lk {C : Cfg} {L : Nat → Prop} {M : Nat → Prop} {w : World} : ∀ (s : Sh) (x : s.T) (cs : List Value), RR (C.lk L) M w s x cs = RR C M w s x cs
  | .int _, _, _ => rfl
  | .bool, _, _ => rfl
  | .str, _, _ => rfl
  | .err, x, cs => by simp only [RR, ErrV_lk]
  | .ptr, _, _ => rfl
  | .rf _, _, _ => rfl
  | .pt s, x, cs => by simp only [RR, RR_lk s]
  | .sl s, x, cs => by
    simp only [RR]
    simp only [All2.congr' (fun a b => RR_lk s a b)]
  | .pair a b, x, cs => by simp only [RR, RR_lk a, RR_lk b]
theorem Sh.sz_pos : ∀ s : Sh, 0 < s.sz
  | .int _ | .bool | .str | .err | .ptr | .rf _ | .pt _ | .sl _ => by simp [Sh.sz]
  | .pair a b => by simp only [Sh.sz]; have := Sh.sz_pos a; omega
theorem RR.len {C : Cfg} {M : Nat → Prop} {w : World} : ∀ (s : Sh) (x : s.T) (cs : List Value), RR C M w s x cs → cs.length = s.sz
  | .int _, _, _, h => by simp only [RR] at h; simp [h, Sh.sz]
  | .bool, _, _, h => by simp only [RR] at h; simp [h, Sh.sz]
  | .str, _, _, h => by simp only [RR] at h; simp [h, Sh.sz]
  | .err, _, _, h => by simp only [RR] at h; obtain ⟨v, rfl, _⟩ := h; simp [Sh.sz]
  | .ptr, _, _, h => by simp only [RR] at h; simp [h, Sh.sz]
  | .rf _, _, _, h => by
    simp only [RR] at h
    rcases h with ⟨_, rfl⟩ | ⟨_, _, _, rfl, _⟩ <;> simp [Sh.sz]
  | .pt _, _, _, h => by
    simp only [RR] at h
    rcases h with ⟨_, rfl⟩ | ⟨_, _, _, _, rfl, _⟩ <;> simp [Sh.sz]
  | .sl _, _, _, h => by simp only [RR] at h; obtain ⟨A, c, rfl, _⟩ := h; simp [Sh.sz]
  | .pair a b, x, cs, h => by
    simp only [RR] at h
    have h1 := RR.len a x.1 _ h.1
    have h2 := RR.len b x.2 _ h.2
    simp only [List.length_take, List.length_drop] at h1 h2
    simp only [Sh.sz]
    have hb := b.sz_pos
    omega
def fcells : (s : Sh) → s.T → List Value
  | .int k, x => [.int k x]
  | .bool, x => [.bool x]
  | .str, x => [.string x]
  | .err, _ => []
  | .ptr, _ => []
  | .rf _, _ => []
  | .pt _, _ => []
  | .sl _, _ => []
  | .pair a b, x => fcells a x.1 ++ fcells b x.2
theorem flatten_get {css : List (List Value)} {n i j : Nat} {cs : List Value} {u : Value} (hi : css[i]? = some cs) (hn : ∀ c ∈ css, c.length = n) (hj : cs[j]? = some u) : css.flatten[i * n + j]? = some u := by
  induction css generalizing i with
  | nil => simp at hi
  | cons c r ih =>
    have hc := hn c List.mem_cons_self
    cases i with
    | zero =>
      simp at hi; subst hi
      simp only [List.flatten_cons, Nat.zero_mul, Nat.zero_add]
      rw [List.getElem?_append_left]
      · exact hj
      · rcases Nat.lt_or_ge j c.length with h' | h'
        · exact h'
        · rw [List.getElem?_eq_none h'] at hj; cases hj
    | succ i =>
      simp only [List.flatten_cons]
      rw [List.getElem?_append_right (by rw [hc, Nat.succ_mul]; omega)]
      rw [show (i + 1) * n + j - c.length = i * n + j by rw [hc, Nat.succ_mul]; omega]
      exact ih (by simpa using hi) (fun c hc => hn c (List.mem_cons_of_mem _ hc))
theorem All2.mem_right {α β : Type} {r : α → β → Prop} : ∀ {l : List α} {m : List β}, All2 r l m → ∀ b ∈ m, ∃ a ∈ l, r a b
  | _, _, .nil, b, hb => by simp at hb
  | _, _, .cons h t, b, hb => by
    rcases List.mem_cons.1 hb with rfl | hb
    · exact ⟨_, List.mem_cons_self, h⟩
    · obtain ⟨a, ha, hr⟩ := t.mem_right b hb; exact ⟨a, List.mem_cons_of_mem _ ha, hr⟩
theorem row_cells {C : Cfg} {M : Nat → Prop} {w : World} {s : Sh} {x : List s.T} {css : List (List Value)} (h : All2 (RR C M w s) x css) {i : Nat} {y : s.T} (hy : x[i]? = some y) :
    ∃ cs, RR C M w s y cs ∧ ∀ (j : Nat) (u : Value), cs[j]? = some u → css.flatten[i * s.sz + j]? = some u := by
  obtain ⟨cs, h1, h2⟩ := h.get i y hy
  refine ⟨cs, h2, fun j u hj => flatten_get h1 (fun c hc => ?_) hj⟩
  obtain ⟨z, _, hz⟩ := h.mem_right c hc
  exact RR.len s z c hz
end Go.Pev
/- The pure evaluator, part B: abstract values, the step of one operation, regions, code, functions. Own text, over any program. -/
namespace Go.Pev
inductive AV where
  | int (k : IntKind) (n : Int)
  | bool (b : Bool)
  | str (s : ByteArray)
  | err (e : Err)
  | sl (s : Sh) (l : List s.T)
  | nsl
  | ag (fs : List AV)
  | tup (fs : List AV)
  | own (id : Nat)
  | ref (id off : Nat)
  | elt (s : Sh) (x : s.T) (off : Nat)
  | pel (s : Sh) (x : Option s.T)
  | oelt (id sz : Nat) (i : Int) (off : Nat)
  | obj (id : Nat)
  | objv (k : Nat) (s : Sh) (m : s.T)
  | fn (f : Nat)
  | nilp
  | oth
  | iref (t : TypeId) (id off : Nat)
  | rf (k : RK) (x : Option Nat)
  | rfo (t : TypeId) (n off : Nat)
  | rel (e : TypeId) (s : Sh) (n : Nat) (i : Int) (off : Nat)
  | itr (id : Nat)
  | stp (id : Nat)
  | sub (id n : Nat)
  | clo (f : Nat) (caps : List AV)
  | fnc (f : Nat) (caps : List AV)
  | rowv (e : TypeId) (s : Sh) (l : List s.T)
  | hin (lk : List Nat) (H : List Node)
  | outs (v o : AV) (H : List Node)
  | undef
inductive RS where
  | box (t : TypeId) (cs : List AV)
  | row (e : TypeId) (s : Sh) (l : List s.T)
  | fro (s : Sh) (l : List s.T)
  | obj (k : Nat) (s : Sh) (m : s.T)
  | tok
  | reg (lk : List Nat) (its : List (Nat × It)) (H : List Node)
abbrev REG : Nat := 1000000
structure Env where
  sl : List (Nat × AV)
  rs : List (Nat × Option RS)
def get {α : Type _} : List (Nat × α) → Nat → Option α
  | [], _ => none
  | (k, v) :: r, t => match Nat.beq k t with | true => some v | false => get r t
def getR (l : List (Nat × Option RS)) (t : Nat) : Option RS :=
  match get l t with | some (some r) => some r | _ => none
abbrev Spec := List AV → Option AV
inductive Tree : Type 1 where
  | ret (a : AV)
  | fail
  | br (b : Bool) (x y : Tree)
  | opt {β : Type} (o : Option β) (k : β → Tree)
def Tree.get : Tree → Option AV
  | .ret a => some a
  | .fail => none
  | .br b x y => cond b x.get y.get
  | .opt o k => match o with
    | some a => (k a).get
    | none => none
structure CSpec where
  f : List AV → Tree
  own : Option Nat := none
  reg : Bool := false
instance : Coe Spec CSpec := ⟨fun f => { f := fun a => match f a with | some r => .ret r | none => .fail }⟩
structure Tabs extends Cfg where
  asF : Nat
  asPtr : TypeId
  asNum : TypeId
  shs : List (Nat × Sh)
  eqs : List Nat
  specs : List (Nat × CSpec)
  objs : List Nat := []
  caps : List Nat := []
inductive Rd (α : Type) : Type 1 where
  | ret (a : α)
  | fail
  | slot (t : Nat) (k : AV → Rd α)
  | res (id : Nat) (k : RS → Rd α)
  | br (b : Bool) (x y : Rd α)
  | opt {β : Type} (o : Option β) (k : β → Rd α)
def Rd.ofTree {α : Type} : Tree → (AV → Rd α) → Rd α
  | .ret a, k => k a
  | .fail, _ => .fail
  | .br b x y, k => .br b (Rd.ofTree x k) (Rd.ofTree y k)
  | .opt o f, k => .opt o fun a => Rd.ofTree (f a) k
def Rd.bind {α β : Type} : Rd α → (α → Rd β) → Rd β
  | .ret a, f => f a
  | .fail, _ => .fail
  | .slot t k, f => .slot t fun v => (k v).bind f
  | .res id k, f => .res id fun v => (k v).bind f
  | .br b x y, f => .br b (x.bind f) (y.bind f)
  | .opt o k, f => .opt o fun a => (k a).bind f
abbrev Ws := List (Nat × Option RS)
structure Out where
  v : AV
  ws : Ws
def leaves : (s : Sh) → s.T → List AV
  | .int k, x => [.int k x]
  | .bool, x => [.bool x]
  | .str, x => [.str x]
  | .err, x => [.err x]
  | .ptr, _ => [.nilp]
  | .rf k, x => [.rf k x]
  | .pt s, x => [.pel s x]
  | .sl s, x => [.sl s x]
  | .pair a b, x => leaves a x.1 ++ leaves b x.2
def zleaves : Sh → List AV
  | .int k => [.int k 0]
  | .bool => [.bool false]
  | .str => [.str ⟨#[]⟩]
  | .err => [.err none]
  | .ptr => [.nilp]
  | .rf k => [.rf k none]
  | .pt _ => [.nilp]
  | .sl _ => [.nsl]
  | .pair a b => zleaves a ++ zleaves b
def castE (s' s : Sh) (x : s'.T) : Option s.T := if h : s' = s then some (h ▸ x) else none
def castP (s' s : Sh) (x : Option s'.T) : Option (Option s.T) := if h : s' = s then some (h ▸ x) else none
def castL (s' s : Sh) (l : List s'.T) : Option (List s.T) := if h : s' = s then some (h ▸ l) else none
def ofLeaves : (s : Sh) → List AV → Option s.T
  | .int k, l => match l with | [.int k' n] => (if k' = k then some n else none) | _ => none
  | .bool, l => match l with | [.bool b] => some b | _ => none
  | .str, l => match l with | [.str s] => some s | _ => none
  | .err, l => match l with | [.err e] => some e | _ => none
  | .ptr, l => match l with | [.nilp] => some () | _ => none
  | .rf k, l => match l with
    | [.rf k' x] => if k' = k then some x else none
    | [.nilp] => if k = .ptr then some none else none
    | [.nsl] => if k = .sli then some none else none
    | _ => none
  | .pt s, l => match l with
    | [.nilp] => some none
    | [.pel s' x] => castP s' s x
    | [.elt s' x 0] => (castE s' s x).map some
    | _ => none
  | .sl s, l => match l with | [.sl s' l] => castL s' s l | [.nsl] => some [] | _ => none
  | .pair a b, l => match ofLeaves a (l.take a.sz), ofLeaves b (l.drop a.sz) with
    | some x, some y => some (x, y)
    | _, _ => none
def Sh.flat : Sh → Bool
  | .sl _ => false
  | .err => false
  | .ptr => false
  | .rf _ => false
  | .pt _ => false
  | .pair a b => a.flat && b.flat
  | _ => true
def AV.pure1 : AV → Bool
  | .int .. | .bool _ | .str _ | .err _ | .sl .. | .nilp | .oth | .elt .. | .pel .. | .rf .. => true
  | _ => false
def AV.pure2 : AV → Bool
  | .ag l => l.all AV.pure1
  | .fnc _ l => l.all AV.pure1
  | a => a.pure1
def AV.pure : AV → Bool
  | .tup l => l.all AV.pure2
  | .clo _ l => l.all AV.pure2
  | a => a.pure2
def Sh.rfree : Sh → Bool
  | .rf _ => false
  | .pt s => s.rfree
  | .sl s => s.rfree
  | .pair a b => a.rfree && b.rfree
  | _ => true
def AV.rfree1 : AV → Bool
  | .rf .. | .rfo .. | .rel .. => false
  | .sl s _ => s.rfree
  | .elt s _ _ => s.rfree
  | .pel s _ => s.rfree
  | _ => true
def AV.rfree2 : AV → Bool
  | .ag l => l.all AV.rfree1
  | .fnc _ l => l.all AV.rfree1
  | a => a.rfree1
def AV.rfree : AV → Bool
  | .tup l => l.all AV.rfree2
  | .clo _ l => l.all AV.rfree2
  | a => a.rfree2
def AV.flat1 : AV → Bool
  | .int .. | .bool _ | .str _ | .oth | .rf .. => true
  | _ => false
def AV.flat2 : AV → Bool
  | .ag l => l.all AV.flat1
  | a => a.flat1
def AV.flat : AV → Bool
  | .tup l => l.all AV.flat2
  | a => a.flat2
def AV.ment1 (id : Nat) : AV → Bool
  | .own i | .ref i _ | .oelt i _ _ _ | .obj i | .iref _ i _ | .itr i | .stp i | .sub i _ => Nat.beq i id
  | _ => false
def AV.ment2 (id : Nat) : AV → Bool
  | .ag l => l.any (AV.ment1 id)
  | .fnc _ l => l.any (AV.ment1 id)
  | a => a.ment1 id
def AV.ment (id : Nat) : AV → Bool
  | .tup l => l.any (AV.ment2 id)
  | .clo _ l => l.any (AV.ment2 id)
  | a => a.ment2 id
def RS.ment (id : Nat) : RS → Bool
  | .box _ cs => cs.any (AV.ment1 id)
  | .reg _ its _ => its.any fun p => Nat.beq p.1 id
  | _ => false
def Ws.ment (id : Nat) : Ws → Bool
  | [] => false
  | (_, some r) :: l => r.ment id || Ws.ment id l
  | (_, none) :: l => Ws.ment id l
def slMent (id : Nat) (l : List (Nat × AV)) : Bool := l.any fun p => p.2.ment id
def aggOf (P : Program) (t : TypeId) : Option Bool :=
  match P.underlying t with
  | some (.struct _) => some true
  | some (.array _ _) => none
  | some _ => some false
  | none => none
def fieldOf (P : Program) (t : TypeId) (j : Nat) : Option (Nat × TypeId) :=
  match P.underlying t with
  | some (.struct fs) => (fs[j]?).map fun f => (f.offset, f.type)
  | _ => none
def elemOf' (P : Program) (t : TypeId) : Option TypeId :=
  match P.underlying t with
  | some (.slice e) => some e
  | _ => none
def bytesOf' (P : Program) (t : TypeId) : Nat := match P.info? t with | some i => i.bytes | none => 0
def eqChkF (chk : TypeId → Sh → Bool) (shs : List (Nat × Sh)) : List Field → Sh → Nat → Bool
  | [], _, _ => false
  | f :: fs, s, off => match fs, s with
    | [], s => f.name != "_" && f.offset == off && chk f.type s && decide (get shs f.type = some s)
    | g :: fs, .pair a b => f.name != "_" && f.offset == off && chk f.type a && decide (get shs f.type = some a) && eqChkF chk shs (g :: fs) b (off + a.sz)
    | _ :: _, _ => false
def eqChk (P : Program) (shs : List (Nat × Sh)) : Nat → TypeId → Sh → Bool
  | 0, _, _ => false
  | d + 1, t, s => match P.underlying t with
    | some (.int _) => match s with | .int _ => true | _ => false
    | some .bool => decide (s = .bool)
    | some .string => decide (s = .str)
    | some (.struct fs) => !P.stoodInHeld t && eqChkF (eqChk P shs d) shs fs.toList s 0
    | _ => false
def eqOkB (P : Program) (shs : List (Nat × Sh)) (t : TypeId) : Bool :=
  match get shs t with
  | some s => eqChk P shs 6 t s && !P.eqGuardType P.depth t && decide (aggOf P t = some true)
  | none => false
def constAV : Value → Option AV
  | .int k n => some (.int k n)
  | .bool b => some (.bool b)
  | .string s => some (.str s)
  | .nilIface => some (.err none)
  | .slice none 0 0 => some .nsl
  | .pointer none => some .nilp
  | .map none => some (.rf .map none)
  | _ => none
def Rd.ofO {α : Type} : Option α → Rd α
  | some a => .ret a
  | none => .fail
def opd : Operand → Rd AV
  | .tmp t => .slot t .ret
  | .const v => Rd.ofO (constAV v)
  | .func f => .ret (.fn f)
  | .global _ => .fail
def opds : List Operand → Rd (List AV)
  | [] => .ret []
  | x :: r => (opd x).bind fun a => (opds r).bind fun l => .ret (a :: l)
def intBin (op : BinOp) (k : IntKind) (a b : Int) : Option AV :=
  match op with
  | .add => some (.int k (k.wrap (a + b)))
  | .sub => some (.int k (k.wrap (a - b)))
  | .mul => some (.int k (k.wrap (a * b)))
  | .quo => match b with | .ofNat 0 => none | .ofNat (n + 1) => some (.int k (k.wrap (a.tdiv (n + 1 : Nat)))) | _ => none
  | .rem => match b with | .ofNat 0 => none | .ofNat (n + 1) => some (.int k (a.tmod (n + 1 : Nat))) | _ => none
  | .shl => match b with | .ofNat n => some (.int k (k.wrap (a * 2 ^ min n k.bits))) | _ => none
  | .shr => match b with | .ofNat n => some (.int k (a.fdiv (2 ^ min n k.bits))) | _ => none
  | .and => some (.int k (k.wrap (BitVec.ofInt k.bits a &&& BitVec.ofInt k.bits b).toNat))
  | .or => some (.int k (k.wrap (BitVec.ofInt k.bits a ||| BitVec.ofInt k.bits b).toNat))
  | .eql => some (.bool (a == b))
  | .neq => some (.bool (a != b))
  | .lss => some (.bool (decide (a < b)))
  | .leq => some (.bool (decide (a ≤ b)))
  | .gtr => some (.bool (decide (a > b)))
  | .geq => some (.bool (decide (a ≥ b)))
  | _ => none
def strBin (op : BinOp) (a b : ByteArray) : Rd AV :=
  match op with
  | .add => .br (decide (a.size + b.size ≤ 9223372036854775807)) (.ret (.str (a ++ b))) .fail
  | .eql => .ret (.bool (a.toList == b.toList))
  | .neq => .ret (.bool !(a.toList == b.toList))
  | .lss => .ret (.bool (Op.bytesLess a.toList b.toList))
  | .leq => .ret (.bool (Op.bytesLess a.toList b.toList || a.toList == b.toList))
  | .gtr => .ret (.bool !(Op.bytesLess a.toList b.toList || a.toList == b.toList))
  | .geq => .ret (.bool !(Op.bytesLess a.toList b.toList))
  | _ => .fail
def errEq : Err → Err → Option Bool
  | none, none => none
  | none, some _ => some false
  | some _, none => some false
  | some ([], a), some ([], b) => some (a == b)
  | some ([], _), some (_ :: _, _) => some false
  | some (_ :: _, _), some ([], _) => some false
  | some (_ :: _, _), some (_ :: _, _) => none
def eqB : (s : Sh) → s.T → s.T → Bool
  | .int _, x, y => (x : Int) == y
  | .bool, x, y => (x : Bool) == y
  | .str, x, y => (x : ByteArray).toList == (y : ByteArray).toList
  | .err, _, _ => false
  | .ptr, _, _ => false
  | .rf _, _, _ => false
  | .pt _, _, _ => false
  | .sl _, _, _ => false
  | .pair a b, x, y => eqB a x.1 y.1 && eqB b x.2 y.2
def isNilC : Operand → Bool
  | .const .nilIface => true
  | _ => false
def isIface (P : Program) (t : TypeId) : Bool := match P.underlying t with | some (.interface _) => true | _ => false
def isPtrT (P : Program) (t : TypeId) : Bool := match P.underlying t with | some (.pointer _) => true | _ => false
def isMapT (P : Program) (t : TypeId) : Bool := match P.underlying t with | some (.map _ _) => true | _ => false
def isBoolT (P : Program) (t : TypeId) : Bool := match P.underlying t with | some .bool => true | _ => false
def ptrEq (op : BinOp) (p r : Bool) : Rd AV := match p with
  | true => match op with | .eql => .ret (.bool r) | .neq => .ret (.bool !r) | _ => .fail
  | false => .fail
def binAV (P : Program) (T : Tabs) (op : BinOp) (t : TypeId) (cx cy : Bool) (x y : AV) : Rd AV :=
  match x, y with
  | .int k a, .int k' b =>
    match op with
    | .shl | .shr => Rd.ofO (intBin op k a b)
    | _ => if k' = k then Rd.ofO (intBin op k a b) else .fail
  | .str a, .str b => strBin op a b
  | .bool a, .bool b => match isBoolT P t with
    | true => match op with | .eql => .ret (.bool (a == b)) | .neq => .ret (.bool !(a == b)) | _ => .fail
    | false => .fail
  | .err a, .err b => match isIface P t with
    | false => .fail
    | true => match cx, cy with
      | _, true => match op with | .eql => .ret (.bool a.isNone) | .neq => .ret (.bool !a.isNone) | _ => .fail
      | true, false => match op with | .eql => .ret (.bool b.isNone) | .neq => .ret (.bool !b.isNone) | _ => .fail
      | false, false => .opt (errEq a b) fun r => match op with | .eql => .ret (.bool r) | .neq => .ret (.bool !r) | _ => .fail
  | .ag a, .ag b => match T.eqs.contains t, get T.shs t with
    | true, some s => match s.flat, ofLeaves s a, ofLeaves s b with
      | true, some x, some y => match op with | .eql => .ret (.bool (eqB s x y)) | .neq => .ret (.bool !(eqB s x y)) | _ => .fail
      | _, _, _ => .fail
    | _, _ => .fail
  | .oth, .err _ => match isIface P t, cy with
    | true, true => match op with | .eql => .ret (.bool false) | .neq => .ret (.bool true) | _ => .fail
    | _, _ => .fail
  | .nilp, .nilp => ptrEq op (isPtrT P t) true
  | .elt _ _ _, .nilp => ptrEq op (isPtrT P t) false
  | .nilp, .elt _ _ _ => ptrEq op (isPtrT P t) false
  | .pel _ x, .nilp => ptrEq op (isPtrT P t) x.isNone
  | .nilp, .pel _ x => ptrEq op (isPtrT P t) x.isNone
  | .rf .ptr x, .nilp => ptrEq op (isPtrT P t) x.isNone
  | .rf .map x, .rf .map none => ptrEq op (isMapT P t) x.isNone
  | _, _ => .fail
def AV.lv : AV → List AV
  | .ag l => l
  | a => [a]
def okLeaf : AV → Bool
  | .ag _ | .tup _ | .objv .. | .undef | .clo .. | .fnc .. | .rowv .. | .hin .. | .outs .. => false
  | _ => true
def dataL : AV → Rd (AV × Ws)
  | .own id => .res id fun
    | .row _ s l => .ret (.sl s l, [(id, some (.fro s l))])
    | .fro s l => .ret (.sl s l, [])
    | _ => .fail
  | .sub id n => .res id fun
    | .row _ s l => .br (decide (n ≤ l.length)) (.ret (.sl s (l.take n), [(id, some (.fro s l))])) .fail
    | .fro s l => .br (decide (n ≤ l.length)) (.ret (.sl s (l.take n), [])) .fail
    | _ => .fail
  | a => .ret (a, [])
def dataLs : List AV → Rd (List AV × Ws)
  | [] => .ret ([], [])
  | a :: r => (dataL a).bind fun (x, w) => (dataLs r).bind fun (l, ws) => .ret (x :: l, w ++ ws)
def aggAV (P : Program) (t : TypeId) (l : List AV) : Option AV :=
  match aggOf P t, l with
  | some true, l => some (.ag l)
  | some false, [a] => some a
  | _, _ => none
def normAV (P : Program) (T : Tabs) (t : TypeId) (l : List AV) : Option AV :=
  match get T.shs t with
  | some s => match ofLeaves s l with
    | some x => aggAV P t (leaves s x)
    | none => none
  | none => none
def aggFit (P : Program) (t : TypeId) (a : AV) : Bool :=
  match aggOf P t, a with
  | some true, .ag _ => true
  | some false, a => okLeaf a
  | _, _ => false
def normArgD (P : Program) (T : Tabs) (t : TypeId) (a : AV) : Rd (AV × Ws) :=
  match aggFit P t a with
  | true => (dataLs a.lv).bind fun (l, ws) => (Rd.ofO (normAV P T t l)).bind fun v => .ret (v, ws)
  | false => .fail
def normArg (P : Program) (T : Tabs) (t : TypeId) (a : AV) : Rd (AV × Ws) :=
  match a with
  | .fn f => .ret (.fn f, [])
  | a => normArgD P T t a
def normArgs (P : Program) (T : Tabs) : List TypeId → List AV → Rd (List AV × Ws)
  | [], [] => .ret ([], [])
  | t :: ts, a :: r => (normArg P T t a).bind fun (x, w) => (normArgs P T ts r).bind fun (l, ws) => .ret (x :: l, w ++ ws)
  | _, _ => .fail
def splice (l : List AV) (off : Nat) (v : List AV) : List AV := l.take off ++ v ++ l.drop (off + v.length)
def setParts (P : Program) (T : Tabs) (t : TypeId) : List (Nat × AV) → List AV → Option (List AV)
  | [], l => some l
  | (i, a) :: r, l => match fieldOf P t i with
    | some (off, ft) => match get T.shs ft, aggFit P ft a with
      | some s, true => if a.lv.length = s.sz ∧ off + s.sz ≤ l.length then setParts P T t r (splice l off a.lv) else none
      | _, _ => none
    | none => none
def placesOk (P : Program) (t : TypeId) : Bool :=
  match P.underlying t with
  | some (.struct fs) => (fs.toList.mapM (fun f => (P.info? f.type).map fun i => (f.offset, i.size))).isSome
  | _ => false
def partsOf (ps : List (Nat × Operand)) : Rd (List (Nat × AV)) :=
  match ps with
  | [] => .ret []
  | (i, x) :: r => (opd x).bind fun a => (partsOf r).bind fun l => .ret ((i, a) :: l)
def litEls (P : Program) (e : TypeId) (s : Sh) : Nat → List (Nat × AV) → Rd (List s.T × Ws)
  | _, [] => .ret ([], [])
  | n, (i, a) :: r => match Nat.beq i n && aggFit P e a with
    | true => (dataLs a.lv).bind fun (l, w) => (Rd.ofO (ofLeaves s l)).bind fun x => (litEls P e s (n + 1) r).bind fun (xs, ws) => .ret (x :: xs, w ++ ws)
    | false => .fail
def loadAV (P : Program) (t : TypeId) (sz : Nat) (l : List AV) (off : Nat) : Option AV :=
  match aggOf P t with
  | some true => if off + sz ≤ l.length then some (.ag ((l.drop off).take sz)) else none
  | some false => (l.drop off).head?
  | none => none
def getI {α : Type} (l : List α) (i : Int) (d : α) : α := l.getD i.toNat d
def appLim (b : Nat) (n m : Nat) : Bool := decide ((n + m) * b ≤ 140737488355328)
def appSrc (s : Sh) : AV → Rd (List s.T)
  | .own id => .res id fun
    | .row _ s' l => Rd.ofO (castL s' s l)
    | .fro s' l => Rd.ofO (castL s' s l)
    | _ => .fail
  | .sl s' l => Rd.ofO (castL s' s l)
  | .nsl => .ret []
  | _ => .fail
def u8s (s : ByteArray) : List Int := s.data.toList.map fun b => (b.toNat : Int)
def ofU8s (l : List Int) : ByteArray := ⟨(l.map fun n => n.toNat.toUInt8).toArray⟩
abbrev FSh : Sh := .pair (.pair (.int .i64) (.int .i64)) .err
abbrev ESh : Sh := .pair (.sl (.pair (.int .i64) (.int .i64))) (.int .i64)
def errHead (e : Err) : Option FSh.T := match e with
  | some (p :: ps, n) => some (p, some (ps, n))
  | _ => none
def asSem (T : Tabs) (t : TypeId) (e : Err) : Option (Option AV) :=
  match Nat.beq t T.asPtr with
  | true => match e with
    | some (p :: ps, n) => some (some (.elt FSh (p, some (ps, n)) 0))
    | _ => some none
  | false => match Nat.beq t T.asNum with
    | true => match e with
      | some (_, n) => some (some (.int .i64 n))
      | none => some none
    | false => none
def getBox (t : TypeId) (s : Sh) (H : List Node) (n : Nat) : Option s.T := match H[n]? with
  | some (.box t' s' x) => if t' = t then castE s' s x else none
  | _ => none
def getMap (ka va : Bool) (k v : Sh) (H : List Node) (n : Nat) : Option (List (k.T × v.T)) := match H[n]? with
  | some (.map ka' va' k' v' l) => if ka' = ka ∧ va' = va then (if h : k' = k ∧ v' = v then some (h.1 ▸ h.2 ▸ l) else none) else none
  | _ => none
def getRow (e : TypeId) (s : Sh) (H : List Node) (n : Nat) : Option (List s.T) := match H[n]? with
  | some (.row e' s' l) => if e' = e then castL s' s l else none
  | _ => none
def lookL (k v : Sh) (x : k.T) : List (k.T × v.T) → Option v.T
  | [] => none
  | p :: r => match eqB k p.1 x with | true => some p.2 | false => lookL k v x r
def ltB : (s : Sh) → s.T → s.T → Bool
  | .int _, x, y => decide ((x : Int) < y)
  | .bool, x, y => !(x : Bool) && (y : Bool)
  | .str, x, y => Op.bytesLess (x : ByteArray).toList (y : ByteArray).toList
  | .pair a b, x, y => ltB a x.1 y.1 || (eqB a x.1 y.1 && ltB b x.2 y.2)
  | .err, _, _ => false
  | .ptr, _, _ => false
  | .rf _, _, _ => false
  | .pt _, _, _ => false
  | .sl _, _, _ => false
def insL (k v : Sh) (x : k.T) (y : v.T) : List (k.T × v.T) → List (k.T × v.T)
  | [] => [(x, y)]
  | p :: r => match ltB k x p.1 with | true => (x, y) :: p :: r | false => p :: insL k v x y r
def delL (k v : Sh) (x : k.T) : List (k.T × v.T) → List (k.T × v.T)
  | [] => []
  | p :: r => match eqB k p.1 x with | true => r | false => p :: delL k v x r
def putL (k v : Sh) (x : k.T) (y : v.T) (l : List (k.T × v.T)) : List (k.T × v.T) := insL k v x y (delL k v x l)
def itFree (n : Nat) : List (Nat × It) → Bool
  | [] => true
  | (_, .it (some m) _ _ _ _ _ _ _) :: r => !(Nat.beq m n) && itFree n r
  | (_, .it none _ _ _ _ _ _ _) :: r => itFree n r
  | (_, .mark _ _ _ _ _ _) :: r => itFree n r
def wrOk (lk : List Nat) (its : List (Nat × It)) (n : Nat) : Bool := !(lk.contains n) && itFree n its
def itLocks : List (Nat × It) → List Nat
  | [] => []
  | (_, .it (some m) _ _ _ _ _ _ _) :: r => m :: itLocks r
  | (_, .it none _ _ _ _ _ _ _) :: r => itLocks r
  | (_, .mark _ _ _ _ _ _) :: r => itLocks r
def unmark : List (Nat × It) → List (Nat × It)
  | [] => []
  | (i, .it a b c d e f g h) :: r => (i, .it a b c d e f g h) :: unmark r
  | (_, .mark _ _ _ _ _ _) :: r => unmark r
def itSet (id : Nat) (y : It) : List (Nat × It) → List (Nat × It)
  | [] => []
  | (i, x) :: r => match Nat.beq i id with | true => (i, y) :: r | false => (i, x) :: itSet id y r
def Rd.reg {α : Type} (k : List Nat → List (Nat × It) → List Node → Rd α) : Rd α := .res REG fun
  | .reg lk its H => k lk its H
  | _ => .fail
def zeroForm (P : Program) (t : TypeId) (ag : Bool) : Bool := match P.info? t with
  | some i => match i.zero with
    | some (.agg _) => ag
    | some _ => !ag
    | none => false
  | none => false
def keyOk (P : Program) (T : Tabs) (kt : TypeId) (ka : Bool) (k : Sh) : Bool := match ka with
  | true => T.eqs.contains kt && (match k with | .pair _ _ => true | _ => false)
  | false => match P.underlying kt, k with
    | some (.int a), .int b => decide (a = b)
    | some .string, .str => true
    | _, _ => false
def mapSh (P : Program) (T : Tabs) (t : TypeId) : Option ((Bool × Bool) × (Sh × Sh)) := match P.underlying t with
  | some (.map kt et) => match aggOf P kt, aggOf P et, get T.shs kt, get T.shs et with
    | some ka, some va, some k, some v => match k.flat && keyOk P T kt ka k && zeroForm P et va with | true => some ((ka, va), (k, v)) | false => none
    | _, _, _, _ => none
  | _ => none
def ofAV (ag : Bool) (s : Sh) (a : AV) : Option s.T := match ag, a with
  | true, .ag l => ofLeaves s l
  | false, a => match okLeaf a with | true => ofLeaves s [a] | false => none
  | _, _ => none
def toAV (ag : Bool) (s : Sh) (x : s.T) : AV := match ag with
  | true => .ag (leaves s x)
  | false => match leaves s x with | [a] => a | _ => .undef
def valAV (ag : Bool) (s : Sh) (a : AV) : Rd (s.T × Ws) := match ag, a with
  | true, .ag l => (dataLs l).bind fun (l, ws) => (Rd.ofO (ofLeaves s l)).bind fun x => .ret (x, ws)
  | false, a => match okLeaf a with
    | true => (dataL a).bind fun (y, ws) => (Rd.ofO (ofLeaves s [y])).bind fun x => .ret (x, ws)
    | false => .fail
  | _, _ => .fail
def regW (ws : Ws) (v : AV) (lk : List Nat) (its : List (Nat × It)) (H : List Node) : Rd Out := .ret ⟨v, (REG, some (.reg lk its H)) :: ws⟩
def loadR (P : Program) (T : Tabs) (t : TypeId) (st : Sh) : AV → Rd Out
  | .rfo u n off => match get T.shs u with
    | some su => Rd.reg fun _ _ H => .opt (getBox u su H n) fun x => (Rd.ofO (loadAV P t st.sz (leaves su x) off)).bind fun a => .ret ⟨a, []⟩
    | none => .fail
  | .rel e s n i off => Rd.reg fun _ _ H => .opt (getRow e s H n) fun l => .br (decide (0 ≤ i)) (.br (decide (i < l.length)) ((Rd.ofO (loadAV P t st.sz (leaves s (getI l i s.dflt)) off)).bind fun a => .ret ⟨a, []⟩) .fail) .fail
  | .pel s x => .opt x fun y => (Rd.ofO (loadAV P t st.sz (leaves s y) 0)).bind fun a => .ret ⟨a, []⟩
  | _ => .fail
def storeR (T : Tabs) (a : AV) (v : List AV) : Rd Out := match a with
  | .rfo u n off => match get T.shs u with
    | some su => Rd.reg fun lk its H => .br (wrOk lk its n) (.opt (getBox u su H n) fun x => (dataLs v).bind fun (v, ws) => if off + v.length ≤ su.sz then
        match ofLeaves su (splice (leaves su x) off v) with
        | some y => regW ws .undef lk (unmark its) (H.set n (.box u su y))
        | none => .fail else .fail) .fail
    | none => .fail
  | _ => .fail
def fieldR (T : Tabs) (t : TypeId) (o : Nat) : AV → Rd Out
  | .rf .ptr x => match get T.shs t with
    | some s => .br x.isSome (Rd.reg fun _ _ H => .opt (getBox t s H (x.getD 0)) fun _ => .ret ⟨.rfo t (x.getD 0) o, []⟩) .fail
    | none => .fail
  | .rfo u n off => .ret ⟨.rfo u n (off + o), []⟩
  | .rel e s n i off => .ret ⟨.rel e s n i (off + o), []⟩
  | _ => .fail
def nilR : AV → Rd Out
  | .rf .ptr x => .br x.isSome (.ret ⟨.rf .ptr x, []⟩) .fail
  | .rfo u n off => .ret ⟨.rfo u n off, []⟩
  | .rel e s n i off => .ret ⟨.rel e s n i off, []⟩
  | _ => .fail
def lenR (P : Program) (T : Tabs) (t : TypeId) : AV → Rd Out
  | .rf .map x => match mapSh P T t with
    | some ((ka, va), (k, v)) => .br x.isSome (Rd.reg fun _ _ H => .opt (getMap ka va k v H (x.getD 0)) fun l => .ret ⟨.int .i64 l.length, []⟩) (.ret ⟨.int .i64 0, []⟩)
    | none => .fail
  | .rf .sli x => match elemOf' P t with
    | some e => match get T.shs e with
      | some s => .br x.isSome (Rd.reg fun _ _ H => .opt (getRow e s H (x.getD 0)) fun l => .ret ⟨.int .i64 l.length, []⟩) (.ret ⟨.int .i64 0, []⟩)
      | none => .fail
    | none => .fail
  | .sub id n => .res id fun
    | .row _ _ l => match elemOf' P t with | some _ => .br (decide (n ≤ l.length)) (.ret ⟨.int .i64 n, []⟩) .fail | none => .fail
    | .fro _ l => match elemOf' P t with | some _ => .br (decide (n ≤ l.length)) (.ret ⟨.int .i64 n, []⟩) .fail | none => .fail
    | _ => .fail
  | _ => .fail
def indexR (e : TypeId) (se : Sh) (i : Int) : AV → Rd Out
  | .rf .sli x => .br x.isSome (Rd.reg fun _ _ H => .opt (getRow e se H (x.getD 0)) fun l => .br (decide (0 ≤ i)) (.br (decide (i < l.length)) (.ret ⟨.rel e se (x.getD 0) i 0, []⟩) .fail) .fail) .fail
  | .sub id n => .res id fun
    | .row e' s l => if e' = e ∧ se = s then .br (decide (n ≤ l.length)) (.br (decide (0 ≤ i)) (.br (decide (i < n)) (.ret ⟨.oelt id s.sz i 0, []⟩) .fail) .fail) .fail else .fail
    | .fro s l => if s = se then .br (decide (n ≤ l.length)) (.br (decide (0 ≤ i)) (.br (decide (i < n)) (.ret ⟨.elt s (getI l i s.dflt) 0, []⟩) .fail) .fail) .fail else .fail
    | _ => .fail
  | _ => .fail
def subR (se : Sh) (lo : Int) (hi : Option Int) : AV → Rd Out
  | .own id => .res id fun
    | .row _ s l => match hi with
      | some h => if s = se then .br (decide (lo = 0)) (.br (decide (0 ≤ h)) (.br (decide (h ≤ l.length)) (.ret ⟨.sub id h.toNat, []⟩) .fail) .fail) .fail else .fail
      | none => .fail
    | .fro s l => match hi with
      | some h => if s = se then .br (decide (lo = 0)) (.br (decide (0 ≤ h)) (.br (decide (h ≤ l.length)) (.ret ⟨.sub id h.toNat, []⟩) .fail) .fail) .fail else .fail
      | none => .fail
    | _ => .fail
  | .sub id n => .res id fun
    | .row _ s l => match hi with
      | some h => if s = se then .br (decide (lo = 0)) (.br (decide (0 ≤ h)) (.br (decide (h ≤ l.length)) (.br (decide (n ≤ l.length)) (.ret ⟨.sub id h.toNat, []⟩) .fail) .fail) .fail) .fail else .fail
      | none => .fail
    | .fro s l => match hi with
      | some h => if s = se then .br (decide (lo = 0)) (.br (decide (0 ≤ h)) (.br (decide (h ≤ l.length)) (.br (decide (n ≤ l.length)) (.ret ⟨.sub id h.toNat, []⟩) .fail) .fail) .fail) .fail else .fail
      | none => .fail
    | _ => .fail
  | _ => .fail
def appendR (P : Program) (e : TypeId) (s : Sh) (b : AV) : AV → Rd Out
  | .rf .sli x => (appSrc s b).bind fun ys => Rd.reg fun lk its H => .br x.isSome
      (.br (wrOk lk its (x.getD 0)) (.opt (getRow e s H (x.getD 0)) fun l => .br (appLim (bytesOf' P e) l.length ys.length) (regW [] (.rf .sli (some H.length)) lk its (H.set (x.getD 0) .gone ++ [.row e s (l ++ ys)])) .fail) .fail)
      (.br (appLim (bytesOf' P e) 0 ys.length) (regW [] (.rf .sli (some H.length)) lk its (H ++ [.row e s ys])) .fail)
  | _ => .fail
def lookupR (P : Program) (T : Tabs) (t : TypeId) (ok : Bool) (m kv : AV) : Rd Out := match mapSh P T t with
  | some ((ka, va), (k, v)) => (Rd.ofO (ofAV ka k kv)).bind fun x =>
    let fin (o : Option v.T) : Rd Out := .ret ⟨match ok with | true => .tup [toAV va v (o.getD v.dflt), .bool o.isSome] | false => toAV va v (o.getD v.dflt), []⟩
    match m with
    | .rf .map y => .br y.isSome (Rd.reg fun _ _ H => .opt (getMap ka va k v H (y.getD 0)) fun l => fin (lookL k v x l)) (fin none)
    | _ => .fail
  | none => .fail
def updateR (P : Program) (T : Tabs) (t : TypeId) (m kv xv : AV) : Rd Out := match mapSh P T t with
  | some ((ka, va), (k, v)) => (Rd.ofO (ofAV ka k kv)).bind fun x => (valAV va v xv).bind fun (y, ws) => match m with
    | .rf .map z => .br z.isSome (Rd.reg fun lk its H => .br (wrOk lk its (z.getD 0)) (.opt (getMap ka va k v H (z.getD 0)) fun l => regW ws .undef lk (unmark its) (H.set (z.getD 0) (.map ka va k v (putL k v x y l)))) .fail) .fail
    | _ => .fail
  | none => .fail
def deleteR (P : Program) (T : Tabs) (t : TypeId) (m kv : AV) : Rd Out := match mapSh P T t with
  | some ((ka, va), (k, v)) => (Rd.ofO (ofAV ka k kv)).bind fun x => match m with
    | .rf .map z => .br z.isSome (Rd.reg fun lk its H => .br (wrOk lk its (z.getD 0)) (.opt (getMap ka va k v H (z.getD 0)) fun l => regW [] (.tup []) lk (unmark its) (H.set (z.getD 0) (.map ka va k v (delL k v x l)))) .fail) (.ret ⟨.tup [], []⟩)
    | _ => .fail
  | none => .fail
def entryR (P : Program) (T : Tabs) (t : TypeId) (d : Nat) (m kv : AV) : Rd Out := match mapSh P T t with
  | some ((ka, va), (k, v)) => (Rd.ofO (ofAV ka k kv)).bind fun x => match m with
    | .rf .map z => .br (!(Nat.beq d REG)) (.br z.isSome (Rd.reg fun lk its H => .br (wrOk lk its (z.getD 0)) (.opt (getMap ka va k v H (z.getD 0)) fun l =>
        regW [(d, some .tok)] (.tup [toAV va v ((lookL k v x l).getD v.dflt), .stp d]) lk ((d, .mark (z.getD 0) ka va k v x) :: unmark its) (H.set (z.getD 0) (.map ka va k v (putL k v x ((lookL k v x l).getD v.dflt) l)))) .fail) .fail) .fail
    | _ => .fail
  | none => .fail
def entryStoreR (P : Program) (T : Tabs) (t : TypeId) (m sv xv : AV) : Rd Out := match mapSh P T t with
  | some ((ka, va), (k, v)) => (valAV va v xv).bind fun (y, ws) => match m, sv with
    | .rf .map z, .stp id => .br z.isSome (Rd.reg fun lk its H => match get its id with
      | some (.mark n ka' va' k' v' x) => if h : k' = k then (.br (Nat.beq n (z.getD 0)) (.br (wrOk lk its (z.getD 0)) (.opt (getMap ka va k v H (z.getD 0)) fun l =>
          match decide (ka' = ka ∧ va' = va ∧ v' = v) with
          | true => regW ws .undef lk (unmark its) (H.set (z.getD 0) (.map ka va k v (putL k v (h ▸ x) y l)))
          | false => .fail) .fail) .fail) else .fail
      | _ => .fail) .fail
    | _, _ => .fail
  | none => .fail
def rangeR (P : Program) (T : Tabs) (t : TypeId) (d : Nat) : AV → Rd Out
  | .rf .map z => match mapSh P T t with
    | some ((ka, va), (k, v)) => .br (!(Nat.beq d REG)) (Rd.reg fun lk its H => .br z.isSome
        (.opt (getMap ka va k v H (z.getD 0)) fun l => regW [(d, some .tok)] (.itr d) lk ((d, .it (some (z.getD 0)) ka va k v l none none) :: its) H)
        (regW [(d, some .tok)] (.itr d) lk ((d, .it none ka va k v [] none none) :: its) H)) .fail
    | none => .fail
  | _ => .fail
def nextR : AV → Rd Out
  | .itr id => Rd.reg fun lk its H => match get its id with
    | some (.it n ka va k v left _ (some p)) => match p with
      | some e => regW [] (.tup [.bool true, toAV ka k e.1, toAV va v e.2]) lk (itSet id (.it n ka va k v (delL k v e.1 left) (some e) none) its) H
      | none => regW [] (.tup [.bool false]) lk (itSet id (.it n ka va k v left none none) its) H
    | _ => .fail
  | _ => .fail
def curR : AV → Rd Out
  | .itr id => Rd.reg fun _ its _ => match get its id with
    | some (.it _ ka va k v _ (some e) none) => .ret ⟨.tup [toAV ka k e.1, toAV va v e.2], []⟩
    | _ => .fail
  | _ => .fail
def cloAV (f : Nat) : List AV → Rd Out
  | [] => .ret ⟨.fn f, []⟩
  | l => match l.all AV.pure1 with
    | true => .ret ⟨.fnc f l, []⟩
    | false => match l.all AV.pure2 with | true => .ret ⟨.clo f l, []⟩ | false => .fail
def pureO1 : AV → Bool
  | .rowv _ _ _ => true
  | a => a.pure1
def ownL : AV → Rd (AV × List Nat × Ws)
  | .own id => .res id fun
    | .row e s l => .ret (.rowv e s l, [id], [])
    | .fro s l => .ret (.sl s l, [], [])
    | _ => .fail
  | a => (dataL a).bind fun (y, ws) => .ret (y, [], ws)
def ownLs : List AV → Rd (List AV × List Nat × Ws)
  | [] => .ret ([], [], [])
  | a :: r => (ownL a).bind fun (x, i, w) => (ownLs r).bind fun (l, is, ws) => .ret (x :: l, i ++ is, w ++ ws)
def ownArg (P : Program) (t : TypeId) (a : AV) : Rd (AV × List Nat × Ws) :=
  match aggOf P t, a with
  | some true, .ag l => (ownLs l).bind fun (l, ids, ws) => match l.all pureO1 with
    | true => .ret (.ag l, ids, ws)
    | false => .fail
  | some false, a => match okLeaf a with
    | true => (ownL a).bind fun (x, ids, ws) => match pureO1 x with
      | true => .ret (x, ids, ws)
      | false => .fail
    | false => .fail
  | _, _ => .fail
def isClo : AV → Bool
  | .clo _ l => l.all AV.pure2
  | .fnc _ l => l.all AV.pure1
  | _ => false
def oneArg (P : Program) (T : Tabs) (own : Bool) (t : TypeId) (a : AV) : Rd (AV × List Nat × Ws) := match own with
  | true => ownArg P t a
  | false => match isClo a with
    | true => .ret (a, [], [])
    | false => (normArg P T t a).bind fun (x, ws) => .ret (x, [], ws)
def isPos (own : Option Nat) (i : Nat) : Bool := match own with | some j => Nat.beq j i | none => false
def allArgs (P : Program) (T : Tabs) (own : Option Nat) : Nat → List TypeId → List AV → Rd (List AV × List Nat × Ws)
  | _, [], [] => .ret ([], [], [])
  | i, t :: ts, a :: r => (oneArg P T (isPos own i) t a).bind fun (x, is, w) => (allArgs P T own (i + 1) ts r).bind fun (l, js, ws) => .ret (x :: l, is ++ js, w ++ ws)
  | _, _, _ => .fail
def unrow1 (d : Nat) : AV → AV
  | .rowv _ _ _ => .own d
  | a => a
def unrow2 (d : Nat) : AV → AV
  | .ag l => .ag (l.map (unrow1 d))
  | a => unrow1 d a
def unrow (d : Nat) : AV → AV
  | .tup l => .tup (l.map (unrow2 d))
  | a => unrow2 d a
def rowOf1 : AV → List RS
  | .rowv e s l => [.row e s l]
  | _ => []
def rowOf2 : AV → List RS
  | .ag l => l.flatMap rowOf1
  | a => rowOf1 a
def rowOf : AV → List RS
  | .tup l => l.flatMap rowOf2
  | a => rowOf2 a
def pureO2 : AV → Bool
  | .ag l => l.all pureO1
  | .fnc _ l => l.all AV.pure1
  | a => pureO1 a
def pureO : AV → Bool
  | .tup l => l.all pureO2
  | a => pureO2 a
def rfreeO1 : AV → Bool
  | .rowv _ s _ => s.rfree
  | a => a.rfree1
def rfreeO2 : AV → Bool
  | .ag l => l.all rfreeO1
  | .fnc _ l => l.all AV.rfree1
  | a => rfreeO1 a
def rfreeO : AV → Bool
  | .tup l => l.all rfreeO2
  | a => rfreeO2 a
def outWs (id : Nat) : AV → Ws
  | .rowv e s l => [(id, some (.row e s l))]
  | _ => [(id, none)]
def hasReg (b : Bool) (k : List Nat → List (Nat × It) → List Node → Rd Out) : Rd Out := match b with
  | true => Rd.reg k
  | false => k [] [] []
def hinL (b : Bool) (lk : List Nat) (its : List (Nat × It)) (H : List Node) : List AV := match b with
  | true => [.hin (itLocks its ++ lk) H]
  | false => []
def regL (b : Bool) (lk : List Nat) (its : List (Nat × It)) (H : List Node) : Ws := match b with
  | true => [(REG, some (.reg lk (unmark its) H))]
  | false => []
def outR (dst : Option Nat) (reg : Bool) (lk : List Nat) (its : List (Nat × It)) (ids : List Nat) (ws : Ws) (r : AV) : Rd Out := match r with
  | .outs v o H' => match pureO v && (reg || (rfreeO v && rfreeO o)) with
    | true =>
      let ws' : Ws := (match ids with | [id] => outWs id o | _ => []) ++ regL reg lk its H' ++ ws
      match rowOf v, dst with
      | [], _ => .ret ⟨v, ws'⟩
      | [r], some d => match Nat.beq d REG || ids.any (Nat.beq d) with
        | true => .fail
        | false => .ret ⟨unrow d v, (d, some r) :: ws'⟩
      | _, _ => .fail
    | false => .fail
  | _ => .fail
def idsOk (ids : List Nat) (ws : Ws) : Bool := match ids with
  | [] => true
  | [id] => (get ws id).isNone && !(Nat.beq id REG)
  | _ => false
def callG (P : Program) (T : Tabs) (dst : Option Nat) (g : Nat) (as caps : List AV) : Rd Out := match P.funcs[g]? with
  | some fn => match get T.specs g with
    | some sp => match sp.own.isNone && !sp.reg && caps.isEmpty with
      | true => (normArgs P T fn.params.toList as).bind fun (vs, ws) => Rd.ofTree (sp.f vs) fun r => match r.pure && r.rfree with
        | true => .ret ⟨r, match r.flat with | true => [] | false => ws⟩
        | false => .fail
      | false => (allArgs P T sp.own 0 fn.params.toList as).bind fun (vs, ids, ws) => match idsOk ids ws && caps.all AV.pure2 with
        | true => hasReg sp.reg fun lk its H => Rd.ofTree (sp.f (vs ++ caps ++ hinL sp.reg lk its H)) fun r => outR dst sp.reg lk its ids ws r
        | false => .fail
    | none => .fail
  | none => .fail
def step (P : Program) (T : Tabs) (o : Oper) : Rd Out :=
  let ret (a : AV) : Rd Out := .ret ⟨a, []⟩
  let new (r : RS) (v : Nat → AV) (ws : Ws) : Rd Out := match o.dst with
    | some d => .ret ⟨v d, (d, some r) :: ws⟩
    | none => .fail
  match o.op with
  | .move x | .assign x => (opd x).bind ret
  | .pick c x y => (opd c).bind fun
    | .bool b => .br b ((opd x).bind ret) ((opd y).bind ret)
    | _ => .fail
  | .alloc t => match T.objs.any (Nat.beq t) with
    | true => match get T.shs t with
      | some s => Rd.reg fun lk its H => regW [] (.rf .ptr (some H.length)) lk its (H ++ [.box t s s.dflt])
      | none => .fail
    | false => match get T.shs t with
      | some s => new (.box t (zleaves s)) (.ref · 0) []
      | none => .fail
  | .box t x => match T.objs.any (Nat.beq t) with
    | true => (opd x).bind fun a => match get T.shs t, aggOf P t with
      | some s, some ag => (valAV ag s a).bind fun (y, ws) => Rd.reg fun lk its H => regW ws (.rf .ptr (some H.length)) lk its (H ++ [.box t s y])
      | _, _ => .fail
    | false => match T.caps.any (Nat.beq t) with
     | true => (opd x).bind fun a => match get T.shs t, aggOf P t with
      | some s, some ag => (Rd.ofO (ofAV ag s a)).bind fun y => ret (.pel s (some y))
      | _, _ => .fail
     | false => (opd x).bind fun a => match get T.shs t, aggOf P t, a with
      | some s, some true, .ag l => if l.length = s.sz ∧ l.all okLeaf = true then new (.box t l) (.ref · 0) [] else .fail
      | some s, some false, a => if 1 = s.sz ∧ okLeaf a = true then new (.box t [a]) (.ref · 0) [] else .fail
      | _, _, _ => .fail
  | .build t ps => match get T.shs t, placesOk P t with
    | some s, true => (partsOf ps.toList).bind fun l => match setParts P T t l (zleaves s) with
      | some r => ret (.ag r)
      | none => .fail
    | _, _ => .fail
  | .buildSlice t n ps => match elemOf' P t with
    | some e => match get T.shs e with
      | some s => if n = 0 ∧ ps = #[] then new (.row e s []) (.own ·) [] else if n * s.sz ≤ 1000 ∧ 0 < n then (partsOf ps.toList).bind fun l => if l.length = n then (litEls P e s 0 l).bind fun (xs, ws) => new (.row e s xs) (.own ·) ws else .fail else .fail
      | none => .fail
    | none => .fail
  | .load t a => match get T.shs t with
    | some st => (opd a).bind fun
      | .ref id off => .res id fun
        | .box _ cs => (Rd.ofO (loadAV P t st.sz cs off)).bind ret
        | _ => .fail
      | .elt s x off => (Rd.ofO (loadAV P t st.sz (leaves s x) off)).bind ret
      | .oelt id sz i off => .res id fun
        | .row _ s l => if s.sz = sz then .br (decide (0 ≤ i)) (.br (decide (i < l.length)) ((Rd.ofO (loadAV P t st.sz (leaves s (getI l i s.dflt)) off)).bind ret) .fail) .fail else .fail
        | _ => .fail
      | a => loadR P T t st a
    | none => .fail
  | .store t a x => match get T.shs t with
    | some st => (opd a).bind fun a => (opd x).bind fun v => match aggOf P t, v with
      | some true, .ag l => storeAt st a l
      | some false, v => if okLeaf v = true then storeAt st a [v] else .fail
      | _, _ => .fail
    | none => .fail
  | .nilCheck x => (opd x).bind fun
    | .ref id off => ret (.ref id off)
    | .elt s x off => ret (.elt s x off)
    | .oelt id sz i off => ret (.oelt id sz i off)
    | .pel s x => .opt x fun y => ret (.elt s y 0)
    | a => nilR a
  | .binOp op t x y _ => (opd x).bind fun a => (opd y).bind fun b => (binAV P T op t (isNilC x) (isNilC y) a b).bind ret
  | .unOp op _ x => (opd x).bind fun
    | .bool b => match op with | .not => ret (.bool !b) | _ => .fail
    | .int k n => match op with | .neg => ret (.int k (k.wrap (0 - n))) | _ => .fail
    | _ => .fail
  | .convert src dst x => (opd x).bind fun
    | .int _ n => match P.underlying src, P.underlying dst with
      | some _, some (.int k) => ret (.int k (k.wrap n))
      | _, _ => .fail
    | .str s => match P.underlying src, P.underlying dst with
      | some _, some .string => ret (.str s)
      | some .string, some (.slice e) => match P.underlying e with
        | some (.int .u8) => ret (.sl (.int .u8) (u8s s))
        | _ => .fail
      | _, _ => .fail
    | a => match elemOf' P src, P.underlying dst with
      | some e, some .string => match P.underlying e with
        | some (.int .u8) => (appSrc (.int .u8) a).bind fun l => ret (.str (ofU8s l))
        | _ => .fail
      | _, _ => .fail
  | .makeInterface t x => (opd x).bind fun
    | .int .i64 n => if t = T.errno then ret (.err (some ([], n))) else .fail
    | .ref id off => match isPtrT P t with
      | true => if t = T.fptr then .res id fun
          | .box u [.int .i64 k, .int .i64 n, .err e] => if u = T.fault ∧ off = 0 then .opt e fun e => .ret ⟨.err (some ((k, n) :: e.1, e.2)), [(id, none)]⟩ else .fail
          | _ => .fail
        else if t = T.asPtr ∨ t = T.asNum then ret (.iref t id off) else .fail
      | false => .fail
    | _ => .fail
  | .fieldAddr t x f => match fieldOf P t f with
    | some (o, ft) => match get T.shs ft with
      | some _ => (opd x).bind fun
        | .ref id off => ret (.ref id (off + o))
        | .elt s x off => ret (.elt s x (off + o))
        | .oelt id sz i off => ret (.oelt id sz i (off + o))
        | .pel s x => .opt x fun y => ret (.elt s y o)
        | a => fieldR T t o a
      | none => .fail
    | none => .fail
  | .field t x f => match fieldOf P t f with
    | some (o, ft) => match get T.shs ft with
      | some s => (opd x).bind fun
        | .ag l => (Rd.ofO (loadAV P ft s.sz l o)).bind ret
        | _ => .fail
      | none => .fail
    | none => .fail
  | .indexAddr t x i => match elemOf' P t with
    | some e => match get T.shs e with
      | some se => (opd x).bind fun xs => (opd i).bind fun
        | .int _ i => match xs with
          | .sl s l => if s = se then .br (decide (0 ≤ i)) (.br (decide (i < l.length)) (ret (.elt s (getI l i s.dflt) 0)) .fail) .fail else .fail
          | .own id => .res id fun
            | .row e' s l => if e' = e ∧ s = se then .br (decide (0 ≤ i)) (.br (decide (i < l.length)) (ret (.oelt id s.sz i 0)) .fail) .fail else .fail
            | .fro s l => if s = se then .br (decide (0 ≤ i)) (.br (decide (i < l.length)) (ret (.elt s (getI l i s.dflt) 0)) .fail) .fail else .fail
            | _ => .fail
          | xs => indexR e se i xs
        | _ => .fail
      | none => .fail
    | none => .fail
  | .index t x i => match P.underlying t with
    | some .string => (opd x).bind fun
      | .str s => (opd i).bind fun
        | .int _ i => .br (decide (0 ≤ i)) (.br (decide (i < s.size)) (ret (.int .u8 ((s.data.toList.getD i.toNat 0).toNat : Int))) .fail) .fail
        | _ => .fail
      | _ => .fail
    | _ => .fail
  | .slice t x lo hi none => (opd x).bind fun
    | .str s => match P.underlying t with
      | some .string => (bound lo 0).bind fun l => (bound hi s.size).bind fun h =>
        .br (decide (0 ≤ l)) (.br (decide (l ≤ h)) (.br (decide (h ≤ s.size)) (ret (.str (s.extract l.toNat h.toNat))) .fail) .fail) .fail
      | _ => .fail
    | .sl s xs => match elemOf' P t with
      | some e => match get T.shs e with
        | some se => if s = se then (bound lo 0).bind fun l => (bound hi xs.length).bind fun h =>
          .br (decide (0 ≤ l)) (.br (decide (l ≤ h)) (.br (decide (h ≤ xs.length)) (ret (.sl s ((xs.drop l.toNat).take (h - l).toNat))) .fail) .fail) .fail else .fail
        | none => .fail
      | none => .fail
    | a => match elemOf' P t with
      | some e => match get T.shs e with
        | some se => (bound lo 0).bind fun l => match hi with
          | some h => (opd h).bind fun | .int _ h => subR se l (some h) a | _ => .fail
          | none => .fail
        | none => .fail
      | none => .fail
  | .extract x i => (opd x).bind fun
    | .tup l => (Rd.ofO (l[i]?)).bind ret
    | _ => .fail
  | .call c => match c.callee with
    | .builtin .len => match c.args.toList, c.argTypes.toList with
      | [x], [t] => (opd x).bind fun
        | .str s => match P.underlying t with | some .string => ret (.int .i64 s.size) | _ => .fail
        | .nsl => match elemOf' P t with | some _ => ret (.int .i64 0) | none => .fail
        | .sl _ l => match elemOf' P t with | some _ => ret (.int .i64 l.length) | none => .fail
        | .own id => .res id fun
          | .row _ _ l => match elemOf' P t with | some _ => ret (.int .i64 l.length) | none => .fail
          | .fro _ l => match elemOf' P t with | some _ => ret (.int .i64 l.length) | none => .fail
          | _ => .fail
        | a => lenR P T t a
      | _, _ => .fail
    | .builtin .delete => match c.args.toList, c.argTypes.toList with
      | [m, k], t :: _ => (opd m).bind fun m => (opd k).bind fun k => deleteR P T t m k
      | _, _ => .fail
    | .builtin .min => match c.args.toList with
      | [x, y] => (opd x).bind fun a => (opd y).bind fun b => match a, b with
        | .int k m, .int _ n => ret (.int k (cond (decide (n < m)) n m))
        | _, _ => .fail
      | _ => .fail
    | .builtin .max => match c.args.toList with
      | [x, y] => (opd x).bind fun a => (opd y).bind fun b => match a, b with
        | .int k m, .int _ n => ret (.int k (cond (decide (m < n)) n m))
        | _, _ => .fail
      | _ => .fail
    | .builtin .append => match c.args.toList, c.argTypes.toList with
      | [x, y], [t, t'] => if t' = t then match elemOf' P t with
        | some e => if bytesOf' P e = 0 then .fail else match get T.shs e with
          | some s => (opd x).bind fun a => (opd y).bind fun b => (appSrc s b).bind fun ys => match a with
            | .nsl => .br (appLim (bytesOf' P e) 0 ys.length) (new (.row e s ys) (.own ·) []) .fail
            | .own id => .res id fun
              | .row e' s' l => if e' = e then match castL s' s l with
                | some xs => .br (appLim (bytesOf' P e) xs.length ys.length) (new (.row e s (xs ++ ys)) (.own ·) [(id, none)]) .fail
                | none => .fail else .fail
              | _ => .fail
            | a => appendR P e s b a
          | none => .fail
        | none => .fail else .fail
      | _, _ => .fail
    | .value (.func g) => match Nat.beq (g + 1) T.asF with
      | true => match c.args.toList with
        | [x, y] => (opd x).bind fun
          | .err e => (opd y).bind fun
            | .iref t id 0 => .res id fun
              | .box u [_] => match Nat.beq t T.asPtr with
                | true => .br (errHead e).isSome (.opt (errHead e) fun x => .ret ⟨.bool true, [(id, some (.box u [.elt FSh x 0]))]⟩) (ret (.bool false))
                | false => match Nat.beq t T.asNum with
                  | true => .br (Option.isSome e) (.opt e fun x => .ret ⟨.bool true, [(id, some (.box u [.int .i64 x.2]))]⟩) (ret (.bool false))
                  | false => .fail
              | _ => .fail
            | _ => .fail
          | _ => .fail
        | _ => .fail
      | false => (opds c.args.toList).bind fun as => callG P T o.dst g as []
    | .value (.tmp t) => (opd (.tmp t)).bind fun
      | .fn g => (opds c.args.toList).bind fun as => callG P T o.dst g as []
      | .clo g caps => (opds c.args.toList).bind fun as => callG P T o.dst g as caps
      | .fnc g caps => (opds c.args.toList).bind fun as => callG P T o.dst g as caps
      | _ => .fail
    | _ => .fail
  | .makeMap t none => match mapSh P T t with
    | some ((ka, va), (k, v)) => Rd.reg fun lk its H => regW [] (.rf .map (some H.length)) lk its (H ++ [.map ka va k v []])
    | none => .fail
  | .lookup t m k ok => (opd m).bind fun m => (opd k).bind fun k => lookupR P T t ok m k
  | .mapUpdate t m k x => (opd m).bind fun m => (opd k).bind fun k => (opd x).bind fun x => updateR P T t m k x
  | .mapEntry t m k => match o.dst with
    | some d => (opd m).bind fun m => (opd k).bind fun k => entryR P T t d m k
    | none => .fail
  | .entryStore t m s x => (opd m).bind fun m => (opd s).bind fun s => (opd x).bind fun x => entryStoreR P T t m s x
  | .range t x => match o.dst with
    | some d => (opd x).bind fun x => rangeR P T t d x
    | none => .fail
  | .next it false => (opd it).bind nextR
  | .entry it => (opd it).bind curR
  | .makeFunc (.func f) first caps => match first.size with
    | 0 => (opds caps.toList).bind (cloAV f)
    | _ => .fail
  | _ => .fail
where
  bound : Option Operand → Nat → Rd Int
    | some x, _ => (opd x).bind fun | .int _ i => .ret i | _ => .fail
    | none, n => .ret n
  storeAt (st : Sh) (a : AV) (v : List AV) : Rd Out :=
    if v.length = st.sz ∧ v.all okLeaf = true then match a with
      | .ref id off => .res id fun
        | .box t cs => if off + v.length ≤ cs.length then .ret ⟨.undef, [(id, some (.box t (splice cs off v)))]⟩ else .fail
        | _ => .fail
      | .oelt id sz i off => .res id fun
        | .row e s l => (dataLs v).bind fun (v, ws) => if s.sz = sz ∧ off + v.length ≤ s.sz then
          match ofLeaves s (splice (leaves s (getI l i s.dflt)) off v), get ws id with
          | some x, none => .br (decide (0 ≤ i)) (.br (decide (i < l.length)) (.ret ⟨.undef, (id, some (.row e s (l.set i.toNat x))) :: ws⟩) .fail) .fail
          | _, _ => .fail else .fail
        | _ => .fail
      | a => storeR T a v
    else .fail
end Go.Pev
/- The pure evaluator, part C: regions, code, loops, functions. Own text, over any program. -/
namespace Go.Pev
abbrev R := Option AV
structure Tr where
  dst : Option Nat
  rdS : List Nat
  rdR : List Nat
  v : AV
  ws : Ws
def Rd.run {α : Type} (E : Env) : Rd α → List Nat → List Nat → (α → List Nat → List Nat → R) → R
  | .ret a, s, r, k => k a s r
  | .fail, _, _, _ => none
  | .slot t f, s, r, k => match get E.sl t with
    | some a => (f a).run E (t :: s) r k
    | none => none
  | .res id f, s, r, k => match getR E.rs id with
    | some a => (f a).run E s (id :: r) k
    | none => none
  | .br b x y, s, r, k => cond b (x.run E s r k) (y.run E s r k)
  | .opt o f, s, r, k => match o with
    | some a => (f a).run E s r k
    | none => none
def rsMent (id : Nat) (l : List (Nat × Option RS)) : Bool := Ws.ment id l || Nat.beq id 7000
def okNew (E : Env) (dst : Option Nat) (ws : Ws) : Bool :=
  match dst with
  | none => true
  | some d => match get ws d with
    | some (some .tok) => !(slMent d E.sl) && !(rsMent d E.rs)
    | some (some r) => !(slMent d E.sl) && !(rsMent d E.rs) && !(Ws.ment d ws) && !(r.ment d)
    | _ => true
def upd (E : Env) (dst : Option Nat) (o : Out) : Env :=
  ⟨match dst with | some d => (d, o.v) :: E.sl | none => E.sl, o.ws ++ E.rs⟩
def evalOp (P : Program) (T : Tabs) (ops : Array Oper) (o : Oper) (E : Env) (k : Env → Tr → R) : R :=
  match o.guard with
  | none => go E []
  | some (g, want) => match (ops[g]?).bind (·.dst) with
    | none => none
    | some t => match get E.sl t with
      | some (.bool b) => cond b (br t want true) (br t want false)
      | some .undef => skip E [t]
      | _ => none
where
  go (E : Env) (s : List Nat) : R :=
    (step P T o).run E s [] fun out s r => match okNew E o.dst out.ws with
      | true => k (upd E o.dst out) ⟨o.dst, s, r, out.v, out.ws⟩
      | false => none
  skip (E : Env) (s : List Nat) : R := k (upd E o.dst ⟨.undef, []⟩) ⟨o.dst, s, [], .undef, []⟩
  br (t : Nat) (want b : Bool) : R :=
    let E' : Env := ⟨(t, .bool b) :: E.sl, E.rs⟩
    match want, b with
    | true, true => go E' [t]
    | false, false => go E' [t]
    | _, _ => skip E' [t]
def evalOps (P : Program) (T : Tabs) (ops : Array Oper) : List Oper → Env → List Tr → (Env → List Tr → R) → R
  | [], E, tr, k => k E tr
  | o :: r, E, tr, k => evalOp P T ops o E fun E' t => evalOps P T ops r E' (t :: tr) k
def predsGo (ops : List Oper) (done : List Nat) : List Nat :=   -- done: reversed, of the earlier ones
  match ops with
  | [] => done.reverse
  | o :: r =>
    let n := done.length
    let m := o.after.toList.foldl (fun m e => match Region.binds .any e, Nat.blt e.on n with
      | true, true => m ||| (1 <<< e.on) ||| (done.getD (n - 1 - e.on) 0)
      | _, _ => m) 0
    predsGo r (m :: done)
def meets (a b : List Nat) : Bool := a.any fun x => b.any fun y => Nat.beq x y
def wids (w : Ws) : List Nat := w.map (·.1)
def dsts (t : Tr) : List Nat := match t.dst with | some d => [d] | none => []
def news (t : Tr) : List Nat := match t.dst with | some d => (match get t.ws d with | some (some _) => [d] | _ => []) | none => []
def trMent (id : Nat) (t : Tr) : Bool := t.v.ment id || Ws.ment id t.ws
def apart (x y : Tr) : Bool :=
  !(meets (dsts x) (y.rdS ++ dsts y)) && !(meets x.rdS (dsts y)) && !(meets (wids x.ws) (y.rdR ++ wids y.ws)) && !(meets x.rdR (wids y.ws)) &&
  !((news x).any fun d => trMent d y) && !((news y).any fun d => trMent d x)
def apartAll (x : Tr) (i : Nat) : List Tr → List Nat → Bool
  | [], _ => true
  | y :: r, p :: ps => (p.testBit i || apart x y) && apartAll x i r ps
  | _ :: _, [] => false
def drawOkGo (i : Nat) : List Tr → List Nat → Bool
  | [], _ => true
  | x :: r, _ :: ps => apartAll x i r ps && drawOkGo (i + 1) r ps
  | _ :: _, [] => false
def drawOk (ops : List Oper) (tr : List Tr) : Bool := drawOkGo 0 tr (predsGo ops [])
def ev {α : Type} (sl : Nat → Option AV) (rs : Nat → Option RS) : Rd α → List Nat → List Nat → Option (α × List Nat × List Nat)
  | .ret a, s, r => some (a, s, r)
  | .fail, _, _ => none
  | .slot t f, s, r => match sl t with
    | some a => ev sl rs (f a) (t :: s) r
    | none => none
  | .res id f, s, r => match rs id with
    | some a => ev sl rs (f a) s (id :: r)
    | none => none
  | .br b x y, s, r => match b with
    | true => ev sl rs x s r
    | false => ev sl rs y s r
  | .opt o f, s, r => match o with
    | some a => ev sl rs (f a) s r
    | none => none
inductive An where
  | ownS (t id : Nat) (e : TypeId)
  | ownB (b off id : Nat) (e : TypeId)
  | keep (ss rs : List Nat)
  | dat (t : Nat) (s : Sh)
  | datB (b : Nat) (s : Sh)
abbrev Orc := Env → (Exit → Env → R) → R
structure Anns where
  l : List (Nat × List An)
  orc : List (Nat × Orc)
  N : Nat
  rng : List (Nat × Nat) := []
  ro : List (Nat × (Nat × (TypeId × Sh))) := []
  outs : Option Bool := none
  nils : List Nat := []
noncomputable def relR {α ρ : Type} (W : (α → Prop) → Prop) (f : α → Option ρ) : Option ρ := open Classical in if h : ∃ r, W (fun a => f a = some r) then some (Classical.choose h) else none
def anyW {α : Type} (l : List α) (p : α → Prop) : Prop := l ≠ [] ∧ ∀ a ∈ l, p a
theorem relR_some {α ρ : Type} {W : (α → Prop) → Prop} {f : α → Option ρ} {r : ρ} (h : relR W f = some r) : W fun a => f a = some r := by
  unfold relR at h
  split at h
  · rename_i hh
    have := Classical.choose_spec hh
    rw [Option.some.inj h] at this
    exact this
  · cases h
theorem relR_eq {α ρ : Type} {W : (α → Prop) → Prop} {f : α → Option ρ} {r : ρ} (hc : ∀ p q : α → Prop, W p → W q → W fun a => p a ∧ q a) (hm : ∀ p q : α → Prop, (∀ a, p a → q a) → W p → W q) (hs : ¬ W fun _ => False) (h : W fun a => f a = some r) : relR W f = some r := by
  unfold relR
  have hh : ∃ r, W (fun a => f a = some r) := ⟨r, h⟩
  rw [dif_pos hh]
  have hcs := Classical.choose_spec hh
  apply Classical.byContradiction
  intro hne
  refine hs (hm _ _ (fun a ha => ?_) (hc _ _ h hcs))
  exact hne (ha.2.symm.trans ha.1)
theorem anyW_eq {α ρ : Type} {l : List α} {f : α → Option ρ} {r : ρ} (hl : l ≠ []) (h : ∀ a ∈ l, f a = some r) : relR (anyW l) f = some r := by
  refine relR_eq (fun p q hp hq => ⟨hp.1, fun a ha => ⟨hp.2 a ha, hq.2 a ha⟩⟩) (fun p q hpq hp => ⟨hp.1, fun a ha => hpq a (hp.2 a ha)⟩) (fun h0 => ?_) ⟨hl, h⟩
  cases l with
  | nil => exact hl rfl
  | cons a l => exact h0.2 a List.mem_cons_self
def firstRegion : Code → Option Nat
  | .region id _ _ => some id
  | .seq a b => match firstRegion a with | some i => some i | none => firstRegion b
  | .cond _ x y => match firstRegion x with | some i => some i | none => firstRegion y
  | .block _ c => firstRegion c
  | .loop c => firstRegion c
  | _ => none
def annOut (A : Anns) (c : Code) : Option (List An) := match firstRegion c with | some i => get A.l (i + 100000) | none => none
def keepL {α : Type} (l : List (Nat × α)) : List Nat → List (Nat × α)
  | [] => []
  | t :: r => match get l t with | some a => (t, a) :: keepL l r | none => keepL l r
def itKeep (ids : List Nat) : List (Nat × It) → List (Nat × It)
  | [] => []
  | (_, .mark _ _ _ _ _ _) :: r => itKeep ids r
  | (i, .it a b c d e f g h) :: r => match ids.any (Nat.beq i) with | true => (i, .it a b c d e f g h) :: itKeep ids r | false => itKeep ids r
def itEnd : List (Nat × It) → List (Nat × It)
  | [] => []
  | (i, .it a b c d e f _ h) :: r => (i, .it a b c d e f none h) :: itEnd r
  | (i, .mark a b c d e f) :: r => (i, .mark a b c d e f) :: itEnd r
def cutR (ids : List Nat) : RS → RS
  | .reg lk its H => .reg lk (itEnd (itKeep ids its)) H
  | a => a
def keepR (ids : List Nat) (l : List (Nat × Option RS)) : List Nat → List (Nat × Option RS)
  | [] => []
  | t :: r => match get l t with | some (some a) => (t, some (cutR ids a)) :: keepR ids l r | _ => keepR ids l r
def freshId (E : Env) (id : Nat) : Bool := !(slMent id E.sl) && !(rsMent id E.rs)
def asOwn (T : Tabs) (E : Env) (a : AV) (id : Nat) (e : TypeId) : Option (Ws) :=
  match a with
  | .own x => match getR E.rs x, freshId E id with
    | some (.row e' s l), true => some [(id, some (.row e' s l)), (x, none)]
    | _, _ => none
  | .nsl => match get T.shs e, freshId E id with
    | some s, true => some [(id, some (.row e s []))]
    | _, _ => none
  | _ => none
def isOwn (a : AV) (id : Nat) : Bool := match a with | .own x => Nat.beq x id | _ => false
def datNorm (E : Env) (s : Sh) (a : AV) : Option (AV × Ws) :=
  match ev (get E.sl) (getR E.rs) (dataLs a.lv) [] [] with
  | some ((l, ws), _, _) => match ofLeaves s l with
    | some x => match a with
      | .ag _ => some (.ag (leaves s x), ws)
      | a => match okLeaf a, leaves s x with
        | true, [y] => some (y, ws)
        | _, _ => none
    | none => none
  | none => none
def datCells (E : Env) (s : Sh) (cs : List AV) : Option (List AV × Ws) :=
  match ev (get E.sl) (getR E.rs) (dataLs cs) [] [] with
  | some ((l, ws), _, _) => match ofLeaves s l with
    | some x => some (leaves s x, ws)
    | none => none
  | none => none
def prep1 (T : Tabs) (E : Env) : An → Option Env
  | .ownS t id e => match get E.sl t with
    | some a => match isOwn a id with
      | true => some E
      | false => match asOwn T E a id e with
        | some ws => some ⟨(t, .own id) :: E.sl, ws ++ E.rs⟩
        | none => none
    | none => none
  | .ownB b off id e => match getR E.rs b with
    | some (.box t cs) => match (cs.drop off).head? with
      | some a => match isOwn a id with
        | true => some E
        | false => match asOwn T E a id e with
          | some ws => if off < cs.length ∧ b ≠ id then some ⟨E.sl, (b, some (.box t (splice cs off [.own id]))) :: ws ++ E.rs⟩ else none
          | none => none
      | none => none
    | _ => none
  | .keep ss rs => some ⟨keepL E.sl ss, keepR rs E.rs rs⟩
  | .dat t s => match get E.sl t with
    | some a => match datNorm E s a with
      | some (y, ws) => some ⟨(t, y) :: E.sl, ws ++ E.rs⟩
      | none => none
    | none => none
  | .datB b s => match getR E.rs b with
    | some (.box t cs) => match datCells E s cs with
      | some (cs', ws) => some ⟨E.sl, (b, some (.box t cs')) :: ws ++ E.rs⟩
      | none => none
    | _ => none
def prep (T : Tabs) : List An → Env → Option Env
  | [], E => some E
  | a :: r, E => match prep1 T E a with
    | some E' => prep T r E'
    | none => none
def annOf (A : Anns) (c : Code) : List An := match firstRegion c with | some i => (match get A.l i with | some l => l | none => []) | none => []
def orcOf (A : Anns) (c : Code) : Option Orc := match firstRegion c with | some i => get A.orc i | none => none
def loopE (pr : Env → Option Env) (f : Env → (Exit → Env → R) → R) : Nat → Env → (Exit → Env → R) → R
  | 0, _, _ => none
  | n + 1, E, k => f E fun x E' => match x with
    | .normal => match pr E' with
      | some E2 => loopE pr f n E2 k
      | none => none
    | x => k x E'
def rngOf (A : Anns) (c : Code) : Option Nat := match firstRegion c with | some i => get A.rng i | none => none
def pendE (E : Env) (id : Nat) (lk : List Nat) (its : List (Nat × It)) (H : List Node) (n : Option Nat) (ka va : Bool) (k v : Sh) (left : List (k.T × v.T)) (cur : Option (k.T × v.T)) (p : Option (k.T × v.T)) : Env :=
  ⟨E.sl, (REG, some (.reg lk (itSet id (.it n ka va k v left cur (some p)) its) H)) :: E.rs⟩
noncomputable def loopRG (pr : Env → Option Env) (f : Env → (Exit → Env → R) → R) (id : Nat) : Nat → Env → (Exit → Env → R) → R
  | 0, _, _ => none
  | n + 1, E, k => match getR E.rs REG with
    | some (.reg lk its H) => match get its id with
      | some (.it m ka va ks vs left cur none) =>
        let g (p : Option (ks.T × vs.T)) : R := f (pendE E id lk its H m ka va ks vs left cur p) fun x E' => match x with
          | .normal => match pr E' with
            | some E2 => loopRG pr f id n E2 k
            | none => none
          | x => k x E'
        cond left.isEmpty (g none) (relR (anyW left) fun e => g (some e))
      | _ => none
    | _ => none
def outK (T : Tabs) (A : Anns) (c : Code) (k : Exit → Env → R) : Exit → Env → R :=
  match annOut A c with
  | none => k
  | some l => fun x E => match prep T l E with
    | some E' => k x E'
    | none => none
def condAV (E : Env) : Operand → Option Bool
  | .tmp t => match get E.sl t with | some (.bool b) => some b | _ => none
  | .const (.bool b) => some b
  | _ => none
def isNext : Op → Bool
  | .next (.tmp _) false => true
  | _ => false
def headNext : Code → Bool
  | .region _ ops draw => match draw with
    | true => false
    | false => match ops.toList with
      | o :: _ => o.guard.isNone && isNext o.op
      | [] => false
  | .seq a _ => headNext a
  | .block _ c => headNext c
  | _ => false
noncomputable def loopX (A : Anns) (c : Code) (pr : Env → Option Env) (f : Env → (Exit → Env → R) → R) : Nat → Env → (Exit → Env → R) → R := match rngOf A c with
  | some id => match headNext c with
    | true => loopRG pr f id
    | false => fun _ _ _ => none
  | none => loopE pr f
def isNilS : Operand → Bool
  | .const (.slice none 0 0) => true
  | _ => false
def nilEmp (E : Env) : AV → Option Bool
  | .sl _ l => some l.isEmpty
  | .own id => match getR E.rs id with
    | some (.row _ _ l) => some l.isEmpty
    | _ => none
  | _ => none
def nilLast (P : Program) (o : Oper) (E : Env) : Option (Nat × List Bool) := match o.guard, o.dst, o.op with
  | none, some d, .binOp op t (.tmp x) y _ => match isNilS y, elemOf' P t, (get E.sl x).bind (nilEmp E) with
    | true, some _, some em => match op with
      | .eql => some (d, cond em [true, false] [false])
      | .neq => some (d, cond em [true, false] [true])
      | _ => none
    | _, _, _ => none
  | _, _, _ => none
def splitLast : List Oper → Option (List Oper × Oper)
  | [] => none
  | [o] => some ([], o)
  | o :: p :: r => match splitLast (p :: r) with
    | some (l, q) => some (o :: l, q)
    | none => none
noncomputable def nilRegion (P : Program) (T : Tabs) (ops : Array Oper) (draw : Bool) (E : Env) (k : Exit → Env → R) : R := match draw, splitLast ops.toList with
  | false, some (pre, o) => evalOps P T ops pre E [] fun E' _ => match nilLast P o E' with
    | some (d, bs) => relR (anyW bs) fun b => k .normal ⟨(d, .bool b) :: E'.sl, E'.rs⟩
    | none => none
  | _, _ => none
def isNilR (A : Anns) (id : Nat) (ops : Array Oper) : Bool := A.nils.any (Nat.beq id) && !(match ops.toList with | o :: _ => isNext o.op | [] => false)
noncomputable def evalC (P : Program) (T : Tabs) (A : Anns) : Code → Env → (Exit → Env → R) → R
  | .skip, E, k => k .normal E
  | .region id ops draw, E, k => match isNilR A id ops with
    | true => nilRegion P T ops draw E k
    | false => evalOps P T ops ops.toList E [] fun E' tr => match draw with
      | false => k .normal E'
      | true => match drawOk ops.toList tr.reverse with
        | true => k .normal E'
        | false => none
  | .seq a b, E, k => evalC P T A a E fun x E' => match x with
    | .normal => evalC P T A b E' k
    | x => k x E'
  | .cond c x y, E, k => match condAV E c with
    | some b => cond b (evalC P T A x E k) (evalC P T A y E k)
    | none => none
  | .block id c, E, k => evalC P T A c E fun x E' => match x with
    | .exit i => match Nat.beq i id with
      | true => k .normal E'
      | false => k (.exit i) E'
    | x => k x E'
  | .loop c, E, k => match prep T (annOf A c) E with
    | some E' => match orcOf A c with
      | some o => o E' k
      | none => loopX A c (prep T (annOf A c)) (evalC P T A c) A.N E' (outK T A c k)
    | none => none
  | .exit id, E, k => k (.exit id) E
  | .ret, E, k => k .ret E
  | _, _, _ => none
def loopsOf : Code → List Code
  | .seq a b => loopsOf a ++ loopsOf b
  | .cond _ x y => loopsOf x ++ loopsOf y
  | .block _ c => loopsOf c
  | .loop c => c :: loopsOf c
  | _ => []
def loopsF (P : Program) (f : Nat) : List Code :=
  match P.funcs[f]? with
  | some fn => match fn.body with | some c => loopsOf c | none => []
  | none => []
def dataV (E : Env) : AV → Option AV
  | .own id => match getR E.rs id with
    | some (.row _ s l) => some (.sl s l)
    | some (.fro s l) => some (.sl s l)
    | _ => none
  | a => some a
def dataVs (E : Env) : List AV → Option (List AV)
  | [] => some []
  | a :: r => match dataV E a, dataVs E r with
    | some x, some l => some (x :: l)
    | _, _ => none
def finOne (P : Program) (T : Tabs) (E : Env) (t : TypeId) : ResultVar → R
  | .tmp i => match get E.sl i with
    | some a => match aggFit P t a, dataVs E a.lv with
      | true, some l => normAV P T t l
      | _, _ => none
    | none => none
  | .cell i t' => match get E.sl i with
    | some (.ref id 0) => match getR E.rs id with
      | some (.box u cs) => if u = t' ∧ t' = t then match dataVs E cs with
        | some l => normAV P T t l
        | none => none else none
      | _ => none
    | _ => none
def backL (E : Env) (e : TypeId) (s : Sh) : AV → Option (AV × List Nat)
  | .own id => match getR E.rs id with
    | some (.row e' s' l) => if e' = e ∧ s' = s then some (.rowv e' s' l, [id]) else none
    | _ => none
  | .nsl => some (.rowv e s [], [])
  | _ => none
def backLs (E : Env) (j : Nat) (e : TypeId) (s : Sh) : Nat → List AV → Option (List AV × List Nat)
  | _, [] => some ([], [])
  | i, a :: r => match (match Nat.beq i j with
      | true => backL E e s a
      | false => match a.pure1 with | true => some (a, []) | false => none), backLs E j e s (i + 1) r with
    | some (x, is), some (l, js) => some (x :: l, is ++ js)
    | _, _ => none
def finRow (P : Program) (E : Env) (t : TypeId) (j : Nat) (e : TypeId) (s : Sh) : ResultVar → Option (AV × List Nat)
  | .tmp i => match get E.sl i with
    | some a => match aggFit P t a, a with
      | true, .ag l => match backLs E j e s 0 l with
        | some (l, is) => some (.ag l, is)
        | none => none
      | true, a => match backLs E j e s 0 [a] with
        | some ([x], is) => some (x, is)
        | _ => none
      | _, _ => none
    | none => none
  | .cell i t' => match get E.sl i with
    | some (.ref id 0) => match getR E.rs id, aggOf P t, P.info? t with
      | some (.box u cs), some true, some ti => if u = t' ∧ t' = t ∧ ti.size = cs.length then (match backLs E j e s 0 cs with
        | some (l, is) => some (.ag l, is)
        | none => none) else none
      | _, _, _ => none
    | _ => none
def ownIds (E : Env) : ResultVar → List Nat
  | .tmp i => match get E.sl i with
    | some a => go a.lv
    | none => []
  | .cell i _ => match get E.sl i with
    | some (.ref id _) => match getR E.rs id with
      | some (.box _ cs) => go cs
      | _ => []
    | _ => []
where
  go : List AV → List Nat
    | [] => []
    | a :: r => match a with | .own i => i :: go r | _ => go r
def finAll (P : Program) (T : Tabs) (ro : List (Nat × (Nat × (TypeId × Sh)))) (E : Env) : Nat → List TypeId → List ResultVar → Option (List AV × (List Nat × List Nat))
  | _, [], [] => some ([], [], [])
  | n, t :: ts, v :: vs => match (match get ro n with
      | some (j, (e, s)) => (match finRow P E t j e s v with | some (x, is) => some (x, is, []) | none => none)
      | none => match finOne P T E t v with | some x => some (x, [], ownIds E v) | none => none), finAll P T ro E (n + 1) ts vs with
    | some (x, is, us), some (l, js, ws) => some (x :: l, is ++ js, us ++ ws)
    | _, _ => none
  | _, _, _ => none
def outOf (E : Env) (gone : List Nat) : AV := match gone.any (Nat.beq 7000) with
  | true => .undef
  | false => match getR E.rs 7000 with
    | some (.row e s l) => .rowv e s l
    | _ => .undef
def regOf (inR : Bool) (E : Env) : Option (List Node) := match inR with
  | false => some []
  | true => match getR E.rs REG with | some (.reg _ _ H) => some H | _ => none
def outs (inR : Bool) (E : Env) (v o : AV) : R := match regOf inR E with
  | some H => some (.outs v o H)
  | none => none
def finish (P : Program) (T : Tabs) (A : Anns) (fn : Func) (inR : Bool) (x : Exit) (E : Env) : R :=
  match x with
  | .normal => fin
  | .ret => fin
  | _ => none
where
  fin : R := match finAll P T A.ro E 0 fn.resultTypes.toList fn.results.toList with
    | some (l, is, us) => match A.outs with
      | none => match rowOf (one l), is with
        | [], [] => some (one l)
        | _, _ => none
      | some own => match meets is us with
        | true => none
        | false => match rowOf (one l), is with
          | [], [] => outs inR E (one l) (match own with | true => outOf E us | false => .undef)
          | [_], [] => outs inR E (one l) (match own with | true => outOf E us | false => .undef)
          | [_], [i] => outs inR E (one l) (match own with | true => outOf E (i :: us) | false => .undef)
          | _, _ => none
    | none => none
  one : List AV → AV
    | [a] => a
    | l => .tup l
def inLeaf : AV → AV × Ws
  | .rowv e s l => (.own 7000, [(7000, some (.row e s l))])
  | a => (a, [])
def inLeaves : List AV → List AV × Ws
  | [] => ([], [])
  | a :: r => ((inLeaf a).1 :: (inLeaves r).1, (inLeaf a).2 ++ (inLeaves r).2)
def inArg : AV → AV × Ws
  | .ag l => (.ag (inLeaves l).1, (inLeaves l).2)
  | a => inLeaf a
def inArgs : List AV → List AV × Ws
  | [] => ([], [])
  | a :: r => match a with
    | .hin lk H => ([], [(REG, some (.reg lk [] H))])
    | a => ((inArg a).1 :: (inArgs r).1, (inArg a).2 ++ (inArgs r).2)
def hasR (ws : Ws) : Bool := match get ws REG with
  | some (some (.reg _ _ _)) => true
  | _ => false
def argSl : Nat → List AV → List (Nat × AV)
  | _, [] => []
  | n, a :: r => (n, a) :: argSl (n + 1) r
noncomputable def evalF (P : Program) (T : Tabs) (A : Anns) (f : Nat) (args : List AV) : R :=
  match P.funcs[f]? with
  | some fn => match fn.body with
    | some c => evalC P T A c ⟨argSl 0 (inArgs args).1, (inArgs args).2⟩ (finish P T A fn (hasR (inArgs args).2))
    | none => none
  | none => none
end Go.Pev
/- The pure evaluator, part D: how a frame and a world stand to an environment. Own text, over any program. -/
namespace Go.Pev
def LR (C : Cfg) (ρ : Nat → Value) (M : Nat → Prop) (w : World) : AV → Value → Prop
  | .int k n, v => v = .int k n
  | .bool b, v => v = .bool b
  | .str s, v => v = .string s
  | .err e, v => Rob M w (fun w => ErrV C w e v)
  | .sl s l, v => ∃ A c, v = .slice A l.length c ∧ l.length ≤ c ∧ RowR C M w s A l
  | .nsl, v => v = .slice none 0 0
  | .own id, v => v = ρ id
  | .ref id off, v => ∃ b, ρ id = .pointer (some ⟨b, 0, none⟩) ∧ v = .pointer (some ⟨b, off, none⟩)
  | .elt s x off, v => ∃ (ad : Addr) (cs : List Value), v = .pointer (some (ad.add off)) ∧ RR C M w s x cs ∧ Rob M w (fun w => ∀ j u, cs[j]? = some u → w.cell? (ad.add j) = some u)
  | .pel s x, v => RR C M w (.pt s) x [v]
  | .oelt id sz i off, v => ∃ g n c, ρ id = .slice (some ⟨g, 0, none⟩) n c ∧ v = .pointer (some ⟨g, i.toNat * sz + off, none⟩)
  | .obj id, v => v = ρ id
  | .nilp, v => v = .pointer none
  | .oth, v => ∃ t x, v = .iface t x
  | .iref t id off, v => ∃ b, ρ id = .pointer (some ⟨b, 0, none⟩) ∧ v = .iface t (.pointer (some ⟨b, off, none⟩))
  | .rf k x, v => RR C M w (.rf k) x [v]
  | .rfo _ n off, v => ∃ b, n < C.N ∧ C.β n = .pointer (some ⟨b, 0, none⟩) ∧ v = .pointer (some ⟨b, off, none⟩)
  | .rel _ s n i off, v => ∃ g m c, n < C.N ∧ C.β n = .slice (some ⟨g, 0, none⟩) m c ∧ v = .pointer (some ⟨g, i.toNat * s.sz + off, none⟩)
  | .itr id, v => v = ρ id
  | .stp id, v => v = ρ id
  | .sub id n, v => ∃ A m c, ρ id = .slice A m c ∧ v = .slice A n c
  | .fn f, v => v = .func (.func f) #[] #[]
  | .undef, v => v = Go.undef
  | .ag _, _ => False
  | .tup _, _ => False
  | .objv .., _ => False
  | .clo .., _ => False
  | .fnc .., _ => False
  | .rowv .., _ => False
  | .hin .., _ => False
  | .outs .., _ => False
def SR (C : Cfg) (ρ : Nat → Value) (M : Nat → Prop) (w : World) : AV → Value → Prop
  | .ag fs, v => ∃ cs : List Value, v = .agg cs.toArray ∧ All2 (LR C ρ M w) fs cs
  | .fnc f fs, v => ∃ cs : List Value, v = .func (.func f) #[] cs.toArray ∧ All2 (LR C ρ M w) fs cs
  | a, v => LR C ρ M w a v
def VR (C : Cfg) (ρ : Nat → Value) (M : Nat → Prop) (w : World) : AV → Value → Prop
  | .tup fs, v => ∃ vs : List Value, v = .tuple vs.toArray ∧ All2 (SR C ρ M w) fs vs
  | .clo f fs, v => ∃ vs : List Value, v = .func (.func f) #[] vs.toArray ∧ All2 (SR C ρ M w) fs vs
  | a, v => SR C ρ M w a v
section
variable {C C' : Cfg} {ρ ρ' : Nat → Value} {M M' : Nat → Prop} {w w' : World}
theorem LR.step {a : AV} {v : Value} (h : LR C ρ M w a v) (hk : KeepS M w w') (hs : ∀ k, M' k → k < w.heap.size → M k) (hρ : ∀ id, a.ment1 id = true → ρ' id = ρ id) : LR C ρ' M' w' a v := by
  cases a <;> simp only [LR] at h ⊢ <;> try exact h
  case err e => exact h.step hk hs
  case sl s l => obtain ⟨A, c, h1, h2, h3⟩ := h; exact ⟨A, c, h1, h2, h3.step hk hs⟩
  case own id => rw [hρ id (by simp [AV.ment1, Nat.beq_refl])]; exact h
  case ref id off => rw [hρ id (by simp [AV.ment1, Nat.beq_refl])]; exact h
  case elt s x off => obtain ⟨ad, cs, h1, h2, h3⟩ := h; exact ⟨ad, cs, h1, RR.step hk hs s x cs h2, h3.step hk hs⟩
  case pel s x => exact RR.step hk hs (.pt s) x _ h
  case oelt id sz i off => rw [hρ id (by simp [AV.ment1, Nat.beq_refl])]; exact h
  case obj id => rw [hρ id (by simp [AV.ment1, Nat.beq_refl])]; exact h
  case iref t id off => rw [hρ id (by simp [AV.ment1, Nat.beq_refl])]; exact h
  case itr id => rw [hρ id (by simp [AV.ment1, Nat.beq_refl])]; exact h
  case stp id => rw [hρ id (by simp [AV.ment1, Nat.beq_refl])]; exact h
  case sub id n => rw [hρ id (by simp [AV.ment1, Nat.beq_refl])]; exact h
theorem LR.ext {a : AV} {v : Value} (h : LR C ρ M w a v) (hC : Ext C C') : LR C' ρ M w a v := by
  cases a <;> simp only [LR] at h ⊢ <;> try exact h
  case err e => obtain ⟨b, n, rfl, _⟩ := hC; exact h.imp fun w' h => by rw [ErrV_at]; exact h
  case sl s l => obtain ⟨A, c, h1, h2, h3⟩ := h; exact ⟨A, c, h1, h2, h3.ext hC⟩
  case elt s x off => obtain ⟨ad, cs, h1, h2, h3⟩ := h; exact ⟨ad, cs, h1, RR.ext hC s x cs h2, h3⟩
  case pel s x => exact RR.ext hC (.pt s) x _ h
  case rf k x => exact RR.ext hC (.rf k) x _ h
  case rfo t n off =>
    obtain ⟨b, h1, h2, h3⟩ := h
    obtain ⟨c, m, rfl, k1, k2⟩ := hC
    exact ⟨b, Nat.lt_of_lt_of_le h1 k1, (k2 n h1).trans h2, h3⟩
  case rel e s n i off =>
    obtain ⟨g, m, c, h1, h2, h3⟩ := h
    obtain ⟨d, q, rfl, k1, k2⟩ := hC
    exact ⟨g, m, c, Nat.lt_of_lt_of_le h1 k1, (k2 n h1).trans h2, h3⟩
theorem LRs.step {l : List AV} {vs : List Value} (h : All2 (LR C ρ M w) l vs) (hk : KeepS M w w') (hs : ∀ k, M' k → k < w.heap.size → M k) (hρ : ∀ id, l.any (AV.ment1 id) = true → ρ' id = ρ id) : All2 (LR C ρ' M' w') l vs :=
  h.imp_mem fun a _ ha hb => hb.step hk hs fun id hid => hρ id (List.any_eq_true.2 ⟨a, ha, hid⟩)
theorem SR.step {a : AV} {v : Value} (h : SR C ρ M w a v) (hk : KeepS M w w') (hs : ∀ k, M' k → k < w.heap.size → M k) (hρ : ∀ id, a.ment2 id = true → ρ' id = ρ id) : SR C ρ' M' w' a v := by
  cases a <;> first
    | (simp only [SR] at h ⊢; exact LR.step h hk hs hρ)
    | (simp only [SR] at h ⊢; obtain ⟨cs, h1, h2⟩ := h; exact ⟨cs, h1, LRs.step h2 hk hs hρ⟩)
theorem SR.ext {a : AV} {v : Value} (h : SR C ρ M w a v) (hC : Ext C C') : SR C' ρ M w a v := by
  cases a <;> first
    | (simp only [SR] at h ⊢; exact LR.ext h hC)
    | (simp only [SR] at h ⊢; obtain ⟨cs, h1, h2⟩ := h; exact ⟨cs, h1, h2.imp fun _ _ h => h.ext hC⟩)
theorem VR.step {a : AV} {v : Value} (h : VR C ρ M w a v) (hk : KeepS M w w') (hs : ∀ k, M' k → k < w.heap.size → M k) (hρ : ∀ id, a.ment id = true → ρ' id = ρ id) : VR C ρ' M' w' a v := by
  cases a <;> first
    | (simp only [VR] at h ⊢; exact SR.step h hk hs hρ)
    | (simp only [VR] at h ⊢; obtain ⟨cs, h1, h2⟩ := h; exact ⟨cs, h1, h2.imp_mem fun a _ ha hb => hb.step hk hs fun id hid => hρ id (List.any_eq_true.2 ⟨a, ha, hid⟩)⟩)
theorem VR.ext {a : AV} {v : Value} (h : VR C ρ M w a v) (hC : Ext C C') : VR C' ρ M w a v := by
  cases a <;> first
    | (simp only [VR] at h ⊢; exact SR.ext h hC)
    | (simp only [VR] at h ⊢; obtain ⟨cs, h1, h2⟩ := h; exact ⟨cs, h1, h2.imp fun _ _ h => h.ext hC⟩)
theorem LR.flat {a : AV} {v : Value} (hf : a.flat1 = true) (h : LR C ρ M w a v) : LR C ρ' M' w' a v := by
  cases a <;> simp [AV.flat1] at hf <;> exact h
theorem SR.flat {a : AV} {v : Value} (hf : a.flat2 = true) (h : SR C ρ M w a v) : SR C ρ' M' w' a v := by
  cases a <;> first
    | (simp only [SR] at h ⊢; exact LR.flat hf h)
    | (simp [AV.flat2, AV.flat1] at hf; done)
    | (simp only [SR] at h ⊢; obtain ⟨cs, h1, h2⟩ := h; exact ⟨cs, h1, h2.imp_mem fun a _ ha hb => hb.flat (List.all_eq_true.1 hf a ha)⟩)
theorem VR.flat {a : AV} {v : Value} (hf : a.flat = true) (h : VR C ρ M w a v) : VR C ρ' M' w' a v := by
  cases a <;> first
    | (simp only [VR] at h ⊢; exact SR.flat hf h)
    | (simp [AV.flat, AV.flat2, AV.flat1] at hf; done)
    | (simp only [VR] at h ⊢; obtain ⟨cs, h1, h2⟩ := h; exact ⟨cs, h1, h2.imp_mem fun a _ ha hb => hb.flat (List.all_eq_true.1 hf a ha)⟩)
theorem LR.one {a : AV} {v : Value} (ho : okLeaf a = true) (h : LR C ρ M w a v) (hb : ∀ n, n < C.N → (C.β n).oneCell' = true) (hρ : ∀ id, a.ment1 id = true → (ρ id).oneCell' = true) : v.oneCell' = true := by
  cases a <;> simp [okLeaf] at ho <;> simp only [LR] at h
  case err e =>
    have h := h.now
    cases e with
    | none => simp only [ErrV] at h; subst h; rfl
    | some p =>
      obtain ⟨ps, n⟩ := p
      simp only [ErrV] at h
      cases ps with
      | nil => simp only [ErrAt] at h; subst h; rfl
      | cons p ps => simp only [ErrAt] at h; obtain ⟨b, u, rfl, _⟩ := h; rfl
  case sl s l => obtain ⟨A, c, rfl, _⟩ := h; rfl
  case own id => subst h; exact hρ id (by simp [AV.ment1, Nat.beq_refl])
  case ref id off => obtain ⟨b, _, rfl⟩ := h; rfl
  case elt s x off => obtain ⟨ad, cs, rfl, _⟩ := h; rfl
  case pel s x =>
    simp only [RR, List.cons.injEq, and_true] at h
    rcases h with ⟨_, rfl⟩ | ⟨_, _, _, _, rfl, _⟩ <;> rfl
  case oelt id sz i off => obtain ⟨g, n, c, _, rfl⟩ := h; rfl
  case obj id => subst h; exact hρ id (by simp [AV.ment1, Nat.beq_refl])
  case iref t id off => obtain ⟨b, _, rfl⟩ := h; rfl
  case oth => obtain ⟨t, x, rfl⟩ := h; rfl
  case rf k x =>
    simp only [RR, List.cons.injEq, and_true] at h
    rcases h with ⟨_, rfl⟩ | ⟨n, _, hn, rfl, _⟩
    · cases k <;> rfl
    · exact hb n hn
  case rfo t n off => obtain ⟨b, _, _, rfl⟩ := h; rfl
  case rel e s n i off => obtain ⟨g, m, c, _, _, rfl⟩ := h; rfl
  case itr id => subst h; exact hρ id (by simp [AV.ment1, Nat.beq_refl])
  case stp id => subst h; exact hρ id (by simp [AV.ment1, Nat.beq_refl])
  case sub id n => obtain ⟨A, m, c, _, rfl⟩ := h; rfl
  all_goals (subst h; rfl)
end
section
variable {C : Cfg} {L : Nat → Prop} {ρ : Nat → Value} {M : Nat → Prop} {w : World}
theorem RowR_lk (s : Sh) (A : Option Addr) (x : List s.T) : RowR (C.lk L) M w s A x = RowR C M w s A x := by
  simp only [RowR, All2.congr' (fun a b => RR_lk s a b)]
theorem LR_lk (a : AV) (v : Value) : LR (C.lk L) ρ M w a v = LR C ρ M w a v := by
  cases a <;> simp only [LR, ErrV_lk, RowR_lk, RR_lk]
theorem SR_lk (a : AV) (v : Value) : SR (C.lk L) ρ M w a v = SR C ρ M w a v := by
  cases a <;> simp only [SR, All2.congr' (fun a b => LR_lk a b), LR_lk]
theorem VR_lk (a : AV) (v : Value) : VR (C.lk L) ρ M w a v = VR C ρ M w a v := by
  cases a <;> simp only [VR, All2.congr' (fun a b => SR_lk a b), SR_lk]
end
section
variable {C : Cfg} {b : Nat → Value} {n : Nat} {ρ : Nat → Value} {M : Nat → Prop} {w : World}
theorem RR_at : ∀ (s : Sh) (x : s.T) (cs : List Value), s.rfree = true → RR (C.at b n) M w s x cs = RR C M w s x cs
  | .int _, _, _, _ => rfl
  | .bool, _, _, _ => rfl
  | .str, _, _, _ => rfl
  | .err, x, cs, _ => by simp only [RR, ErrV_at]
  | .ptr, _, _, _ => rfl
  | .rf _, _, _, h => by cases h
  | .pt s, x, cs, h => by simp only [RR, fun x cs => RR_at s x cs h]
  | .sl s, x, cs, h => by
    simp only [RR]
    simp only [All2.congr' (fun a c => RR_at s a c h)]
  | .pair a c, x, cs, h => by
    have h' : (a.rfree && c.rfree) = true := h
    rw [Bool.and_eq_true] at h'
    simp only [RR, RR_at a _ _ h'.1, RR_at c _ _ h'.2]
theorem LR_at (a : AV) (v : Value) (h : a.rfree1 = true) : LR (C.at b n) ρ M w a v = LR C ρ M w a v := by
  cases a <;> simp only [LR, ErrV_at] <;> try (cases h; done)
  case sl s l => simp only [RowR, All2.congr' (fun a c => RR_at s a c h)]
  case elt s x off =>
    have e : ∀ cs, RR (C.at b n) M w s x cs = RR C M w s x cs := fun cs => RR_at s x cs h
    simp only [e]
  case pel s x => exact RR_at (.pt s) x [v] h
theorem all2_congr_mem {α β : Type} {r r' : α → β → Prop} : ∀ {l : List α} {m : List β}, (∀ a ∈ l, ∀ b, r a b = r' a b) → All2 r l m = All2 r' l m
  | _, _, h => propext ⟨fun h' => h'.imp_mem fun a b ha hb => h a ha b ▸ hb, fun h' => h'.imp_mem fun a b ha hb => (h a ha b).symm ▸ hb⟩
theorem SR_at (a : AV) (v : Value) (h : a.rfree2 = true) : SR (C.at b n) ρ M w a v = SR C ρ M w a v := by
  cases a <;> first
    | (simp only [SR]; exact LR_at _ _ h)
    | (simp only [SR, fun cs => all2_congr_mem (m := cs) fun a ha v => LR_at (C := C) (b := b) (n := n) (ρ := ρ) (M := M) (w := w) a v (List.all_eq_true.1 h a ha)])
theorem VR_at (a : AV) (v : Value) (h : a.rfree = true) : VR (C.at b n) ρ M w a v = VR C ρ M w a v := by
  cases a <;> first
    | (simp only [VR]; exact SR_at _ _ h)
    | (simp only [VR, fun cs => all2_congr_mem (m := cs) fun a ha v => SR_at (C := C) (b := b) (n := n) (ρ := ρ) (M := M) (w := w) a v (List.all_eq_true.1 h a ha)])
end
def keyV (ka : Bool) (k : Sh) (x : k.T) : Value := match ka with
  | true => .agg (fcells k x).toArray
  | false => (fcells k x).headD .nilIface
def ValR (C : Cfg) (M : Nat → Prop) (w : World) (ag : Bool) (s : Sh) (x : s.T) (v : Value) : Prop := match ag with
  | true => ∃ cs : List Value, v = .agg cs.toArray ∧ RR C M w s x cs
  | false => RR C M w s x [v]
def EntR (C : Cfg) (M : Nat → Prop) (w : World) (ka va : Bool) (k v : Sh) (p : k.T × v.T) (e : MapEntry) : Prop := e.key = keyV ka k p.1 ∧ ValR C M w va v p.2 e.val
structure MapR0 (C : Cfg) (M : Nat → Prop) (w : World) (ka va : Bool) (k v : Sh) (l : List (k.T × v.T)) (es : Array MapEntry) (clock : Nat) : Prop where
  ents : All2 (EntR C M w ka va k v) l es.toList
  keys : l.Pairwise fun p q => eqB k p.1 q.1 = false
  born : ∀ e ∈ es.toList, e.born < clock
  nodup : (es.toList.map (·.born)).Nodup
def MapR (C : Cfg) (M : Nat → Prop) (w : World) (ka va : Bool) (k v : Sh) (l : List (k.T × v.T)) (es : Array MapEntry) (clock : Nat) : Prop := ∃ m : List (k.T × v.T), m.Perm l ∧ MapR0 C M w ka va k v m es clock
def blkV : Value → Option Nat
  | .pointer (some a) => some a.block
  | .map (some b) => some b
  | v => v.ownBlock
def NodeR (C : Cfg) (M : Nat → Prop) (w : World) (v : Value) (G : Nat → Prop) : Node → Prop
  | .box t s x => ∃ b cells, v = .pointer (some ⟨b, 0, none⟩) ∧ (∀ k, G k ↔ k = b) ∧ w.heap[b]? = some (.cells cells t (0, 0)) ∧ RR C M w s x cells.toList
  | .map ka va k v' l => ∃ b es clock, v = .map (some b) ∧ (∀ k, G k ↔ k = b) ∧ w.heap[b]? = some (.map es clock) ∧ MapR C M w ka va k v' l es clock
  | .row e s l => ∃ css : List (List Value), w.ownsRow 0 e s.sz v l.length css.flatten ∧ (∀ k, G k ↔ v.ownBlock = some k) ∧ All2 (RR C M w s) l css
  | .gone => (∀ k, ¬ G k) ∧ ∀ b, v ≠ .map (some b)
def ItR (C : Cfg) (ρ : Nat → Value) (M : Nat → Prop) (w : World) (G : Nat → Nat → Prop) (id : Nat) : It → Prop
  | .it n ka va k v left cur pend => pend = none ∧ ∃ r since last seen, ρ id = .pointer (some ⟨r, 0, none⟩) ∧ match n with
    | none => w.heap[r]? = some (.mapIter none since seen last) ∧ left = [] ∧ cur = none
    | some m => ∃ bm es clock, m < C.N ∧ C.β m = .map (some bm) ∧ G m bm ∧ w.heap[r]? = some (.mapIter (some bm) since seen last) ∧ w.heap[bm]? = some (.map es clock) ∧ (∀ e ∈ es.toList, e.born < since) ∧ (since ≤ last ∧ since ≤ clock) ∧
        (es.toList.map (·.born)).Nodup ∧ left.Pairwise (fun p q => eqB k p.1 q.1 = false) ∧ (k.flat = true ∧ (ka = false → k.sz = 1)) ∧
        (∃ lm : List (k.T × v.T), lm.Perm left ∧ All2 (EntR C M w ka va k v) lm (es.toList.filter fun e => !seen.contains e.born)) ∧
        ∀ p, cur = some p → ∃ e ∈ es.toList, EntR C M w ka va k v p e ∧ seen.back? = some e.born ∧ last = clock
  | .mark n ka _ k _ x => ∃ bm es clock e, n < C.N ∧ C.β n = .map (some bm) ∧ G n bm ∧ w.heap[bm]? = some (.map es clock) ∧ e ∈ es.toList ∧ e.key = keyV ka k x ∧ ρ id = .int .i64 (e.born : Int)
def itBlk (ρ : Nat → Value) (p : Nat × It) : Option Nat := match p.2 with
  | .it .. => blkV (ρ p.1)
  | .mark .. => none
def itNode : It → Option Nat
  | .it n _ _ _ _ _ _ _ => n
  | .mark n _ _ _ _ _ => some n
structure RegG (C : Cfg) (ρ : Nat → Value) (M : Nat → Prop) (w : World) (F : Nat → Prop) (G : Nat → Nat → Prop) (lk : List Nat) (its : List (Nat × It)) (H : List Node) : Prop where
  len : H.length = C.N
  node : ∀ n x, H[n]? = some x → NodeR C M w (C.β n) (G n) x
  lt : ∀ n k, G n k → n < C.N
  disj : ∀ m n k, m ≠ n → G m k → ¬ G n k
  fp : ∀ k, F k ↔ (∃ n, G n k) ∨ ∃ p ∈ its, itBlk ρ p = some k
  walks : ∀ p ∈ its, ItR C ρ M w G p.1 p.2
  sep : its.Pairwise fun p q => p.1 ≠ q.1 ∧ ∀ k, itBlk ρ p = some k → itBlk ρ q ≠ some k
  lock : ∀ n k, G n k → C.L k → n ∈ lk
  nolk : ∀ p ∈ its, ∀ k, itBlk ρ p = some k → ¬ C.L k
def ResOk (C : Cfg) (ρ : Nat → Value) (M : Nat → Prop) (w : World) (id : Nat) (F : Nat → Prop) : RS → Prop
  | .box t cs => ∃ b cells, ρ id = .pointer (some ⟨b, 0, none⟩) ∧ (∀ k, F k ↔ k = b) ∧ w.heap[b]? = some (.cells cells t (0, 0)) ∧ All2 (LR C ρ M w) cs cells.toList ∧ (∀ a ∈ cs, okLeaf a = true)
  | .row e s l => ∃ css : List (List Value), w.ownsRow 0 e s.sz (ρ id) l.length css.flatten ∧ (∀ k, F k ↔ (ρ id).ownBlock = some k) ∧ All2 (RR C M w s) l css
  | .fro s l => (∃ A c, ρ id = .slice A l.length c ∧ l.length ≤ c ∧ RowR C M w s A l) ∧ ∀ k, ¬ F k
  | .tok => ∀ k, ¬ F k
  | .reg lk its H => id = REG ∧ ∃ G, RegG C ρ M w F G lk its H
  | .obj .. => False
structure Base where
  M0 : Nat → Prop
  W : Nat → Prop
  L : Nat → Prop
  b0 : Nat → Value
  n0 : Nat
  v7 : Value
  lk0 : List Nat
def Mof (B : Base) (rs : Nat → Option RS) (F : Nat → Nat → Prop) (k : Nat) : Prop := B.M0 k ∨ ∃ id st, rs id = some st ∧ F id k
def Glob (C : Cfg) (X : Nat → Prop) (w0 : World) : Prop := ∀ p ∈ C.glob, p.2.ok w0 p.1 ∧ p.1 < w0.heap.size ∧ ¬ X p.1
theorem GV.step {w w' : World} {b : Nat} (h : w'.heap[b]? = w.heap[b]?) : ∀ {g : GV}, g.ok w b → g.ok w' b
  | .is _, ⟨t, fr, hg⟩ => ⟨t, fr, h.trans hg⟩
  | .face, ⟨te, pe, t, fr, hg⟩ => ⟨te, pe, t, fr, h.trans hg⟩
  | .num, ⟨n, hg⟩ => ⟨n, by rw [← hg]; simp [World.cell?, h]⟩
theorem GV.cell {w : World} {b : Nat} {l : List Value} (h : (GV.is l).ok w b) (j : Nat) : w.cell? ⟨b, j, none⟩ = l[j]? := by
  obtain ⟨t, fr, h⟩ := h
  simp [World.cell?, h]
def isReg : RS → Prop
  | .reg .. => True
  | _ => False
structure Mem (C : Cfg) (B : Base) (w0 : World) (rs : Nat → Option RS) (ρ : Nat → Value) (F : Nat → Nat → Prop) (w : World) : Prop where
  keep : KeepS B.W w0 w
  m0 : ∀ k, B.M0 k → k < w0.heap.size ∧ ¬ B.W k ∧ ¬ C.L k
  wl : ∀ k, B.W k → ¬ C.L k
  lsz : ∀ k, C.L k → k < w0.heap.size
  res : ∀ id st, rs id = some st → ResOk C ρ (Mof B rs F) w id (F id) st
  rng : ∀ id st k, rs id = some st → F id k → (B.W k ∨ (isReg st ∧ C.L k) ∨ w0.heap.size ≤ k) ∧ k < w.heap.size
  disj : ∀ i j s t k, rs i = some s → rs j = some t → i ≠ j → F i k → ¬ F j k
  one : ∀ id, (ρ id).oneCell' = true
  bone : ∀ n, n < C.N → (C.β n).oneCell' = true
  ext : B.n0 ≤ C.N ∧ ∀ i, i < B.n0 → C.β i = B.b0 i
  glob : Glob C (fun k => B.M0 k ∨ B.W k ∨ C.L k) w0
  own7 : (rs 7000).isSome = true → ρ 7000 = B.v7
  lkz : ∀ lk its H, rs REG = some (.reg lk its H) → lk = B.lk0
theorem Mem.notM0 {C : Cfg} {B : Base} {w0 : World} {rs : Nat → Option RS} {ρ : Nat → Value} {F : Nat → Nat → Prop} {w : World} (h : Mem C B w0 rs ρ F w) {id : Nat} {st : RS} {k : Nat} (hst : rs id = some st) (hF : F id k) : ¬ B.M0 k := by
  intro h0
  obtain ⟨h1, h2, h3⟩ := h.m0 k h0
  rcases (h.rng id st k hst hF).1 with h' | h' | h'
  · exact h2 h'
  · exact h3 h'.2
  · omega
theorem Mem.rngW {C : Cfg} {B : Base} {w0 : World} {rs : Nat → Option RS} {ρ : Nat → Value} {F : Nat → Nat → Prop} {w : World} (h : Mem C B w0 rs ρ F w) {id : Nat} {st : RS} {k : Nat} (hst : rs id = some st) (hF : F id k) (hn : ¬ isReg st) : B.W k ∨ w0.heap.size ≤ k := by
  rcases (h.rng id st k hst hF).1 with h' | h' | h'
  · exact .inl h'
  · exact absurd h'.1 hn
  · exact .inr h'
structure Rel (C : Cfg) (M0 : Base) (w0 : World) (sl : Nat → Option AV) (rs : Nat → Option RS) (ρ : Nat → Value) (F : Nat → Nat → Prop) (a : Act) (w : World) : Prop extends Mem C M0 w0 rs ρ F w where
  slots : ∀ t av, sl t = some av → ∃ v, a.tmps[t]? = some v ∧ VR C ρ (Mof M0 rs F) w av v
  defers : a.defers = []
def updS (sl : Nat → Option AV) (dst : Option Nat) (v : AV) : Nat → Option AV := fun t => if dst = some t then some v else sl t
def updR (rs : Nat → Option RS) (ws : Ws) : Nat → Option RS := fun id => match get ws id with | some r => r | none => rs id
section
variable {C C' : Cfg} {ρ ρ' : Nat → Value} {M M' : Nat → Prop} {w w' : World}
theorem ValR.step {ag : Bool} {s : Sh} {x : s.T} {v : Value} (h : ValR C M w ag s x v) (hk : KeepS M w w') (hs : ∀ k, M' k → k < w.heap.size → M k) : ValR C M' w' ag s x v := by
  cases ag with
  | true => obtain ⟨cs, h1, h2⟩ := h; exact ⟨cs, h1, RR.step hk hs s x cs h2⟩
  | false => exact RR.step hk hs s x _ h
theorem ValR.ext {ag : Bool} {s : Sh} {x : s.T} {v : Value} (h : ValR C M w ag s x v) (hC : Ext C C') : ValR C' M w ag s x v := by
  cases ag with
  | true => obtain ⟨cs, h1, h2⟩ := h; exact ⟨cs, h1, RR.ext hC s x cs h2⟩
  | false => exact RR.ext hC s x _ h
theorem EntR.step {ka va : Bool} {k v : Sh} {p : k.T × v.T} {e : MapEntry} (h : EntR C M w ka va k v p e) (hk : KeepS M w w') (hs : ∀ k, M' k → k < w.heap.size → M k) : EntR C M' w' ka va k v p e := ⟨h.1, h.2.step hk hs⟩
theorem EntR.ext {ka va : Bool} {k v : Sh} {p : k.T × v.T} {e : MapEntry} (h : EntR C M w ka va k v p e) (hC : Ext C C') : EntR C' M w ka va k v p e := ⟨h.1, h.2.ext hC⟩
theorem MapR.step {ka va : Bool} {k v : Sh} {l : List (k.T × v.T)} {es : Array MapEntry} {clock : Nat} (h : MapR C M w ka va k v l es clock) (hk : KeepS M w w') (hs : ∀ k, M' k → k < w.heap.size → M k) : MapR C M' w' ka va k v l es clock := by
  obtain ⟨m, hp, h⟩ := h
  exact ⟨m, hp, h.ents.imp fun _ _ h => h.step hk hs, h.keys, h.born, h.nodup⟩
theorem MapR.ext {ka va : Bool} {k v : Sh} {l : List (k.T × v.T)} {es : Array MapEntry} {clock : Nat} (h : MapR C M w ka va k v l es clock) (hC : Ext C C') : MapR C' M w ka va k v l es clock := by
  obtain ⟨m, hp, h⟩ := h
  exact ⟨m, hp, h.ents.imp fun _ _ h => h.ext hC, h.keys, h.born, h.nodup⟩
theorem heap_lt {w : World} {b : Nat} {o : Obj} (h : w.heap[b]? = some o) : b < w.heap.size := by
  rcases Nat.lt_or_ge b w.heap.size with h' | h'
  · exact h'
  · rw [Array.getElem?_eq_none h'] at h; cases h
theorem ownsRow_keep {e : TypeId} {sz n : Nat} {v : Value} {xs : List Value} {G : Nat → Prop} (h : w.ownsRow 0 e sz v n xs) (hk : KeepS G w w') (hG : ∀ k, v.ownBlock = some k → ¬ G k) : w'.ownsRow 0 e sz v n xs := by
  refine ⟨h.1, ?_⟩
  rcases h.2 with h | ⟨g, cap, cur, hv, hg, hh, r⟩
  · exact .inl h
  · exact .inr ⟨g, cap, cur, hv, hg, (hk.block g (heap_lt hh) (hG g (by rw [hv]; rfl))).trans hh, r⟩
theorem NodeR.step {v : Value} {G X : Nat → Prop} {x : Node} (h : NodeR C M w v G x) (hk : KeepS X w w') (hX : ∀ k, X k → M k) (hF : ∀ k, G k → ¬ X k) (hs : ∀ k, M' k → k < w.heap.size → M k) : NodeR C M' w' v G x := by
  have hkM : KeepS M w w' := hk.mono fun i _ g => hX i g
  cases x with
  | box t s x =>
    obtain ⟨b, cells, h1, h2, h3, h4⟩ := h
    exact ⟨b, cells, h1, h2, (hk.block b (heap_lt h3) (hF b ((h2 b).2 rfl))).trans h3, RR.step hkM hs s x _ h4⟩
  | map ka va k v' l =>
    obtain ⟨b, es, clock, h1, h2, h3, h4⟩ := h
    exact ⟨b, es, clock, h1, h2, (hk.block b (heap_lt h3) (hF b ((h2 b).2 rfl))).trans h3, h4.step hkM hs⟩
  | row e s l =>
    obtain ⟨css, h1, h2, h3⟩ := h
    exact ⟨css, ownsRow_keep h1 hk (fun k hk' => hF k ((h2 k).2 hk')), h2, h3.imp fun x cs hx => RR.step hkM hs s x cs hx⟩
  | gone => exact h
theorem NodeR.ext {v : Value} {G : Nat → Prop} {x : Node} (h : NodeR C M w v G x) (hC : Ext C C') : NodeR C' M w v G x := by
  cases x with
  | box t s x => obtain ⟨b, cells, h1, h2, h3, h4⟩ := h; exact ⟨b, cells, h1, h2, h3, RR.ext hC s x _ h4⟩
  | map ka va k v' l => obtain ⟨b, es, clock, h1, h2, h3, h4⟩ := h; exact ⟨b, es, clock, h1, h2, h3, h4.ext hC⟩
  | row e s l => obtain ⟨css, h1, h2, h3⟩ := h; exact ⟨css, h1, h2, h3.imp fun x cs hx => RR.ext hC s x cs hx⟩
  | gone => exact h
theorem ItR.step {G : Nat → Nat → Prop} {X : Nat → Prop} {id : Nat} {x : It} (h : ItR C ρ M w G id x) (hk : KeepS X w w') (hX : ∀ k, X k → M k) (hr : ∀ k, itBlk ρ (id, x) = some k → ¬ X k) (hG : ∀ n k, itNode x = some n → G n k → ¬ X k) (hs : ∀ k, M' k → k < w.heap.size → M k) (hρ : ρ' id = ρ id) : ItR C ρ' M' w' G id x := by
  have hkM : KeepS M w w' := hk.mono fun i _ g => hX i g
  cases x with
  | it n ka va k v left cur pend =>
    obtain ⟨h0, r, since, last, seen, h1, h2⟩ := h
    have hrX : ¬ X r := hr r (by simp [itBlk, h1, blkV])
    refine ⟨h0, r, since, last, seen, hρ.trans h1, ?_⟩
    cases n with
    | none => exact ⟨(hk.block r (heap_lt h2.1) hrX).trans h2.1, h2.2⟩
    | some m =>
      obtain ⟨bm, es, clock, g1, g2, g3, g4, g5, g6, g7, g8, g9, ga, gb, gc⟩ := h2
      exact ⟨bm, es, clock, g1, g2, g3, (hk.block r (heap_lt g4) hrX).trans g4, (hk.block bm (heap_lt g5) (hG m bm rfl g3)).trans g5, g6, g7, g8, g9, ga, gb.imp fun _ q => ⟨q.1, q.2.imp fun _ _ h => h.step hkM hs⟩, fun p hp => by
        obtain ⟨e, q1, q2, q3⟩ := gc p hp
        exact ⟨e, q1, q2.step hkM hs, q3⟩⟩
  | mark n ka va k v x =>
    obtain ⟨bm, es, clock, e, g1, g2, g3, g4, g5, g6, g7⟩ := h
    exact ⟨bm, es, clock, e, g1, g2, g3, (hk.block bm (heap_lt g4) (hG n bm rfl g3)).trans g4, g5, g6, hρ.trans g7⟩
theorem itBlk_congr {p : Nat × It} (h : ρ' p.1 = ρ p.1) : itBlk ρ' p = itBlk ρ p := by
  unfold itBlk; rw [h]
theorem RegG.step {F X : Nat → Prop} {G : Nat → Nat → Prop} {lk : List Nat} {its : List (Nat × It)} {H : List Node} (h : RegG C ρ M w F G lk its H) (hk : KeepS X w w') (hX : ∀ k, X k → M k) (hF : ∀ k, F k → ¬ X k) (hs : ∀ k, M' k → k < w.heap.size → M k) (hρ : ∀ p ∈ its, ρ' p.1 = ρ p.1) : RegG C ρ' M' w' F G lk its H := by
  have hG : ∀ n k, G n k → ¬ X k := fun n k g => hF k ((h.fp k).2 (.inl ⟨n, g⟩))
  refine ⟨h.len, fun n x hx => (h.node n x hx).step hk hX (hG n) hs, h.lt, h.disj, fun k => (h.fp k).trans ?_, fun p hp => (h.walks p hp).step hk hX (fun k hb => hF k ((h.fp k).2 (.inr ⟨p, hp, hb⟩))) (fun n k _ g => hG n k g) hs (hρ p hp), ?_, h.lock, fun p hp k hb => h.nolk p hp k ((itBlk_congr (hρ p hp)).symm.trans hb)⟩
  · constructor
    · rintro (h1 | ⟨p, hp, hb⟩)
      · exact .inl h1
      · exact .inr ⟨p, hp, (itBlk_congr (hρ p hp)).trans hb⟩
    · rintro (h1 | ⟨p, hp, hb⟩)
      · exact .inl h1
      · exact .inr ⟨p, hp, (itBlk_congr (hρ p hp)).symm.trans hb⟩
  · exact h.sep.imp_of_mem fun {p q} hp hq hpq => ⟨hpq.1, fun k e1 e2 => hpq.2 k ((itBlk_congr (hρ p hp)).symm.trans e1) ((itBlk_congr (hρ q hq)).symm.trans e2)⟩
theorem ResOk.step {id : Nat} {F G : Nat → Prop} {st : RS} (h : ResOk C ρ M w id F st) (hk : KeepS G w w') (hG : ∀ k, G k → M k) (hF : ∀ k, F k → ¬ G k)
    (hs : ∀ k, M' k → k < w.heap.size → M k) (hρ0 : ρ' id = ρ id) (hρ : ∀ i, st.ment i = true → ρ' i = ρ i) : ResOk C ρ' M' w' id F st := by
  have hkM : KeepS M w w' := hk.mono fun i _ g => hG i g
  cases st with
  | box t cs =>
    obtain ⟨b, cells, h1, h2, h3, h4, h5⟩ := h
    exact ⟨b, cells, hρ0 ▸ h1, h2, (hk.block b (heap_lt h3) (hF b ((h2 b).2 rfl))).trans h3, LRs.step h4 hkM hs hρ, h5⟩
  | row e s l =>
    obtain ⟨css, h1, h2, h3⟩ := h
    refine ⟨css, ?_, fun k => by rw [h2 k, hρ0], h3.imp fun x cs hx => RR.step hkM hs s x cs hx⟩
    rw [hρ0]
    exact ownsRow_keep h1 hk fun k hk' => hF k ((h2 k).2 hk')
  | fro s l =>
    obtain ⟨⟨A, c, h1, h2, h3⟩, h4⟩ := h
    exact ⟨⟨A, c, hρ0 ▸ h1, h2, h3.step hkM hs⟩, h4⟩
  | tok => exact h
  | reg lk its H =>
    obtain ⟨h0, Gn, h⟩ := h
    exact ⟨h0, Gn, h.step hk hG hF hs fun p hp => hρ p.1 (List.any_eq_true.2 ⟨p, hp, Nat.beq_refl _⟩)⟩
  | obj k s m => exact h.elim
def notReg : RS → Prop
  | .reg .. => False
  | _ => True
theorem ResOk.ext {id : Nat} {F : Nat → Prop} {st : RS} (h : ResOk C ρ M w id F st) (hC : Ext C C') (hn : notReg st ∨ C' = C) : ResOk C' ρ M w id F st := by
  rcases hn with hn | rfl
  · cases st with
    | box t cs => obtain ⟨b, cells, h1, h2, h3, h4, h5⟩ := h; exact ⟨b, cells, h1, h2, h3, h4.imp fun _ _ h => h.ext hC, h5⟩
    | row e s l => obtain ⟨css, h1, h2, h3⟩ := h; exact ⟨css, h1, h2, h3.imp fun x cs hx => RR.ext hC s x cs hx⟩
    | fro s l => obtain ⟨⟨A, c, h1, h2, h3⟩, h4⟩ := h; exact ⟨⟨A, c, h1, h2, h3.ext hC⟩, h4⟩
    | tok => exact h
    | reg lk its H => exact hn.elim
    | obj k s m => exact h.elim
  · exact h
theorem Ext.L {C C' : Cfg} (h : Ext C C') : C'.L = C.L := by obtain ⟨b, n, rfl, _⟩ := h; rfl
theorem Ext.glob {C C' : Cfg} (h : Ext C C') : C'.glob = C.glob := by obtain ⟨b, n, rfl, _⟩ := h; rfl
end
structure Kept (rs rs' : Nat → Option RS) (ρ ρ' : Nat → Value) : Prop where
  o7 : (rs' 7000).isSome = true → (rs 7000).isSome = true ∧ ρ' 7000 = ρ 7000
  lk : ∀ lk its H, rs' REG = some (.reg lk its H) → ∃ its0 H0, rs REG = some (.reg lk its0 H0)
theorem Rel.updX {C C' : Cfg} {M0 : Base} {w0 : World} {sl : Nat → Option AV} {rs rs' : Nat → Option RS} {ρ ρ' : Nat → Value} {F F' : Nat → Nat → Prop} {a : Act} {w w' : World} {G : Nat → Prop}
    (h : Rel C M0 w0 sl rs ρ F a w) (hC : Ext C C') (U : Nat → Prop) (hnr : C' = C ∨ ∀ id st, ¬ U id → rs id = some st → notReg st) (hk : KeepS G w w') (hGM : ∀ k, G k → Mof M0 rs F k ∧ (M0.W k ∨ w0.heap.size ≤ k))
    (hn : ∀ id, ¬ U id → rs' id = rs id ∧ F' id = F id)
    (hρs : ∀ t av id, sl t = some av → av.ment id = true → ρ' id = ρ id)
    (hρr : ∀ id st, ¬ U id → rs id = some st → ρ' id = ρ id ∧ ∀ i, st.ment i = true → ρ' i = ρ i)
    (hGo : ∀ id st k, ¬ U id → rs id = some st → F id k → ¬ G k)
    (hu : ∀ id st, U id → rs' id = some st → ((∀ k, Mof M0 rs' F' k → k < w.heap.size → Mof M0 rs F k) → ResOk C' ρ' (Mof M0 rs' F') w' id (F' id) st) ∧
      ∀ k, F' id k → (M0.W k ∨ (isReg st ∧ C.L k) ∨ w0.heap.size ≤ k) ∧ k < w'.heap.size ∧ (k < w.heap.size → Mof M0 rs F k) ∧ ∀ j t, j ≠ id → rs' j = some t → ¬ F' j k)
    (h1 : ∀ id, (ρ' id).oneCell' = true) (h2 : ∀ n, n < C'.N → (C'.β n).oneCell' = true) (h7 : Kept rs rs' ρ ρ') : Rel C' M0 w0 sl rs' ρ' F' a w' := by
  have hsub : ∀ k, Mof M0 rs' F' k → k < w.heap.size → Mof M0 rs F k := by
    intro k hk1 hk2
    rcases hk1 with h0 | ⟨id, st, hst, hF⟩
    · exact .inl h0
    · by_cases hU : U id
      · exact ((hu id st hU hst).2 k hF).2.2.1 hk2
      · obtain ⟨e1, e2⟩ := hn id hU
        exact .inr ⟨id, st, e1 ▸ hst, e2 ▸ hF⟩
  have hkM : KeepS (Mof M0 rs F) w w' := hk.mono fun i _ g => (hGM i g).1
  refine { keep := h.keep.trans2 hk (fun i hi g => ?_), m0 := fun k hk' => ?_, wl := fun k hk' => ?_, lsz := fun k hk' => ?_, res := fun id st hst => ?_, rng := fun id st k hst hF => ?_, disj := fun i j s t k hi hj hij hF => ?_, one := h1, bone := h2, ext := ?_, glob := ?_, own7 := fun h' => (h7.o7 h').2.trans (h.own7 (h7.o7 h').1), lkz := fun lk its H h' => by { obtain ⟨its0, H0, h0⟩ := h7.lk lk its H h'; exact h.lkz lk its0 H0 h0 }, slots := fun t av ht => ?_, defers := h.defers }
  · rcases (hGM i g).2 with h' | h'
    · exact h'
    · omega
  · rw [hC.L]; exact h.m0 k hk'
  · rw [hC.L]; exact h.wl k hk'
  · rw [hC.L] at hk'; exact h.lsz k hk'
  · by_cases hU : U id
    · exact (hu id st hU hst).1 hsub
    · obtain ⟨e1, e2⟩ := hn id hU
      rw [e2]
      have hst' := e1 ▸ hst
      obtain ⟨r1, r2⟩ := hρr id st hU hst'
      exact ((h.res id st hst').ext hC (hnr.elim .inr fun g => .inl (g id st hU hst'))).step hk (fun k g => (hGM k g).1) (fun k hF => hGo id st k hU hst' hF) hsub r1 r2
  · rw [hC.L]
    by_cases hU : U id
    · obtain ⟨b1, b2, _⟩ := (hu id st hU hst).2 k hF; exact ⟨b1, b2⟩
    · obtain ⟨e1, e2⟩ := hn id hU
      obtain ⟨b1, b2⟩ := h.rng id st k (e1 ▸ hst) (e2 ▸ hF)
      exact ⟨b1, Nat.lt_of_lt_of_le b2 hk.size⟩
  · by_cases hUi : U i
    · exact ((hu i s hUi hi).2 k hF).2.2.2 j t (Ne.symm hij) hj
    · by_cases hUj : U j
      · intro hF2; exact ((hu j t hUj hj).2 k hF2).2.2.2 i s hij hi hF
      · obtain ⟨e1, e2⟩ := hn i hUi
        obtain ⟨e3, e4⟩ := hn j hUj
        rw [e4]
        exact h.disj i j s t k (e1 ▸ hi) (e3 ▸ hj) hij (e2 ▸ hF)
  · obtain ⟨b, n, rfl, e1, e2⟩ := hC
    exact ⟨Nat.le_trans h.ext.1 e1, fun i hi => (e2 i (Nat.lt_of_lt_of_le hi h.ext.1)).trans (h.ext.2 i hi)⟩
  · intro p hp
    rw [hC.glob] at hp
    obtain ⟨g1, g2, g3⟩ := h.glob p hp
    exact ⟨g1, g2, by rw [hC.L]; exact g3⟩
  · obtain ⟨v, e1, e2⟩ := h.slots t av ht
    exact ⟨v, e1, (e2.ext hC).step hkM hsub fun id hid => hρs t av id ht hid⟩
theorem Rel.upd {C : Cfg} {M0 : Base} {w0 : World} {sl : Nat → Option AV} {rs rs' : Nat → Option RS} {ρ ρ' : Nat → Value} {F F' : Nat → Nat → Prop} {a : Act} {w w' : World} {G : Nat → Prop}
    (h : Rel C M0 w0 sl rs ρ F a w) (U : Nat → Prop) (hk : KeepS G w w') (hGM : ∀ k, G k → Mof M0 rs F k ∧ (M0.W k ∨ w0.heap.size ≤ k))
    (hn : ∀ id, ¬ U id → rs' id = rs id ∧ F' id = F id)
    (hρs : ∀ t av id, sl t = some av → av.ment id = true → ρ' id = ρ id)
    (hρr : ∀ id st, ¬ U id → rs id = some st → ρ' id = ρ id ∧ ∀ i, st.ment i = true → ρ' i = ρ i)
    (hGo : ∀ id st k, ¬ U id → rs id = some st → F id k → ¬ G k)
    (hu : ∀ id st, U id → rs' id = some st → ((∀ k, Mof M0 rs' F' k → k < w.heap.size → Mof M0 rs F k) → ResOk C ρ' (Mof M0 rs' F') w' id (F' id) st) ∧
      ∀ k, F' id k → (M0.W k ∨ (isReg st ∧ C.L k) ∨ w0.heap.size ≤ k) ∧ k < w'.heap.size ∧ (k < w.heap.size → Mof M0 rs F k) ∧ ∀ j t, j ≠ id → rs' j = some t → ¬ F' j k)
    (h1 : ∀ id, (ρ' id).oneCell' = true) (h7 : Kept rs rs' ρ ρ') : Rel C M0 w0 sl rs' ρ' F' a w' :=
  h.updX (Ext.refl C) U (.inl rfl) hk hGM hn hρs hρr hGo hu h1 h.bone h7
theorem Rel.put {C : Cfg} {M0 : Base} {w0 : World} {sl : Nat → Option AV} {rs : Nat → Option RS} {ρ : Nat → Value} {F : Nat → Nat → Prop} {a : Act} {w : World} (h : Rel C M0 w0 sl rs ρ F a w)
    (dst : Option Nat) (hd : ∀ d, dst = some d → d < a.tmps.size) (av : AV) (v : Value) (hv : VR C ρ (Mof M0 rs F) w av v) : Rel C M0 w0 (updS sl dst av) rs ρ F (a.put dst v) w := by
  refine ⟨h.toMem, fun t av' ht => ?_, ?_⟩
  · cases dst with
    | none => simp only [updS] at ht; obtain ⟨u, e1, e2⟩ := h.slots t av' (by simpa using ht); exact ⟨u, e1, e2⟩
    | some d =>
      simp only [updS, Option.some.injEq] at ht
      by_cases hdt : d = t
      · subst hdt
        rw [if_pos rfl] at ht
        obtain rfl : av = av' := by simpa using ht
        exact ⟨v, by simp [Act.put, hd d rfl], hv⟩
      · rw [if_neg hdt] at ht
        obtain ⟨u, e1, e2⟩ := h.slots t av' ht
        exact ⟨u, by simp [Act.put, Array.getElem?_setIfInBounds_ne hdt, e1], e2⟩
  · cases dst <;> exact h.defers
theorem Rel.world {C : Cfg} {M0 : Base} {w0 : World} {sl : Nat → Option AV} {rs : Nat → Option RS} {ρ : Nat → Value} {F : Nat → Nat → Prop} {a : Act} {w w' : World} (h : Rel C M0 w0 sl rs ρ F a w)
    (hk : KeepS (fun _ => False) w w') : Rel C M0 w0 sl rs ρ F a w' :=
  h.upd (fun _ => False) hk (fun _ g => g.elim) (fun _ _ => ⟨rfl, rfl⟩) (fun _ _ _ _ _ => rfl) (fun _ _ _ _ => ⟨rfl, fun _ _ => rfl⟩) (fun _ _ _ _ _ _ g => g) (fun _ _ u => u.elim) h.one ⟨fun h => ⟨h, rfl⟩, fun lk its H h => ⟨its, H, h⟩⟩
section
variable {C : Cfg} {M0 : Base} {w0 : World} {sl sl' : Nat → Option AV} {rs rs' : Nat → Option RS} {ρ : Nat → Value} {F : Nat → Nat → Prop} {a : Act} {w : World}
theorem Rel.slot (h : Rel C M0 w0 sl rs ρ F a w) {t : Nat} {v : Value} {av : AV} (hv : a.tmps[t]? = some v) (hr : VR C ρ (Mof M0 rs F) w av v) : Rel C M0 w0 (updS sl (some t) av) rs ρ F a w := by
  refine ⟨h.toMem, fun t' av' ht => ?_, h.defers⟩
  by_cases e : some t = some t'
  · obtain rfl := Option.some.inj e
    simp only [updS, if_true, Option.some.injEq] at ht
    subst ht
    exact ⟨v, hv, hr⟩
  · have e2 : updS sl (some t) av t' = sl t' := by simp only [updS]; rw [if_neg e]
    rw [e2] at ht
    exact h.slots t' av' ht
theorem Rel.sub (h : Rel C M0 w0 sl rs ρ F a w) (hs : ∀ t av, sl' t = some av → sl t = some av) (hr : ∀ id st, rs' id = some st → rs id = some st) : Rel C M0 w0 sl' rs' ρ F a w := by
  have hM : ∀ k, Mof M0 rs' F k → k < w.heap.size → Mof M0 rs F k := by
    rintro k (h0 | ⟨id, st, hst, hF⟩) _
    · exact .inl h0
    · exact .inr ⟨id, st, hr id st hst, hF⟩
  refine { keep := h.keep, m0 := h.m0, wl := h.wl, lsz := h.lsz, res := fun id st hst => ?_, rng := fun id st k hst => h.rng id st k (hr id st hst), disj := fun i j s t k hi hj => h.disj i j s t k (hr i s hi) (hr j t hj), one := h.one, bone := h.bone, ext := h.ext, glob := h.glob, own7 := fun h' => h.own7 (by obtain ⟨st, hst⟩ := Option.isSome_iff_exists.1 h'; rw [hr _ _ hst]; rfl), lkz := fun lk its H h' => h.lkz lk its H (hr _ _ h'), slots := fun t av ht => ?_, defers := h.defers }
  · exact (h.res id st (hr id st hst)).step (KeepS.refl (fun _ => False) _) (fun _ g => g.elim) (fun _ _ g => g) hM rfl fun _ _ => rfl
  · obtain ⟨v, e1, e2⟩ := h.slots t av (hs t av ht)
    exact ⟨v, e1, e2.step (KeepS.refl _ _) hM fun _ _ => rfl⟩
end
end Go.Pev
/- The pure evaluator, part E: readings, data and cells. Own text, over any program. -/
namespace Go.Pev
section
variable {α β : Type} {sl sl' : Nat → Option AV} {rs rs' : Nat → Option RS}
theorem ev_bind (f : α → Rd β) : ∀ (x : Rd α) (s r : List Nat) (y : β × List Nat × List Nat), ev sl rs (x.bind f) s r = some y →
    ∃ a s1 r1, ev sl rs x s r = some (a, s1, r1) ∧ ev sl rs (f a) s1 r1 = some y
  | .ret a, s, r, y, h => ⟨a, s, r, rfl, h⟩
  | .fail, _, _, _, h => by simp [Rd.bind, ev] at h
  | .slot t k, s, r, y, h => by
    simp only [Rd.bind, ev] at h ⊢
    cases ht : sl t with
    | none => simp [ht] at h
    | some a => simp only [ht] at h ⊢; exact ev_bind f (k a) _ _ y h
  | .res t k, s, r, y, h => by
    simp only [Rd.bind, ev] at h ⊢
    cases ht : rs t with
    | none => simp [ht] at h
    | some a => simp only [ht] at h ⊢; exact ev_bind f (k a) _ _ y h
  | .br b u v, s, r, y, h => by
    simp only [Rd.bind, ev] at h ⊢
    cases b
    · exact ev_bind f v _ _ y h
    · exact ev_bind f u _ _ y h
  | .opt none k, s, r, y, h => by cases h
  | .opt (some a) k, s, r, y, h => ev_bind f (k a) s r y h
theorem ev_sub : ∀ (x : Rd α) (s r : List Nat) (a : α) (s1 r1 : List Nat), ev sl rs x s r = some (a, s1, r1) → (∀ t, t ∈ s → t ∈ s1) ∧ (∀ t, t ∈ r → t ∈ r1)
  | .ret a, s, r, _, _, _, h => by simp only [ev, Option.some.injEq, Prod.mk.injEq] at h; obtain ⟨_, rfl, rfl⟩ := h; exact ⟨fun _ h => h, fun _ h => h⟩
  | .fail, _, _, _, _, _, h => by simp [ev] at h
  | .slot t k, s, r, a, s1, r1, h => by
    simp only [ev] at h
    cases ht : sl t with
    | none => simp [ht] at h
    | some b => simp only [ht] at h; have := ev_sub (k b) _ _ _ _ _ h; exact ⟨fun u hu => this.1 u (List.mem_cons_of_mem _ hu), this.2⟩
  | .res t k, s, r, a, s1, r1, h => by
    simp only [ev] at h
    cases ht : rs t with
    | none => simp [ht] at h
    | some b => simp only [ht] at h; have := ev_sub (k b) _ _ _ _ _ h; exact ⟨this.1, fun u hu => this.2 u (List.mem_cons_of_mem _ hu)⟩
  | .br b u v, s, r, a, s1, r1, h => by
    simp only [ev] at h
    cases b
    · exact ev_sub v _ _ _ _ _ h
    · exact ev_sub u _ _ _ _ _ h
  | .opt none k, s, r, a, s1, r1, h => by cases h
  | .opt (some b) k, s, r, a, s1, r1, h => ev_sub (k b) s r a s1 r1 h
theorem ev_local : ∀ (x : Rd α) (s r : List Nat) (a : α) (s1 r1 : List Nat), ev sl rs x s r = some (a, s1, r1) → (∀ t, t ∈ s1 → sl' t = sl t) → (∀ t, t ∈ r1 → rs' t = rs t) →
    ev sl' rs' x s r = some (a, s1, r1)
  | .ret a, s, r, _, _, _, h, _, _ => h
  | .fail, _, _, _, _, _, h, _, _ => by simp [ev] at h
  | .slot t k, s, r, a, s1, r1, h, hs, hr => by
    simp only [ev] at h ⊢
    cases ht : sl t with
    | none => simp [ht] at h
    | some b =>
      simp only [ht] at h
      have hm := (ev_sub (k b) _ _ _ _ _ h).1 t List.mem_cons_self
      rw [hs t hm, ht]
      exact ev_local (k b) _ _ _ _ _ h hs hr
  | .res t k, s, r, a, s1, r1, h, hs, hr => by
    simp only [ev] at h ⊢
    cases ht : rs t with
    | none => simp [ht] at h
    | some b =>
      simp only [ht] at h
      have hm := (ev_sub (k b) _ _ _ _ _ h).2 t List.mem_cons_self
      rw [hr t hm, ht]
      exact ev_local (k b) _ _ _ _ _ h hs hr
  | .br b u v, s, r, a, s1, r1, h, hs, hr => by
    simp only [ev] at h ⊢
    cases b
    · exact ev_local v _ _ _ _ _ h hs hr
    · exact ev_local u _ _ _ _ _ h hs hr
  | .opt none k, s, r, a, s1, r1, h, hs, hr => by cases h
  | .opt (some b) k, s, r, a, s1, r1, h, hs, hr => ev_local (k b) s r a s1 r1 h hs hr
theorem ev_ret {a : α} {s r : List Nat} {y : α × List Nat × List Nat} (h : ev sl rs (.ret a) s r = some y) : y = (a, s, r) := by simpa [ev] using h.symm
theorem ev_ofO {o : Option α} {s r : List Nat} {y : α × List Nat × List Nat} (h : ev sl rs (Rd.ofO o) s r = some y) : ∃ a, o = some a ∧ y = (a, s, r) := by
  cases o with
  | none => simp [Rd.ofO, ev] at h
  | some a => exact ⟨a, rfl, ev_ret h⟩
theorem ev_slot {t : Nat} {f : AV → Rd α} {s r : List Nat} {y : α × List Nat × List Nat} (h : ev sl rs (.slot t f) s r = some y) : ∃ a, sl t = some a ∧ ev sl rs (f a) (t :: s) r = some y := by
  simp only [ev] at h
  cases ht : sl t with
  | none => simp [ht] at h
  | some a => exact ⟨a, rfl, by simpa [ht] using h⟩
theorem ev_res {t : Nat} {f : RS → Rd α} {s r : List Nat} {y : α × List Nat × List Nat} (h : ev sl rs (.res t f) s r = some y) : ∃ a, rs t = some a ∧ ev sl rs (f a) s (t :: r) = some y := by
  simp only [ev] at h
  cases ht : rs t with
  | none => simp [ht] at h
  | some a => exact ⟨a, rfl, by simpa [ht] using h⟩
theorem ev_br {b : Bool} {x : Rd α} {s r : List Nat} {y : α × List Nat × List Nat} (h : ev sl rs (.br b x .fail) s r = some y) : b = true ∧ ev sl rs x s r = some y := by
  cases b
  · simp [ev] at h
  · exact ⟨rfl, h⟩
end
theorem run_ev {α : Type} (E : Env) : ∀ (x : Rd α) (s r : List Nat) (k : α → List Nat → List Nat → R) (res : AV), x.run E s r k = some res →
    ∃ a s1 r1, ev (get E.sl) (getR E.rs) x s r = some (a, s1, r1) ∧ k a s1 r1 = some res
  | .ret a, s, r, k, res, h => ⟨a, s, r, rfl, h⟩
  | .fail, _, _, _, _, h => by simp [Rd.run] at h
  | .slot t f, s, r, k, res, h => by
    simp only [Rd.run, ev] at h ⊢
    cases ht : get E.sl t with
    | none => simp [ht] at h
    | some a => simp only [ht] at h ⊢; exact run_ev E (f a) _ _ k res h
  | .res t f, s, r, k, res, h => by
    simp only [Rd.run, ev] at h ⊢
    cases ht : getR E.rs t with
    | none => simp [ht] at h
    | some a => simp only [ht] at h ⊢; exact run_ev E (f a) _ _ k res h
  | .br b u v, s, r, k, res, h => by
    simp only [Rd.run, ev] at h ⊢
    cases b
    · exact run_ev E v _ _ k res h
    · exact run_ev E u _ _ k res h
  | .opt none f, s, r, k, res, h => by cases h
  | .opt (some a) f, s, r, k, res, h => run_ev E (f a) s r k res h
def zeroCells : Sh → List Value
  | .int k => [.int k 0]
  | .bool => [.bool false]
  | .str => [.string ⟨#[]⟩]
  | .err => [.nilIface]
  | .ptr => [.pointer none]
  | .rf k => [k.nil]
  | .pt _ => [.pointer none]
  | .sl _ => [.slice none 0 0]
  | .pair a b => zeroCells a ++ zeroCells b
section
variable {C : Cfg} {ρ : Nat → Value} {M : Nat → Prop} {w : World}
theorem zleaves_rel : ∀ s : Sh, All2 (LR C ρ M w) (zleaves s) (zeroCells s)
  | .int _ => .cons rfl .nil
  | .bool => .cons rfl .nil
  | .str => .cons rfl .nil
  | .err => .cons (fun _ _ => rfl) .nil
  | .ptr => .cons rfl .nil
  | .rf _ => .cons (.inl ⟨rfl, rfl⟩) .nil
  | .pt _ => .cons rfl .nil
  | .sl _ => .cons rfl .nil
  | .pair a b => (zleaves_rel a).append (zleaves_rel b)
theorem zleaves_len : ∀ s : Sh, (zleaves s).length = s.sz
  | .int _ | .bool | .str | .err | .ptr | .rf _ | .pt _ | .sl _ => rfl
  | .pair a b => by simp [zleaves, Sh.sz, zleaves_len a, zleaves_len b]
theorem zleaves_ok : ∀ s : Sh, ∀ a ∈ zleaves s, okLeaf a = true
  | .int _ | .bool | .str | .err | .ptr | .rf _ | .pt _ | .sl _ => by simp [zleaves, okLeaf]
  | .pair a b => by
    intro x hx
    simp only [zleaves, List.mem_append] at hx
    exact hx.elim (zleaves_ok a x) (zleaves_ok b x)
theorem leaves_len : ∀ (s : Sh) (x : s.T), (leaves s x).length = s.sz
  | .int _, _ | .bool, _ | .str, _ | .err, _ | .ptr, _ | .rf _, _ | .pt _, _ | .sl _, _ => rfl
  | .pair a b, x => by simp [leaves, Sh.sz, leaves_len a, leaves_len b]
theorem leaves_ok : ∀ (s : Sh) (x : s.T), ∀ a ∈ leaves s x, okLeaf a = true
  | .int _, _ | .bool, _ | .str, _ | .err, _ | .ptr, _ | .rf _, _ | .pt _, _ | .sl _, _ => by simp [leaves, okLeaf]
  | .pair a b, x => by
    intro y hy
    simp only [leaves, List.mem_append] at hy
    exact hy.elim (leaves_ok a _ y) (leaves_ok b _ y)
theorem leaves_ment : ∀ (s : Sh) (x : s.T) (id : Nat), ∀ a ∈ leaves s x, a.ment1 id = false
  | .int _, _, _ | .bool, _, _ | .str, _, _ | .err, _, _ | .ptr, _, _ | .rf _, _, _ | .pt _, _, _ | .sl _, _, _ => by simp [leaves, AV.ment1]
  | .pair a b, x, id => by
    intro y hy
    simp only [leaves, List.mem_append] at hy
    exact hy.elim (leaves_ment a _ id y) (leaves_ment b _ id y)
theorem leaves_rel : ∀ (s : Sh) (x : s.T) (cs : List Value), RR C M w s x cs → All2 (LR C ρ M w) (leaves s x) cs
  | .int _, x, cs, e => by simp only [RR] at e; subst e; exact .cons rfl .nil
  | .bool, x, cs, e => by simp only [RR] at e; subst e; exact .cons rfl .nil
  | .str, x, cs, e => by simp only [RR] at e; subst e; exact .cons rfl .nil
  | .err, x, cs, h => by
    simp only [RR] at h
    obtain ⟨v, rfl, h⟩ := h
    exact .cons h .nil
  | .ptr, x, cs, e => by simp only [RR] at e; subst e; exact .cons rfl .nil
  | .rf k, x, cs, h => by
    have hl := RR.len (.rf k) x cs h
    obtain ⟨v, rfl⟩ : ∃ v, cs = [v] := by
      match cs, hl with
      | [v], _ => exact ⟨v, rfl⟩
    exact .cons h .nil
  | .pt s, x, cs, h => by
    have hl := RR.len (.pt s) x cs h
    obtain ⟨v, rfl⟩ : ∃ v, cs = [v] := by
      match cs, hl with
      | [v], _ => exact ⟨v, rfl⟩
    exact .cons h .nil
  | .sl s, x, cs, h => by
    simp only [RR] at h
    obtain ⟨A, c, rfl, hc, h⟩ := h
    exact .cons ⟨A, c, rfl, hc, h⟩ .nil
  | .pair a b, x, cs, h => by
    have := (leaves_rel a x.1 _ h.1).append (leaves_rel b x.2 _ h.2)
    rw [List.take_append_drop] at this
    exact this
theorem castL_some {s' s : Sh} {l : List s'.T} {x : List s.T} (h : castL s' s l = some x) : ∃ e : s' = s, x = e ▸ l := by
  unfold castL at h
  split at h
  · rename_i e; exact ⟨e, by simpa using h.symm⟩
  · cases h
theorem castP_some {s' s : Sh} {l : Option s'.T} {x : Option s.T} (h : castP s' s l = some x) : ∃ e : s' = s, x = e ▸ l := by
  unfold castP at h
  split at h
  · rename_i e; exact ⟨e, by simpa using h.symm⟩
  · cases h
theorem castE_some {s' s : Sh} {l : s'.T} {x : s.T} (h : castE s' s l = some x) : ∃ e : s' = s, x = e ▸ l := by
  unfold castE at h
  split at h
  · rename_i e; exact ⟨e, by simpa using h.symm⟩
  · cases h
theorem add_zero' (ad : Addr) : ad.add 0 = ad := by simp [Addr.add]
theorem ofLeaves_rep : ∀ (s : Sh) (l : List AV) (x : s.T) (vs : List Value), ofLeaves s l = some x → All2 (LR C ρ M w) l vs → RR C M w s x vs
  | .int k, l, x, vs, h, hr => by
    simp only [ofLeaves] at h
    split at h <;> simp at h
    obtain ⟨rfl, rfl⟩ := h
    cases hr with | cons h1 h2 => cases h2; simp only [LR] at h1; subst h1; exact rfl
  | .bool, l, x, vs, h, hr => by
    simp only [ofLeaves] at h
    split at h <;> simp at h
    subst h
    cases hr with | cons h1 h2 => cases h2; simp only [LR] at h1; subst h1; exact rfl
  | .str, l, x, vs, h, hr => by
    simp only [ofLeaves] at h
    split at h <;> simp at h
    subst h
    cases hr with | cons h1 h2 => cases h2; simp only [LR] at h1; subst h1; exact rfl
  | .err, l, x, vs, h, hr => by
    simp only [ofLeaves] at h
    split at h <;> simp at h
    subst h
    cases hr with | cons h1 h2 => cases h2; simp only [LR] at h1; exact ⟨_, rfl, h1⟩
  | .ptr, l, x, vs, h, hr => by
    simp only [ofLeaves] at h
    split at h <;> simp at h
    cases hr with | cons h1 h2 => cases h2; simp only [LR] at h1; subst h1; exact rfl
  | .rf k, l, x, vs, h, hr => by
    simp only [ofLeaves] at h
    split at h
    · split at h <;> try (cases h; done)
      rename_i e
      subst e
      obtain rfl := Option.some.inj h
      cases hr with | cons h1 h2 => cases h2; exact h1
    · split at h <;> try (cases h; done)
      rename_i e
      subst e
      obtain rfl := Option.some.inj h
      cases hr with | cons h1 h2 => cases h2; simp only [LR] at h1; subst h1; exact .inl ⟨rfl, rfl⟩
    · split at h <;> try (cases h; done)
      rename_i e
      subst e
      obtain rfl := Option.some.inj h
      cases hr with | cons h1 h2 => cases h2; simp only [LR] at h1; subst h1; exact .inl ⟨rfl, rfl⟩
    · cases h
  | .pt s, l, x, vs, h, hr => by
    simp only [ofLeaves] at h
    split at h
    · simp at h
      subst h
      cases hr with | cons h1 h2 => cases h2; simp only [LR] at h1; subst h1; exact .inl ⟨rfl, rfl⟩
    · rename_i s' x'
      obtain ⟨e, rfl⟩ := castP_some h
      subst e
      cases hr with | cons h1 h2 => cases h2; simp only [LR] at h1; exact h1
    · rename_i s' x'
      simp only [Option.map_eq_some_iff] at h
      obtain ⟨y, h, rfl⟩ := h
      obtain ⟨e, rfl⟩ := castE_some h
      subst e
      cases hr with
      | cons h1 h2 =>
        cases h2
        simp only [LR] at h1
        obtain ⟨ad, ys, rfl, h1, h2⟩ := h1
        exact .inr ⟨_, ad, ys, rfl, by rw [add_zero'], h1, h2⟩
    · cases h
  | .sl s, l, x, vs, h, hr => by
    simp only [ofLeaves] at h
    split at h
    · rename_i s' l'
      obtain ⟨e, rfl⟩ := castL_some h
      subst e
      cases hr with | cons h1 h2 => cases h2; simp only [LR] at h1; obtain ⟨A, c, rfl, hc, hR⟩ := h1; exact ⟨A, c, rfl, hc, hR⟩
    · simp at h
      subst h
      cases hr with | cons h1 h2 => cases h2; simp only [LR] at h1; subst h1; exact ⟨none, 0, rfl, Nat.le_refl _, .inl rfl⟩
    · cases h
  | .pair a b, l, x, vs, h, hr => by
    simp only [ofLeaves] at h
    split at h <;> simp at h
    rename_i x1 y1 h1 h2
    subst h
    have r1 := ofLeaves_rep a _ _ _ h1 (hr.take a.sz)
    have r2 := ofLeaves_rep b _ _ _ h2 (hr.drop a.sz)
    exact ⟨r1, r2⟩
end
end Go.Pev
/- The pure evaluator, part F: one operation in the machine does what its step says. Own text, over any program. -/
namespace Go.Pev
def OpRuns (P : Program) (a : Act) (o : Oper) (w : World) (R : Value → World → Prop) : Prop :=
  (∃ v w', (execOp a.eval o).run P w = .ok (.value v) w' ∧ R v w') ∨
  (∃ w', (execOp a.eval o).run P w = .ok .skip w' ∧ R Go.undef w') ∨
  (∃ f args w1, (execOp a.eval o).run P w = .ok (.enter f args) w1 ∧ Calls P f args w1 fun e w' => ∃ v, e = .returned v ∧ R v w')
theorem OpRuns.wp {P : Program} {a : Act} {o : Oper} {w : World} {R : Value → World → Prop} (h : OpRuns P a o w R) {next : Act → World → Prop} {Q : Exit → Act → World → Prop}
    (hn : ∀ v w', R v w' → next (a.put o.dst v) w') : o.wp P a w next Q := by
  unfold Oper.wp
  rcases h with ⟨v, w', hr, hR⟩ | ⟨w', hr, hR⟩ | ⟨f, args, w1, hr, hc⟩
  · rw [hr]; exact hn _ _ hR
  · rw [hr]; exact hn _ _ hR
  · rw [hr]
    refine hc.mono fun e w' h => ?_
    obtain ⟨v, rfl, hR⟩ := h
    exact hn _ _ hR
def TyOk (P : Program) (t : Nat) (s : Sh) : Prop := (P.info? t).map (fun i => (i.zero.map Value.cells, i.size)) = some (some (zeroCells s).toArray, s.sz)
def TysOk (P : Program) : List (Nat × Sh) → Prop
  | [] => True
  | p :: r => TyOk P p.1 p.2 ∧ TysOk P r
theorem TysOk.get {P : Program} : ∀ {l : List (Nat × Sh)}, TysOk P l → ∀ {t : Nat} {s : Sh}, Pev.get l t = some s → TyOk P t s
  | [], _, _, _, h => by simp [Pev.get] at h
  | (k, v) :: r, h, t, s, hg => by
    simp only [Pev.get] at hg
    split at hg
    · rename_i hb
      have := Nat.eq_of_beq_eq_true hb
      subst this
      obtain rfl : v = s := by simpa using hg
      exact h.1
    · exact TysOk.get h.2 hg
theorem TyOk.info {P : Program} {t : Nat} {s : Sh} (h : TyOk P t s) : ∃ i z, P.info? t = some i ∧ i.size = s.sz ∧ i.zero = some z ∧ z.cells = (zeroCells s).toArray := by
  unfold TyOk at h
  cases hi : P.info? t with
  | none => simp [hi] at h
  | some i =>
    simp only [hi, Option.map_some, Option.some.injEq, Prod.mk.injEq] at h
    cases hz : i.zero with
    | none => simp [hz] at h
    | some z => exact ⟨i, z, rfl, h.2, hz, by simpa [hz] using h.1⟩
structure Fit (P : Program) (T : Tabs) : Prop where
  tys : TysOk P T.shs
  errno : P.underlying T.errno = some (.int .i64)
  eqs : T.eqs.all (eqOkB P T.shs) = true
  comp : (P.info? T.errno).map (·.comparable) = some true
  ne : T.errno ≠ T.fptr
abbrev Tabs.cf (T : Tabs) (b : Nat → Value) (n : Nat) (L : Nat → Prop) : Cfg := (T.toCfg.at b n).lk L
section
variable {P : Program} {T : Tabs} {M0 : Base} {β : Nat → Value} {N : Nat} {w0 : World} {sl : Nat → Option AV} {rs : Nat → Option RS} {ρ : Nat → Value} {F : Nat → Nat → Prop} {a : Act} {w : World}
abbrev RelE (T : Tabs) (M0 : Base) (w0 : World) (sl : Nat → Option AV) (rs : Nat → Option RS) (a : Act) (w : World) : Prop := ∃ ρ F β N, Rel (T.cf β N M0.L) M0 w0 sl rs ρ F a w
theorem constAV_rel {C : Cfg} {M : Nat → Prop} {v : Value} {av : AV} (h : constAV v = some av) : VR C ρ M w av v := by
  unfold constAV at h
  split at h <;> simp at h <;> subst h <;> first | rfl | (exact fun _ _ => rfl) | (exact .inl ⟨rfl, rfl⟩)
theorem opd_rel (h : Rel (T.cf β N M0.L) M0 w0 sl rs ρ F a w) {x : Operand} {s r s1 r1 : List Nat} {av : AV} (he : ev sl rs (opd x) s r = some (av, s1, r1)) : VR (T.cf β N M0.L) ρ (Mof M0 rs F) w av (a.eval x) := by
  cases x with
  | tmp t =>
    simp only [opd] at he
    obtain ⟨a1, h1, h2⟩ := ev_slot he
    have := ev_ret h2
    simp only [Prod.mk.injEq] at this
    obtain ⟨rfl, _, _⟩ := this
    obtain ⟨v, e1, e2⟩ := h.slots t _ h1
    simp only [Act.eval, Array.getD_eq_getD_getElem?, e1, Option.getD_some]
    exact e2
  | const v =>
    simp only [opd] at he
    obtain ⟨a1, h1, h2⟩ := ev_ofO he
    simp only [Prod.mk.injEq] at h2
    obtain ⟨rfl, _, _⟩ := h2
    exact constAV_rel h1
  | global g => simp [opd, ev] at he
  | func f =>
    simp only [opd] at he
    have := ev_ret he
    simp only [Prod.mk.injEq] at this
    obtain ⟨rfl, _, _⟩ := this
    rfl
theorem updR_nil : updR rs [] = rs := by funext id; simp [updR, get]
theorem runs_value (h : Rel (T.cf β N M0.L) M0 w0 sl rs ρ F a w) {o : Oper} (hd : ∀ d, o.dst = some d → d < a.tmps.size) {v : Value} {av : AV} (hr : (execOp a.eval o).run P w = .ok (.value v) w) (hv : VR (T.cf β N M0.L) ρ (Mof M0 rs F) w av v) :
    OpRuns P a o w fun v w' => RelE T M0 w0 (updS sl o.dst av) (updR rs []) (a.put o.dst v) w' :=
  .inl ⟨v, w, hr, ρ, F, β, N, by rw [updR_nil]; exact h.put o.dst hd av v hv⟩
structure Fresh (sl : Nat → Option AV) (rs : Nat → Option RS) (d : Nat) : Prop where
  slots : ∀ t av, sl t = some av → av.ment d = false
  res : ∀ id st, rs id = some st → st.ment d = false
  ne : d ≠ 7000
theorem get_single (d : Nat) (r : Option RS) (id : Nat) : get [(d, r)] id = if d = id then some r else none := by
  simp only [get]
  by_cases h : d = id
  · subst h; simp [Nat.beq_refl]
  · rw [if_neg h]
    split
    · rename_i hb; exact absurd (Nat.eq_of_beq_eq_true hb) h
    · rfl
theorem updR_single (d : Nat) (st : RS) (id : Nat) : updR rs [(d, some st)] id = if d = id then some st else rs id := by
  simp only [updR, get_single]
  by_cases h : d = id <;> simp [h]
theorem own7_single {rs : Nat → Option RS} {ρ : Nat → Value} {id : Nat} {st : RS} {st' : Option RS} (hid : rs id = some st) (hreg : ∀ lk its H, st' = some (.reg lk its H) → ∃ its0 H0, st = .reg lk its0 H0 := by (intro _ _ _ e; first | (cases e; done) | (cases e; exact ⟨_, _, rfl⟩))) : Kept rs (updR rs [(id, st')]) ρ ρ := by
  refine ⟨fun h => ⟨?_, rfl⟩, fun lk its H h => ?_⟩
  rotate_left
  · by_cases e : id = REG
    · subst e
      rw [show updR rs [(REG, st')] REG = st' by simp only [updR, get_single, if_true]] at h
      obtain ⟨i0, H0, h0⟩ := hreg lk its H h
      exact ⟨i0, H0, by rw [hid, h0]⟩
    · simp only [updR, get_single, if_neg e] at h
      exact ⟨its, H, h⟩
  by_cases e : id = 7000
  · subst e; rw [hid]; rfl
  · simp only [updR, get_single, if_neg e] at h
    exact h
theorem runs_new (h : Rel (T.cf β N M0.L) M0 w0 sl rs ρ F a w) {o : Oper} {d : Nat} (hdst : o.dst = some d) (hd : d < a.tmps.size) (hf : Fresh sl rs d) (st : RS) (av : AV) (v : Value) (ob : Obj)
    (hr : (execOp a.eval o).run P w = .ok (.value v) (w.alloc ob)) (hv1 : v.oneCell' = true) (hav : av = .ref d 0 ∨ av = .own d) (hav2 : av = .ref d 0 → v = .pointer (some ⟨w.heap.size, 0, none⟩))
    (hst : ∀ ρ' M', ρ' d = v → (∀ id, st.ment id = true → ρ' id = ρ id) → (∀ k, M' k → k < w.heap.size → Mof M0 rs F k) → ResOk (T.cf β N M0.L) ρ' M' (w.alloc ob) d (fun k => k = w.heap.size) st)
    (hsm : st.ment d = false) (hsr : ∀ lk its H, st ≠ .reg lk its H := by (intro _ _ _ e; cases e)) :
    OpRuns P a o w fun v w' => RelE T M0 w0 (updS sl o.dst av) (updR rs [(d, some st)]) (a.put o.dst v) w' := by
  refine .inl ⟨v, w.alloc ob, hr, fun id => if id = d then v else ρ id, fun id => if id = d then (fun k => k = w.heap.size) else F id, β, N, ?_⟩
  have hsz := h.keep.size
  have base : Rel (T.cf β N M0.L) M0 w0 sl (updR rs [(d, some st)]) (fun id => if id = d then v else ρ id) (fun id => if id = d then (fun k => k = w.heap.size) else F id) a (w.alloc ob) := by
    refine h.upd (fun id => id = d) (KeepS.alloc w ob) (fun _ g => g.elim) (fun id hid => ⟨?_, ?_⟩) (fun t av id ht hm => ?_) (fun id st' hid hst' => ⟨?_, fun i hi => ?_⟩) (fun _ _ _ _ _ _ g => g) (fun id st' hid hst' => ?_) (fun id => ?_) ⟨fun h' => ⟨by rw [updR_single, if_neg hf.ne] at h'; exact h', by simp only [if_neg (Ne.symm hf.ne)]⟩, fun lk its H h' => by
      rw [updR_single] at h'
      split at h'
      · exact absurd (Option.some.inj h') (hsr lk its H)
      · exact ⟨its, H, h'⟩⟩
    · rw [updR_single, if_neg (Ne.symm hid)]
    · simp only [if_neg hid]
    · by_cases e : id = d
      · subst e; rw [hf.slots t av ht] at hm; cases hm
      · simp only [if_neg e]
    · simp only [if_neg hid]
    · by_cases e : i = d
      · subst e; rw [hf.res id st' hst'] at hi; cases hi
      · simp only [if_neg e]
    · subst hid
      rw [updR_single, if_pos rfl] at hst'
      obtain rfl : st = st' := by simpa using hst'
      refine ⟨fun hs => ?_, fun k hk => ?_⟩
      · simp only [if_true]
        refine hst _ _ (by simp) (fun i hi => ?_) hs
        by_cases e : i = id
        · subst e; rw [hsm] at hi; cases hi
        · simp only [if_neg e]
      · simp only [if_true] at hk
        subst hk
        refine ⟨.inr (.inr hsz), by simp, fun h' => absurd h' (Nat.lt_irrefl _), fun j t hj ht => ?_⟩
        simp only [if_neg hj]
        rw [updR_single, if_neg (Ne.symm hj)] at ht
        intro hF
        exact absurd (h.rng j t _ ht hF).2 (Nat.lt_irrefl _)
    · by_cases e : id = d
      · simp only [if_pos e]; exact hv1
      · simp only [if_neg e]; exact h.one id
  rw [hdst]
  refine base.put (some d) (fun _ e => by obtain rfl := Option.some.inj e; exact hd) av v ?_
  rcases hav with e | e
  · subst e
    simp only [VR, SR, LR, if_true]
    exact ⟨w.heap.size, hav2 rfl, hav2 rfl⟩
  · subst e
    simp only [VR, SR, LR, if_true]
end
end Go.Pev
/- The pure evaluator, part G: loads, stores, rows as data. Own text, over any program. -/
namespace Go.Pev
section
variable {P : Program} {T : Tabs} {M0 : Base} {β : Nat → Value} {N : Nat} {w0 : World} {sl : Nat → Option AV} {rs : Nat → Option RS} {ρ : Nat → Value} {F : Nat → Nat → Prop} {a : Act} {w : World} {C : Cfg} {M : Nat → Prop}
theorem LR.toSR {x : AV} {v : Value} (h : LR C ρ M w x v) : SR C ρ M w x v := by cases x <;> first | exact h | exact h.elim
theorem LR.toVR {x : AV} {v : Value} (h : LR C ρ M w x v) : VR C ρ M w x v := by cases x <;> first | exact h | exact h.elim
theorem SR.toVR {x : AV} {v : Value} (h : SR C ρ M w x v) : VR C ρ M w x v := by cases x <;> first | exact h | exact h.elim
theorem VR.toLR {x : AV} {v : Value} (hx : okLeaf x = true) (h : VR C ρ M w x v) : LR C ρ M w x v := by cases x <;> first | exact h | (simp [okLeaf] at hx)
theorem VR.ag {l : List AV} {v : Value} (h : VR C ρ M w (.ag l) v) : ∃ cs : List Value, v = .agg cs.toArray ∧ All2 (LR C ρ M w) l cs := h
theorem cells_one {v : Value} (h : v.oneCell' = true) : v.cells = #[v] := by cases v <;> first | rfl | simp [Value.oneCell'] at h
theorem addr_add (ad : Addr) (m n : Nat) : (ad.add m).add n = ad.add (m + n) := by
  unfold Addr.add
  by_cases hm : m = 0
  · subst hm; simp
  · by_cases hn : n = 0
    · subst hn; simp [hm]
    · have : ¬ (m + n = 0) := by omega
      simp [hm, hn, Nat.add_assoc]
theorem addr_at (b n : Nat) : (⟨b, 0, none⟩ : Addr).add n = ⟨b, n, none⟩ := by
  unfold Addr.add
  by_cases hn : n = 0
  · subst hn; simp
  · simp [hn]
theorem aggOf_true {t : TypeId} (h : aggOf P t = some true) : (isAgg t).run P w = .ok true w := by
  unfold aggOf at h
  unfold isAgg underlying
  cases hu : P.underlying t with
  | none => simp [hu] at h
  | some d => simp [hu] at h ⊢; cases d <;> simp at h ⊢
theorem aggOf_false {t : TypeId} (h : aggOf P t = some false) : (isAgg t).run P w = .ok false w := by
  unfold aggOf at h
  unfold isAgg underlying
  cases hu : P.underlying t with
  | none => simp [hu] at h
  | some d => simp [hu] at h ⊢; cases d <;> simp at h ⊢
theorem load_ok {t : TypeId} {st : Sh} (ht : TyOk P t st) {l : List AV} {vs : List Value} (hl : All2 (LR C ρ M w) l vs) (p : Addr) (off : Nat) (hc : ∀ j u, vs[j]? = some u → w.cell? (p.add j) = some u) {av : AV}
    (h : loadAV P t st.sz l off = some av) : ∃ v, (Instr.loadAt t (.pointer (some (p.add off)))).run P w = .ok v w ∧ VR C ρ M w av v := by
  unfold loadAV at h
  split at h
  · rename_i hagg
    split at h
    · rename_i hle
      obtain rfl : AV.ag ((l.drop off).take st.sz) = av := by simpa using h
      have h2 := (hl.drop off).take st.sz
      have hlen := hl.length
      have hcs : ((vs.drop off).take st.sz).length = st.sz := by simp; omega
      refine ⟨.agg ((vs.drop off).take st.sz).toArray, ?_, ⟨_, rfl, h2⟩⟩
      obtain ⟨i, z, hi, hsz, _⟩ := ht.info
      have hload := run_loadCells_list (P := P) w (p.add off) ((vs.drop off).take st.sz) (fun j u hj => by
        rw [addr_add]
        refine hc _ _ ?_
        rw [List.getElem?_take] at hj
        split at hj
        · rw [List.getElem?_drop] at hj; exact hj
        · cases hj)
      rw [hcs] at hload
      simp only [Instr.loadAt, Instr.sureAddr, loadVar, Sem.run_bind, Sem.run_pure, Result.andThen_ok, aggOf_true hagg, if_true, sizeOf, typeInfo, run_program, hi, hsz, hload]
    · cases h
  · rename_i hagg
    rw [List.head?_drop] at h
    obtain ⟨u, hu, hr⟩ := hl.get off av h
    refine ⟨u, ?_, hr.toVR⟩
    have := hc off u hu
    simp only [Instr.loadAt, Instr.sureAddr, loadVar, Sem.run_bind, Sem.run_pure, Result.andThen_ok, aggOf_false hagg, Bool.false_eq_true, if_false, run_load, this]
  · cases h
def FreezeWs (rs : Nat → Option RS) (ws : Ws) : Prop := ∀ id r, get ws id = some r → ∃ e s l, rs id = some (.row e s l) ∧ r = some (.fro s l)
theorem get_append {α : Type _} (l m : List (Nat × α)) (t : Nat) : get (l ++ m) t = match get l t with | some a => some a | none => get m t := by
  induction l with
  | nil => rfl
  | cons p l ih =>
    obtain ⟨k, v⟩ := p
    simp only [List.cons_append, get]
    split <;> first | rfl | exact ih
theorem FreezeWs.nil : FreezeWs rs [] := fun id r h => by simp [get] at h
theorem FreezeWs.append {x y : Ws} (h : FreezeWs rs x) (h' : FreezeWs rs y) : FreezeWs rs (x ++ y) := by
  intro id r hg
  rw [get_append] at hg
  cases hx : get x id with
  | none => rw [hx] at hg; exact h' id r hg
  | some q => rw [hx] at hg; obtain rfl : q = r := by simpa using hg
              exact h id _ hx
theorem Rel.freeze (h : Rel C M0 w0 sl rs ρ F a w) {ws : Ws} (hz : FreezeWs rs ws) : Rel C M0 w0 sl (updR rs ws) ρ (fun id => if (get ws id).isSome then (fun _ => False) else F id) a w := by
  refine h.upd (G := fun _ => False) (fun id => (get ws id).isSome) (KeepS.refl _ _) (fun _ g => g.elim) (fun id hid => ?_) (fun _ _ _ _ _ => rfl) (fun _ _ _ _ => ⟨rfl, fun _ _ => rfl⟩) (fun _ _ _ _ _ _ g => g) (fun id st hid hst => ?_) h.one ⟨fun h' => ⟨?_, rfl⟩, fun lk its H h' => ?_⟩
  · have : get ws id = none := by cases hg : get ws id with | none => rfl | some r => simp [hg] at hid
    exact ⟨by simp [updR, this], by simp [this]⟩
  · obtain ⟨r, hr⟩ := Option.isSome_iff_exists.1 hid
    obtain ⟨e, s, l, e1, rfl⟩ := hz id r hr
    simp only [updR, hr, Option.some.injEq] at hst
    subst hst
    refine ⟨fun hs => ?_, fun k hk => by simp [hr] at hk⟩
    simp only [hr, Option.isSome_some, if_true]
    refine ⟨?_, fun k hk => hk⟩
    obtain ⟨css, ⟨hlen, hown⟩, hF, hel⟩ := h.res id _ e1
    rcases hown with ⟨hv, hn⟩ | ⟨g, cap, cur, hv, _, hg, hnc, _, hcs, htake⟩
    · have : l = [] := List.eq_nil_of_length_eq_zero hn
      subst this
      exact ⟨none, 0, by rw [hv]; rfl, Nat.le_refl _, .inl rfl⟩
    · refine ⟨some ⟨g, 0, none⟩, cap, hv, hnc, ?_⟩
      have hgb : g < w.heap.size := by
        rcases Nat.lt_or_ge g w.heap.size with h' | h'
        · exact h'
        · rw [Array.getElem?_eq_none h'] at hg; cases hg
      have hFg : F id g := (hF g).2 (by rw [hv]; rfl)
      have hnm : ¬ Mof M0 (updR rs ws) (fun id => if (get ws id).isSome then (fun _ => False) else F id) g := by
        rintro (h0 | ⟨j, st, hj, hFj⟩)
        · exact h.notM0 e1 hFg h0
        · by_cases hjs : (get ws j).isSome
          · simp only [hjs, if_true] at hFj
          · simp only [hjs] at hFj
            have hj' : rs j = some st := by
              have : get ws j = none := by cases hgj : get ws j with | none => rfl | some r => simp [hgj] at hjs
              simpa [updR, this] using hj
            by_cases hij : j = id
            · subst hij; simp [hr] at hjs
            · exact h.disj j id st _ g hj' e1 hij (by simpa using hFj) hFg
      refine .inr ⟨⟨g, 0, none⟩, css, rfl, hel.imp fun x cs hx => RR.step (KeepS.refl _ w) hs s x cs hx, fun w' hw j u hju => ?_⟩
      have hheap := hw.block g hgb hnm
      rw [addr_at]
      unfold World.cell?
      simp only [hheap, hg, Option.isSome_none, Bool.false_eq_true, if_false]
      rw [← htake] at hju
      rw [List.getElem?_take] at hju
      split at hju
      · simpa using hju
      · cases hju
  · simp only [updR] at h'
    cases hg : get ws 7000 with
    | none => rw [hg] at h'; exact h'
    | some q => obtain ⟨e, s, l, h1, _⟩ := hz 7000 q hg; rw [h1]; rfl
  · simp only [updR] at h'
    cases hg : get ws REG with
    | none => rw [hg] at h'; exact ⟨its, H, h'⟩
    | some q =>
      obtain ⟨e, s, l, h1, h2⟩ := hz REG q hg
      rw [hg, h2] at h'
      cases h'
end
end Go.Pev
