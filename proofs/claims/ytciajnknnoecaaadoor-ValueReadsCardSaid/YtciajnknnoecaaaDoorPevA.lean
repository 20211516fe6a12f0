/- The pure evaluator, part A: shapes of data, what a value in memory reads as, worlds that keep what they held. Own text, over any program. -/
import Derived.Below
import Derived.LoopN
import Derived.Orders
import Derived.Laws.AppendOwn
import Derived.Laws.Entries
import Derived.Laws.Slices
import Derived.Laws.Strings
import Derived.Laws.Cells
import Derived.Laws.NewBlocks
namespace Go.Pev

/-- Shapes of data. A struct is the pairs of its fields; errors: none, or places and a number. -/
inductive Sh where
  | int (k : IntKind)
  | bool
  | str
  | err
  | ptr
  | sl (s : Sh)
  | pair (a b : Sh)
  deriving DecidableEq

abbrev Err := Option (List (Int × Int) × Int)

abbrev Sh.T : Sh → Type
  | .int _ => Int
  | .bool => Bool
  | .str => ByteArray
  | .err => Err
  | .ptr => Unit
  | .sl s => List (Sh.T s)
  | .pair a b => Sh.T a × Sh.T b

def Sh.dflt : (s : Sh) → s.T
  | .int _ => (0 : Int)
  | .bool => false
  | .str => (⟨#[]⟩ : ByteArray)
  | .err => (none : Err)
  | .ptr => ()
  | .sl _ => []
  | .pair a b => (a.dflt, b.dflt)

def Sh.sz : Sh → Nat
  | .pair a b => a.sz + b.sz
  | _ => 1

/-- Everything below the old world's end stays, but for what is in F. -/
structure KeepS (F : Nat → Prop) (w w' : World) : Prop where
  os : w'.os = w.os
  tape : w'.tape = w.tape
  output : w'.output = w.output
  size : w.heap.size ≤ w'.heap.size
  block : ∀ k, k < w.heap.size → ¬ F k → w'.heap[k]? = w.heap[k]?

theorem KeepS.refl (F : Nat → Prop) (w : World) : KeepS F w w := ⟨rfl, rfl, rfl, Nat.le_refl _, fun _ _ _ => rfl⟩

theorem KeepS.trans {F : Nat → Prop} {a b c : World} (h : KeepS F a b) (k : KeepS F b c) : KeepS F a c :=
  ⟨k.os.trans h.os, k.tape.trans h.tape, k.output.trans h.output, Nat.le_trans h.size k.size, fun i hi hf => (k.block i (Nat.lt_of_lt_of_le hi h.size) hf).trans (h.block i hi hf)⟩

theorem KeepS.trans2 {F G : Nat → Prop} {a b c : World} (h : KeepS F a b) (k : KeepS G b c) (hG : ∀ i, i < a.heap.size → G i → F i) : KeepS F a c :=
  ⟨k.os.trans h.os, k.tape.trans h.tape, k.output.trans h.output, Nat.le_trans h.size k.size, fun i hi hf => (k.block i (Nat.lt_of_lt_of_le hi h.size) (fun g => hf (hG i hi g))).trans (h.block i hi hf)⟩

theorem KeepS.mono {F G : Nat → Prop} {a b : World} (h : KeepS F a b) (hG : ∀ i, i < a.heap.size → F i → G i) : KeepS G a b :=
  ⟨h.os, h.tape, h.output, h.size, fun i hi hf => h.block i hi (fun f => hf (hG i hi f))⟩

theorem KeepS.of_below {w w' : World} (h : RowKit.Below w.heap.size w w') : KeepS (fun _ => False) w w' := ⟨h.os, h.tape, h.output, h.size, fun k hk _ => h.block k hk⟩
theorem KeepS.below {w w' : World} (h : KeepS (fun _ => False) w w') : RowKit.Below w.heap.size w w' := ⟨h.os, h.tape, h.output, h.size, fun k hk => h.block k hk (fun f => f)⟩
theorem KeepS.of_grown {w w' : World} {row : Option Nat} (h : w.grownBy w' row) : KeepS (fun k => some k = row) w w' := ⟨h.os, h.tape, h.output, h.size, fun k hk hf => h.block k hk hf⟩
theorem KeepS.alloc (w : World) (o : Obj) : KeepS (fun _ => False) w (w.alloc o) := of_below ((RowKit.Below.refl _ _).alloc (Nat.le_refl _) o)
theorem KeepS.drew (w : World) : KeepS (fun _ => False) w w.drew := ⟨rfl, rfl, rfl, Nat.le_refl _, fun _ _ _ => rfl⟩
theorem KeepS.setCell (w : World) (p : Addr) (u : Value) : KeepS (fun k => k = p.block) w (w.setCell p u) :=
  ⟨rfl, rfl, rfl, by simp [World.setCell], fun k _ hf => RowKit.Below.heap_setCell _ _ _ _ hf⟩

/-- What holds however memory goes on, as long as nothing but M is written. -/
def Rob (M : Nat → Prop) (w : World) (p : World → Prop) : Prop := ∀ w', KeepS M w w' → p w'

theorem Rob.now {M : Nat → Prop} {w : World} {p : World → Prop} (h : Rob M w p) : p w := h w (KeepS.refl _ _)
theorem Rob.step {M M' : Nat → Prop} {w w' : World} {p : World → Prop} (h : Rob M w p) (hk : KeepS M w w') (hs : ∀ k, M' k → k < w.heap.size → M k) : Rob M' w' p :=
  fun w2 h2 => h w2 (hk.trans2 h2 (fun i hi g => hs i g hi))
theorem Rob.imp {M : Nat → Prop} {w : World} {p q : World → Prop} (h : Rob M w p) (hpq : ∀ w', p w' → q w') : Rob M w q := fun w' hw => hpq _ (h w' hw)
theorem Rob.and {M : Nat → Prop} {w : World} {p q : World → Prop} (h : Rob M w p) (h' : Rob M w q) : Rob M w (fun w => p w ∧ q w) := fun w' hw => ⟨h w' hw, h' w' hw⟩
theorem Rob.const {M : Nat → Prop} {w : World} {p : Prop} (h : p) : Rob M w (fun _ => p) := fun _ _ => h

/-- What a package-level variable holds: these cells; some value of a type of its own in an interface. -/
inductive GV where
  | is (l : List Value)
  | face
def GV.ok (w : World) (b : Nat) : GV → Prop
  | .is l => ∃ t fr, w.heap[b]? = some (.cells l.toArray t fr)
  | .face => ∃ te pe t fr, w.heap[b]? = some (.cells #[.iface te pe] t fr)

/-- The types of this program's errors: the number's, the fault pointer's, the fault's. -/
structure Cfg where
  errno : TypeId
  fptr : TypeId
  fault : TypeId
  /-- Package-level variables that the code reads, with what they hold. -/
  glob : List (Nat × GV)

/-- A value of type error reads as this error. -/
def ErrAt (C : Cfg) (w : World) : List (Int × Int) → Int → Value → Prop
  | [], n, v => v = .iface C.errno (.int .i64 n)
  | p :: ps, n, v => ∃ b u, v = .iface C.fptr (.pointer (some ⟨b, 0, none⟩)) ∧ w.heap[b]? = some (.cells #[.int .i64 p.1, .int .i64 p.2, u] C.fault (0, 0)) ∧ ErrAt C w ps n u

def ErrV (C : Cfg) (w : World) : Err → Value → Prop
  | none, v => v = .nilIface
  | some (ps, n), v => ErrAt C w ps n v

inductive All2 {α β : Type} (r : α → β → Prop) : List α → List β → Prop
  | nil : All2 r [] []
  | cons {a b l m} : r a b → All2 r l m → All2 r (a :: l) (b :: m)

section
variable {α β : Type} {r r' : α → β → Prop}
theorem All2.length : ∀ {l : List α} {m : List β}, All2 r l m → l.length = m.length
  | _, _, .nil => rfl
  | _, _, .cons _ h => by simp [h.length]
theorem All2.imp (hr : ∀ a b, r a b → r' a b) : ∀ {l : List α} {m : List β}, All2 r l m → All2 r' l m
  | _, _, .nil => .nil
  | _, _, .cons h t => .cons (hr _ _ h) (t.imp hr)
theorem All2.imp_mem : ∀ {l : List α} {m : List β}, All2 r l m → (∀ a b, a ∈ l → r a b → r' a b) → All2 r' l m
  | _, _, .nil, _ => .nil
  | _, _, .cons h t, hr => .cons (hr _ _ List.mem_cons_self h) (t.imp_mem fun a b ha => hr a b (List.mem_cons_of_mem _ ha))
theorem All2.append : ∀ {l l' : List α} {m m' : List β}, All2 r l m → All2 r l' m' → All2 r (l ++ l') (m ++ m')
  | _, _, _, _, .nil, h => h
  | _, _, _, _, .cons h t, h' => .cons h (t.append h')
theorem All2.take : ∀ (n : Nat) {l : List α} {m : List β}, All2 r l m → All2 r (l.take n) (m.take n)
  | 0, _, _, _ => .nil
  | _ + 1, _, _, .nil => .nil
  | n + 1, _, _, .cons h t => .cons h (t.take n)
theorem All2.drop : ∀ (n : Nat) {l : List α} {m : List β}, All2 r l m → All2 r (l.drop n) (m.drop n)
  | 0, _, _, h => h
  | _ + 1, _, _, .nil => .nil
  | n + 1, _, _, .cons _ t => t.drop n
theorem All2.get : ∀ {l : List α} {m : List β}, All2 r l m → ∀ (i : Nat) (a : α), l[i]? = some a → ∃ b : β, m[i]? = some b ∧ r a b
  | _, _, .nil, i, a, h => by simp at h
  | _, _, .cons hab _, 0, a, h => by simp at h; subst h; exact ⟨_, rfl, hab⟩
  | _, _, .cons _ t, i + 1, a, h => t.get i a (by simpa using h)
end

/-- The cells of a value read as this datum, and go on to do so as long as nothing but M is written. -/
def RR (C : Cfg) (M : Nat → Prop) (w : World) : (s : Sh) → s.T → List Value → Prop
  | .int k, x, cs => cs = [.int k x]
  | .bool, x, cs => cs = [.bool x]
  | .str, x, cs => cs = [.string x]
  | .err, x, cs => ∃ v, cs = [v] ∧ Rob M w (fun w => ErrV C w x v)
  | .ptr, _, cs => cs = [.pointer none]
  | .sl s, x, cs => ∃ A c, cs = [.slice A x.length c] ∧ x.length ≤ c ∧ (x = [] ∨ ∃ ad css, A = some ad ∧ All2 (RR C M w s) x css ∧ Rob M w (fun w => ∀ j u, css.flatten[j]? = some u → w.cell? (ad.add j) = some u))
  | .pair a b, x, cs => RR C M w a x.1 (cs.take a.sz) ∧ RR C M w b x.2 (cs.drop a.sz)

/-- A row at A reads as xs. -/
def RowR (C : Cfg) (M : Nat → Prop) (w : World) (s : Sh) (A : Option Addr) (x : List s.T) : Prop :=
  x = [] ∨ ∃ ad css, A = some ad ∧ All2 (RR C M w s) x css ∧ Rob M w (fun w => ∀ j u, css.flatten[j]? = some u → w.cell? (ad.add j) = some u)

theorem RR.step {C : Cfg} {M M' : Nat → Prop} {w w' : World} (hk : KeepS M w w') (hs : ∀ k, M' k → k < w.heap.size → M k) : ∀ (s : Sh) (x : s.T) (cs : List Value), RR C M w s x cs → RR C M' w' s x cs
  | .int _, _, _, h => h
  | .bool, _, _, h => h
  | .str, _, _, h => h
  | .err, _, _, ⟨v, h1, h2⟩ => ⟨v, h1, h2.step hk hs⟩
  | .ptr, _, _, h => h
  | .sl s, _, _, ⟨A, c, h1, h2, h3⟩ => ⟨A, c, h1, h2, h3.imp_right fun ⟨ad, css, e1, e2, e3⟩ => ⟨ad, css, e1, e2.imp fun x cs => RR.step hk hs s x cs, e3.step hk hs⟩⟩
  | .pair a b, x, _, ⟨h1, h2⟩ => ⟨RR.step hk hs a x.1 _ h1, RR.step hk hs b x.2 _ h2⟩

theorem RowR.step {C : Cfg} {M M' : Nat → Prop} {w w' : World} (hk : KeepS M w w') (hs : ∀ k, M' k → k < w.heap.size → M k) {s : Sh} {A : Option Addr} {x : List s.T} (h : RowR C M w s A x) : RowR C M' w' s A x :=
  h.imp_right fun ⟨ad, css, e1, e2, e3⟩ => ⟨ad, css, e1, e2.imp fun x cs => RR.step hk hs s x cs, e3.step hk hs⟩

theorem Sh.sz_pos : ∀ s : Sh, 0 < s.sz
  | .int _ | .bool | .str | .err | .ptr | .sl _ => by simp [Sh.sz]
  | .pair a b => by simp only [Sh.sz]; have := Sh.sz_pos a; omega

theorem RR.len {C : Cfg} {M : Nat → Prop} {w : World} : ∀ (s : Sh) (x : s.T) (cs : List Value), RR C M w s x cs → cs.length = s.sz
  | .int _, _, _, h => by simp only [RR] at h; simp [h, Sh.sz]
  | .bool, _, _, h => by simp only [RR] at h; simp [h, Sh.sz]
  | .str, _, _, h => by simp only [RR] at h; simp [h, Sh.sz]
  | .err, _, _, h => by simp only [RR] at h; obtain ⟨v, rfl, _⟩ := h; simp [Sh.sz]
  | .ptr, _, _, h => by simp only [RR] at h; simp [h, Sh.sz]
  | .sl _, _, _, h => by simp only [RR] at h; obtain ⟨A, c, rfl, _⟩ := h; simp [Sh.sz]
  | .pair a b, x, cs, h => by
    simp only [RR] at h
    have h1 := RR.len a x.1 _ h.1
    have h2 := RR.len b x.2 _ h.2
    simp only [List.length_take, List.length_drop] at h1 h2
    simp only [Sh.sz]
    have hb := b.sz_pos
    omega

theorem flatten_get {css : List (List Value)} {n i j : Nat} {cs : List Value} {u : Value} (hi : css[i]? = some cs) (hn : ∀ c ∈ css, c.length = n) (hj : cs[j]? = some u) : css.flatten[i * n + j]? = some u := by
  induction css generalizing i with
  | nil => simp at hi
  | cons c r ih =>
    have hc := hn c List.mem_cons_self
    cases i with
    | zero =>
      simp at hi; subst hi
      simp only [List.flatten_cons, Nat.zero_mul, Nat.zero_add]
      rw [List.getElem?_append_left]
      · exact hj
      · rcases Nat.lt_or_ge j c.length with h' | h'
        · exact h'
        · rw [List.getElem?_eq_none h'] at hj; cases hj
    | succ i =>
      simp only [List.flatten_cons]
      rw [List.getElem?_append_right (by rw [hc, Nat.succ_mul]; omega)]
      rw [show (i + 1) * n + j - c.length = i * n + j by rw [hc, Nat.succ_mul]; omega]
      exact ih (by simpa using hi) (fun c hc => hn c (List.mem_cons_of_mem _ hc))

theorem All2.mem_right {α β : Type} {r : α → β → Prop} : ∀ {l : List α} {m : List β}, All2 r l m → ∀ b ∈ m, ∃ a ∈ l, r a b
  | _, _, .nil, b, hb => by simp at hb
  | _, _, .cons h t, b, hb => by
    rcases List.mem_cons.1 hb with rfl | hb
    · exact ⟨_, List.mem_cons_self, h⟩
    · obtain ⟨a, ha, hr⟩ := t.mem_right b hb; exact ⟨a, List.mem_cons_of_mem _ ha, hr⟩

/-- Element i of a row of these cells. -/
theorem row_cells {C : Cfg} {M : Nat → Prop} {w : World} {s : Sh} {x : List s.T} {css : List (List Value)} (h : All2 (RR C M w s) x css) {i : Nat} {y : s.T} (hy : x[i]? = some y) :
    ∃ cs, RR C M w s y cs ∧ ∀ (j : Nat) (u : Value), cs[j]? = some u → css.flatten[i * s.sz + j]? = some u := by
  obtain ⟨cs, h1, h2⟩ := h.get i y hy
  refine ⟨cs, h2, fun j u hj => flatten_get h1 (fun c hc => ?_) hj⟩
  obtain ⟨z, _, hz⟩ := h.mem_right c hc
  exact RR.len s z c hz

end Go.Pev
