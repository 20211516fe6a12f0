/- The pure evaluator, part U: a contract holds beside package variables too; what errors.As leaves in its target. Own text, over any program. -/
import Derived.Test.YtciajnknnoecaaaDoorPevT
import Derived.OneCell
namespace Go.Pev

section
variable {C : Cfg} {g : List (Nat × GV)} {M : Nat → Prop} {w : World}

theorem ErrAt_glob : ∀ (ps : List (Int × Int)) (n : Int) (v : Value), ErrAt { C with glob := g } w ps n v = ErrAt C w ps n v
  | [], _, _ => rfl
  | p :: ps, n, v => by simp only [ErrAt, ErrAt_glob ps]

theorem ErrV_glob (e : Err) (v : Value) : ErrV { C with glob := g } w e v = ErrV C w e v := by
  cases e with
  | none => rfl
  | some x => obtain ⟨ps, n⟩ := x; exact ErrAt_glob ps n v

theorem All2.congr {α β : Type} {r r' : α → β → Prop} (h : ∀ a b, r a b = r' a b) (l : List α) (m : List β) : All2 r l m = All2 r' l m := by
  rw [show r = r' from funext fun a => funext fun b => h a b]

theorem RR_glob : ∀ (s : Sh) (x : s.T) (cs : List Value), RR { C with glob := g } M w s x cs = RR C M w s x cs
  | .int _, _, _ => rfl
  | .bool, _, _ => rfl
  | .str, _, _ => rfl
  | .err, x, cs => by simp only [RR, ErrV_glob]
  | .ptr, _, _ => rfl
  | .sl s, x, cs => by
    simp only [RR]
    simp only [All2.congr (fun a b => RR_glob s a b)]
  | .pair a b, x, cs => by simp only [RR, RR_glob a, RR_glob b]

theorem RowR_glob (s : Sh) (A : Option Addr) (x : List s.T) : RowR { C with glob := g } M w s A x = RowR C M w s A x := by
  simp only [RowR, All2.congr (fun a b => RR_glob s a b)]

variable {ρ : Nat → Value}
theorem LR_glob (a : AV) (v : Value) : LR { C with glob := g } ρ M w a v = LR C ρ M w a v := by
  cases a <;> simp only [LR, ErrV_glob, RowR_glob, RR_glob]

theorem SR_glob (a : AV) (v : Value) : SR { C with glob := g } ρ M w a v = SR C ρ M w a v := by
  cases a <;> simp only [SR, All2.congr (fun a b => LR_glob a b), LR_glob]

theorem VR_glob (a : AV) (v : Value) : VR { C with glob := g } ρ M w a v = VR C ρ M w a v := by
  cases a <;> simp only [VR, All2.congr (fun a b => SR_glob a b), SR_glob]

/-- A contract holds beside more package variables. -/
theorem Contract.glob {P : Program} {f : Nat} {args : List AV} {res : AV} (h : Contract P C f args res) (hsub : ∀ p ∈ C.glob, p ∈ g) : Contract P { C with glob := g } f args res := by
  intro M w vs hM hg ha
  rw [All2.congr (fun x v => SR_glob x v)] at ha
  refine (h M w vs hM (fun p hp => hg p (hsub p hp)) ha).mono fun e w' ⟨v, h1, h2, h3⟩ => ⟨v, h1, ?_, h3⟩
  rw [VR_glob]
  exact h2

/-- One more callee. -/
theorem SpecsOk.cons {P : Program} {T : Tabs} (hs : SpecsOk P T) {f : Nat} {sp : CSpec} (h : EnterOk P f ∧ CSpecOk P T.toCfg f sp) : SpecsOk P { T with specs := (f, sp) :: T.specs } :=
  ⟨(fun f' sp' hg => by
    rw [show Pev.get ({ T with specs := (f, sp) :: T.specs } : Tabs).specs f' = if f = f' then some sp else Pev.get T.specs f' from get_cons _ _ _ _] at hg
    split at hg
    · rename_i e; subst e; obtain rfl := Option.some.inj hg; exact h
    · exact hs.specs f' sp' hg), hs.as.imp id fun h => ⟨h.enter, h.calls⟩⟩

/-- A fault that goes on to be one lies in none of the blocks that may be written. -/
theorem Rob.fault {p : Int × Int} {ps : List (Int × Int)} {n : Int} {v : Value} (h : Rob M w (fun w => ErrAt C w (p :: ps) n v)) :
    ∃ b u, v = .iface C.fptr (.pointer (some ⟨b, 0, none⟩)) ∧ w.heap[b]? = some (.cells #[.int .i64 p.1, .int .i64 p.2, u] C.fault (0, 0)) ∧ ¬ M b ∧ b < w.heap.size ∧ Rob M w (fun w => ErrAt C w ps n u) := by
  obtain ⟨b, u, h1, h2, h3⟩ := h.now
  have hlt : b < w.heap.size := by
    rcases Nat.lt_or_ge b w.heap.size with h | h
    · exact h
    · rw [Array.getElem?_eq_none h] at h2; cases h2
  have hnM : ¬ M b := by
    intro hM
    obtain ⟨b2, u2, g1, g2, _⟩ := h (w.setRow b #[]) ((KeepS.setRow w b #[]).mono fun k _ e => e ▸ hM)
    rw [h1] at g1
    obtain rfl : b = b2 := by simpa using g1
    have e : (w.setRow b #[]).heap[b]? = some (.cells #[] C.fault (0, 0)) := by simp [World.setRow, Array.getElem?_modify, h2]
    rw [e] at g2
    simp at g2
  refine ⟨b, u, h1, h2, hnM, hlt, fun w2 hk => ?_⟩
  obtain ⟨b2, u2, g1, g2, g3⟩ := h w2 hk
  rw [h1] at g1
  obtain rfl : b = b2 := by simpa using g1
  rw [hk.block b hlt hnM, h2] at g2
  obtain rfl : u = u2 := by simpa using g2
  exact g3

/-- The first fault of an error, as the target of errors.As gets it. -/
theorem Rob.elt {ρ : Nat → Value} {p : Int × Int} {ps : List (Int × Int)} {n : Int} {b : Nat} {u : Value} (h2 : w.heap[b]? = some (.cells #[.int .i64 p.1, .int .i64 p.2, u] C.fault (0, 0))) (hnM : ¬ M b) (hlt : b < w.heap.size) (h : Rob M w (fun w => ErrAt C w ps n u)) :
    LR C ρ M w (.elt FSh (p, some (ps, n)) 0) (.pointer (some ⟨b, 0, none⟩)) := by
  refine ⟨⟨b, 0, none⟩, [.int .i64 p.1, .int .i64 p.2, u], rfl, ⟨⟨rfl, rfl⟩, u, rfl, h⟩, fun w2 hk j x hj => ?_⟩
  rw [addr_at]
  simp only [World.cell?, hk.block b hlt hnM, h2, Option.isSome_none, Bool.false_eq_true, if_false]
  simpa using hj
end
end Go.Pev
