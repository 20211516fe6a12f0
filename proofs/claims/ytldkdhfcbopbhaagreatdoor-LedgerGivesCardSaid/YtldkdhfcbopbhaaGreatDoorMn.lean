/- Chapter 21, plain: two ledgers that agree on one publisher and one subscription. -/
import Derived.Test.YtldkdhfcbopbhaaGreatDoorMm
set_option maxRecDepth 100000
namespace Go.Proofs.YtldkdhfcbopbhaaGreatDoor
open Go Go.Pev
/-- What holds behind so many calls. -/
structure Good (A : PL) (i : Nat) : Prop where
  small : Small A
  cnt : A.cnt ≤ (i : Int)
  ns : A.ns ≤ i
  evs : ∀ k, ∀ x ∈ A.ev k, x.length ≤ 16 ∧ Rise (nms x)
  subs : ∀ id p, A.sub id = some p → p.f.2.length ≤ 16
theorem Good.means {A : PL} {i : Nat} (h : Good A i) : MeansOk A := fun id p k hp x hx => means_ok p.f x (h.evs k x hx).2 (h.evs k x hx).1 (h.subs id p hp)
theorem Good.next {A : PL} {i : Nat} (h : Good A i) : Good A (i + 1) := ⟨h.small, by have := h.cnt; omega, by have := h.ns; omega, h.evs, h.subs⟩
theorem Good.no : Good noP 0 := ⟨⟨Int.le_refl _, fun _ => Int.le_refl _⟩, Int.le_refl _, Nat.le_refl _, (fun _ _ h => by cases h), (fun _ _ h => by cases h)⟩
theorem Good.accept {A : PL} {i : Nat} (h : Good A i) (a b : Int) (x : Ev) (c : Err) (hc : c = none → x.length ≤ 16 ∧ Rise (nms x)) : Good (acceptP A a b x c).1 (i + 1) := by
  unfold acceptP
  split
  · cases c with
    | some v => exact h.next
    | none =>
      dsimp only
      split
      · refine ⟨⟨?_, fun k => ?_⟩, ?_, ?_, fun k y hy => ?_, h.subs⟩
        · show 0 ≤ A.cnt + 1
          have := h.small.pos; omega
        · show (((if k = (a, b) then A.ev (a, b) ++ [x] else A.ev k).length : Nat) : Int) ≤ A.cnt + 1
          have h1 := h.small.ev k
          have h2 := h.small.ev (a, b)
          split
          · simp; omega
          · omega
        · show A.cnt + 1 ≤ ((i + 1 : Nat) : Int)
          have := h.cnt; omega
        · show A.ns ≤ i + 1
          have := h.ns; omega
        · have hy : y ∈ (if k = (a, b) then A.ev (a, b) ++ [x] else A.ev k) := hy
          split at hy
          · rcases List.mem_append.1 hy with hy | hy
            · exact h.evs (a, b) y hy
            · rw [List.mem_singleton.1 hy]; exact hc rfl
          · exact h.evs k y hy
      · exact h.next
  · exact h.next
theorem Good.open_ {A : PL} {i : Nat} (h : Good A i) (id : Int) (f : Fil) (c : Err) (hc : c = none → f.2.length ≤ 16) : Good (openP A id f c).1 (i + 1) := by
  unfold openP
  split
  · exact h.next
  · cases c with
    | some v => exact h.next
    | none =>
      dsimp only
      cases hs : A.sub id with
      | some p => exact h.next
      | none =>
        dsimp only
        split
        · refine ⟨⟨h.small.pos, h.small.ev⟩, (by have := h.cnt; show A.cnt ≤ _; omega), (by show A.ns + 1 ≤ i + 1; have := h.ns; omega), h.evs, fun z p hp => ?_⟩
          have hp : (if z = id then some (newS A f) else A.sub z) = some p := hp
          split at hp
          · obtain rfl := Option.some.inj hp; exact hc rfl
          · exact h.subs z p hp
        · exact h.next
theorem Good.setS {A : PL} {i : Nat} (h : Good A i) (id : Int) (p p' : PSub) (hp : A.sub id = some p) (hf : p'.f = p.f) : Good (upS A id p') (i + 1) := by
  refine ⟨⟨h.small.pos, h.small.ev⟩, h.next.cnt, h.next.ns, h.evs, fun z q hq => ?_⟩
  have hq : (if z = id then some p' else A.sub z) = some q := hq
  split at hq
  · obtain rfl := Option.some.inj hq; rw [hf]; exact h.subs id p hp
  · exact h.subs z q hq
theorem live_sub {A : PL} {id : Int} {p : PSub} (h : liveP A id = some p) : A.sub id = some p ∧ p.closed = false := by
  unfold liveP at h
  cases hs : A.sub id with
  | none => rw [hs] at h; cases h
  | some q =>
    rw [hs] at h
    dsimp only at h
    split at h
    · cases h
    · obtain rfl := Option.some.inj h; rename_i hc; exact ⟨rfl, by simpa using hc⟩
theorem Good.close {A : PL} {i : Nat} (h : Good A i) (id : Int) : Good (closeP A id).1 (i + 1) := by
  unfold closeP
  cases hl : liveP A id with
  | none => exact h.next
  | some p => exact h.setS id p _ (live_sub hl).1 rfl
theorem Good.give {A : PL} {i : Nat} (h : Good A i) (id a b x : Int) : Good (giveP A id a b x).1 (i + 1) := by
  unfold giveP
  cases hl : liveP A id with
  | none => exact h.next
  | some p =>
    dsimp only
    split
    · split
      · split
        · exact h.setS id p _ (live_sub hl).1 rfl
        · exact h.next
      · exact h.next
    · exact h.next
/-! ### alike -/
end Go.Proofs.YtldkdhfcbopbhaaGreatDoor
