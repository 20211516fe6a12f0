/- Chapter 21, plain: two ledgers that agree on one publisher and one subscription. -/
import Derived.Test.YtldkdhfcbopbhaaDoorMm
set_option maxRecDepth 100000
namespace Go.Proofs.YtldkdhfcbopbhaaDoor
open Go Go.Pev
/-- What holds behind so many calls. -/
structure Good (A : PL) (i : Nat) : Prop where
  small : Small A
  cnt : A.cnt ≤ (i : Int)
  ns : A.ns ≤ i
  evs : ∀ k, ∀ x ∈ A.ev k, x.length ≤ 16 ∧ Rise (nms x)
  subs : ∀ id p, A.sub id = some p → p.f.2.length ≤ 16
theorem Good.means {A : PL} {i : Nat} (h : Good A i) : MeansOk A := fun id p k hp x hx => means_ok p.f x (h.evs k x hx).2 (h.evs k x hx).1 (h.subs id p hp)
theorem Good.next {A : PL} {i : Nat} (h : Good A i) : Good A (i + 1) := ⟨h.small, by have := h.cnt; omega, by have := h.ns; omega, h.evs, h.subs⟩
theorem Good.no : Good noP 0 := ⟨⟨Int.le_refl _, fun _ => Int.le_refl _⟩, Int.le_refl _, Nat.le_refl _, (fun _ _ h => by cases h), (fun _ _ h => by cases h)⟩
theorem Good.accept {A : PL} {i : Nat} (h : Good A i) (a b : Int) (x : Ev) (c : Err) (hc : c = none → x.length ≤ 16 ∧ Rise (nms x)) : Good (acceptP A a b x c).1 (i + 1) := by
  unfold acceptP
  split
  · cases c with
    | some v => exact h.next
    | none =>
      dsimp only
      split
      · refine ⟨⟨?_, fun k => ?_⟩, ?_, ?_, fun k y hy => ?_, h.subs⟩
        · show 0 ≤ A.cnt + 1
          have := h.small.pos; omega
        · show (((if k = (a, b) then A.ev (a, b) ++ [x] else A.ev k).length : Nat) : Int) ≤ A.cnt + 1
          have h1 := h.small.ev k
          have h2 := h.small.ev (a, b)
          split
          · simp; omega
          · omega
        · show A.cnt + 1 ≤ ((i + 1 : Nat) : Int)
          have := h.cnt; omega
        · show A.ns ≤ i + 1
          have := h.ns; omega
        · have hy : y ∈ (if k = (a, b) then A.ev (a, b) ++ [x] else A.ev k) := hy
          split at hy
          · rcases List.mem_append.1 hy with hy | hy
            · exact h.evs (a, b) y hy
            · rw [List.mem_singleton.1 hy]; exact hc rfl
          · exact h.evs k y hy
      · exact h.next
  · exact h.next
theorem Good.open_ {A : PL} {i : Nat} (h : Good A i) (id : Int) (f : Fil) (c : Err) (hc : c = none → f.2.length ≤ 16) : Good (openP A id f c).1 (i + 1) := by
  unfold openP
  split
  · exact h.next
  · cases c with
    | some v => exact h.next
    | none =>
      dsimp only
      cases hs : A.sub id with
      | some p => exact h.next
      | none =>
        dsimp only
        split
        · refine ⟨⟨h.small.pos, h.small.ev⟩, (by have := h.cnt; show A.cnt ≤ _; omega), (by show A.ns + 1 ≤ i + 1; have := h.ns; omega), h.evs, fun z p hp => ?_⟩
          have hp : (if z = id then some (newS A f) else A.sub z) = some p := hp
          split at hp
          · obtain rfl := Option.some.inj hp; exact hc rfl
          · exact h.subs z p hp
        · exact h.next
theorem Good.setS {A : PL} {i : Nat} (h : Good A i) (id : Int) (p p' : PSub) (hp : A.sub id = some p) (hf : p'.f = p.f) : Good (upS A id p') (i + 1) := by
  refine ⟨⟨h.small.pos, h.small.ev⟩, h.next.cnt, h.next.ns, h.evs, fun z q hq => ?_⟩
  have hq : (if z = id then some p' else A.sub z) = some q := hq
  split at hq
  · obtain rfl := Option.some.inj hq; rw [hf]; exact h.subs id p hp
  · exact h.subs z q hq
theorem live_sub {A : PL} {id : Int} {p : PSub} (h : liveP A id = some p) : A.sub id = some p ∧ p.closed = false := by
  unfold liveP at h
  cases hs : A.sub id with
  | none => rw [hs] at h; cases h
  | some q =>
    rw [hs] at h
    dsimp only at h
    split at h
    · cases h
    · obtain rfl := Option.some.inj h; rename_i hc; exact ⟨rfl, by simpa using hc⟩
theorem Good.close {A : PL} {i : Nat} (h : Good A i) (id : Int) : Good (closeP A id).1 (i + 1) := by
  unfold closeP
  cases hl : liveP A id with
  | none => exact h.next
  | some p => exact h.setS id p _ (live_sub hl).1 rfl
theorem Good.give {A : PL} {i : Nat} (h : Good A i) (id a b x : Int) : Good (giveP A id a b x).1 (i + 1) := by
  unfold giveP
  cases hl : liveP A id with
  | none => exact h.next
  | some p =>
    dsimp only
    split
    · split
      · split
        · exact h.setS id p _ (live_sub hl).1 rfl
        · exact h.next
      · exact h.next
    · exact h.next
/-! ### alike -/
def subR (k : K21) : Option PSub → Option PSub → Prop
  | none, none => True
  | some p, some q => p.f = q.f ∧ p.closed = q.closed ∧ p.bg k = q.bg k ∧ p.nx k = q.nx k
  | _, _ => False
structure Twin (k : K21) (id : Int) (A B : PL) : Prop where
  ev : A.ev k = B.ev k
  sub : subR k (A.sub id) (B.sub id)
theorem Twin.no (k : K21) (id : Int) : Twin k id noP noP := ⟨rfl, trivial⟩
section
variable {a b id : Int} {A B : PL}
theorem Twin.live (h : Twin (a, b) id A B) : (liveP A id = none ∧ liveP B id = none) ∨ ∃ p q, liveP A id = some p ∧ liveP B id = some q ∧ p.f = q.f ∧ p.closed = q.closed ∧ p.bg (a, b) = q.bg (a, b) ∧ p.nx (a, b) = q.nx (a, b) := by
  have hs := h.sub
  unfold liveP
  cases h1 : A.sub id with
  | none =>
    cases h2 : B.sub id with
    | none => exact .inl ⟨rfl, rfl⟩
    | some q => rw [h1, h2] at hs; exact hs.elim
  | some p =>
    cases h2 : B.sub id with
    | none => rw [h1, h2] at hs; exact hs.elim
    | some q =>
      rw [h1, h2] at hs
      obtain ⟨e1, e2, e3, e4⟩ := hs
      dsimp only
      cases hc : q.closed with
      | true =>
        have hp : p.closed = true := e2.trans hc
        exact .inl ⟨by simp [hp], by simp⟩
      | false =>
        have hp : p.closed = false := e2.trans hc
        exact .inr ⟨p, q, by simp [hp], by simp, e1, e2, e3, e4⟩
theorem Twin.due (h : Twin (a, b) id A B) : dueP A id a b = dueP B id a b := by
  unfold dueP
  rcases h.live with ⟨h1, h2⟩ | ⟨p, q, h1, h2, e1, _, e3, e4⟩
  · rw [h1, h2]
  · rw [h1, h2]
    dsimp only
    unfold atP
    rw [e1, e3, e4, h.ev]
theorem Twin.accept (h : Twin (a, b) id A B) (x : Ev) (c : Err) (hA : A.cnt < 4096) (hB : B.cnt < 4096) : Twin (a, b) id (acceptP A a b x c).1 (acceptP B a b x c).1 ∧ (acceptP A a b x c).2.2 = (acceptP B a b x c).2.2 := by
  unfold acceptP
  split
  · cases c with
    | some v => exact ⟨h, rfl⟩
    | none =>
      simp only [if_pos hA, if_pos hB]
      refine ⟨⟨?_, h.sub⟩, trivial⟩
      show (if (a, b) = (a, b) then _ else _) = (if (a, b) = (a, b) then _ else _)
      rw [if_pos rfl, if_pos rfl, h.ev]
  · exact ⟨h, rfl⟩
theorem Twin.accept_other (h : Twin (a, b) id A B) (a' b' : Int) (hne : (a', b') ≠ (a, b)) (x : Ev) (c : Err) : Twin (a, b) id (acceptP A a' b' x c).1 B := by
  unfold acceptP
  split
  · cases c with
    | some v => exact h
    | none =>
      dsimp only
      split
      · refine ⟨?_, h.sub⟩
        show (if (a, b) = (a', b') then _ else _) = _
        rw [if_neg (Ne.symm hne)]; exact h.ev
      · exact h
  · exact h
theorem Twin.open_ (h : Twin (a, b) id A B) (f : Fil) (c : Err) (hA : A.ns < 512) (hB : B.ns < 512) : Twin (a, b) id (openP A id f c).1 (openP B id f c).1 ∧ (openP A id f c).2 = (openP B id f c).2 := by
  have hs := h.sub
  unfold openP
  split
  · exact ⟨h, rfl⟩
  · cases c with
    | some v => exact ⟨h, rfl⟩
    | none =>
      dsimp only
      cases h1 : A.sub id with
      | none =>
        cases h2 : B.sub id with
        | none =>
          simp only [if_pos hA, if_pos hB]
          refine ⟨⟨h.ev, ?_⟩, trivial⟩
          show subR (a, b) (if id = id then some (newS A f) else _) (if id = id then some (newS B f) else _)
          rw [if_pos rfl, if_pos rfl]
          exact ⟨rfl, rfl, by show ((A.ev (a, b)).length : Int) = (B.ev (a, b)).length; rw [h.ev], rfl⟩
        | some q => rw [h1, h2] at hs; exact hs.elim
      | some p =>
        cases h2 : B.sub id with
        | none => rw [h1, h2] at hs; exact hs.elim
        | some q => exact ⟨h, rfl⟩
theorem Twin.setA (h : Twin (a, b) id A B) (z : Int) (p : PSub) (hz : z ≠ id) : Twin (a, b) id (upS A z p) B := by
  refine ⟨h.ev, ?_⟩
  show subR (a, b) (if id = z then some p else A.sub id) _
  rw [if_neg (Ne.symm hz)]; exact h.sub
theorem Twin.open_other (h : Twin (a, b) id A B) (z : Int) (hz : z ≠ id) (f : Fil) (c : Err) : Twin (a, b) id (openP A z f c).1 B := by
  unfold openP
  split
  · exact h
  · cases c with
    | some v => exact h
    | none =>
      dsimp only
      cases h1 : A.sub z with
      | some p => exact h
      | none =>
        dsimp only
        split
        · refine ⟨h.ev, ?_⟩
          show subR (a, b) (if id = z then _ else A.sub id) _
          rw [if_neg (Ne.symm hz)]; exact h.sub
        · exact h
theorem Twin.close (h : Twin (a, b) id A B) : Twin (a, b) id (closeP A id).1 (closeP B id).1 ∧ (closeP A id).2 = (closeP B id).2 := by
  unfold closeP
  rcases h.live with ⟨h1, h2⟩ | ⟨p, q, h1, h2, e1, _, e3, e4⟩
  · rw [h1, h2]; exact ⟨h, rfl⟩
  · rw [h1, h2]
    refine ⟨⟨h.ev, ?_⟩, rfl⟩
    show subR (a, b) (if id = id then _ else _) (if id = id then _ else _)
    rw [if_pos rfl, if_pos rfl]
    exact ⟨e1, rfl, e3, e4⟩
theorem Twin.close_other (h : Twin (a, b) id A B) (z : Int) (hz : z ≠ id) : Twin (a, b) id (closeP A z).1 B := by
  unfold closeP
  cases liveP A z with
  | none => exact h
  | some p => exact h.setA z _ hz
theorem Twin.give (h : Twin (a, b) id A B) (i : Int) : Twin (a, b) id (giveP A id a b i).1 (giveP B id a b i).1 ∧ (giveP A id a b i).2 = (giveP B id a b i).2 := by
  unfold giveP
  rcases h.live with ⟨h1, h2⟩ | ⟨p, q, h1, h2, e1, e2, e3, e4⟩
  · rw [h1, h2]; exact ⟨h, rfl⟩
  · rw [h1, h2]
    dsimp only
    have he : earlyP p (a, b) (A.ev (a, b)) i = earlyP q (a, b) (B.ev (a, b)) i := by unfold earlyP; rw [e1, e3, e4, h.ev]
    have hf : firstP (mtP p.f (atP p (a, b)) 0 (A.ev (a, b))) i = firstP (mtP q.f (atP q (a, b)) 0 (B.ev (a, b))) i := by unfold atP; rw [e1, e3, e4, h.ev]
    rw [he, hf, h.ev]
    split
    · split
      · split
        · refine ⟨⟨h.ev, ?_⟩, rfl⟩
          show subR (a, b) (if id = id then _ else _) (if id = id then _ else _)
          rw [if_pos rfl, if_pos rfl]
          exact ⟨e1, e2, e3, by show (if (a, b) = (a, b) then _ else _) = (if (a, b) = (a, b) then _ else _); rw [if_pos rfl, if_pos rfl]⟩
        · exact ⟨h, rfl⟩
      · exact ⟨h, rfl⟩
    · exact ⟨h, rfl⟩
theorem Twin.give_other (h : Twin (a, b) id A B) (z a' b' i : Int) (hne : z ≠ id ∨ (a', b') ≠ (a, b)) : Twin (a, b) id (giveP A z a' b' i).1 B := by
  unfold giveP
  cases hl : liveP A z with
  | none => exact h
  | some p =>
    dsimp only
    split
    · split
      · split
        · by_cases hz : z = id
          · subst hz
            have hk : (a', b') ≠ (a, b) := hne.resolve_left (fun c => c rfl)
            have hs := h.sub
            rw [(live_sub hl).1] at hs
            refine ⟨h.ev, ?_⟩
            show subR (a, b) (if z = z then _ else _) _
            rw [if_pos rfl]
            cases hb : B.sub z with
            | none => rw [hb] at hs; exact hs.elim
            | some q =>
              rw [hb] at hs
              obtain ⟨e1, e2, e3, e4⟩ := hs
              exact ⟨e1, e2, e3, by show (if (a, b) = (a', b') then _ else _) = _; rw [if_neg (Ne.symm hk)]; exact e4⟩
          · exact h.setA z _ hz
        · exact h
      · exact h
    · exact h
end
end Go.Proofs.YtldkdhfcbopbhaaDoor
