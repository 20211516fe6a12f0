/- Chapter 21, plain: a ledger on the heap; what is read of it. -/
import Derived.Test.YtldkdhfcbopbhaaGreatDoorMa
import Derived.Test.YtldkdhfcbopbhaaGreatDoorMb
import Derived.Test.YtldkdhfcbopbhaaGreatDoorPewZa
set_option maxRecDepth 100000
namespace Go.Proofs.YtldkdhfcbopbhaaGreatDoor
open Go Go.Pev
abbrev K21 := Int × Int
structure PSub where
  f : Fil
  bg : K21 → Int
  nx : K21 → Option Int
  closed : Bool
/-- What a ledger knows. -/
structure PL where
  ev : K21 → List Ev
  cnt : Int
  sub : Int → Option PSub
  ns : Nat
/-- What a thing of the heap is in a ledger. -/
inductive Rl where
  | top | ev | sb
  | row (k : K21)
  | box (id : Int) | bg (id : Int) | nx (id : Int)
abbrev lkE (k : K21) (E : List (K21 × Option Nat)) : Option (Option Nat) := lookL shFrom (.rf .sli) k E
abbrev lkS (id : Int) (S : List (Int × Option Nat)) : Option (Option Nat) := lookL (.int .i64) (.rf .ptr) id S
abbrev lkN (k : K21) (B : List (K21 × Int)) : Option Int := lookL shFrom (.int .i64) k B
structure SubX (H : List Pev.Node) (own : Nat → Option Rl) (id : Int) (q : Nat) (p : PSub) (b x : Nat) (B X : List (K21 × Int)) : Prop where
  oq : own q = some (.box id)
  ob : own b = some (.bg id)
  ox : own x = some (.nx id)
  hq : H[q]? = some (ndS p.f b x p.closed)
  hb : H[b]? = some (ndNum B)
  hx : H[x]? = some (ndNum X)
  kx : Keys shFrom (.int .i64) X
  bg : ∀ k, (lkN k B).getD 0 = p.bg k
  nx : ∀ k, lkN k X = p.nx k
structure RepX (H : List Pev.Node) (n e s : Nat) (E : List (K21 × Option Nat)) (S : List (Int × Option Nat)) (own : Nat → Option Rl) (A : PL) : Prop where
  hl : H[n]? = some (ndL e A.cnt s)
  he : H[e]? = some (ndEv E)
  hs : H[s]? = some (ndSub S)
  ke : Keys shFrom (.rf .sli) E
  ks : Keys (.int .i64) (.rf .ptr) S
  on : own n = some .top
  oe : own e = some .ev
  os : own s = some .sb
  row : ∀ k r, lkE k E = some r → ∃ m, r = some m ∧ own m = some (.row k) ∧ H[m]? = some (ndRow (A.ev k))
  norow : ∀ k, lkE k E = none → A.ev k = []
  sub : ∀ id r, lkS id S = some r → ∃ p q b x B X, A.sub id = some p ∧ r = some q ∧ SubX H own id q p b x B X
  nosub : ∀ id, lkS id S = none → A.sub id = none
  ns : S.length = A.ns
  lt : ∀ i, own i ≠ none → i < H.length
  le : (E.length : Int) ≤ A.cnt
theorem SubX.frame {H H' : List Pev.Node} {own : Nat → Option Rl} {id : Int} {q b x : Nat} {p : PSub} {B X : List (K21 × Int)} (h : SubX H own id q p b x B X) (hf : ∀ i, own i ≠ none → H'[i]? = H[i]?) : SubX H' own id q p b x B X :=
  ⟨h.oq, h.ob, h.ox, (hf q (by rw [h.oq]; simp)).trans h.hq, (hf b (by rw [h.ob]; simp)).trans h.hb, (hf x (by rw [h.ox]; simp)).trans h.hx, h.kx, h.bg, h.nx⟩
/-- What is elsewhere makes no difference. -/
theorem RepX.frame {H H' : List Pev.Node} {n e s : Nat} {E : List (K21 × Option Nat)} {S : List (Int × Option Nat)} {own : Nat → Option Rl} {A : PL} (h : RepX H n e s E S own A) (hf : ∀ i, own i ≠ none → H'[i]? = H[i]?) (hl : H.length ≤ H'.length) : RepX H' n e s E S own A :=
  ⟨(hf n (by rw [h.on]; simp)).trans h.hl, (hf e (by rw [h.oe]; simp)).trans h.he, (hf s (by rw [h.os]; simp)).trans h.hs, h.ke, h.ks, h.on, h.oe, h.os, fun k r hr => by
    obtain ⟨m, h1, h2, h3⟩ := h.row k r hr
    exact ⟨m, h1, h2, (hf m (by rw [h2]; simp)).trans h3⟩, h.norow, fun id r hr => by
    obtain ⟨p, q, b, x, B, X, h1, h2, h3⟩ := h.sub id r hr
    exact ⟨p, q, b, x, B, X, h1, h2, h3.frame hf⟩, h.nosub, h.ns, fun i hi => Nat.lt_of_lt_of_le (h.lt i hi) hl, h.le⟩

section
variable {H : List Pev.Node} {n e s : Nat} {E : List (K21 × Option Nat)} {S : List (Int × Option Nat)} {own : Nat → Option Rl} {A : PL}
theorem row_of (h : RepX H n e s E S own A) (k : K21) : (lkE k E = none ∧ A.ev k = []) ∨ ∃ m, lkE k E = some (some m) ∧ own m = some (.row k) ∧ H[m]? = some (ndRow (A.ev k)) := by
  cases hk : lkE k E with
  | none => exact .inl ⟨rfl, h.norow k hk⟩
  | some r =>
    obtain ⟨m, rfl, h2, h3⟩ := h.row k r hk
    exact .inr ⟨m, rfl, h2, h3⟩
theorem count_is (h : RepX H n e s E S own A) (a b : Int) : ledger_Ledger_Count (some n) a b [] H = some (((A.ev (a, b)).length : Int), H) := by
  unfold ledger_Ledger_Count ledger_Ledger_Count_t
  refine (fin_br_f rfl).trans ((fin_br_t rfl).trans ((fin_br_t rfl).trans ((fin_eq (getBox_at h.hl)).trans ((fin_eq (getBox_at h.hl)).trans ((fin_br_t rfl).trans ((fin_eq (getMap_at h.he)).trans ?_))))))
  rcases row_of h (a, b) with ⟨h1, h2⟩ | ⟨m, h1, _, h3⟩
  · rw [show lookL shFrom (Sh.rf RK.sli) (a, b) E = none from h1, h2]; rfl
  · rw [show lookL shFrom (Sh.rf RK.sli) (a, b) E = some (some m) from h1]
    exact (fin_br_t rfl).trans ((fin_eq (getRow_at h3)).trans rfl)
/-- A subscription that is open, or the error. -/
theorem open_is (h : RepX H n e s E S own A) (id : Int) : (∃ p q b x B X, A.sub id = some p ∧ p.closed = false ∧ lkS id S = some (some q) ∧ SubX H own id q p b x B X ∧ ledger_Ledger_open (some n) id [] H = some (some q, none, H)) ∨
    ((A.sub id = none ∨ ∃ p, A.sub id = some p ∧ p.closed = true) ∧ ledger_Ledger_open (some n) id [] H = some (none, some ([], 10), H)) := by
  have path : ∀ r, (lkS id S).getD none = r → (LT.fin (.br (Option.isNone r) (.ret ((none, some ([], 10), H))) (.br (Option.isSome r) (.br (Option.isSome r) (.opt (getBox 90 shSub H (Option.getD r 0)) fun (_ : shSub.T) => (.opt (getBox 90 shSub H (Option.getD r 0)) fun (x10 : shSub.T) => (.br x10.2.2.2 (.ret ((none, some ([], 10), H))) (.ret ((r, none, H)))))) .fail) .fail)) : Option (Option Nat × Err × List Pev.Node)) = ledger_Ledger_open (some n) id [] H := by
    intro r hr
    subst hr
    unfold ledger_Ledger_open ledger_Ledger_open_t
    refine Eq.symm ((fin_br_f rfl).trans ((fin_br_t rfl).trans ((fin_br_t rfl).trans ((fin_eq (getBox_at h.hl)).trans ((fin_eq (getBox_at h.hl)).trans ((fin_br_t rfl).trans ((fin_eq (getMap_at h.hs)).trans ?_)))))))
    rfl
  cases hk : lkS id S with
  | none =>
    right
    refine ⟨.inl (h.nosub id hk), ?_⟩
    rw [← path none (by rw [hk]; rfl)]
    rfl
  | some r =>
    obtain ⟨p, q, b, x, B, X, h1, rfl, h3⟩ := h.sub id r hk
    rw [← path (some q) (by rw [hk]; rfl)]
    cases hc : p.closed with
    | true =>
      right
      refine ⟨.inr ⟨p, h1, hc⟩, ?_⟩
      refine (fin_br_f rfl).trans ((fin_br_t rfl).trans ((fin_br_t rfl).trans ((fin_eq (getBox_at h3.hq)).trans ((fin_eq (getBox_at h3.hq)).trans ((fin_br_t hc).trans rfl)))))
    | false =>
      left
      refine ⟨p, q, b, x, B, X, h1, hc, rfl, h3, ?_⟩
      exact (fin_br_f rfl).trans ((fin_br_t rfl).trans ((fin_br_t rfl).trans ((fin_eq (getBox_at h3.hq)).trans ((fin_eq (getBox_at h3.hq)).trans ((fin_br_f hc).trans rfl)))))
end
end Go.Proofs.YtldkdhfcbopbhaaGreatDoor
