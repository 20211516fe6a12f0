/- Chapter 21, plain: LedgerApart, call by call. -/
import Derived.Test.YtldkdhfcbopbhaaDoorMn
import Derived.Test.YtldkdhfcbopbhaaDoorGd
set_option maxRecDepth 100000
namespace Go.Proofs.YtldkdhfcbopbhaaDoor
open Go Go.Pev
/-- Two ledgers on one heap. -/
structure Two (H : List Pev.Node) (n n' : Nat) (A B : PL) (o o' : Nat → Option Rl) (i j : Nat) : Prop where
  l : Led H n A o
  one : Led H n' B o'
  apart : ∀ z, o' z ≠ none → o z = none
  gA : Good A i
  gB : Good B j
section
variable {H : List Pev.Node} {n n' : Nat} {A B : PL} {o o' : Nat → Option Rl} {i j : Nat}
theorem Two.first (h : Two H n n' A B o o' i j) {K : List Pev.Node} {A' : PL} {w : Nat → Option Rl} (hl : Led K n A' w) (hx : Ext H o K w) (hg : Good A' (i + 1)) : Two K n n' A' B w o' (i + 1) j := by
  obtain ⟨h1, h2⟩ := h.one.beside hx h.apart
  exact ⟨hl, h1, h2, hg, h.gB⟩
theorem Two.second (h : Two H n n' A B o o' i j) {K : List Pev.Node} {B' : PL} {w : Nat → Option Rl} (hl : Led K n' B' w) (hx : Ext H o' K w) (hg : Good B' (j + 1)) : Two K n n' A B' o w i (j + 1) := by
  have hd : ∀ z, o z ≠ none → o' z = none := fun z hz => by
    cases hc : o' z with
    | none => rfl
    | some r => exact absurd (h.apart z (by rw [hc]; simp)) hz
  obtain ⟨h1, h2⟩ := h.l.beside hx hd
  refine ⟨h1, hl, fun z hz => ?_, h.gA, hg⟩
  cases hc : o z with
  | none => rfl
  | some r => exact absurd (h2 z (by rw [hc]; simp)) hz
theorem Two.flip (h : Two H n n' A B o o' i j) : Two H n' n B A o' o j i :=
  ⟨h.one, h.l, fun z hz => by
    cases hc : o' z with
    | none => rfl
    | some r => exact absurd (h.apart z (by rw [hc]; simp)) hz, h.gB, h.gA⟩
/-- The first ledger is called. -/
theorem two_accept (h : Two H n n' A B o o' i j) (hi : i < 4096) (a b : Int) (x : Ev) : Ok (fun r : Int × Err × List Pev.Node => ∃ c w, (c = none → x.length ≤ 16 ∧ Rise (nms x)) ∧ few2 1 c ∧ event_Check x = some c ∧ r.2.1 = (acceptP A a b x c).2.2 ∧ Two r.2.2 n n' (acceptP A a b x c).1 B w o' (i + 1) j) (ledger_Ledger_Accept (some n) a b x [] H) := by
  obtain ⟨c, h1, h2, h3⟩ := check_ok x
  obtain ⟨K, w, h4, h5, h6⟩ := accept_all h.l h.gA.small a b x c h1 (fun e => (h3 e).1) (by have := h.gA.cnt; omega)
  exact ⟨_, h4, c, w, h3, h2, h1, rfl, h.first h5 h6 (h.gA.accept a b x c h3)⟩
theorem two_open (h : Two H n n' A B o o' i j) (hi : i < 512) (id : Int) (f : Fil) : Ok (fun r : Err × List Pev.Node => ∃ c w, (c = none → f.2.length ≤ 16) ∧ few2 1 c ∧ filter_Check f = some c ∧ r.1 = (openP A id f c).2 ∧ Two r.2 n n' (openP A id f c).1 B w o' (i + 1) j) (ledger_Ledger_Open (some n) id f [] H) := by
  obtain ⟨c, h1, h2, h3⟩ := fcheck_ok f
  obtain ⟨K, w, h4, h5, h6⟩ := open_all h.l id f c h1 h3 (by have := h.gA.ns; omega) (by have := h.gA.cnt; omega)
  exact ⟨_, h4, c, w, h3, h2, h1, rfl, h.first h5 h6 (h.gA.open_ id f c h3)⟩
theorem two_close (h : Two H n n' A B o o' i j) (id : Int) : Ok (fun r : Err × List Pev.Node => r.1 = (closeP A id).2 ∧ Two r.2 n n' (closeP A id).1 B o o' (i + 1) j) (ledger_Ledger_Close (some n) id [] H) := by
  obtain ⟨e, s, E, S, hr⟩ := h.l
  obtain ⟨K, h4, h5, h6⟩ := close_is hr id
  exact ⟨_, h4, rfl, h.first h5 h6 (h.gA.close id)⟩
theorem two_give (h : Two H n n' A B o o' i j) (hi : i < 4096) (id a b x : Int) : Ok (fun r : Err × List Pev.Node => r.1 = (giveP A id a b x).2 ∧ Two r.2 n n' (giveP A id a b x).1 B o o' (i + 1) j) (ledger_Ledger_Give (some n) id a b x [] H) := by
  obtain ⟨e, s, E, S, hr⟩ := h.l
  have h7 := h.gA.small.ev (a, b)
  have h8 := h.gA.cnt
  obtain ⟨K, h4, h5, h6⟩ := give_is hr h.gA.means id a b x (by omega)
  exact ⟨_, h4, rfl, h.first h5 h6 (h.gA.give id a b x)⟩
end
theorem few_acceptP {A : PL} {a b : Int} {x : Ev} {c : Err} (h : few2 1 c) : few2 1 (acceptP A a b x c).2.2 := by
  unfold acceptP
  split
  · cases c with
    | some v => exact h
    | none =>
      dsimp only
      split
      · exact Nat.zero_le _
      · exact Nat.zero_le _
  · exact Nat.zero_le _
theorem few_openP {A : PL} {id : Int} {f : Fil} {c : Err} (h : few2 1 c) : few2 1 (openP A id f c).2 := by
  unfold openP
  split
  · exact Nat.zero_le _
  · cases c with
    | some v => exact h
    | none =>
      dsimp only
      cases A.sub id with
      | some p => exact Nat.zero_le _
      | none =>
        dsimp only
        split
        · exact Nat.zero_le _
        · exact Nat.zero_le _
theorem few_closeP {A : PL} {id : Int} : few2 1 (closeP A id).2 := by
  unfold closeP
  cases liveP A id with
  | none => exact Nat.zero_le _
  | some p => exact Nat.zero_le _
theorem few_giveP {A : PL} {id a b i : Int} : few2 1 (giveP A id a b i).2 := by
  unfold giveP
  cases liveP A id with
  | none => exact Nat.zero_le _
  | some p =>
    dsimp only
    split
    · split
      · split
        · exact Nat.zero_le _
        · exact Nat.zero_le _
      · exact Nat.zero_le _
    · exact Nat.zero_le _
/-- Two alike errors are alike. -/
theorem ok_same {S Q ρ : Type} {f : Q → Option ρ} {g : S → Option ρ} {P : ρ → Prop} {x y : Err} (hxy : x = y) (hf : few2 1 x) {k : Bool → LT S Q} (h : Ok P ((k true).run f g)) :
    Ok P ((LT.opt (law01_Of x) fun u => LT.opt (law01_Of y) fun v => LT.opt (ref01_Same u v) k).run f g) := by
  subst hxy
  have h1 := of_is x (by have : (tellE x).2.1.length ≤ 1 := hf; omega)
  have h2 := same_is (tellE x) (tellE x) (by have : (tellE x).2.1.length ≤ 1 := hf; omega)
  rw [decide_eq_true rfl] at h2
  rw [h1]
  show Ok P ((LT.opt (ref01_Same (tellE x) (tellE x)) k).run f g)
  rw [h2]
  exact h
end Go.Proofs.YtldkdhfcbopbhaaDoor
