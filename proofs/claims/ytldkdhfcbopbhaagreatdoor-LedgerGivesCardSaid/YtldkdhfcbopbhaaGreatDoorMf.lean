/- Chapter 21, plain: Due, Close, Give. -/
import Derived.Test.YtldkdhfcbopbhaaGreatDoorMe
set_option maxRecDepth 100000
namespace Go.Proofs.YtldkdhfcbopbhaaGreatDoor
open Go Go.Pev
abbrev eN (n : Int) : Err := some ([], n)
def upS (A : PL) (id : Int) (p : PSub) : PL := { A with sub := fun z => if z = id then some p else A.sub z }
def atP (p : PSub) (k : K21) : Int := (p.nx k).getD (p.bg k)
/-- A subscription that is open. -/
def liveP (A : PL) (id : Int) : Option PSub := match A.sub id with
  | none => none
  | some p => if p.closed = true then none else some p
noncomputable def dueP (A : PL) (id a b : Int) : List Int × Err := match liveP A id with
  | none => ([], eN 10)
  | some p => if rightB a b = true then (mtP p.f (atP p (a, b)) 0 (A.ev (a, b)), none) else ([], eN 1)
def MeansOk (A : PL) : Prop := ∀ id p k, A.sub id = some p → ∀ x ∈ A.ev k, filter_Means p.f x = some (mB p.f x)
section
variable {H : List Pev.Node} {n e s : Nat} {E : List (K21 × Option Nat)} {S : List (Int × Option Nat)} {own : Nat → Option Rl} {A : PL}
theorem open_live (h : RepX H n e s E S own A) (id : Int) : (∃ p q b x B X, liveP A id = some p ∧ A.sub id = some p ∧ p.closed = false ∧ lkS id S = some (some q) ∧ SubX H own id q p b x B X ∧ ledger_Ledger_open (some n) id [] H = some (some q, none, H)) ∨
    (liveP A id = none ∧ ledger_Ledger_open (some n) id [] H = some (none, eN 10, H)) := by
  rcases open_is h id with ⟨p, q, b, x, B, X, h1, h2, h3, h4, h5⟩ | ⟨h1, h2⟩
  · left
    refine ⟨p, q, b, x, B, X, ?_, h1, h2, h3, h4, h5⟩
    unfold liveP; rw [h1]; simp [h2]
  · right
    refine ⟨?_, h2⟩
    unfold liveP
    rcases h1 with h1 | ⟨p, h1, h3⟩
    · rw [h1]
    · rw [h1]; simp [h3]
theorem due_is (h : RepX H n e s E S own A) (hM : MeansOk A) (id a b : Int) (hl : (A.ev (a, b)).length ≤ 1000000) : ledger_Ledger_Due (some n) id a b [] H = some ((dueP A id a b).1, (dueP A id a b).2, H) := by
  unfold ledger_Ledger_Due ledger_Ledger_Due_t dueP
  rcases open_live h id with ⟨p, q, b', x, B, X, h0, h1, h2, h3, h4, h5⟩ | ⟨h0, h5⟩
  · rw [h0]
    refine (fin_eq h5).trans ((fin_br_f rfl).trans ((fin_eq (right_is a b)).trans ?_))
    cases hr : rightB a b with
    | false => exact (fin_br_t rfl).trans rfl
    | true =>
      have hm := fun t => meant_is h (a, b) h4.hq (hM id p (a, b) h1) hl t
      refine (fin_br_f rfl).trans ((fin_br_t rfl).trans ((fin_br_t rfl).trans ((fin_eq (getBox_at h4.hq)).trans ((fin_eq (getBox_at h4.hq)).trans ((fin_br_t rfl).trans ((fin_eq (getMap_at h4.hx)).trans ?_))))))
      unfold atP
      cases hx : p.nx (a, b) with
      | none =>
        rw [show lookL shFrom (.int .i64) (a, b) X = none from (h4.nx _).trans hx]
        refine (fin_br_t rfl).trans ((fin_br_t rfl).trans ((fin_br_t rfl).trans ((fin_eq (getBox_at h4.hq)).trans ((fin_eq (getBox_at h4.hq)).trans ((fin_br_t rfl).trans ((fin_eq (getMap_at h4.hb)).trans ?_))))))
        rw [show (lookL shFrom (.int .i64) (a, b) B).getD 0 = p.bg (a, b) from h4.bg _]
        exact (fin_eq (hm _)).trans (by rw [LT.fin_ret]; simp [hx])
      | some t =>
        rw [show lookL shFrom (.int .i64) (a, b) X = some t from (h4.nx _).trans hx]
        exact (fin_br_f rfl).trans ((fin_eq (hm _)).trans (by rw [LT.fin_ret]; simp [hx]))
  · rw [h0]
    exact (fin_eq h5).trans ((fin_br_t rfl).trans rfl)
/-- A subscription is changed in its place. -/
theorem RepX.setSub (h : RepX H n e s E S own A) {id : Int} {p p' : PSub} {q b x : Nat} {B X X' : List (K21 × Int)} {K : List Pev.Node} (hs : A.sub id = some p) (hq : lkS id S = some (some q)) (hx : SubX H own id q p b x B X)
    (kq : K[q]? = some (ndS p'.f b x p'.closed)) (kx : K[x]? = some (ndNum X')) (hk : Keys shFrom (.int .i64) X') (hbg : ∀ k, p.bg k = p'.bg k) (hnx : ∀ k, lkN k X' = p'.nx k) (hlen : K.length = H.length) (hf : ∀ i, i ≠ q → i ≠ x → K[i]? = H[i]?) :
    Led K n (upS A id p') own ∧ Ext H own K own := by
  have go : ∀ i, own i ≠ some (.box id) → own i ≠ some (.nx id) → K[i]? = H[i]? := fun i a1 a2 => hf i (fun c => a1 (by rw [c, hx.oq])) (fun c => a2 (by rw [c, hx.ox]))
  refine ⟨⟨e, s, E, S, (go n (by rw [h.on]; simp) (by rw [h.on]; simp)).trans h.hl, (go e (by rw [h.oe]; simp) (by rw [h.oe]; simp)).trans h.he, (go s (by rw [h.os]; simp) (by rw [h.os]; simp)).trans h.hs, h.ke, h.ks, h.on, h.oe, h.os, ?_, h.norow, ?_, ?_, h.ns, ?_, h.le⟩, ⟨by omega, ?_, fun _ a1 a2 => absurd a1 a2⟩⟩
  · intro k r hr
    obtain ⟨m, h1, h2, h3⟩ := h.row k r hr
    exact ⟨m, h1, h2, (go m (by rw [h2]; simp) (by rw [h2]; simp)).trans h3⟩
  · intro id' r hr
    by_cases hi : id' = id
    · subst hi
      have : r = some q := by
        have : lkS id' S = some r := hr
        rw [hq] at this; exact (Option.some.inj this).symm
      subst this
      refine ⟨p', q, b, x, B, X', if_pos rfl, rfl, hx.oq, hx.ob, hx.ox, kq, ?_, kx, hk, fun k => (hx.bg k).trans (hbg k), hnx⟩
      exact (go b (by rw [hx.ob]; simp) (by rw [hx.ob]; simp)).trans hx.hb
    · obtain ⟨p1, q1, b1, x1, B1, X1, h1, h2, h3⟩ := h.sub id' r hr
      have hi' : ¬ id = id' := fun c => hi c.symm
      refine ⟨p1, q1, b1, x1, B1, X1, (if_neg hi).trans h1, h2, h3.oq, h3.ob, h3.ox, ?_, ?_, ?_, h3.kx, h3.bg, h3.nx⟩
      · exact (go q1 (by rw [h3.oq]; simp [hi]) (by rw [h3.oq]; simp)).trans h3.hq
      · exact (go b1 (by rw [h3.ob]; simp) (by rw [h3.ob]; simp)).trans h3.hb
      · exact (go x1 (by rw [h3.ox]; simp) (by rw [h3.ox]; simp [hi])).trans h3.hx
  · intro id' hr
    by_cases hi : id' = id
    · subst hi; rw [show lkS id' S = some (some q) from hq] at hr; cases hr
    · exact (if_neg hi).trans (h.nosub id' hr)
  · intro i hi; rw [hlen]; exact h.lt i hi
  · intro i _ ho
    exact go i (by rw [ho]; simp) (by rw [ho]; simp)
def closeP (A : PL) (id : Int) : PL × Err := match liveP A id with
  | none => (A, eN 10)
  | some p => (upS A id { p with closed := true }, none)
theorem close_is (h : RepX H n e s E S own A) (id : Int) : ∃ K, ledger_Ledger_Close (some n) id [] H = some ((closeP A id).2, K) ∧ Led K n (closeP A id).1 own ∧ Ext H own K own := by
  unfold ledger_Ledger_Close ledger_Ledger_Close_t closeP
  rcases open_live h id with ⟨p, q, b, x, B, X, h0, h1, h2, h3, h4, h5⟩ | ⟨h0, h5⟩
  · rw [h0]
    have hne : q ≠ x := fun c => by have := h4.oq; rw [c, h4.ox] at this; cases this
    obtain ⟨w1, w2⟩ := h.setSub (p' := { p with closed := true }) (K := H.set q (ndS p.f b x true)) h1 h3 h4 (set_at h4.hq) ((set_ne hne).trans h4.hx) h4.kx (fun _ => rfl) h4.nx (by simp) (fun i a1 _ => set_ne (Ne.symm a1))
    refine ⟨_, ?_, w1, w2⟩
    exact (fin_eq h5).trans ((fin_br_f rfl).trans ((fin_br_t rfl).trans ((fin_br_t rfl).trans ((fin_eq (getBox_at h4.hq)).trans ((fin_br_t wrOk_nil).trans ((fin_eq (getBox_at h4.hq)).trans rfl))))))
  · rw [h0]
    refine ⟨H, ?_, ⟨e, s, E, S, h⟩, Ext.refl _ _⟩
    exact (fin_eq h5).trans ((fin_br_t rfl).trans rfl)
end
end Go.Proofs.YtldkdhfcbopbhaaGreatDoor
