/- Chapter 21, plain: each call, whatever it is handed. -/
import Derived.Test.YtldkdhfcbopbhaaGreatDoorMi
set_option maxRecDepth 100000
namespace Go.Proofs.YtldkdhfcbopbhaaGreatDoor
open Go Go.Pev
noncomputable def acceptP (A : PL) (a b : Int) (x : Ev) (c : Err) : PL × Int × Err := if rightB a b = true then (match c with
  | some v => (A, 0, some v)
  | none => if A.cnt < 4096 then (upE A (a, b) x, ((A.ev (a, b)).length : Int), none) else (A, 0, eN 11)) else (A, 0, eN 1)
noncomputable def openP (A : PL) (id : Int) (f : Fil) (c : Err) : PL × Err := if id < 0 then (A, eN 1) else match c with
  | some v => (A, some v)
  | none => match A.sub id with
    | some _ => (A, eN 9)
    | none => if A.ns < 512 then (upO A id f, none) else (A, eN 11)
/-- What is always so. -/
structure Small (A : PL) : Prop where
  pos : 0 ≤ A.cnt
  ev : ∀ k, ((A.ev k).length : Int) ≤ A.cnt
section
variable {H : List Pev.Node} {n : Nat} {own : Nat → Option Rl} {A : PL}
theorem accept_all (h : Led H n A own) (hs : Small A) (a b : Int) (x : Ev) (c : Err) (hc : event_Check x = some c) (hl : c = none → x.length ≤ 16) (hcnt : A.cnt < 4096) : ∃ K own', ledger_Ledger_Accept (some n) a b x [] H = some ((acceptP A a b x c).2.1, (acceptP A a b x c).2.2, K) ∧ Led K n (acceptP A a b x c).1 own' ∧ Ext H own K own' := by
  unfold acceptP
  cases hr : rightB a b with
  | false =>
    refine ⟨H, own, ?_, h, Ext.refl _ _⟩
    unfold ledger_Ledger_Accept ledger_Ledger_Accept_t
    exact (fin_br_f rfl).trans ((fin_eq (right_is a b)).trans ((fin_br_t (by rw [hr]; rfl)).trans rfl))
  | true =>
    rw [if_pos rfl]
    cases c with
    | some v =>
      refine ⟨H, own, ?_, h, Ext.refl _ _⟩
      unfold ledger_Ledger_Accept ledger_Ledger_Accept_t
      exact (fin_br_f rfl).trans ((fin_eq (right_is a b)).trans ((fin_br_f (by rw [hr]; rfl)).trans ((fin_eq hc).trans ((fin_br_t rfl).trans rfl))))
    | none =>
      simp only [if_pos hcnt]
      have := hs.ev (a, b)
      exact accept_is h a b x (by rw [right_is, hr]) hc (hl rfl) hs.pos hcnt (by omega)
theorem open_all (h : Led H n A own) (id : Int) (f : Fil) (c : Err) (hc : filter_Check f = some c) (hl : c = none → f.2.length ≤ 16) (hns : A.ns < 512) (hcnt : A.cnt < 4096) : ∃ K own', ledger_Ledger_Open (some n) id f [] H = some ((openP A id f c).2, K) ∧ Led K n (openP A id f c).1 own' ∧ Ext H own K own' := by
  unfold openP
  by_cases h0 : id < 0
  · rw [if_pos h0]
    refine ⟨H, own, ?_, h, Ext.refl _ _⟩
    unfold ledger_Ledger_Open ledger_Ledger_Open_t
    exact (fin_br_f rfl).trans ((fin_br_t (decide_eq_true h0)).trans rfl)
  · rw [if_neg h0]
    cases c with
    | some v =>
      refine ⟨H, own, ?_, h, Ext.refl _ _⟩
      unfold ledger_Ledger_Open ledger_Ledger_Open_t
      exact (fin_br_f rfl).trans ((fin_br_f (decide_eq_false h0)).trans ((fin_eq hc).trans ((fin_br_t rfl).trans rfl)))
    | none =>
      have hh := h
      obtain ⟨e, s, E, S, h⟩ := h
      cases hsub : lkS id S with
      | none =>
        rw [h.nosub id hsub]
        simp only [if_pos hns]
        exact open_new h id f (by omega) hc (hl rfl) hsub hns hcnt
      | some r =>
        obtain ⟨p, q, b, x, B, X, h1, rfl, _⟩ := h.sub id r hsub
        rw [h1]
        refine ⟨H, own, ?_, hh, Ext.refl _ _⟩
        unfold ledger_Ledger_Open ledger_Ledger_Open_t
        refine (fin_br_f rfl).trans ((fin_br_f (decide_eq_false h0)).trans ((fin_eq hc).trans ((fin_br_f rfl).trans ((fin_br_t rfl).trans ((fin_br_t rfl).trans ((fin_eq (getBox_at h.hl)).trans ((fin_eq (getBox_at h.hl)).trans ((fin_br_t rfl).trans ((fin_eq (getMap_at h.hs)).trans ?_)))))))))
        rw [show lookL (.int .i64) (.rf .ptr) id S = some (some q) from hsub]
        exact (fin_br_t rfl).trans rfl
def noP : PL := ⟨fun _ => [], 0, fun _ => none, 0⟩
theorem new_is (H : List Pev.Node) : ∃ K n own, ledger_New [] H = some (some n, K) ∧ Led K n noP own ∧ (∀ i, i < H.length → K[i]? = H[i]?) ∧ H.length ≤ K.length ∧ (∀ i, own i ≠ none → H.length ≤ i) := by
  have l1 : (H ++ [ndEv []]).length = H.length + 1 := by simp
  have l2 : (H ++ [ndEv []] ++ [ndSub []]).length = H.length + 2 := by simp
  let own : Nat → Option Rl := fun i => if i = H.length then some .ev else if i = H.length + 1 then some .sb else if i = H.length + 2 then some .top else none
  refine ⟨H ++ [ndEv []] ++ [ndSub []] ++ [ndL H.length 0 (H ++ [ndEv []]).length], (H ++ [ndEv []] ++ [ndSub []]).length, own, rfl, ?_, ?_, by simp, ?_⟩
  · rw [l1, l2]
    refine ⟨H.length, H.length + 1, [], [], ?_, app_lt (app_lt app_new), ?_, keys_nil, keys_nil, ?_, if_pos rfl, ?_, (fun _ _ hr => by cases hr), fun _ _ => rfl, (fun _ _ hr => by cases hr), fun _ _ => rfl, rfl, ?_, Int.le_refl _⟩
    · have := app_new (H := H ++ [ndEv []] ++ [ndSub []]) (x := ndL H.length 0 (H.length + 1))
      rw [l2] at this; exact this
    · have := app_new (H := H ++ [ndEv []]) (x := ndSub [])
      rw [l1] at this; exact app_lt this
    · show (if H.length + 2 = H.length then _ else if H.length + 2 = H.length + 1 then _ else if H.length + 2 = H.length + 2 then _ else _) = _
      rw [if_neg (by omega), if_neg (by omega), if_pos rfl]
    · show (if H.length + 1 = H.length then _ else if H.length + 1 = H.length + 1 then _ else _) = _
      rw [if_neg (by omega), if_pos rfl]
    · intro i hi
      have : i < H.length + 3 := by
        rcases Nat.lt_or_ge i (H.length + 3) with c | c
        · exact c
        · exfalso; apply hi
          show (if i = H.length then _ else if i = H.length + 1 then _ else if i = H.length + 2 then _ else _) = _
          rw [if_neg (by omega), if_neg (by omega), if_neg (by omega)]
      simpa using this
  · intro i hi
    obtain ⟨x, hx⟩ : ∃ x, H[i]? = some x := ⟨_, List.getElem?_eq_getElem hi⟩
    rw [hx]; exact app_lt (app_lt (app_lt hx))
  · intro i hi
    rcases Nat.lt_or_ge i H.length with c | c
    · exfalso; apply hi
      show (if i = H.length then _ else if i = H.length + 1 then _ else if i = H.length + 2 then _ else _) = _
      rw [if_neg (by omega), if_neg (by omega), if_neg (by omega)]
    · exact c
end
end Go.Proofs.YtldkdhfcbopbhaaGreatDoor
