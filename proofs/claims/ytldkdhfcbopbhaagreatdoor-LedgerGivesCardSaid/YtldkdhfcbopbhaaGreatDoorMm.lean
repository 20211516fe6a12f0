/- Chapter 21, plain: Check of a filter, Means: they always answer; few. -/
import Derived.Test.YtldkdhfcbopbhaaGreatDoorMl
set_option maxRecDepth 100000
namespace Go.Proofs.YtldkdhfcbopbhaaGreatDoor
open Go Go.Pev
theorem Ok.weak {α : Type} {P R : α → Prop} {o : Option α} (h : Ok P o) (hr : ∀ a, P a → R a) : Ok R o := by
  obtain ⟨a, h1, h2⟩ := h; exact ⟨a, h1, hr a h2⟩
theorem fright_ok (b : Bd) (s : ByteArray) : Ok T1 (filter_Right b s) := by
  unfold filter_Right filter_Right_t LT.fin
  repeat first | exact ok_ret (ok_some trivial) | refine ok_br (fun _ => ?_) (fun _ => ?_) | refine ok_opt (name_ok _) fun _ _ => ?_
theorem fcheck_loop (d : Bool) (l : List Bd) (hl : l.length ≤ 16) (v : List Bd) : ∀ (m i : Nat) (a : ByteArray), i ≤ l.length → l.length - i < m →
    Ok (fun q : filter_Check_Q0 => match q with | .inl (c, _) => few2 0 c ∧ c ≠ none | .inr _ => True) (LT.loop filter_Check_b0 m (a, l, (l.length : Int), (i : Int), d, v, ()))
  | 0, _, _, _, h => by omega
  | m + 1, i, a, h1, h2 => by
    rw [LT.loop_succ]
    refine ok_br (fun h => ?_) (fun _ => ok_ret (ok_some trivial))
    have hi : i < l.length := by have := of_decide_eq_true h; omega
    refine ok_br (fun _ => ?_) (fun c => absurd (of_decide_eq_false c) (by omega))
    refine ok_br (fun _ => ?_) (fun c => absurd (of_decide_eq_false c) (by simp only [Int.ofNat_eq_natCast]; omega))
    refine ok_br (fun _ => ok_ret (ok_some ⟨Nat.le_refl 0, by simp⟩)) (fun _ => ?_)
    refine ok_opt (fright_ok _ _) fun b _ => ok_br (fun _ => ok_ret (ok_some ⟨Nat.le_refl 0, by simp⟩)) (fun _ => ok_next ?_)
    have hw : IntKind.i64.wrap ((i : Int) + 1) = ((i + 1 : Nat) : Int) := by rw [i64_wrap _ (by omega) (by omega)]; omega
    rw [hw]
    exact fcheck_loop d l hl v m (i + 1) _ (by omega) (by omega)
theorem fcheck_ok (f : Fil) : Ok (fun c : Err => few2 1 c ∧ (c = none → f.2.length ≤ 16)) (filter_Check f) := by
  unfold filter_Check filter_Check_t LT.fin
  refine ok_br (fun _ => ok_ret (ok_some ⟨Nat.zero_le _, fun h => by cases h⟩)) (fun h => ?_)
  have hl : f.2.length ≤ 16 := by have := of_decide_eq_false h; simp only [Int.ofNat_eq_natCast] at this; omega
  refine ok_opt (fcheck_loop f.1 f.2 hl f.2 FUEL 0 (ByteArray.mk #[]) (Nat.zero_le _) (by rw [fuel_is]; omega)) fun q hq => ?_
  cases q with
  | inl e => exact ⟨e.1, rfl, Nat.le_trans hq.1 (Nat.zero_le _), fun h => absurd h hq.2⟩
  | inr u => exact ⟨none, rfl, Nat.zero_le _, fun _ => hl⟩
theorem prefix_ok (a b : ByteArray) : Ok T1 (strings_HasPrefix a b) := by
  have h : Ok T1 (stringslite_HasPrefix a b) := by
    unfold stringslite_HasPrefix stringslite_HasPrefix_t LT.fin
    refine ok_br (fun h => ?_) (fun _ => ok_ret (ok_some trivial))
    exact ok_br (fun _ => ok_ret (ok_some trivial)) (fun c => absurd (of_decide_eq_true h) (of_decide_eq_false c))
  unfold strings_HasPrefix strings_HasPrefix_t LT.fin
  exact ok_opt h fun _ _ => ok_ret (ok_some trivial)
theorem holds_ok (b : Bd) (v : V) : Ok T1 (filter_Holds b v) := by
  unfold filter_Holds filter_Holds_t LT.fin
  repeat first | exact ok_ret (ok_some trivial) | refine ok_br (fun _ => ?_) (fun _ => ?_) | refine ok_opt (prefix_ok _ _) fun _ _ => ?_
theorem means_loop (x : Ev) (hr : Rise (nms x)) (hx : x.length ≤ 16) (l : List Bd) (hl : l.length ≤ 16) : ∀ (m i : Nat), i ≤ l.length → l.length - i < m → Ok T1 (LT.loop filter_Means_b0 m (x, l, (l.length : Int), (i : Int), ()))
  | 0, _, _, h => by omega
  | m + 1, i, h1, h2 => by
    rw [LT.loop_succ]
    refine ok_br (fun h => ?_) (fun _ => ok_ret (ok_some trivial))
    have hi : i < l.length := by have := of_decide_eq_true h; omega
    refine ok_br (fun _ => ?_) (fun c => absurd (of_decide_eq_false c) (by omega))
    refine ok_br (fun _ => ?_) (fun c => absurd (of_decide_eq_false c) (by simp only [Int.ofNat_eq_natCast]; omega))
    rw [getI_lt hi]
    have hf := event_Find_is x l[i].1 hr (by omega)
    refine ok_opt (R := fun a => a = ((posN (nms x) l[i].1 : Int), inN (nms x) l[i].1)) ⟨_, hf, rfl⟩ fun p hp => ?_
    subst hp
    refine ok_br (fun _ => ok_ret (ok_some trivial)) (fun hin => ?_)
    have hin : inN (nms x) l[i].1 = true := by simpa using hin
    have hp : posN (nms x) l[i].1 < x.length := by
      unfold inN at hin
      have := (List.getElem?_eq_some_iff.1 (of_decide_eq_true hin)).1
      simpa using this
    refine ok_br (fun _ => ?_) (fun c => absurd (of_decide_eq_false c) (by simp))
    refine ok_br (fun _ => ?_) (fun c => absurd (of_decide_eq_false c) (by simp only [Int.ofNat_eq_natCast]; omega))
    refine ok_opt (holds_ok _ _) fun b _ => ok_br (fun _ => ok_ret (ok_some trivial)) (fun _ => ok_next ?_)
    have hw : IntKind.i64.wrap ((i : Int) + 1) = ((i + 1 : Nat) : Int) := by rw [i64_wrap _ (by omega) (by omega)]; omega
    rw [hw]
    exact means_loop x hr hx l hl m (i + 1) (by omega) (by omega)
theorem means_ok (f : Fil) (x : Ev) (hr : Rise (nms x)) (hx : x.length ≤ 16) (hl : f.2.length ≤ 16) : filter_Means f x = some (mB f x) := by
  have h : Ok T1 (filter_Means f x) := by
    unfold filter_Means filter_Means_t LT.fin
    refine ok_br (fun _ => ok_ret (ok_some trivial)) (fun _ => ?_)
    refine ok_opt (means_loop x hr hx f.2 hl FUEL 0 (Nat.zero_le _) (by rw [fuel_is]; omega)) fun q _ => ?_
    cases q with
    | inl e => exact ⟨_, rfl, trivial⟩
    | inr u => exact ⟨_, rfl, trivial⟩
  obtain ⟨b, hb, _⟩ := h
  unfold mB
  rw [hb]; rfl
/-! ### few -/
def smallO (o : Op21) : Prop := o.2.2.2.2.2.1.length ≤ 50 ∧ o.2.2.2.2.2.2.2.length ≤ 50
theorem few_loop (l : List Op21) (hl : l.length ≤ 9223372036854775807) : ∀ (m i : Nat), i ≤ l.length → l.length - i < m → (∀ j (h : j < l.length), j < i → smallO l[j]) →
    Ok (fun q : law21_few_Q0 => match q with | .inl (_, b, _) => b = false | .inr (v, _) => v = l ∧ ∀ o ∈ l, smallO o) (LT.loop law21_few_b0 m (l, l, (l.length : Int), (i : Int), ()))
  | 0, _, _, h, _ => by omega
  | m + 1, i, h1, h2, h3 => by
    rw [LT.loop_succ]
    refine ok_br (fun h => ?_) (fun h => ok_ret (ok_some ⟨rfl, fun o ho => ?_⟩))
    · have hi : i < l.length := by have := of_decide_eq_true h; omega
      refine ok_br (fun _ => ?_) (fun c => absurd (of_decide_eq_false c) (by omega))
      refine ok_br (fun _ => ?_) (fun c => absurd (of_decide_eq_false c) (by simp only [Int.ofNat_eq_natCast]; omega))
      rw [getI_lt hi]
      refine ok_br (fun _ => ok_ret (ok_some rfl)) (fun c1 => ?_)
      refine ok_br (fun _ => ok_ret (ok_some rfl)) (fun c2 => ok_next ?_)
      have hw : IntKind.i64.wrap ((i : Int) + 1) = ((i + 1 : Nat) : Int) := by rw [i64_wrap _ (by omega) (by omega)]; omega
      rw [hw]
      refine few_loop l hl m (i + 1) (by omega) (by omega) fun j hj hji => ?_
      by_cases hc : j = i
      · subst hc
        have c1 := of_decide_eq_false c1
        have c2 := of_decide_eq_false c2
        simp only [Int.ofNat_eq_natCast] at c1 c2
        exact ⟨by omega, by omega⟩
      · exact h3 j hj (by omega)
    · have hi := of_decide_eq_false h
      obtain ⟨j, hj, rfl⟩ := List.getElem_of_mem ho
      exact h3 j hj (by omega)
theorem few_ok (l : List Op21) (hl : l.length ≤ 9223372036854775807) : Ok (fun b : Bool => b = true → l.length ≤ 100 ∧ ∀ o ∈ l, smallO o) (law21_few l) := by
  unfold law21_few law21_few_t LT.fin
  refine ok_opt (few_loop l hl (FUEL + l.length) 0 (Nat.zero_le _) (by rw [fuel_is]; omega) (fun j _ hj => by omega)) fun q hq => ?_
  cases q with
  | inl e => exact ⟨_, rfl, fun h => by rw [show e.2.1 = false from hq] at h; cases h⟩
  | inr u =>
    obtain ⟨rfl, h2⟩ := hq
    refine ⟨_, rfl, fun h => ⟨?_, h2⟩⟩
    have := of_decide_eq_true h
    simp only [Int.ofNat_eq_natCast] at this
    omega
end Go.Proofs.YtldkdhfcbopbhaaGreatDoor
