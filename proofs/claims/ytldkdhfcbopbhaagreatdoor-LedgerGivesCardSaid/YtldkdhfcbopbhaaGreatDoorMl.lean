/- Chapter 21, plain: Check of an event and of a filter, and Means, always answer. -/
import Derived.Test.YtldkdhfcbopbhaaGreatDoorMk
set_option maxRecDepth 100000
namespace Go.Proofs.YtldkdhfcbopbhaaGreatDoor
open Go Go.Pev
/-- It answers, and so. -/
def Ok {α : Type} (P : α → Prop) (o : Option α) : Prop := ∃ a, o = some a ∧ P a
section
variable {S Q ρ α : Type} {f : Q → Option ρ} {g : S → Option ρ} {P : ρ → Prop}
theorem ok_br {b : Bool} {x y : LT S Q} (hx : b = true → Ok P (x.run f g)) (hy : b = false → Ok P (y.run f g)) : Ok P ((LT.br b x y).run f g) := by
  cases b with
  | true => exact hx rfl
  | false => exact hy rfl
theorem ok_opt {R : α → Prop} {o : Option α} {k : α → LT S Q} (ho : Ok R o) (h : ∀ a, R a → Ok P ((k a).run f g)) : Ok P ((LT.opt o k).run f g) := by
  obtain ⟨a, rfl, ha⟩ := ho
  exact h a ha
theorem ok_ret {q : Q} (h : Ok P (f q)) : Ok P ((LT.ret q : LT S Q).run f g) := h
theorem ok_next {s : S} (h : Ok P (g s)) : Ok P ((LT.next s : LT S Q).run f g) := h
theorem ok_some {a : ρ} (h : P a) : Ok P (some a) := ⟨a, rfl, h⟩
end
def T1 {α : Type} (_ : α) : Prop := True
theorem letter_ok (n : Int) : Ok T1 (event_letter n) := by
  unfold event_letter event_letter_t LT.fin
  repeat first | exact ok_ret (ok_some trivial) | refine ok_br (fun _ => ?_) (fun _ => ?_)
theorem run_ok (s : ByteArray) (hs : s.size ≤ 1000000) : ∀ (m i : Nat), i ≤ s.size → s.size - i < m → Ok T1 (LT.loop event_run_b0 m (s, (i : Int), ()))
  | 0, _, _, h => by omega
  | m + 1, i, h1, h2 => by
    rw [LT.loop_succ]
    refine ok_br (fun h => ?_) (fun _ => ok_ret (ok_some trivial))
    have hlt := of_decide_eq_true h
    simp only [Int.ofNat_eq_natCast] at hlt
    refine ok_br (fun _ => ?_) (fun c => absurd (of_decide_eq_false c) (by simp))
    refine ok_br (fun _ => ?_) (fun c => absurd h (by rw [c]; simp))
    refine ok_opt (letter_ok _) fun b _ => ok_br (fun _ => ok_next ?_) (fun _ => ok_ret (ok_some trivial))
    have hw : IntKind.i64.wrap ((i : Int) + 1) = ((i + 1 : Nat) : Int) := by rw [i64_wrap _ (by omega) (by omega)]; omega
    rw [hw]
    exact run_ok s hs m (i + 1) (by omega) (by omega)
theorem name_ok (s : ByteArray) : Ok T1 (event_Name s) := by
  unfold event_Name event_Name_t LT.fin
  refine ok_br (fun h1 => ?_) (fun _ => ok_ret (ok_some trivial))
  refine ok_br (fun h2 => ?_) (fun _ => ok_ret (ok_some trivial))
  have a1 := of_decide_eq_true h1
  have a2 := of_decide_eq_true h2
  simp only [Int.ofNat_eq_natCast] at a1 a2
  have d : ∀ {c : Prop}, decide ((0 : Int) < Int.ofNat s.size) = false → c := fun c => absurd (of_decide_eq_false c) (by simp only [Int.ofNat_eq_natCast]; omega)
  refine ok_br (fun _ => ?_) (fun c => d c)
  refine ok_br (fun _ => ?_) (fun _ => ok_ret (ok_some trivial))
  refine ok_br (fun _ => ?_) (fun c => d c)
  refine ok_br (fun _ => ?_) (fun _ => ok_ret (ok_some trivial))
  have hr : Ok T1 (event_run s 0) := by
    unfold event_run event_run_t LT.fin
    exact ok_opt (run_ok s (by omega) FUEL 0 (Nat.zero_le _) (by rw [fuel_is]; omega)) fun x _ => ok_ret (ok_some trivial)
  exact ok_opt hr fun x _ => ok_ret (ok_some trivial)
/-- An error of few places. -/
def few2 (n : Nat) (e : Err) : Prop := (tellE e).2.1.length ≤ n
theorem value_ok (v : V) : Ok (few2 0) (value_Check v) := by
  unfold value_Check value_Check_t LT.fin
  repeat first | exact ok_ret (ok_some (Nat.le_refl 0)) | refine ok_br (fun _ => ?_) (fun _ => ?_)
theorem at_ok (a b : Int) (e : Err) (n : Nat) (h : few2 n e) (hn : e ≠ none) : Ok (fun x => few2 (n + 1) x ∧ x ≠ none) (fault_At a b e) := by
  cases e with
  | none => exact absurd rfl hn
  | some v =>
    refine ⟨some ((a, b) :: v.1, v.2), rfl, ?_, by simp⟩
    have : v.1.length ≤ n := h
    show ((a, b) :: v.1).length ≤ n + 1
    simpa using this
/-- Names that rise, all behind one. -/
def upN : ByteArray → List ByteArray → Prop
  | _, [] => True
  | a, b :: l => ltN a b = true ∧ upN b l
theorem upN_all : ∀ (l : List ByteArray) (a : ByteArray), upN a l → Rise l ∧ ∀ x ∈ l, ltN a x = true
  | [], _, _ => ⟨.nil, fun _ h => by cases h⟩
  | b :: l, a, h => by
    obtain ⟨h1, h2⟩ := upN_all l b h.2
    refine ⟨List.pairwise_cons.2 ⟨h2, h1⟩, fun x hx => ?_⟩
    rcases List.mem_cons.1 hx with rfl | hx
    · exact h.1
    · exact ltN_trans h.1 (h2 x hx)
theorem check_loop (l : Ev) (hl : l.length ≤ 16) : ∀ (m i : Nat) (rest : Ev) (a : ByteArray), l.drop i = rest → i ≤ l.length → rest.length < m →
    Ok (fun q : event_Check_Q0 => match q with | .inl (c, _) => few2 1 c ∧ c ≠ none | .inr _ => upN a (nms rest)) (LT.loop event_Check_b0 m (a, l, (l.length : Int), (i : Int), ()))
  | 0, _, _, _, _, _, h => by omega
  | m + 1, i, [], a, h1, h2, _ => by
    have : l.length ≤ i := by simpa using h1
    rw [LT.loop_succ]
    exact ok_br (fun c => absurd (of_decide_eq_true c) (by omega)) (fun _ => ok_ret (ok_some trivial))
  | m + 1, i, x :: rest, a, h1, h2, h3 => by
    have hlen : l.length - i = rest.length + 1 := by rw [← List.length_drop, h1]; rfl
    have hi : i < l.length := by omega
    have hx : l[i] = x := by
      have := List.getElem_drop (xs := l) (i := i) (j := 0) (h := by rw [h1]; simp)
      simp only [h1, List.getElem_cons_zero, Nat.add_zero] at this
      exact this.symm
    have hd : l.drop (i + 1) = rest := by rw [← List.drop_drop, h1]; rfl
    rw [LT.loop_succ]
    refine ok_br (fun _ => ?_) (fun c => absurd (of_decide_eq_false c) (by omega))
    refine ok_br (fun _ => ?_) (fun c => absurd (of_decide_eq_false c) (by omega))
    refine ok_br (fun _ => ?_) (fun c => absurd (of_decide_eq_false c) (by simp only [Int.ofNat_eq_natCast]; omega))
    rw [getI_lt hi, hx]
    refine ok_opt (name_ok _) fun b _ => ok_br (fun _ => ok_ret (ok_some ⟨Nat.le_refl 1, by simp⟩)) (fun _ => ?_)
    refine ok_br (fun _ => ok_ret (ok_some ⟨Nat.le_refl 1, by simp⟩)) (fun hlt => ?_)
    have hup : ltN a x.1 = true := by
      rw [Bool.or_eq_false_iff] at hlt
      exact ltN_of hlt.1 fun c => by rw [c] at hlt; simp at hlt
    refine ok_opt (value_ok _) fun c hc => ok_br (fun hn => ?_) (fun hn => ok_next ?_)
    · exact ok_opt (at_ok 2 _ c 0 hc (fun c0 => by rw [c0] at hn; cases hn)) fun e he => ok_ret (ok_some he)
    · have hw : IntKind.i64.wrap ((i : Int) + 1) = ((i + 1 : Nat) : Int) := by rw [i64_wrap _ (by omega) (by omega)]; omega
      rw [hw]
      obtain ⟨q, q1, q2⟩ := check_loop l hl m (i + 1) rest x.1 hd (by omega) (by simp only [List.length_cons] at h3; omega)
      refine ⟨q, q1, ?_⟩
      cases q with
      | inl e => exact q2
      | inr u => exact ⟨hup, q2⟩
theorem check_ok (l : Ev) : Ok (fun c : Err => few2 1 c ∧ (c = none → l.length ≤ 16 ∧ Rise (nms l))) (event_Check l) := by
  unfold event_Check event_Check_t LT.fin
  refine ok_br (fun _ => ok_ret (ok_some ⟨Nat.zero_le _, fun h => by cases h⟩)) (fun h => ?_)
  have hl : l.length ≤ 16 := by have := of_decide_eq_false h; simp only [Int.ofNat_eq_natCast] at this; omega
  refine ok_opt (check_loop l hl FUEL 0 l (ByteArray.mk #[]) rfl (Nat.zero_le _) (by rw [fuel_is]; omega)) fun q hq => ?_
  cases q with
  | inl e => exact ⟨e.1, rfl, hq.1, fun h => absurd h hq.2⟩
  | inr u => exact ⟨none, rfl, Nat.zero_le _, fun _ => ⟨hl, (upN_all _ _ hq).1⟩⟩
end Go.Proofs.YtldkdhfcbopbhaaGreatDoor
