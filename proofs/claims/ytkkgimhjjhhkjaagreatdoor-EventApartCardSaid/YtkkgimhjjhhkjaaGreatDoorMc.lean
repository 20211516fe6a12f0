/- Plain: turned from an elder seat's text. -/
import Derived.Test.YtkkgimhjjhhkjaaGreatDoorMb
set_option maxRecDepth 100000
namespace Go.Proofs.YtkkgimhjjhhkjaaGreatDoor
open Go Go.Pev
def getA (e : Ev) (n : ByteArray) : Option V := (e.find? fun a => decide (a.1 = n)).map (·.2)
theorem getA_cons (a : ByteArray × V) (e : Ev) (n : ByteArray) : getA (a :: e) n = if a.1 = n then some a.2 else getA e n := by
  unfold getA
  rw [List.find?_cons]
  by_cases h : a.1 = n <;> simp [h]
theorem getA_pos : ∀ (e : Ev) (n : ByteArray), Rise (nms e) → (inN (nms e) n = true → ∃ a, e[posN (nms e) n]? = some a ∧ a.1 = n ∧ getA e n = some a.2) ∧ (inN (nms e) n = false → getA e n = none)
  | [], n, _ => ⟨fun h => by simp [inN, posN] at h, fun _ => rfl⟩
  | a :: e, n, hr => by
    have hr' := List.pairwise_cons.1 hr
    obtain ⟨ih1, ih2⟩ := getA_pos e n hr'.2
    rw [getA_cons]
    by_cases hlt : ltN a.1 n = true
    · have hp : posN (nms (a :: e)) n = posN (nms e) n + 1 := by
        show (if ltN a.1 n = true then posN (nms e) n + 1 else 0) = _
        rw [if_pos hlt]
      have hi : inN (nms (a :: e)) n = inN (nms e) n := by unfold inN; rw [hp]; rfl
      have hne : a.1 ≠ n := fun c => by rw [c, ltN_irrefl] at hlt; cases hlt
      rw [hi, if_neg hne, hp]
      exact ⟨ih1, ih2⟩
    · have hp : posN (nms (a :: e)) n = 0 := by
        show (if ltN a.1 n = true then posN (nms e) n + 1 else 0) = _
        rw [if_neg hlt]
      have hi : inN (nms (a :: e)) n = decide (a.1 = n) := by unfold inN; rw [hp]; simp
      rw [hi, hp]
      refine ⟨fun h => ?_, fun h => ?_⟩
      · have h := of_decide_eq_true h
        rw [if_pos h]
        exact ⟨a, rfl, h, rfl⟩
      · have h := of_decide_eq_false h
        rw [if_neg h]
        cases hg : getA e n with
        | none => rfl
        | some v =>
          exfalso
          unfold getA at hg
          obtain ⟨x, hx, _⟩ := Option.map_eq_some_iff.1 hg
          have hm := List.mem_of_find?_eq_some hx
          have hn : x.1 = n := by simpa using List.find?_some hx
          have := hr'.1 x.1 (List.mem_map_of_mem hm)
          rw [hn] at this
          exact hlt this
def fndI : Nat → Ev → ByteArray → Int
  | _, [], _ => -1
  | i, a :: e, n => if a.1 = n then (i : Int) else fndI (i + 1) e n
theorem fndI_is : ∀ (e : Ev) (i : Nat) (n : ByteArray), (getA e n = none ∧ fndI i e n = -1) ∨ ∃ j, ∃ h : j < e.length, fndI i e n = ((i + j : Nat) : Int) ∧ getA e n = some e[j].2
  | [], i, n => .inl ⟨rfl, rfl⟩
  | a :: e, i, n => by
    unfold fndI
    rw [getA_cons]
    by_cases h : a.1 = n
    · rw [if_pos h, if_pos h]
      exact .inr ⟨0, by simp, rfl, rfl⟩
    · rw [if_neg h, if_neg h]
      rcases fndI_is e (i + 1) n with h1 | ⟨j, hj, h1, h2⟩
      · exact .inl h1
      · exact .inr ⟨j + 1, by simpa using hj, by rw [h1]; congr 1; omega, by rw [h2]; simp⟩
theorem ref03_Find_is (e : Ev) (n : ByteArray) (hl : e.length ≤ 1000000) : ref03_Find e n = some (fndI 0 e n) := by
  unfold ref03_Find ref03_Find_t
  have := foldE_runI (bd := ref03_Find_b0) e (by omega) (fun i (_ : Nat) => (n, e, Int.ofNat e.length, (i : Int), ())) (fun (j : Nat) a => if a.1 = n then .inr (.inl ((j : Int), ())) else .inl (j + 1)) (fun _ => .inr ()) (fun i j => j = i)
    (fun i hi j g hj => by
      subst hj
      refine (rn_in hi).trans ?_
      rw [getI_lt hi, bytes_beq]
      by_cases h : e[j].1 = n
      · rw [if_pos h]; exact (rn_t (decide_eq_true h)).trans rfl
      · rw [if_neg h, wsucc (by omega)]; exact (rn_f (decide_eq_false h)).trans rfl)
    (fun i hi s t hs h => by
      subst hs
      split at h
      · cases h
      · cases h; rfl)
    (fun s g hs => rn_out.trans rfl) 0 rfl
  refine (fn_o this).trans ?_
  have key : ∀ (e : Ev) (i : Nat), (LT.fin (.alt (foldE (fun (j : Nat) (a : ByteArray × V) => if a.1 = n then (Sum.inr (Sum.inl ((j : Int), ())) : Nat ⊕ ref03_Find_Q0) else .inl (j + 1)) (fun _ => .inr ()) i e) (fun x5 => .ret x5.fst) (fun _ => .ret (Int.negSucc 0)) : FT Int)) = some (fndI i e n) := by
    intro e
    induction e with
    | nil => intro i; rfl
    | cons a e ih =>
      intro i
      unfold foldE fndI
      by_cases h : a.1 = n
      · rw [if_pos h, if_pos h]; rfl
      · rw [if_neg h, if_neg h]; exact ih (i + 1)
  exact key e 0
end Go.Proofs.YtkkgimhjjhhkjaaGreatDoor
