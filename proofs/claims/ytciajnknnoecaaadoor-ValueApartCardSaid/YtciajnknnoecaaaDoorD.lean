/- The order of values is a line: plain law; aviarylaw02.ValueLine answers true. -/
import Derived.Test.YtciajnknnoecaaaDoorC
namespace Go.Proofs.YtciajnknnoecaaaDoor
open Go Go.Pev

theorem bl_cons (a : UInt8) (x : List UInt8) (b : UInt8) (y : List UInt8) : Op.bytesLess (a :: x) (b :: y) = (decide (a < b) || (a == b && Op.bytesLess x y)) := rfl
theorem bl_tri : ∀ l m : List UInt8, (Op.bytesLess l m = true ∧ Op.bytesLess m l = false ∧ l ≠ m) ∨ (Op.bytesLess l m = false ∧ Op.bytesLess m l = false ∧ l = m) ∨ (Op.bytesLess l m = false ∧ Op.bytesLess m l = true ∧ l ≠ m)
  | [], [] => .inr (.inl ⟨rfl, rfl, rfl⟩)
  | [], _ :: _ => .inl ⟨rfl, rfl, by simp⟩
  | _ :: _, [] => .inr (.inr ⟨rfl, rfl, by simp⟩)
  | a :: x, b :: y => by
    simp only [bl_cons]
    rcases Nat.lt_trichotomy a.toNat b.toNat with h | h | h
    · have h1 : a < b := h
      have h2 : ¬ b < a := fun h' => by have : b.toNat < a.toNat := h'; omega
      have h3 : a ≠ b := fun e => by subst e; omega
      refine .inl ⟨by simp [h1], by simp [h2, Ne.symm h3], by simp [h3]⟩
    · have h3 : a = b := UInt8.toNat_inj.1 h
      subst h3
      have h1 : ¬ a < a := fun h' => by have : a.toNat < a.toNat := h'; omega
      rcases bl_tri x y with ⟨q1, q2, q3⟩ | ⟨q1, q2, q3⟩ | ⟨q1, q2, q3⟩
      · exact .inl ⟨by simp [q1], by simp [h1, q2], by simpa using q3⟩
      · exact .inr (.inl ⟨by simp [h1, q1], by simp [h1, q2], by simpa using q3⟩)
      · exact .inr (.inr ⟨by simp [h1, q1], by simp [q2], by simpa using q3⟩)
    · have h1 : b < a := h
      have h2 : ¬ a < b := fun h' => by have : a.toNat < b.toNat := h'; omega
      have h3 : a ≠ b := fun e => by subst e; omega
      refine .inr (.inr ⟨by simp [h2, h3], by simp [h1], by simp [h3]⟩)
theorem bl_trans : ∀ l m n : List UInt8, Op.bytesLess l m = true → Op.bytesLess m n = true → Op.bytesLess l n = true
  | _, _, [], _, h => by simp [Op.bytesLess] at h
  | [], _, _ :: _, _, _ => rfl
  | _ :: _, [], _, h, _ => by simp [Op.bytesLess] at h
  | a :: x, b :: y, c :: z, h1, h2 => by
    simp only [bl_cons, Bool.or_eq_true, decide_eq_true_eq, Bool.and_eq_true, beq_iff_eq] at h1 h2 ⊢
    rcases h1 with h1 | ⟨rfl, h1⟩ <;> rcases h2 with h2 | ⟨rfl, h2⟩
    · exact .inl (by have e1 : a.toNat < b.toNat := h1; have e2 : b.toNat < c.toNat := h2; show a.toNat < c.toNat; omega)
    · exact .inl h1
    · exact .inl h2
    · exact .inr ⟨rfl, bl_trans x y z h1 h2⟩

/-- A line, as its comparison tells it. -/
structure Line {α : Type} (c : α → α → Int) (e : α → α → Bool) : Prop where
  anti : ∀ x y, c x y = - c y x
  small : ∀ x y, c x y = -1 ∨ c x y = 0 ∨ c x y = 1
  zero : ∀ x y, (c x y == 0) = e x y
  le : ∀ x y z, c x y ≤ 0 → c y z ≤ 0 → c x z ≤ 0
  lt : ∀ x y z, c x y < 0 → c y z ≤ 0 → c x z < 0

theorem line_int : Line cmpI (fun x y => x == y) := by
  have val : ∀ x y, (x < y ∧ cmpI x y = -1) ∨ (x = y ∧ cmpI x y = 0) ∨ (x > y ∧ cmpI x y = 1) := by
    intro x y
    unfold cmpI
    rcases Int.lt_trichotomy x y with h | h | h
    · exact .inl ⟨h, by simp [h]⟩
    · subst h; exact .inr (.inl ⟨rfl, by simp⟩)
    · exact .inr (.inr ⟨h, by simp [show ¬ x < y by omega, show x > y from h]⟩)
  refine ⟨fun x y => ?_, fun x y => ?_, fun x y => ?_, fun x y z h1 h2 => ?_, fun x y z h1 h2 => ?_⟩
  · have := val x y; have := val y x; omega
  · have := val x y; omega
  · rcases val x y with h | h | h
    · rw [h.2, beq_eq_false_iff_ne.2 (by omega : x ≠ y)]; rfl
    · rw [h.2, h.1]; simp
    · rw [h.2, beq_eq_false_iff_ne.2 (by omega : x ≠ y)]; rfl
  · have := val x y; have := val y z; have := val x z; omega
  · have := val x y; have := val y z; have := val x z; omega

theorem line_str : Line cmpS (fun x y => x.toList == y.toList) := by
  have val : ∀ x y : ByteArray, (Op.bytesLess x.toList y.toList = true ∧ x.toList ≠ y.toList ∧ cmpS x y = -1) ∨ (x.toList = y.toList ∧ cmpS x y = 0) ∨ (Op.bytesLess y.toList x.toList = true ∧ x.toList ≠ y.toList ∧ cmpS x y = 1) := by
    intro x y
    unfold cmpS
    rcases bl_tri x.toList y.toList with ⟨q1, q2, q3⟩ | ⟨q1, q2, q3⟩ | ⟨q1, q2, q3⟩
    · exact .inl ⟨q1, q3, by simp [q1]⟩
    · exact .inr (.inl ⟨q3, by rw [q1, show (x.toList == y.toList) = true by simpa using q3]; rfl⟩)
    · exact .inr (.inr ⟨q2, q3, by rw [q1, beq_eq_false_iff_ne.2 q3]; rfl⟩)
  refine ⟨fun x y => ?_, fun x y => ?_, fun x y => ?_, fun x y z h1 h2 => ?_, fun x y z h1 h2 => ?_⟩
  · rcases bl_tri x.toList y.toList with ⟨q1, q2, q3⟩ | ⟨q1, q2, q3⟩ | ⟨q1, q2, q3⟩
    · have h1 : cmpS x y = -1 := by unfold cmpS; rw [q1]; rfl
      have h2 : cmpS y x = 1 := by unfold cmpS; rw [q2, beq_eq_false_iff_ne.2 (Ne.symm q3)]; rfl
      omega
    · have h1 : cmpS x y = 0 := by unfold cmpS; rw [q1, show (x.toList == y.toList) = true by simpa using q3]; rfl
      have h2 : cmpS y x = 0 := by unfold cmpS; rw [q2, show (y.toList == x.toList) = true by simpa using q3.symm]; rfl
      omega
    · have h1 : cmpS x y = 1 := by unfold cmpS; rw [q1, beq_eq_false_iff_ne.2 q3]; rfl
      have h2 : cmpS y x = -1 := by unfold cmpS; rw [q2]; rfl
      omega
  · rcases val x y with h | h | h <;> omega
  · rcases val x y with h | h | h
    · rw [h.2.2, beq_eq_false_iff_ne.2 h.2.1]; rfl
    · rw [h.2, h.1]; simp
    · rw [h.2.2, beq_eq_false_iff_ne.2 h.2.1]; rfl
  · rcases val x y with h | h | h
    · rcases val y z with g | g | g
      · have t := bl_trans _ _ _ h.1 g.1
        rcases val x z with k | k | k
        · omega
        · omega
        · have := bl_tri x.toList z.toList; simp_all
      · rw [← show cmpS x y = cmpS x z by unfold cmpS; rw [g.1]]; omega
      · omega
    · rw [show cmpS x z = cmpS y z by unfold cmpS; rw [h.1]]; exact h2
    · omega
  · rcases val x y with h | h | h
    · rcases val y z with g | g | g
      · have t := bl_trans _ _ _ h.1 g.1
        rcases val x z with k | k | k
        · omega
        · have := bl_tri x.toList z.toList; simp_all
        · have := bl_tri x.toList z.toList; simp_all
      · rw [← show cmpS x y = cmpS x z by unfold cmpS; rw [g.1]]; omega
      · omega
    · omega
    · omega

def cmpB (b b' : Bool) : Int := IntKind.i64.wrap (cond b 1 0 - cond b' 1 0)
theorem line_bool : Line cmpB (fun x y => x == y) := by
  refine ⟨?_, ?_, ?_, ?_, ?_⟩ <;> decide

/-- What a line answers is what the statement asks. -/
def asks (x y z x' : Int) (e : Bool) : Bool :=
  (x == IntKind.i64.wrap (0 - x')) && ((x == 0) == e) && (decide (x > 0) || decide (y > 0) || decide (z ≤ 0)) && (decide (x ≥ 0) || decide (y > 0) || decide (z < 0))
theorem asks_line {α : Type} {c : α → α → Int} {e : α → α → Bool} (h : Line c e) (x y z : α) : asks (c x y) (c y z) (c x z) (c y x) (e x y) = true := by
  have h1 := h.anti x y
  have h2 := h.small y x
  have h3 := h.zero x y
  have h4 := h.le x y z
  have h5 := h.lt x y z
  have hw : IntKind.i64.wrap (0 - c y x) = - c y x := by rcases h2 with h2 | h2 | h2 <;> rw [h2] <;> decide
  unfold asks
  rw [hw, h3, ← h1]
  simp only [beq_self_eq_true, Bool.true_and, Bool.and_eq_true, Bool.or_eq_true, decide_eq_true_eq]
  constructor <;> omega

theorem check_none {k i : Int} {s : ByteArray} {b : Bool} (h : checkV k i s b = none) : (k = 1 ∧ s.toList = [] ∧ b = false) ∨ (k = 2 ∧ i = 0 ∧ b = false) ∨ (k = 3 ∧ i = 0 ∧ s.toList = []) := by
  unfold checkV at h
  have he : (⟨#[]⟩ : ByteArray).toList = [] := by rw [ByteArray.toList_eq]
  by_cases h1 : k = 1
  · subst h1
    simp only [beq_self_eq_true, cond_true] at h
    cases hq : eqB shVal (1, 0, s, b) (1, 0, ⟨#[]⟩, false) with
    | false => rw [hq] at h; cases h
    | true => simp [eqB, he] at hq; exact .inl ⟨rfl, hq⟩
  · rw [beq_eq_false_iff_ne.2 h1] at h
    by_cases h2 : k = 2
    · subst h2
      simp only [beq_self_eq_true, cond_true, cond_false] at h
      cases hq : eqB shVal (2, i, ⟨#[]⟩, b) (2, 0, ⟨#[]⟩, false) with
      | false => rw [hq] at h; cases h
      | true => simp [eqB, he] at hq; exact .inr (.inl ⟨rfl, hq⟩)
    · rw [beq_eq_false_iff_ne.2 h2] at h
      by_cases h3 : k = 3
      · subst h3
        simp only [beq_self_eq_true, cond_true, cond_false] at h
        cases hq : eqB shVal (3, i, s, false) (3, 0, ⟨#[]⟩, false) with
        | false => rw [hq] at h; cases h
        | true => simp [eqB, he] at hq; exact .inr (.inr ⟨rfl, hq⟩)
      · rw [beq_eq_false_iff_ne.2 h3] at h
        simp at h

theorem cmpE_none {k i : Int} {s : ByteArray} {b : Bool} {k' i' : Int} {s' : ByteArray} {b' : Bool} : (cmpE k i s b k' i' s' b' = none ↔ checkV k i s b = none ∧ checkV k' i' s' b' = none ∧ k = k') ∧
    (cmpE k i s b k' i' s' b' = none → cmpN k i s b k' i' s' b' = or3 (cmpI i i') (cmpS s s') (cmpB b b')) := by
  unfold cmpE cmpN first2
  by_cases hk : k = k'
  · subst hk
    cases checkV k i s b <;> cases checkV k i' s' b' <;> simp [cmpB]
  · have hn : (k != k') = true := by simpa using hk
    cases checkV k i s b <;> cases checkV k' i' s' b' <;> simp [hn, hk]

theorem cmpS_nil {s s' : ByteArray} (h : s.toList = []) (h' : s'.toList = []) : cmpS s s' = 0 := by unfold cmpS; rw [h, h']; rfl
theorem cmpI_self (i : Int) : cmpI i i = 0 := by simp [cmpI]
theorem cmpB_self (b : Bool) : cmpB b b = 0 := by cases b <;> decide
theorem or3_a (x : Int) : or3 x 0 0 = x := by
  unfold or3
  by_cases h : x = 0
  · subst h; rfl
  · rw [show (x != 0) = true by simpa using h]; rfl
theorem or3_b (x : Int) : or3 0 x 0 = x := by
  unfold or3
  by_cases h : x = 0
  · subst h; rfl
  · rw [show (x != 0) = true by simpa using h]; rfl
theorem or3_c (x : Int) : or3 0 0 x = x := by
  unfold or3
  by_cases h : x = 0
  · subst h; rfl
  · rw [show (x != 0) = true by simpa using h]; rfl

abbrev cE (v u : V) : Err := cmpE v.1 v.2.1 v.2.2.1 v.2.2.2 u.1 u.2.1 u.2.2.1 u.2.2.2
abbrev cN (v u : V) : Int := cmpN v.1 v.2.1 v.2.2.1 v.2.2.2 u.1 u.2.1 u.2.2.1 u.2.2.2

theorem value_line {x y z : V} (h1 : cE x y = none) (h2 : cE y z = none) : cE x z = none ∧ cE y x = none ∧ asks (cN x y) (cN y z) (cN x z) (cN y x) (eqB shVal x y) = true := by
  obtain ⟨k, i, s, b⟩ := x
  obtain ⟨k', i', s', b'⟩ := y
  obtain ⟨k2, i2, s2, bb⟩ := z
  simp only [cE] at h1 h2
  obtain ⟨c1, c2, rfl⟩ := cmpE_none.1.1 h1
  obtain ⟨c3, c4, rfl⟩ := cmpE_none.1.1 h2
  have h3 : cE (k, i, s, b) (k, i2, s2, bb) = none := cmpE_none.1.2 ⟨c1, c4, rfl⟩
  have h4 : cE (k, i', s', b') (k, i, s, b) = none := cmpE_none.1.2 ⟨c2, c1, rfl⟩
  refine ⟨h3, h4, ?_⟩
  simp only [cN]
  rw [cmpE_none.2 h1, cmpE_none.2 h2, cmpE_none.2 h3, cmpE_none.2 h4]
  rcases check_none c1 with ⟨rfl, a1, a2⟩ | ⟨rfl, a1, a2⟩ | ⟨rfl, a1, a2⟩ <;> rcases check_none c2 with ⟨e, b1, b2⟩ | ⟨e, b1, b2⟩ | ⟨e, b1, b2⟩ <;> try (cases e; done)
  all_goals rcases check_none c4 with ⟨e', d1, d2⟩ | ⟨e', d1, d2⟩ | ⟨e', d1, d2⟩ <;> try (cases e'; done)
  · subst a2; subst b2; subst d2
    rw [cmpS_nil a1 b1, cmpS_nil b1 d1, cmpS_nil a1 d1, cmpS_nil b1 a1, cmpB_self]
    simp only [or3_a]
    have := asks_line line_int i i' i2
    simpa [eqB, a1, b1] using this
  · subst a1; subst a2; subst b1; subst b2; subst d1; subst d2
    rw [cmpI_self, cmpB_self]
    simp only [or3_b]
    have := asks_line line_str s s' s2
    simpa [eqB] using this
  · subst a1; subst b1; subst d1
    rw [cmpI_self, cmpS_nil a2 b2, cmpS_nil b2 d2, cmpS_nil a2 d2, cmpS_nil b2 a2]
    simp only [or3_c]
    have := asks_line line_bool b b' bb
    simpa [eqB, a2, b2] using this

/-! ### the function -/

def L4 : List (Nat × Pev.CSpec) := [(10, sp10), (14, sp14)]
theorem s4 : SpecsOk Tryd.prog (tabs 0 L4) := oneSpec (oneSpec noSpecs ok14) ok10

theorem t4tree (x y z : V) : evalF Tryd.prog (tabs 0 L4) A0 4 [av x, av y, av z] =
    cond (!(cE x y).isNone) (some (.bool ((cE x y).isNone == (cE y x).isNone)))
      (cond (!(cE y z).isNone) (some (.bool ((cE x y).isNone == (cE y x).isNone)))
        (cond (cE x z).isNone (cond (cE y x).isNone
          (cond (cN x y == IntKind.i64.wrap (0 - cN y x))
            (cond ((cN x y == 0) == eqB shVal x y)
              (cond (decide (cN x y > 0))
                (cond (decide (cN x y ≥ 0)) (some (.bool true)) (cond (decide (cN y z > 0)) (some (.bool true)) (some (.bool (decide (cN x z < 0))))))
                (cond (decide (cN y z > 0))
                  (cond (decide (cN x y ≥ 0)) (some (.bool true)) (cond (decide (cN y z > 0)) (some (.bool true)) (some (.bool (decide (cN x z < 0))))))
                  (cond (decide (cN x z ≤ 0))
                    (cond (decide (cN x y ≥ 0)) (some (.bool true)) (cond (decide (cN y z > 0)) (some (.bool true)) (some (.bool (decide (cN x z < 0)))))) (some (.bool false)))))
              (some (.bool false))) (some (.bool false))) (some (.bool false))) (some (.bool false)))) := by
  kernel_rfl

theorem cE_sym (x y : V) : (cE x y).isNone = (cE y x).isNone := by
  have a := (@cmpE_none x.1 x.2.1 x.2.2.1 x.2.2.2 y.1 y.2.1 y.2.2.1 y.2.2.2).1
  have b := (@cmpE_none y.1 y.2.1 y.2.2.1 y.2.2.2 x.1 x.2.1 x.2.2.1 x.2.2.2).1
  rw [Bool.eq_iff_iff, Option.isNone_iff_eq_none, Option.isNone_iff_eq_none]
  exact a.trans ((⟨fun ⟨p, q, r⟩ => ⟨q, p, r.symm⟩, fun ⟨p, q, r⟩ => ⟨q, p, r.symm⟩⟩ : _ ↔ _).trans b.symm)

theorem t4 (x y z : V) : evalF Tryd.prog (tabs 0 L4) A0 4 [av x, av y, av z] = some (.bool true) := by
  rw [t4tree]
  have hs := cE_sym x y
  cases h1 : cE x y with
  | some e => rw [h1] at hs; simp only [Option.isNone, Bool.not_false, cond_true] at hs ⊢; rw [← hs]; rfl
  | none =>
    rw [h1] at hs
    cases h2 : cE y z with
    | some e => simp only [Option.isNone, Bool.not_false, Bool.not_true, cond_true, cond_false] at hs ⊢; rw [← hs]; rfl
    | none =>
      obtain ⟨h3, h4, h5⟩ := value_line h1 h2
      unfold asks at h5
      rw [h3, h4]
      simp only [Option.isNone, Bool.not_true, cond_true, cond_false]
      revert h5
      generalize (cN x y == IntKind.i64.wrap (0 - cN y x)) = a
      generalize ((cN x y == 0) == eqB shVal x y) = b
      generalize decide (cN x y > 0) = c
      generalize decide (cN x y ≥ 0) = d
      generalize decide (cN y z > 0) = e
      generalize decide (cN x z ≤ 0) = f
      generalize decide (cN x z < 0) = g
      intro h5
      cases a <;> cases b <;> cases c <;> cases d <;> cases e <;> cases f <;> cases g <;> simp_all

theorem law4 (x y z : V) : Contract Tryd.prog cfg 4 [av x, av y, av z] (.bool true) := done s4 (A := A0) rfl (by kernel_rfl) (t4 x y z)
end Go.Proofs.YtciajnknnoecaaaDoor
