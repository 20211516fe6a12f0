/- What the functions under value.Compare do, as contracts. -/
import Derived.Test.YtkkgimhjjhhkjaaGreatDoorBs
import Derived.Test.YtkkgimhjjhhkjaaGreatDoorN
import Derived.Test.YtkkgimhjjhhkjaaGreatDoorSh
namespace Go.Proofs.YtkkgimhjjhhkjaaGreatDoor
open Go Go.Pev

def sp34 : Pev.Spec := fun | [.bool b] => some (.int .i64 (cond b 1 0)) | _ => none
def sp49 : Pev.Spec := fun | [.int .i64 _] => some (.bool false) | _ => none
def sp50 : Pev.Spec := fun | [.str _] => some (.bool false) | _ => none
def cmpI (a b : Int) : Int := cond (decide (a < b)) (-1) (cond (decide (a > b)) 1 0)
def sp32 : Pev.Spec := fun | [.int .i64 a, .int .i64 b] => some (.int .i64 (cmpI a b)) | _ => none
def cmpS (a b : ByteArray) : Int := cond (Op.bytesLess a.toList b.toList) (-1) (cond (!(Op.bytesLess a.toList b.toList || a.toList == b.toList)) 1 0)
def sp33 : Pev.Spec := fun | [.str a, .str b] => some (.int .i64 (cmpS a b)) | _ => none
def or3 (a b c : Int) : Int := cond (a != 0) a (cond (b != 0) b (cond (c != 0) c 0))
def sp31 : Pev.Spec := fun | [.sl (.int .i64) [a, b, c]] => some (.int .i64 (or3 a b c)) | _ => none
def first2 (a b : Err) : Err := cond (!a.isNone) a (cond (!b.isNone) b none)
def sp30 : Pev.Spec := fun | [.sl .err [a, b]] => some (.err (first2 a b)) | _ => none
theorem t30 (a b : Err) : evalF Tryz.prog (tabs 0 []) A0 50 [.sl .err [a, b]] = some (.err (first2 a b)) := by
  rw [show evalF Tryz.prog (tabs 0 []) A0 50 [.sl .err [a, b]] = cond (!a.isNone) (some (.err a)) (cond (!b.isNone) (some (.err b)) (some (.err none))) by kernel_rfl]
  simp only [cond_some, cond_err]; rfl
theorem ok30 : EnterOk Tryz.prog 50 ∧ SpecOk Tryz.prog cfg 50 sp30 := ⟨enter Tryz.func50 (by kernel_rfl) (by kernel_rfl), by
  intro args res h
  unfold sp30 at h
  split at h <;> try (cases h; done)
  obtain rfl := Option.some.inj h
  exact done noSpecs rfl (by kernel_rfl) (t30 _ _)⟩

def checkV (k i : Int) (s : ByteArray) (b : Bool) : Err :=
  cond (k == 1) (cond (!eqB shVal (k, 0, s, b) (k, 0, ⟨#[]⟩, false)) (some ([], 3)) (cond (decide ((s.size : Int) > 1000)) (some ([], 2)) none))
    (cond (k == 2) (cond (!eqB shVal (k, i, ⟨#[]⟩, b) (k, 0, ⟨#[]⟩, false)) (some ([], 3)) (cond (decide ((s.size : Int) > 1000)) (some ([], 2)) none))
      (cond (k == 3) (cond (!eqB shVal (k, i, s, false) (k, 0, ⟨#[]⟩, false)) (some ([], 3)) (cond (decide ((s.size : Int) > 1000)) (some ([], 2)) none)) (some ([], 3))))
def sp17 : Pev.Spec := fun | [.ag [.int .i64 k, .int .i64 i, .str s, .bool b]] => some (.err (checkV k i s b)) | _ => none
theorem t17 (k i : Int) (s : ByteArray) (b : Bool) : evalF Tryz.prog (tabs 0 []) A0 36 [.ag [.int .i64 k, .int .i64 i, .str s, .bool b]] = some (.err (checkV k i s b)) := by
  rw [show evalF Tryz.prog (tabs 0 []) A0 36 [.ag [.int .i64 k, .int .i64 i, .str s, .bool b]] =
    cond (k == 1) (cond (!eqB shVal (k, 0, s, b) (k, 0, ⟨#[]⟩, false)) (some (.err (some ([], 3)))) (cond (decide ((s.size : Int) > 1000)) (some (.err (some ([], 2)))) (some (.err none))))
    (cond (k == 2) (cond (!eqB shVal (k, i, ⟨#[]⟩, b) (k, 0, ⟨#[]⟩, false)) (some (.err (some ([], 3)))) (cond (decide ((s.size : Int) > 1000)) (some (.err (some ([], 2)))) (some (.err none))))
      (cond (k == 3) (cond (!eqB shVal (k, i, s, false) (k, 0, ⟨#[]⟩, false)) (some (.err (some ([], 3)))) (cond (decide ((s.size : Int) > 1000)) (some (.err (some ([], 2)))) (some (.err none)))) (some (.err (some ([], 3)))))) by kernel_rfl]
  simp only [cond_some, cond_err]; rfl
theorem ok17 : EnterOk Tryz.prog 36 ∧ SpecOk Tryz.prog cfg 36 sp17 := ⟨enter Tryz.func36 (by kernel_rfl) (by kernel_rfl), by
  intro args res h
  unfold sp17 at h
  split at h <;> try (cases h; done)
  obtain rfl := Option.some.inj h
  exact done noSpecs rfl (by kernel_rfl) (t17 _ _ _ _)⟩

end Go.Proofs.YtkkgimhjjhhkjaaGreatDoor
/- value.Compare, and what 'awake' asks at its own inputs. -/
namespace Go.Proofs.YtkkgimhjjhhkjaaGreatDoor
open Go Go.Pev

def cmpE (k i : Int) (s : ByteArray) (b : Bool) (k' i' : Int) (s' : ByteArray) (b' : Bool) : Err :=
  cond (!(first2 (checkV k i s b) (checkV k' i' s' b')).isNone) (first2 (checkV k i s b) (checkV k' i' s' b')) (cond (k != k') (some ([], 5)) none)
def cmpN (k i : Int) (s : ByteArray) (b : Bool) (k' i' : Int) (s' : ByteArray) (b' : Bool) : Int :=
  cond (!(first2 (checkV k i s b) (checkV k' i' s' b')).isNone) 0 (cond (k != k') 0 (or3 (cmpI i i') (cmpS s s') (IntKind.i64.wrap (cond b 1 0 - cond b' 1 0))))
def sp14 : Pev.Spec := fun
  | [.ag [.int .i64 k, .int .i64 i, .str s, .bool b], .ag [.int .i64 k', .int .i64 i', .str s', .bool b']] => some (.tup [.int .i64 (cmpN k i s b k' i' s' b'), .err (cmpE k i s b k' i' s' b')])
  | _ => none
/-! ### at awake's inputs -/

theorem same (s : ByteArray) (l : List UInt8) (h : (s.data.toList == l) = true) : s = ⟨l.toArray⟩ := by
  have : s.data.toList = l := by simpa using h
  subst this
  rfl

def A24 : Anns := ⟨[(3, [.keep [0, 3, 8, 9] [6, 18, 29, 45, 900], .ownS 3 900 5, .keep [0, 3, 8, 9] [900]])], [], 1000⟩
def sp24c : Pev.Spec := fun | [.str s] => (match s.data.toList == [97, 34, 10] with | true => some (.str ⟨#[34, 97, 92, 34, 92, 120, 48, 97, 34]⟩) | false => none) | _ => none
theorem ok24c : EnterOk Tryz.prog 60 ∧ SpecOk Tryz.prog cfg 60 sp24c := ⟨enter Tryz.func60 (by kernel_rfl) (by kernel_rfl), by
  intro args res h
  unfold sp24c at h
  split at h <;> try (cases h; done)
  split at h <;> try (cases h; done)
  rename_i s _ hs
  obtain rfl := same s _ hs
  obtain rfl := Option.some.inj h
  exact done (A := A24) noSpecs rfl (by kernel_rfl) (by kernel_rfl)⟩

def sp11c : Pev.Spec := fun | [.ag [.int .i64 2, .int .i64 0, .str s, .bool false]] => (match s.data.toList == [97, 34, 10] with | true => some (.tup [.str ⟨#[34, 97, 92, 34, 92, 120, 48, 97, 34]⟩, .err none]) | false => none) | _ => none
def L11c : List (Nat × Pev.CSpec) := [(36, sp17), (60, sp24c)]
theorem ok11c : EnterOk Tryz.prog 30 ∧ SpecOk Tryz.prog cfg 30 sp11c := ⟨enter Tryz.func30 (by kernel_rfl) (by kernel_rfl), by
  intro args res h
  unfold sp11c at h
  split at h <;> try (cases h; done)
  split at h <;> try (cases h; done)
  rename_i s _ hs
  obtain rfl := same s _ hs
  obtain rfl := Option.some.inj h
  exact done (specs := L11c) (oneSpec (oneSpec noSpecs ok24c) ok17) (A := A0) rfl (by kernel_rfl) (by kernel_rfl)⟩

def sp70c : Pev.Spec := fun | [.str s, .int .i64 10, .int .i64 64] => (match s.data.toList == [53] with | true => some (.tup [.int .u64 5, .err none]) | false => none) | _ => none
theorem ok70c : EnterOk Tryz.prog 116 ∧ SpecOk Tryz.prog cfg 116 sp70c := ⟨enter Tryz.func116 (by kernel_rfl) (by kernel_rfl), by
  intro args res h
  unfold sp70c at h
  split at h <;> try (cases h; done)
  split at h <;> try (cases h; done)
  rename_i s _ hs
  obtain rfl := same s _ hs
  obtain rfl := Option.some.inj h
  exact done (A := A0) noSpecs rfl (by kernel_rfl) (by kernel_rfl)⟩
def sp58c : Pev.Spec := fun | [.str s, .int .i64 10, .int .i64 64] => (match s.data.toList == [45, 53] with | true => some (.tup [.int .i64 (-5), .err none]) | false => none) | _ => none
def L58c : List (Nat × Pev.CSpec) := [(116, sp70c)]
theorem ok58c : EnterOk Tryz.prog 106 ∧ SpecOk Tryz.prog cfg 106 sp58c := ⟨enter Tryz.func106 (by kernel_rfl) (by kernel_rfl), by
  intro args res h
  unfold sp58c at h
  split at h <;> try (cases h; done)
  split at h <;> try (cases h; done)
  rename_i s _ hs
  obtain rfl := same s _ hs
  obtain rfl := Option.some.inj h
  exact done (specs := L58c) (oneSpec noSpecs ok70c) (A := A0) rfl (by kernel_rfl) (by kernel_rfl)⟩
def sp47c : Pev.Spec := sp58c
def L47c : List (Nat × Pev.CSpec) := [(106, sp58c)]
theorem ok47c : EnterOk Tryz.prog 93 ∧ SpecOk Tryz.prog cfg 93 sp47c := ⟨enter Tryz.func93 (by kernel_rfl) (by kernel_rfl), by
  intro args res h
  unfold sp47c sp58c at h
  split at h <;> try (cases h; done)
  split at h <;> try (cases h; done)
  rename_i s _ hs
  obtain rfl := same s _ hs
  obtain rfl := Option.some.inj h
  exact done (specs := L47c) (oneSpec noSpecs ok58c) (A := A0) rfl (by kernel_rfl) (by kernel_rfl)⟩
def vm5 : AV := .tup [.ag [.int .i64 1, .int .i64 (-5), .str ⟨#[]⟩, .bool false], .err none]
def sp27c : Pev.Spec := fun | [.str s] => (match s.data.toList == [45, 53] with | true => some vm5 | false => none) | _ => none
def L27c : List (Nat × Pev.CSpec) := [(93, sp47c)]
theorem ok27c : EnterOk Tryz.prog 69 ∧ SpecOk Tryz.prog cfg 69 sp27c := ⟨enter Tryz.func69 (by kernel_rfl) (by kernel_rfl), by
  intro args res h
  unfold sp27c at h
  split at h <;> try (cases h; done)
  split at h <;> try (cases h; done)
  rename_i s _ hs
  obtain rfl := same s _ hs
  obtain rfl := Option.some.inj h
  exact done (specs := L27c) (oneSpec noSpecs ok47c) (A := A0) rfl (by kernel_rfl) (by kernel_rfl)⟩
def L12c : List (Nat × Pev.CSpec) := [(69, sp27c)]
theorem ok12c : EnterOk Tryz.prog 43 ∧ SpecOk Tryz.prog cfg 43 sp27c := ⟨enter Tryz.func43 (by kernel_rfl) (by kernel_rfl), by
  intro args res h
  unfold sp27c at h
  split at h <;> try (cases h; done)
  split at h <;> try (cases h; done)
  rename_i s _ hs
  obtain rfl := same s _ hs
  obtain rfl := Option.some.inj h
  exact done (specs := L12c) (oneSpec noSpecs ok27c) (A := A0) rfl (by kernel_rfl) (by kernel_rfl)⟩

def sp10 : Pev.Spec := fun | [] => some (.bool true) | _ => none
end Go.Proofs.YtkkgimhjjhhkjaaGreatDoor
/- The order of values is a line: plain law; aviarylaw02.ValueLine answers true. -/
namespace Go.Proofs.YtkkgimhjjhhkjaaGreatDoor
open Go Go.Pev

theorem bl_cons (a : UInt8) (x : List UInt8) (b : UInt8) (y : List UInt8) : Op.bytesLess (a :: x) (b :: y) = (decide (a < b) || (a == b && Op.bytesLess x y)) := rfl
theorem bl_tri : ∀ l m : List UInt8, (Op.bytesLess l m = true ∧ Op.bytesLess m l = false ∧ l ≠ m) ∨ (Op.bytesLess l m = false ∧ Op.bytesLess m l = false ∧ l = m) ∨ (Op.bytesLess l m = false ∧ Op.bytesLess m l = true ∧ l ≠ m)
  | [], [] => .inr (.inl ⟨rfl, rfl, rfl⟩)
  | [], _ :: _ => .inl ⟨rfl, rfl, by simp⟩
  | _ :: _, [] => .inr (.inr ⟨rfl, rfl, by simp⟩)
  | a :: x, b :: y => by
    simp only [bl_cons]
    rcases Nat.lt_trichotomy a.toNat b.toNat with h | h | h
    · have h1 : a < b := h
      have h2 : ¬ b < a := fun h' => by have : b.toNat < a.toNat := h'; omega
      have h3 : a ≠ b := fun e => by subst e; omega
      refine .inl ⟨by simp [h1], by simp [h2, Ne.symm h3], by simp [h3]⟩
    · have h3 : a = b := UInt8.toNat_inj.1 h
      subst h3
      have h1 : ¬ a < a := fun h' => by have : a.toNat < a.toNat := h'; omega
      rcases bl_tri x y with ⟨q1, q2, q3⟩ | ⟨q1, q2, q3⟩ | ⟨q1, q2, q3⟩
      · exact .inl ⟨by simp [q1], by simp [h1, q2], by simpa using q3⟩
      · exact .inr (.inl ⟨by simp [h1, q1], by simp [h1, q2], by simpa using q3⟩)
      · exact .inr (.inr ⟨by simp [h1, q1], by simp [q2], by simpa using q3⟩)
    · have h1 : b < a := h
      have h2 : ¬ a < b := fun h' => by have : a.toNat < b.toNat := h'; omega
      have h3 : a ≠ b := fun e => by subst e; omega
      refine .inr (.inr ⟨by simp [h2, h3], by simp [h1], by simp [h3]⟩)
theorem bl_trans : ∀ l m n : List UInt8, Op.bytesLess l m = true → Op.bytesLess m n = true → Op.bytesLess l n = true
  | _, _, [], _, h => by simp [Op.bytesLess] at h
  | [], _, _ :: _, _, _ => rfl
  | _ :: _, [], _, h, _ => by simp [Op.bytesLess] at h
  | a :: x, b :: y, c :: z, h1, h2 => by
    simp only [bl_cons, Bool.or_eq_true, decide_eq_true_eq, Bool.and_eq_true, beq_iff_eq] at h1 h2 ⊢
    rcases h1 with h1 | ⟨rfl, h1⟩ <;> rcases h2 with h2 | ⟨rfl, h2⟩
    · exact .inl (by have e1 : a.toNat < b.toNat := h1; have e2 : b.toNat < c.toNat := h2; show a.toNat < c.toNat; omega)
    · exact .inl h1
    · exact .inl h2
    · exact .inr ⟨rfl, bl_trans x y z h1 h2⟩

/-- A line, as its comparison tells it. -/
structure Line {α : Type} (c : α → α → Int) (e : α → α → Bool) : Prop where
  anti : ∀ x y, c x y = - c y x
  small : ∀ x y, c x y = -1 ∨ c x y = 0 ∨ c x y = 1
  zero : ∀ x y, (c x y == 0) = e x y
  le : ∀ x y z, c x y ≤ 0 → c y z ≤ 0 → c x z ≤ 0
  lt : ∀ x y z, c x y < 0 → c y z ≤ 0 → c x z < 0

theorem line_int : Line cmpI (fun x y => x == y) := by
  have val : ∀ x y, (x < y ∧ cmpI x y = -1) ∨ (x = y ∧ cmpI x y = 0) ∨ (x > y ∧ cmpI x y = 1) := by
    intro x y
    unfold cmpI
    rcases Int.lt_trichotomy x y with h | h | h
    · exact .inl ⟨h, by simp [h]⟩
    · subst h; exact .inr (.inl ⟨rfl, by simp⟩)
    · exact .inr (.inr ⟨h, by simp [show ¬ x < y by omega, show x > y from h]⟩)
  refine ⟨fun x y => ?_, fun x y => ?_, fun x y => ?_, fun x y z h1 h2 => ?_, fun x y z h1 h2 => ?_⟩
  · have := val x y; have := val y x; omega
  · have := val x y; omega
  · rcases val x y with h | h | h
    · rw [h.2, beq_eq_false_iff_ne.2 (by omega : x ≠ y)]; rfl
    · rw [h.2, h.1]; simp
    · rw [h.2, beq_eq_false_iff_ne.2 (by omega : x ≠ y)]; rfl
  · have := val x y; have := val y z; have := val x z; omega
  · have := val x y; have := val y z; have := val x z; omega

theorem line_str : Line cmpS (fun x y => x.toList == y.toList) := by
  have val : ∀ x y : ByteArray, (Op.bytesLess x.toList y.toList = true ∧ x.toList ≠ y.toList ∧ cmpS x y = -1) ∨ (x.toList = y.toList ∧ cmpS x y = 0) ∨ (Op.bytesLess y.toList x.toList = true ∧ x.toList ≠ y.toList ∧ cmpS x y = 1) := by
    intro x y
    unfold cmpS
    rcases bl_tri x.toList y.toList with ⟨q1, q2, q3⟩ | ⟨q1, q2, q3⟩ | ⟨q1, q2, q3⟩
    · exact .inl ⟨q1, q3, by simp [q1]⟩
    · exact .inr (.inl ⟨q3, by rw [q1, show (x.toList == y.toList) = true by simpa using q3]; rfl⟩)
    · exact .inr (.inr ⟨q2, q3, by rw [q1, beq_eq_false_iff_ne.2 q3]; rfl⟩)
  refine ⟨fun x y => ?_, fun x y => ?_, fun x y => ?_, fun x y z h1 h2 => ?_, fun x y z h1 h2 => ?_⟩
  · rcases bl_tri x.toList y.toList with ⟨q1, q2, q3⟩ | ⟨q1, q2, q3⟩ | ⟨q1, q2, q3⟩
    · have h1 : cmpS x y = -1 := by unfold cmpS; rw [q1]; rfl
      have h2 : cmpS y x = 1 := by unfold cmpS; rw [q2, beq_eq_false_iff_ne.2 (Ne.symm q3)]; rfl
      omega
    · have h1 : cmpS x y = 0 := by unfold cmpS; rw [q1, show (x.toList == y.toList) = true by simpa using q3]; rfl
      have h2 : cmpS y x = 0 := by unfold cmpS; rw [q2, show (y.toList == x.toList) = true by simpa using q3.symm]; rfl
      omega
    · have h1 : cmpS x y = 1 := by unfold cmpS; rw [q1, beq_eq_false_iff_ne.2 q3]; rfl
      have h2 : cmpS y x = -1 := by unfold cmpS; rw [q2]; rfl
      omega
  · rcases val x y with h | h | h <;> omega
  · rcases val x y with h | h | h
    · rw [h.2.2, beq_eq_false_iff_ne.2 h.2.1]; rfl
    · rw [h.2, h.1]; simp
    · rw [h.2.2, beq_eq_false_iff_ne.2 h.2.1]; rfl
  · rcases val x y with h | h | h
    · rcases val y z with g | g | g
      · have t := bl_trans _ _ _ h.1 g.1
        rcases val x z with k | k | k
        · omega
        · omega
        · have := bl_tri x.toList z.toList; simp_all
      · rw [← show cmpS x y = cmpS x z by unfold cmpS; rw [g.1]]; omega
      · omega
    · rw [show cmpS x z = cmpS y z by unfold cmpS; rw [h.1]]; exact h2
    · omega
  · rcases val x y with h | h | h
    · rcases val y z with g | g | g
      · have t := bl_trans _ _ _ h.1 g.1
        rcases val x z with k | k | k
        · omega
        · have := bl_tri x.toList z.toList; simp_all
        · have := bl_tri x.toList z.toList; simp_all
      · rw [← show cmpS x y = cmpS x z by unfold cmpS; rw [g.1]]; omega
      · omega
    · omega
    · omega

def cmpB (b b' : Bool) : Int := IntKind.i64.wrap (cond b 1 0 - cond b' 1 0)
theorem line_bool : Line cmpB (fun x y => x == y) := by
  refine ⟨?_, ?_, ?_, ?_, ?_⟩ <;> decide

/-- What a line answers is what the statement asks. -/
def asks (x y z x' : Int) (e : Bool) : Bool :=
  (x == IntKind.i64.wrap (0 - x')) && ((x == 0) == e) && (decide (x > 0) || decide (y > 0) || decide (z ≤ 0)) && (decide (x ≥ 0) || decide (y > 0) || decide (z < 0))
theorem asks_line {α : Type} {c : α → α → Int} {e : α → α → Bool} (h : Line c e) (x y z : α) : asks (c x y) (c y z) (c x z) (c y x) (e x y) = true := by
  have h1 := h.anti x y
  have h2 := h.small y x
  have h3 := h.zero x y
  have h4 := h.le x y z
  have h5 := h.lt x y z
  have hw : IntKind.i64.wrap (0 - c y x) = - c y x := by rcases h2 with h2 | h2 | h2 <;> rw [h2] <;> decide
  unfold asks
  rw [hw, h3, ← h1]
  simp only [beq_self_eq_true, Bool.true_and, Bool.and_eq_true, Bool.or_eq_true, decide_eq_true_eq]
  constructor <;> omega

theorem check_none {k i : Int} {s : ByteArray} {b : Bool} (h : checkV k i s b = none) : (k = 1 ∧ s.toList = [] ∧ b = false) ∨ (k = 2 ∧ i = 0 ∧ b = false) ∨ (k = 3 ∧ i = 0 ∧ s.toList = []) := by
  unfold checkV at h
  have he : (⟨#[]⟩ : ByteArray).toList = [] := by rw [ByteArray.toList_eq]
  by_cases h1 : k = 1
  · subst h1
    simp only [beq_self_eq_true, cond_true] at h
    cases hq : eqB shVal (1, 0, s, b) (1, 0, ⟨#[]⟩, false) with
    | false => rw [hq] at h; cases h
    | true => simp [eqB, he] at hq; exact .inl ⟨rfl, hq⟩
  · rw [beq_eq_false_iff_ne.2 h1] at h
    by_cases h2 : k = 2
    · subst h2
      simp only [beq_self_eq_true, cond_true, cond_false] at h
      cases hq : eqB shVal (2, i, ⟨#[]⟩, b) (2, 0, ⟨#[]⟩, false) with
      | false => rw [hq] at h; cases h
      | true => simp [eqB, he] at hq; exact .inr (.inl ⟨rfl, hq⟩)
    · rw [beq_eq_false_iff_ne.2 h2] at h
      by_cases h3 : k = 3
      · subst h3
        simp only [beq_self_eq_true, cond_true, cond_false] at h
        cases hq : eqB shVal (3, i, s, false) (3, 0, ⟨#[]⟩, false) with
        | false => rw [hq] at h; cases h
        | true => simp [eqB, he] at hq; exact .inr (.inr ⟨rfl, hq⟩)
      · rw [beq_eq_false_iff_ne.2 h3] at h
        simp at h

theorem cmpE_none {k i : Int} {s : ByteArray} {b : Bool} {k' i' : Int} {s' : ByteArray} {b' : Bool} : (cmpE k i s b k' i' s' b' = none ↔ checkV k i s b = none ∧ checkV k' i' s' b' = none ∧ k = k') ∧
    (cmpE k i s b k' i' s' b' = none → cmpN k i s b k' i' s' b' = or3 (cmpI i i') (cmpS s s') (cmpB b b')) := by
  unfold cmpE cmpN first2
  by_cases hk : k = k'
  · subst hk
    cases checkV k i s b <;> cases checkV k i' s' b' <;> simp [cmpB]
  · have hn : (k != k') = true := by simpa using hk
    cases checkV k i s b <;> cases checkV k' i' s' b' <;> simp [hn, hk]

theorem cmpS_nil {s s' : ByteArray} (h : s.toList = []) (h' : s'.toList = []) : cmpS s s' = 0 := by unfold cmpS; rw [h, h']; rfl
theorem cmpI_self (i : Int) : cmpI i i = 0 := by simp [cmpI]
theorem cmpB_self (b : Bool) : cmpB b b = 0 := by cases b <;> decide
theorem or3_a (x : Int) : or3 x 0 0 = x := by
  unfold or3
  by_cases h : x = 0
  · subst h; rfl
  · rw [show (x != 0) = true by simpa using h]; rfl
theorem or3_b (x : Int) : or3 0 x 0 = x := by
  unfold or3
  by_cases h : x = 0
  · subst h; rfl
  · rw [show (x != 0) = true by simpa using h]; rfl
theorem or3_c (x : Int) : or3 0 0 x = x := by
  unfold or3
  by_cases h : x = 0
  · subst h; rfl
  · rw [show (x != 0) = true by simpa using h]; rfl

abbrev cE (v u : V) : Err := cmpE v.1 v.2.1 v.2.2.1 v.2.2.2 u.1 u.2.1 u.2.2.1 u.2.2.2
abbrev cN (v u : V) : Int := cmpN v.1 v.2.1 v.2.2.1 v.2.2.2 u.1 u.2.1 u.2.2.1 u.2.2.2

theorem value_line {x y z : V} (h1 : cE x y = none) (h2 : cE y z = none) : cE x z = none ∧ cE y x = none ∧ asks (cN x y) (cN y z) (cN x z) (cN y x) (eqB shVal x y) = true := by
  obtain ⟨k, i, s, b⟩ := x
  obtain ⟨k', i', s', b'⟩ := y
  obtain ⟨k2, i2, s2, bb⟩ := z
  simp only [cE] at h1 h2
  obtain ⟨c1, c2, rfl⟩ := cmpE_none.1.1 h1
  obtain ⟨c3, c4, rfl⟩ := cmpE_none.1.1 h2
  have h3 : cE (k, i, s, b) (k, i2, s2, bb) = none := cmpE_none.1.2 ⟨c1, c4, rfl⟩
  have h4 : cE (k, i', s', b') (k, i, s, b) = none := cmpE_none.1.2 ⟨c2, c1, rfl⟩
  refine ⟨h3, h4, ?_⟩
  simp only [cN]
  rw [cmpE_none.2 h1, cmpE_none.2 h2, cmpE_none.2 h3, cmpE_none.2 h4]
  rcases check_none c1 with ⟨rfl, a1, a2⟩ | ⟨rfl, a1, a2⟩ | ⟨rfl, a1, a2⟩ <;> rcases check_none c2 with ⟨e, b1, b2⟩ | ⟨e, b1, b2⟩ | ⟨e, b1, b2⟩ <;> try (cases e; done)
  all_goals rcases check_none c4 with ⟨e', d1, d2⟩ | ⟨e', d1, d2⟩ | ⟨e', d1, d2⟩ <;> try (cases e'; done)
  · subst a2; subst b2; subst d2
    rw [cmpS_nil a1 b1, cmpS_nil b1 d1, cmpS_nil a1 d1, cmpS_nil b1 a1, cmpB_self]
    simp only [or3_a]
    have := asks_line line_int i i' i2
    simpa [eqB, a1, b1] using this
  · subst a1; subst a2; subst b1; subst b2; subst d1; subst d2
    rw [cmpI_self, cmpB_self]
    simp only [or3_b]
    have := asks_line line_str s s' s2
    simpa [eqB] using this
  · subst a1; subst b1; subst d1
    rw [cmpI_self, cmpS_nil a2 b2, cmpS_nil b2 d2, cmpS_nil a2 d2, cmpS_nil b2 a2]
    simp only [or3_c]
    have := asks_line line_bool b b' bb
    simpa [eqB, a2, b2] using this

/-! ### the function -/

theorem cE_sym (x y : V) : (cE x y).isNone = (cE y x).isNone := by
  have a := (@cmpE_none x.1 x.2.1 x.2.2.1 x.2.2.2 y.1 y.2.1 y.2.2.1 y.2.2.2).1
  have b := (@cmpE_none y.1 y.2.1 y.2.2.1 y.2.2.2 x.1 x.2.1 x.2.2.1 x.2.2.2).1
  rw [Bool.eq_iff_iff, Option.isNone_iff_eq_none, Option.isNone_iff_eq_none]
  exact a.trans ((⟨fun ⟨p, q, r⟩ => ⟨q, p, r.symm⟩, fun ⟨p, q, r⟩ => ⟨q, p, r.symm⟩⟩ : _ ↔ _).trans b.symm)

end Go.Proofs.YtkkgimhjjhhkjaaGreatDoor
/- Whether two errors told plainly are alike (aviaryref01.Same); whether an error is this one (fails); the first that is one (First). -/
namespace Go.Proofs.YtkkgimhjjhhkjaaGreatDoor
open Go Go.Pev
theorem getI_nat {α : Type} (l : List α) (i : Nat) (d : α) (h : i < l.length) : getI l (i : Int) d = l[i] := by simp [getI, List.getD_eq_getElem?_getD, h]
theorem eqPlace (x y : Int × Int) : eqB shPlace (x.1, x.2) (y.1, y.2) = (x == y) := by
  obtain ⟨a, b⟩ := x; obtain ⟨c, d⟩ := y; rfl

def E36 (b : Bool) (l : List (Int × Int)) (n : Int) (b' : Bool) (l' : List (Int × Int)) (n' : Int) (len i : Int) : Env := ⟨[(2, .ref 2 0), (3, .ref 3 0), (4, .bool false), (29, .int .i64 len), (30, .int .i64 i)], [(2, some (.box 33 [.bool b, .sl shPlace l, .int .i64 n])), (3, some (.box 33 [.bool b', .sl shPlace l', .int .i64 n']))]⟩
def X36 : Env := ⟨[(4, .bool false)], []⟩
def o36 : Orc := fun E k => match E with
  | ⟨[(2, .ref 2 0), (3, .ref 3 0), (4, .bool false), (29, .int .i64 len), (30, .int .i64 0)], [(2, some (.box 33 [.bool _, .sl (.pair (.int .i64) (.int .i64)) l, .int .i64 _])), (3, some (.box 33 [.bool _, .sl (.pair (.int .i64) (.int .i64)) l', .int .i64 _]))]⟩ =>
    cond (decide (len = l.length ∧ l.length = l'.length ∧ l.length < 9223372036854775807)) (cond (l == l') (k (.exit 0) X36) (k .ret X36)) none
  | _ => none
def A36 : Anns := ⟨[(4, [.keep [2,3,4,29,30] [2,3]]), (100004, [.keep [4] []])], [(4, o36)], 1000⟩
noncomputable def loop36 : Code := match loopsF Tryz.prog 33 with | c :: _ => c | [] => .skip
noncomputable abbrev L36 (m : Nat) (E : Env) (k : Exit → Env → Pev.R) : Pev.R := loopE (prep (tabs 0 []) (annOf A36 loop36)) (evalC Tryz.prog (tabs 0 []) A36 loop36) m E (outK (tabs 0 []) A36 loop36 k)
theorem step36 (b : Bool) (l : List (Int × Int)) (n : Int) (b' : Bool) (l' : List (Int × Int)) (n' : Int) (len i : Int) (m : Nat) (k : Exit → Env → Pev.R) :
    L36 (m + 1) (E36 b l n b' l' n' len i) k = cond (decide (i < len)) (cond (decide (0 ≤ i)) (cond (decide (i < l.length)) (cond (decide (0 ≤ i)) (cond (decide (i < l'.length))
      (cond (!eqB shPlace ((getI l i shPlace.dflt).1, (getI l i shPlace.dflt).2) ((getI l' i shPlace.dflt).1, (getI l' i shPlace.dflt).2)) (k .ret X36) (L36 m (E36 b l n b' l' n' len (IntKind.i64.wrap (i + 1))) k)) none) none) none) none) (k (.exit 0) X36) := by kernel_rfl
theorem drop_beq {α : Type} [BEq α] [LawfulBEq α] (l l' : List α) (i : Nat) (h : i < l.length) (h' : i < l'.length) : (l.drop i == l'.drop i) = ((l[i] == l'[i]) && (l.drop (i + 1) == l'.drop (i + 1))) := by
  rw [List.drop_eq_getElem_cons h, List.drop_eq_getElem_cons h']; rfl
theorem all36 (b : Bool) (l : List (Int × Int)) (n : Int) (b' : Bool) (l' : List (Int × Int)) (n' : Int) (k : Exit → Env → Pev.R) (hl : l.length = l'.length) (hs : l.length < 9223372036854775807) : ∀ (d i : Nat), i + d = l.length →
    L36 (d + 1) (E36 b l n b' l' n' l.length i) k = cond (l.drop i == l'.drop i) (k (.exit 0) X36) (k .ret X36)
  | 0, i, h => by
    rw [step36, show decide ((i : Int) < (l.length : Int)) = false from decide_eq_false (by omega), cond_false, List.drop_eq_nil_of_le (by omega), List.drop_eq_nil_of_le (by omega)]
    rfl
  | d + 1, i, h => by
    have h1 : i < l.length := by omega
    have h2 : i < l'.length := by omega
    rw [step36, show decide ((i : Int) < (l.length : Int)) = true from decide_eq_true (by omega), show decide ((i : Int) < (l'.length : Int)) = true from decide_eq_true (by omega), show decide (0 ≤ (i : Int)) = true from decide_eq_true (by omega)]
    simp only [cond_true]
    rw [eqPlace, getI_nat l i _ h1, getI_nat l' i _ h2, i64w _ (by omega) (by omega), drop_beq l l' i h1 h2]
    cases l[i] == l'[i] with
    | false => rfl
    | true =>
      simp only [Bool.not_true, cond_false, Bool.true_and]
      exact all36 b l n b' l' n' k hl hs d (i + 1) (by omega)
theorem orc36 : OrcOk Tryz.prog (tabs 0 []) A36 loop36 := by
  intro o ho E k r h
  obtain rfl := orcIs (show orcOf A36 loop36 = some o36 by kernel_rfl) ho
  unfold o36 at h
  split at h
  · rename_i len b l n b' l' n'
    cases hd : decide (len = l.length ∧ l.length = l'.length ∧ l.length < 9223372036854775807) with
    | false => rw [hd] at h; cases h
    | true =>
      rw [hd] at h
      obtain ⟨rfl, h1, h2⟩ := of_decide_eq_true hd
      exact ⟨l.length + 1, (all36 b l n b' l' n' k h1 h2 l.length 0 (by omega)).trans h⟩
  · cases h
def sameE (b : Bool) (l : List (Int × Int)) (n : Int) (b' : Bool) (l' : List (Int × Int)) (n' : Int) : Bool := b == b' && n == n' && l == l'
def sp36 : Pev.CSpec := ⟨fun
  | [.ag [.bool b, .sl (.pair (.int .i64) (.int .i64)) l, .int .i64 n], .ag [.bool b', .sl (.pair (.int .i64) (.int .i64)) l', .int .i64 n']] => .br (decide (l.length < 9223372036854775807)) (.ret (.bool (sameE b l n b' l' n'))) .fail
  | _ => .fail⟩
theorem t36 (b : Bool) (l : List (Int × Int)) (n : Int) (b' : Bool) (l' : List (Int × Int)) (n' : Int) (h : l.length < 9223372036854775807) : evalF Tryz.prog (tabs 0 []) A36 33 [.ag [.bool b, .sl shPlace l, .int .i64 n], .ag [.bool b', .sl shPlace l', .int .i64 n']] = some (.bool (sameE b l n b' l' n')) := by
  rw [show evalF Tryz.prog (tabs 0 []) A36 33 [.ag [.bool b, .sl shPlace l, .int .i64 n], .ag [.bool b', .sl shPlace l', .int .i64 n']] =
    cond (!(b == b')) (some (.bool false)) (cond (n != n') (some (.bool false)) (cond ((l.length : Int) != (l'.length : Int)) (some (.bool false)) (cond (decide ((l.length : Int) = l.length ∧ l.length = l'.length ∧ l.length < 9223372036854775807)) (cond (l == l') (some (.bool true)) (some (.bool false))) none))) by kernel_rfl]
  unfold sameE
  cases hb : b == b' with
  | false => rfl
  | true =>
    cases hn : n == n' with
    | false => simp [bne, hn]
    | true =>
      by_cases hl : l.length = l'.length
      · rw [show ((l.length : Int) != (l'.length : Int)) = false by simp [hl], show decide ((l.length : Int) = l.length ∧ l.length = l'.length ∧ l.length < 9223372036854775807) = true from decide_eq_true ⟨rfl, hl, h⟩]
        simp only [bne, hn, Bool.not_true, cond_false, cond_true, Bool.true_and]
        cases l == l' <;> rfl
      · rw [show ((l.length : Int) != (l'.length : Int)) = true by simp; omega]
        have he : (l == l') = false := beq_eq_false_iff_ne.2 fun e => hl (congrArg List.length e)
        simp [bne, hn, he]
theorem ok36 : EnterOk Tryz.prog 33 ∧ CSpecOk Tryz.prog cfg 33 sp36 := ⟨enter Tryz.func33 (by kernel_rfl) (by kernel_rfl), by
  intro args res h
  unfold sp36 at h
  simp only at h
  split at h <;> try (cases h; done)
  rename_i b l n b' l' n'
  cases hd : decide (l.length < 9223372036854775807) with
  | false => rw [hd] at h; cases h
  | true =>
    rw [hd] at h
    obtain rfl := Option.some.inj h
    exact done1 noSpecs (A := A36) (c := loop36) (by kernel_rfl) orc36 (by kernel_rfl) (t36 b l n b' l' n' (of_decide_eq_true hd))⟩

/-! ### fails -/
def sp16 : Pev.CSpec := ⟨fun
  | [.err none, .ag [.bool b', .sl (.pair (.int .i64) (.int .i64)) l', .int .i64 n']] => .ret (.bool (sameE false [] 0 b' l' n'))
  | [.err (some (ps, n)), .ag [.bool b', .sl (.pair (.int .i64) (.int .i64)) l', .int .i64 n']] => .br (decide (ps.length < 200)) (.ret (.bool (sameE true ps n b' l' n'))) .fail
  | _ => .fail⟩
def L16 : List (Nat × Pev.CSpec) := [(33, sp36), (34, sp37)]
theorem s16 : SpecsOk Tryz.prog (tabsG L16) := oneSpecGT (oneSpecGT noSpecsG ok37) (liftGT ok36)
end Go.Proofs.YtkkgimhjjhhkjaaGreatDoor
/- aviaryref02.DocCompare; and the statement ValueOrders as the evaluator tells it. -/
namespace Go.Proofs.YtkkgimhjjhhkjaaGreatDoor
open Go Go.Pev

/-- An error told plainly, as data. -/
abbrev agE (b : Bool) (l : List (Int × Int)) (n : Int) : AV := .ag [.bool b, .sl shPlace l, .int .i64 n]

def sp22 : Pev.Spec := fun | [.int .i64 n] => some (agE true [] n) | _ => none
theorem ok22 : EnterOk Tryz.prog 28 ∧ SpecOk Tryz.prog cfg 28 sp22 := ⟨enter Tryz.func28 (by kernel_rfl) (by kernel_rfl), by
  intro args res h
  unfold sp22 at h
  split at h <;> try (cases h; done)
  obtain rfl := Option.some.inj h
  exact done noSpecs (A := A0) rfl (by kernel_rfl) (by kernel_rfl)⟩

def ckB (k i : Int) (s : ByteArray) (b : Bool) : Bool :=
  cond (k == 1) (cond (!(s.toList == ([] : List UInt8))) true (cond b true false))
    (cond (k == 2) (cond (i != 0) true (cond b true (cond (decide ((s.size : Int) > 1000)) true false)))
      (cond (k == 3) (cond (!(s.toList == ([] : List UInt8))) true (cond (i != 0) true false)) true))
def ckN (k i : Int) (s : ByteArray) (b : Bool) : Int :=
  cond (k == 1) (cond (!(s.toList == ([] : List UInt8))) 3 (cond b 3 0))
    (cond (k == 2) (cond (i != 0) 3 (cond b 3 (cond (decide ((s.size : Int) > 1000)) 2 0)))
      (cond (k == 3) (cond (!(s.toList == ([] : List UInt8))) 3 (cond (i != 0) 3 0)) 3))
def sp18 : Pev.Spec := fun | [.ag [.int .i64 k, .int .i64 i, .str s, .bool b]] => some (agE (ckB k i s b) [] (ckN k i s b)) | _ => none
def L18 : List (Nat × Pev.CSpec) := [(28, sp22)]
theorem s18 : SpecsOk Tryz.prog (tabs 0 L18) := oneSpec noSpecs ok22
theorem t18 (k i : Int) (s : ByteArray) (b : Bool) : evalF Tryz.prog (tabs 0 L18) A0 38 [.ag [.int .i64 k, .int .i64 i, .str s, .bool b]] = some (agE (ckB k i s b) [] (ckN k i s b)) := by
  rw [show evalF Tryz.prog (tabs 0 L18) A0 38 [.ag [.int .i64 k, .int .i64 i, .str s, .bool b]] =
    cond (k == 1) (cond (!(s.toList == ([] : List UInt8))) (some (agE true [] 3)) (cond b (some (agE true [] 3)) (some (agE false [] 0))))
    (cond (k == 2) (cond (i != 0) (some (agE true [] 3)) (cond b (some (agE true [] 3)) (cond (decide ((s.size : Int) > 1000)) (some (agE true [] 2)) (some (agE false [] 0)))))
      (cond (k == 3) (cond (!(s.toList == ([] : List UInt8))) (some (agE true [] 3)) (cond (i != 0) (some (agE true [] 3)) (some (agE false [] 0)))) (some (agE true [] 3)))) by kernel_rfl]
  simp only [cond_some, cond_ag, cond_cons, cond_bool, cond_int, cond_nil, cond_sl]; rfl
theorem ok18 : EnterOk Tryz.prog 38 ∧ SpecOk Tryz.prog cfg 38 sp18 := ⟨enter Tryz.func38 (by kernel_rfl) (by kernel_rfl), by
  intro args res h
  unfold sp18 at h
  split at h <;> try (cases h; done)
  obtain rfl := Option.some.inj h
  exact done s18 (A := A0) rfl (by kernel_rfl) (t18 _ _ _ _)⟩

def frB (b b' : Bool) : Bool := cond b b (cond b' b' false)
def frN (b : Bool) (n : Int) (b' : Bool) (n' : Int) : Int := cond b n (cond b' n' 0)
def A42 : Anns := ⟨[(2, [.keep [2,5,6,7] [2]])], [], 1000⟩
def sp42 : Pev.Spec := fun | [.sl (.pair .bool (.pair (.sl (.pair (.int .i64) (.int .i64))) (.int .i64))) [(b, [], n), (b', [], n')]] => some (agE (frB b b') [] (frN b n b' n')) | _ => none
theorem t42 (b : Bool) (n : Int) (b' : Bool) (n' : Int) : evalF Tryz.prog (tabs 0 []) A42 57 [.sl shE [(b, [], n), (b', [], n')]] = some (agE (frB b b') [] (frN b n b' n')) := by
  rw [show evalF Tryz.prog (tabs 0 []) A42 57 [.sl shE [(b, [], n), (b', [], n')]] = cond b (some (agE b [] n)) (cond b' (some (agE b' [] n')) (some (agE false [] 0))) by kernel_rfl]
  simp only [cond_some, cond_ag, cond_cons, cond_bool, cond_int, cond_nil, cond_sl]; rfl
theorem ok42 : EnterOk Tryz.prog 57 ∧ SpecOk Tryz.prog cfg 57 sp42 := ⟨enter Tryz.func57 (by kernel_rfl) (by kernel_rfl), by
  intro args res h
  unfold sp42 at h
  split at h <;> try (cases h; done)
  obtain rfl := Option.some.inj h
  exact done noSpecs (A := A42) rfl (by kernel_rfl) (t42 _ _ _ _)⟩

def rcmp (i : Int) (s : ByteArray) (b : Bool) (i' : Int) (s' : ByteArray) (b' : Bool) : Int :=
  cond (decide (i < i')) (-1) (cond (Op.bytesLess s.toList s'.toList) (-1) (cond (!b) (cond b' (-1) (cond (decide (i > i')) 1 (cond (!(Op.bytesLess s.toList s'.toList || s.toList == s'.toList)) 1 (cond b (cond (!b') 1 0) 0))))
    (cond (decide (i > i')) 1 (cond (!(Op.bytesLess s.toList s'.toList || s.toList == s'.toList)) 1 (cond b (cond (!b') 1 0) 0)))))
def sp43 : Pev.Spec := fun | [.ag [.int .i64 _, .int .i64 i, .str s, .bool b], .ag [.int .i64 _, .int .i64 i', .str s', .bool b']] => some (.int .i64 (rcmp i s b i' s' b')) | _ => none
def docB (k i : Int) (s : ByteArray) (b : Bool) (k' i' : Int) (s' : ByteArray) (b' : Bool) : Bool :=
  cond (!(frB (ckB k i s b) (ckB k' i' s' b'))) (cond (k != k') true (frB (ckB k i s b) (ckB k' i' s' b'))) (frB (ckB k i s b) (ckB k' i' s' b'))
def docC (k i : Int) (s : ByteArray) (b : Bool) (k' i' : Int) (s' : ByteArray) (b' : Bool) : Int :=
  cond (!(frB (ckB k i s b) (ckB k' i' s' b'))) (cond (k != k') 5 (frN (ckB k i s b) (ckN k i s b) (ckB k' i' s' b') (ckN k' i' s' b'))) (frN (ckB k i s b) (ckN k i s b) (ckB k' i' s' b') (ckN k' i' s' b'))
def docN (k i : Int) (s : ByteArray) (b : Bool) (k' i' : Int) (s' : ByteArray) (b' : Bool) : Int := cond (docB k i s b k' i' s' b') 0 (rcmp i s b i' s' b')
def sp20 : Pev.Spec := fun | [.ag [.int .i64 k, .int .i64 i, .str s, .bool b], .ag [.int .i64 k', .int .i64 i', .str s', .bool b']] => some (.tup [.int .i64 (docN k i s b k' i' s' b'), agE (docB k i s b k' i' s' b') [] (docC k i s b k' i' s' b')]) | _ => none
/-- Whether an error is the one that is told. -/
def failsB (e : Err) (b : Bool) (l : List (Int × Int)) (n : Int) : Bool :=
  match e with
  | none => sameE false [] 0 b l n
  | some (ps, m) => sameE true ps m b l n
def deep (e : Err) : Nat := match e with | none => 0 | some (ps, _) => ps.length
def sp16g : Pev.CSpec := ⟨fun
  | [.err e, .ag [.bool b', .sl (.pair (.int .i64) (.int .i64)) l', .int .i64 n']] => .br (decide (deep e < 200)) (.ret (.bool (failsB e b' l' n'))) .fail
  | _ => .fail⟩
end Go.Proofs.YtkkgimhjjhhkjaaGreatDoor
/- strconv.FormatBool, FormatInt, ParseInt as contracts of the evaluator. -/
namespace Go.Proofs.YtkkgimhjjhhkjaaGreatDoor
open Go Go.Pev Go.Sort

theorem keep_grow (w : World) (k : Nat) (os : Array Obj) : KeepS (fun _ => False) w (grow (w.drewN k) os) :=
  ⟨rfl, rfl, rfl, by simp [grow, World.drewN], fun j hj _ => by simp [grow, World.drewN, Array.getElem?_append_left hj]⟩
theorem keep_below {w w' : World} (h : RowKit.Below w.heap.size w w') : KeepS (fun _ => False) w w' := ⟨h.os, h.tape, h.output, h.size, fun k hk _ => h.block k hk⟩

def sp25 : Pev.CSpec := ⟨fun | [.bool b] => .ret (.str ⟨(Lib.formatBool b).toArray⟩) | _ => .fail⟩
theorem ok25 : EnterOk Tryz.prog 61 ∧ CSpecOk Tryz.prog cfg 61 sp25 := ⟨enter Tryz.func61 (by kernel_rfl) (by kernel_rfl), by
  intro args res h
  unfold sp25 at h
  simp only at h
  split at h <;> try (cases h; done)
  obtain rfl := Option.some.inj h
  intro M w vs _ _ ha
  cases ha with
  | cons h1 t1 =>
    cases t1
    simp only [SR, LR] at h1
    subst h1
    exact (Tryz.strconv_FormatBool _ w).mono fun e w' ⟨h1, h2⟩ => ⟨_, h1, rfl, h2 ▸ KeepS.refl _ _⟩⟩

def sp23 : Pev.CSpec := ⟨fun | [.int .i64 n, .int .i64 10] => .br (decide (-9223372036854775808 ≤ n ∧ n ≤ 9223372036854775807)) (.ret (.str ⟨(Lib.itoa n).toArray⟩)) .fail | _ => .fail⟩
theorem ok23 : EnterOk Tryz.prog 59 ∧ CSpecOk Tryz.prog cfgT 59 sp23 := ⟨enter Tryz.func59 (by kernel_rfl) (by kernel_rfl), by
  intro args res h
  unfold sp23 at h
  simp only at h
  split at h <;> try (cases h; done)
  rename_i n
  cases hd : decide (-9223372036854775808 ≤ n ∧ n ≤ 9223372036854775807) with
  | false => rw [hd] at h; cases h
  | true =>
    rw [hd] at h
    obtain rfl := Option.some.inj h
    intro M w vs _ hg ha
    cases ha with
    | cons h1 t1 =>
      cases t1 with
      | cons h2 t2 =>
        cases t2
        simp only [SR, LR] at h1 h2
        subst h1; subst h2
        obtain ⟨b1, b2⟩ := of_decide_eq_true hd
        have ht : Lib.TabIs Tryz.prog w "internal/strconv.uint64pow10" .u64 Lib.pow10Tab := GV.to_var (g := 2) (by kernel_rfl) (hg (2, .is pow10) (List.mem_cons_self ..)).1
        exact (Tryz.strconv_FormatInt_10 n b1 b2 w ht).mono fun e w' ⟨h1, k, os, h2⟩ => ⟨_, h1, rfl, h2 ▸ keep_grow w k os⟩⟩

/-- Is it a numeral of an int64? Its value, where there is one. -/
def piOk (s : ByteArray) : Bool := match Lib.parseIntB 64 s.data.toList with | .ok _ => true | _ => false
def piV (s : ByteArray) : Int := match Lib.parseIntB 64 s.data.toList with | .ok v => v | Lib.NumEnd.syntax => 0 | .range => Lib.intSat 64 s.data.toList
def sp47 : Pev.CSpec := ⟨fun
  | [.str s, .int .i64 10, .int .i64 64] => .br (decide (s.size ≤ 281474976710656)) (.br (piOk s) (.ret (.tup [.int .i64 (piV s), .err none])) (.ret (.tup [.int .i64 (piV s), .oth]))) .fail
  | _ => .fail⟩
theorem face_at {w : World} {b : Nat} (h : GV.face.ok w b) : ∃ ev, w.cell? ⟨b, 0, none⟩ = some ev ∧ (ev = .nilIface ∨ ∃ te pe, ev = .iface te pe) := by
  obtain ⟨te, pe, t, fr, h⟩ := h
  exact ⟨.iface te pe, by simp [World.cell?, h], .inr ⟨te, pe, rfl⟩⟩
theorem keep_or {w w' : World} (h : w' = w ∨ ∃ t, w' = Lib.bytesWorld w 5 t) : KeepS (fun _ => False) w w' := by
  rcases h with rfl | ⟨t, rfl⟩
  · exact KeepS.refl _ _
  · exact keep_below (Lib.bytesWorld_below _ _ _)
theorem ok47 : EnterOk Tryz.prog 93 ∧ CSpecOk Tryz.prog cfgT 93 sp47 := ⟨enter Tryz.func93 (by kernel_rfl) (by kernel_rfl), by
  intro args res h
  unfold sp47 at h
  simp only at h
  split at h <;> try (cases h; done)
  rename_i s
  cases hd : decide (s.size ≤ 281474976710656) with
  | false => rw [hd] at h; cases h
  | true =>
    rw [hd] at h
    have hs := of_decide_eq_true hd
    intro M w vs _ hg ha
    cases ha with
    | cons h1 t1 =>
      cases t1 with
      | cons h2 t2 =>
        cases t2 with
        | cons h3 t3 =>
          cases t3
          simp only [SR, LR] at h1 h2 h3
          subst h1; subst h2; subst h3
          have g2 := (hg (3, .face) (by simp [cfgT, globT])).1
          have g3 := (hg (4, .face) (by simp [cfgT, globT])).1
          obtain ⟨e2, c2, f2⟩ := face_at g2
          obtain ⟨e3, c3, f3⟩ := face_at g3
          match hp : Lib.parseIntB 64 s.data.toList with
          | Lib.NumEnd.ok v =>
            rw [show piOk s = true by unfold piOk; rw [hp], show piV s = v by unfold piV; rw [hp]] at h
            obtain rfl := Option.some.inj h
            exact (Tryz.strconv_ParseInt_10_at64_ok s (by omega) v hp w).mono fun e w' ⟨q1, q2⟩ => ⟨_, q1, ⟨[_, _], rfl, .cons rfl (.cons (Rob.const rfl) .nil)⟩, keep_or q2⟩
          | Lib.NumEnd.syntax =>
            rw [show piOk s = false by unfold piOk; rw [hp], show piV s = 0 by unfold piV; rw [hp]] at h
            obtain rfl := Option.some.inj h
            exact (Tryz.strconv_ParseInt_10_at64_syntax s hs hp e2 w c2 f2).mono fun e w' ⟨N, q1, _, _, q2⟩ => ⟨_, q1, ⟨[_, _], rfl, .cons rfl (.cons ⟨_, _, rfl⟩ .nil)⟩, keep_below q2⟩
          | Lib.NumEnd.range =>
            rw [show piOk s = false by unfold piOk; rw [hp], show piV s = Lib.intSat 64 s.data.toList by unfold piV; rw [hp]] at h
            obtain rfl := Option.some.inj h
            exact (Tryz.strconv_ParseInt_10_at64_range s hs hp e3 w c3 f3).mono fun e w' ⟨N, q1, _, _, q2⟩ => ⟨_, q1, ⟨[_, _], rfl, .cons rfl (.cons ⟨_, _, rfl⟩ .nil)⟩, keep_below q2⟩⟩
end Go.Proofs.YtkkgimhjjhhkjaaGreatDoor
/- value.Quote and aviaryref02.Quote: a string's text, byte by byte. -/
namespace Go.Proofs.YtkkgimhjjhhkjaaGreatDoor
open Go Go.Pev

abbrev hexS : ByteArray := ⟨#[48, 49, 50, 51, 52, 53, 54, 55, 56, 57, 97, 98, 99, 100, 101, 102]⟩
/-- A byte's text within a string's. -/
def q (c : UInt8) : List UInt8 :=
  cond (c == 34 || c == 92) [92, c] (cond (decide (c < 32) || decide (126 < c)) [92, 120, hexS.data.toList.getD (c.toNat / 16) 0, hexS.data.toList.getD (c.toNat % 16) 0] [c])
def ints (l : List UInt8) : List Int := l.map fun b => (b.toNat : Int)
theorem ints_append (l m : List UInt8) : ints (l ++ m) = ints l ++ ints m := List.map_append
theorem q_len (c : UInt8) : (q c).length ≤ 4 := by
  unfold q
  cases (c == 34 || c == 92) <;> cases (decide (c < 32) || decide (126 < c)) <;> simp

/-! ### value.Quote -/
def hz1 (z : Int) : Int := z.fdiv (2 ^ min 4 IntKind.u8.bits)
def hz2 (z : Int) : Int := IntKind.u8.wrap ((BitVec.ofInt IntKind.u8.bits z &&& BitVec.ofInt IntKind.u8.bits 15).toNat : Int)
def hd (z : Int) : Int := ((hexS.data.toList.getD z.toNat 0).toNat : Int)
/-- What a round does with its byte. -/
def roundQ {α : Type} (z : Int) (f : List Int → α) (d : α) : α :=
  let hex : α := cond (decide (0 ≤ hz1 z)) (cond (decide (hz1 z < (hexS.size : Int))) (cond (decide (hz2 z < (hexS.size : Int))) (f [92, 120, hd (hz1 z), hd (hz2 z)]) d) d) d
  cond (z == 34) (f [92, z]) (cond (z == 92) (f [92, z]) (cond (decide (z < 32)) hex (cond (decide (z > 126)) hex (f [z]))))
def chkQ (n : Nat) : Bool :=
  let z : Int := n
  cond (decide (n = 34) || decide (n = 92)) (ints (q (UInt8.ofNat n)) == [92, z]) (cond (decide (n < 32) || decide (126 < n)) (decide (0 ≤ hz1 z) && decide (hz1 z < (hexS.size : Int)) && decide (hz2 z < (hexS.size : Int)) && (ints (q (UInt8.ofNat n)) == [92, 120, hd (hz1 z), hd (hz2 z)])) (ints (q (UInt8.ofNat n)) == [z]))
theorem tabQ : (List.range 256).all chkQ = true := by kernel_rfl
theorem roundQ_is {α : Type} (c : UInt8) (f : List Int → α) (d : α) : roundQ (c.toNat : Int) f d = f (ints (q c)) := by
  have hlt : c.toNat < 256 := c.toNat_lt
  have h := List.all_eq_true.1 tabQ c.toNat (List.mem_range.2 hlt)
  unfold chkQ at h
  rw [UInt8.ofNat_toNat] at h
  unfold roundQ
  simp only
  by_cases h1 : c.toNat = 34
  · rw [h1] at h
    simp only [decide_true, Bool.true_or, cond_true, beq_iff_eq] at h
    rw [h, h1]; rfl
  · by_cases h2 : c.toNat = 92
    · rw [h2] at h
      simp only [decide_true, Bool.or_true, cond_true, beq_iff_eq] at h
      rw [h, h2]; rfl
    · rw [show decide (c.toNat = 34) = false from decide_eq_false h1, show decide (c.toNat = 92) = false from decide_eq_false h2] at h
      rw [show ((c.toNat : Int) == 34) = false by simp; omega, show ((c.toNat : Int) == 92) = false by simp; omega]
      simp only [Bool.or_false, cond_false] at h ⊢
      by_cases h3 : c.toNat < 32
      · rw [show decide (c.toNat < 32) = true from decide_eq_true h3] at h
        simp only [Bool.true_or, cond_true, Bool.and_eq_true, beq_iff_eq] at h
        rw [show decide ((c.toNat : Int) < 32) = true from decide_eq_true (by omega), h.1.1.1, h.1.1.2, h.1.2, h.2]
        rfl
      · by_cases h4 : 126 < c.toNat
        · rw [show decide (126 < c.toNat) = true from decide_eq_true h4] at h
          simp only [Bool.or_true, cond_true, Bool.and_eq_true, beq_iff_eq] at h
          rw [show decide ((c.toNat : Int) < 32) = false from decide_eq_false (by omega), show decide ((c.toNat : Int) > 126) = true from decide_eq_true (by omega), h.1.1.1, h.1.1.2, h.1.2, h.2]
          rfl
        · rw [show decide (c.toNat < 32) = false from decide_eq_false h3, show decide (126 < c.toNat) = false from decide_eq_false h4] at h
          simp only [Bool.or_false, cond_false, beq_iff_eq] at h
          rw [show decide ((c.toNat : Int) < 32) = false from decide_eq_false (by omega), show decide ((c.toNat : Int) > 126) = false from decide_eq_false (by omega), h]
          rfl

def E24 (s : ByteArray) (l : List Int) (n i : Int) : Env := ⟨[(0, .str s), (3, .own 900), (8, .int .i64 n), (9, .int .i64 i)], [(900, some (.row 5 (.int .u8) l))]⟩
def X24 (l : List Int) : Env := ⟨[(3, .own 900)], [(900, some (.row 5 (.int .u8) l))]⟩
def o24 : Orc := fun E k => match E with
  | ⟨[(0, .str s), (3, .own 900), (8, .int .i64 n), (9, .int .i64 0)], [(900, some (.row 5 (.int .u8) l))]⟩ =>
    cond (decide (n = s.size ∧ l.length + 4 * s.size ≤ 140737488355328)) (k (.exit 0) (X24 (l ++ ints (s.data.toList.flatMap q)))) none
  | _ => none
def A24o : Anns := ⟨[(3, [.keep [0, 3, 8, 9] [6, 18, 29, 45, 900], .ownS 3 900 5, .keep [0, 3, 8, 9] [900]]), (100003, [.keep [3] [900]])], [(3, o24)], 1000⟩
noncomputable def loop24 : Code := match loopsF Tryz.prog 60 with | c :: _ => c | [] => .skip
noncomputable abbrev L24 (m : Nat) (E : Env) (k : Exit → Env → Pev.R) : Pev.R := loopE (prep (tabs 0 []) (annOf A24o loop24)) (evalC Tryz.prog (tabs 0 []) A24o loop24) m E (outK (tabs 0 []) A24o loop24 k)
theorem step24 (s : ByteArray) (l : List Int) (n i : Int) (m : Nat) (k : Exit → Env → Pev.R) :
    L24 (m + 1) (E24 s l n i) k = cond (decide (i < n)) (cond (decide (0 ≤ i)) (cond (decide (i < (s.size : Int))) (roundQ ((s.data.toList.getD i.toNat 0).toNat : Int)
      (fun xs => cond (appLim 1 l.length xs.length) (L24 m (E24 s (l ++ xs) n (IntKind.i64.wrap (i + 1))) k) none) none) none) none) (k (.exit 0) (X24 l)) := by kernel_rfl
theorem drop_cons (l : List UInt8) (i : Nat) (h : i < l.length) : l.drop i = l.getD i 0 :: l.drop (i + 1) := by
  rw [List.drop_eq_getElem_cons h]
  simp [List.getD_eq_getElem?_getD, h]
theorem all24 (s : ByteArray) (hs : s.size ≤ 140737488355328) (k : Exit → Env → Pev.R) : ∀ (d i : Nat) (l : List Int), i + d = s.size → l.length + 4 * d ≤ 140737488355328 →
    L24 (d + 1) (E24 s l s.size i) k = k (.exit 0) (X24 (l ++ ints ((s.data.toList.drop i).flatMap q)))
  | 0, i, l, h, _ => by
    rw [step24, show decide ((i : Int) < (s.size : Int)) = false from decide_eq_false (by omega), cond_false, List.drop_eq_nil_of_le (by simp; omega)]
    simp [ints]
  | d + 1, i, l, h, hl => by
    have hlen : s.data.toList.length = s.size := by simp
    rw [step24, show decide ((i : Int) < (s.size : Int)) = true from decide_eq_true (by omega), show decide (0 ≤ (i : Int)) = true from decide_eq_true (by omega)]
    simp only [cond_true]
    rw [roundQ_is, Int.toNat_natCast]
    have h4 := q_len (s.data.toList.getD i 0)
    have e : (ints (q (s.data.toList.getD i 0))).length = (q (s.data.toList.getD i 0)).length := by simp [ints]
    rw [show appLim 1 l.length (ints (q (s.data.toList.getD i 0))).length = true from decide_eq_true (by rw [e]; omega), cond_true, i64w _ (by omega) (by omega)]
    rw [show ((i : Int) + 1) = ((i + 1 : Nat) : Int) by omega, all24 s hs k d (i + 1) _ (by omega) (by rw [List.length_append, e]; omega), drop_cons _ i (by omega)]
    simp only [List.flatMap_cons, ints_append, List.append_assoc]
theorem orc24 : OrcOk Tryz.prog (tabs 0 []) A24o loop24 := by
  intro o ho E k r h
  obtain rfl := orcIs (show orcOf A24o loop24 = some o24 by kernel_rfl) ho
  unfold o24 at h
  split at h
  · rename_i s n l
    cases hd : decide (n = s.size ∧ l.length + 4 * s.size ≤ 140737488355328) with
    | false => rw [hd] at h; cases h
    | true =>
      rw [hd] at h
      obtain ⟨rfl, h1⟩ := of_decide_eq_true hd
      exact ⟨s.size + 1, (all24 s (by omega) k s.size 0 l (by omega) h1).trans h⟩
  · cases h
/-- A string's text. -/
def quoteL (s : ByteArray) : List UInt8 := 34 :: (s.data.toList.flatMap q ++ [34])
def sp24 : Pev.CSpec := ⟨fun | [.str s] => .br (decide (s.size ≤ 1000000)) (.ret (.str ⟨(quoteL s).toArray⟩)) .fail | _ => .fail⟩
theorem ofU8s_ints (l : List UInt8) : ofU8s (ints l) = ⟨l.toArray⟩ := by
  unfold ofU8s ints
  rw [List.map_map, show ((fun n : Int => n.toNat.toUInt8) ∘ fun b : UInt8 => (b.toNat : Int)) = id from funext fun b => by simp, List.map_id]
theorem flat_len (l : List UInt8) : (l.flatMap q).length ≤ 4 * l.length := by
  induction l with
  | nil => simp
  | cons c l ih => have := q_len c; simp only [List.flatMap_cons, List.length_append, List.length_cons]; omega
theorem size_list (s : ByteArray) : s.data.toList.length = s.size := by simp
theorem t24 (s : ByteArray) (h : s.size ≤ 1000000) : evalF Tryz.prog (tabs 0 []) A24o 60 [.str s] = some (.str ⟨(quoteL s).toArray⟩) := by
  rw [show evalF Tryz.prog (tabs 0 []) A24o 60 [.str s] = cond (decide ((s.size : Int) = s.size ∧ [(34 : Int)].length + 4 * s.size ≤ 140737488355328)) (cond (appLim 1 ([34] ++ ints (s.data.toList.flatMap q)).length 1) (some (.str (ofU8s ([34] ++ ints (s.data.toList.flatMap q) ++ [34])))) none) none by kernel_rfl]
  have h1 := flat_len s.data.toList
  rw [size_list] at h1
  rw [show decide ((s.size : Int) = s.size ∧ [(34 : Int)].length + 4 * s.size ≤ 140737488355328) = true from decide_eq_true ⟨rfl, by simp; omega⟩, show appLim 1 (([34] : List Int) ++ ints (s.data.toList.flatMap q)).length 1 = true from decide_eq_true (by simp only [ints, List.length_append, List.length_map, List.length_cons, List.length_nil]; omega)]
  rw [show ([34] ++ ints (s.data.toList.flatMap q) ++ [34] : List Int) = ints (quoteL s) by simp [quoteL, ints], ofU8s_ints]
  rfl
theorem ok24 : EnterOk Tryz.prog 60 ∧ CSpecOk Tryz.prog cfg 60 sp24 := ⟨enter Tryz.func60 (by kernel_rfl) (by kernel_rfl), by
  intro args res h
  unfold sp24 at h
  simp only at h
  split at h <;> try (cases h; done)
  rename_i s
  cases hd : decide (s.size ≤ 1000000) with
  | false => rw [hd] at h; cases h
  | true =>
    rw [hd] at h
    obtain rfl := Option.some.inj h
    exact done1 noSpecs (A := A24o) (c := loop24) (by kernel_rfl) orc24 (by kernel_rfl) (t24 s (of_decide_eq_true hd))⟩

/-! ### aviaryref02.Quote -/
def a1 (z : Int) : Int := IntKind.u8.wrap (z.tdiv ((15 + 1 : Nat) : Int))
def a2 (z : Int) : Int := z.tmod ((15 + 1 : Nat) : Int)
def hx (z : Int) : ByteArray := hexS.extract z.toNat (IntKind.u8.wrap (z + 1)).toNat
def hxs (z : Int) : ByteArray := ⟨#[92, 120]⟩ ++ hx (a1 z) ++ hx (a2 z)
/-- What a round does with its byte, whose own text is 'one'. -/
def roundR {α : Type} (z : Int) (one : (ByteArray → α) → α) (f : ByteArray → α) (d : α) : α :=
  let hex : α := cond (decide (0 ≤ a1 z)) (cond (decide (a1 z ≤ IntKind.u8.wrap (a1 z + 1))) (cond (decide (IntKind.u8.wrap (a1 z + 1) ≤ (hexS.size : Int))) (cond (decide ((⟨#[92, 120]⟩ : ByteArray).size + (hx (a1 z)).size ≤ 9223372036854775807))
    (cond (decide (0 ≤ a2 z)) (cond (decide (a2 z ≤ IntKind.u8.wrap (a2 z + 1))) (cond (decide (IntKind.u8.wrap (a2 z + 1) ≤ (hexS.size : Int))) (cond (decide (((⟨#[92, 120]⟩ : ByteArray) ++ hx (a1 z)).size + (hx (a2 z)).size ≤ 9223372036854775807)) (f (hxs z)) d) d) d) d) d) d) d) d
  let esc : α := one fun t => cond (decide ((⟨#[92]⟩ : ByteArray).size + t.size ≤ 9223372036854775807)) (f (⟨#[92]⟩ ++ t)) d
  cond (z == 34) esc (cond (z == 92) esc (cond (decide (z < 32)) hex (cond (decide (z > 126)) hex (one f))))
def E51 (s t : ByteArray) (i : Int) : Env := ⟨[(0, .str s), (3, .str t), (4, .int .i64 i)], []⟩
def X51 (t : ByteArray) : Env := ⟨[(3, .str t)], []⟩
def o51 : Orc := fun E k => match E with
  | ⟨[(0, .str s), (3, .str t), (4, .int .i64 0)], []⟩ =>
    cond (decide (t.size + 4 * s.size ≤ 140737488355328)) (k (.exit 0) (X51 (t ++ ⟨(s.data.toList.flatMap q).toArray⟩))) none
  | _ => none
def A51 : Anns := ⟨[(3, [.keep [0, 3, 4] []]), (100003, [.keep [3] []])], [(3, o51)], 1000⟩
noncomputable def loop51 : Code := match loopsF Tryz.prog 88 with | c :: _ => c | [] => .skip
noncomputable abbrev L51 (m : Nat) (E : Env) (k : Exit → Env → Pev.R) : Pev.R := loopE (prep (tabs 0 []) (annOf A51 loop51)) (evalC Tryz.prog (tabs 0 []) A51 loop51) m E (outK (tabs 0 []) A51 loop51 k)
theorem step51 (s t : ByteArray) (i : Int) (m : Nat) (k : Exit → Env → Pev.R) :
    L51 (m + 1) (E51 s t i) k = cond (decide (i < (s.size : Int))) (cond (decide (0 ≤ i)) (cond (decide (i < (s.size : Int))) (roundR ((s.data.toList.getD i.toNat 0).toNat : Int)
      (fun f => cond (decide (0 ≤ i)) (cond (decide (i ≤ IntKind.i64.wrap (i + 1))) (cond (decide (IntKind.i64.wrap (i + 1) ≤ (s.size : Int))) (f (s.extract i.toNat (IntKind.i64.wrap (i + 1)).toNat)) none) none) none)
      (fun x => cond (decide (t.size + x.size ≤ 9223372036854775807)) (L51 m (E51 s (t ++ x) (IntKind.i64.wrap (i + 1))) k) none) none) none) none) (k (.exit 0) (X51 t)) := by kernel_rfl
def chkR (n : Nat) : Bool :=
  let z : Int := n
  cond (decide (n = 34) || decide (n = 92)) (((⟨#[92]⟩ : ByteArray) ++ ⟨#[UInt8.ofNat n]⟩).data.toList == q (UInt8.ofNat n)) (cond (decide (n < 32) || decide (126 < n))
    (decide (0 ≤ a1 z) && decide (a1 z ≤ IntKind.u8.wrap (a1 z + 1)) && decide (IntKind.u8.wrap (a1 z + 1) ≤ (hexS.size : Int)) && decide ((⟨#[92, 120]⟩ : ByteArray).size + (hx (a1 z)).size ≤ 9223372036854775807)
      && decide (0 ≤ a2 z) && decide (a2 z ≤ IntKind.u8.wrap (a2 z + 1)) && decide (IntKind.u8.wrap (a2 z + 1) ≤ (hexS.size : Int)) && decide (((⟨#[92, 120]⟩ : ByteArray) ++ hx (a1 z)).size + (hx (a2 z)).size ≤ 9223372036854775807) && ((hxs z).data.toList == q (UInt8.ofNat n)))
    ((⟨#[UInt8.ofNat n]⟩ : ByteArray).data.toList == q (UInt8.ofNat n)))
theorem tabR : (List.range 256).all chkR = true := by kernel_rfl
theorem ba_list {s : ByteArray} {l : List UInt8} (h : (s.data.toList == l) = true) : s = ⟨l.toArray⟩ := same s l h
theorem roundR_is {α : Type} (c : UInt8) (one : (ByteArray → α) → α) (f : ByteArray → α) (d : α) (ho : ∀ g, one g = g ⟨#[c]⟩) : roundR (c.toNat : Int) one f d = f ⟨(q c).toArray⟩ := by
  have hlt : c.toNat < 256 := c.toNat_lt
  have h := List.all_eq_true.1 tabR c.toNat (List.mem_range.2 hlt)
  unfold chkR at h
  rw [UInt8.ofNat_toNat] at h
  unfold roundR
  simp only [ho]
  have hs : (⟨#[92]⟩ : ByteArray).size + (⟨#[c]⟩ : ByteArray).size ≤ 9223372036854775807 := by show 1 + 1 ≤ 9223372036854775807; omega
  by_cases h1 : c.toNat = 34
  · rw [show ((c.toNat : Int) == 34) = true by simp; omega, cond_true, show decide ((⟨#[92]⟩ : ByteArray).size + (⟨#[c]⟩ : ByteArray).size ≤ 9223372036854775807) = true from decide_eq_true hs, cond_true]
    rw [show decide (c.toNat = 34) = true from decide_eq_true h1, Bool.true_or, cond_true] at h
    rw [ba_list h]
  · by_cases h2 : c.toNat = 92
    · rw [show ((c.toNat : Int) == 34) = false by simp; omega, cond_false, show ((c.toNat : Int) == 92) = true by simp; omega, cond_true, show decide ((⟨#[92]⟩ : ByteArray).size + (⟨#[c]⟩ : ByteArray).size ≤ 9223372036854775807) = true from decide_eq_true hs, cond_true]
      rw [show decide (c.toNat = 92) = true from decide_eq_true h2, Bool.or_true, cond_true] at h
      rw [ba_list h]
    · rw [show decide (c.toNat = 34) = false from decide_eq_false h1, show decide (c.toNat = 92) = false from decide_eq_false h2] at h
      rw [show ((c.toNat : Int) == 34) = false by simp; omega, show ((c.toNat : Int) == 92) = false by simp; omega]
      simp only [Bool.or_false, cond_false] at h ⊢
      by_cases h3 : c.toNat < 32
      · rw [show decide (c.toNat < 32) = true from decide_eq_true h3] at h
        simp only [Bool.true_or, cond_true, Bool.and_eq_true] at h
        obtain ⟨⟨⟨⟨⟨⟨⟨⟨g1, g2⟩, g3⟩, g4⟩, g5⟩, g6⟩, g7⟩, g8⟩, g9⟩ := h
        rw [show decide ((c.toNat : Int) < 32) = true from decide_eq_true (by omega), g1, g2, g3, g4, g5, g6, g7, g8, ba_list g9]
        rfl
      · by_cases h4 : 126 < c.toNat
        · rw [show decide (126 < c.toNat) = true from decide_eq_true h4] at h
          simp only [Bool.or_true, cond_true, Bool.and_eq_true] at h
          obtain ⟨⟨⟨⟨⟨⟨⟨⟨g1, g2⟩, g3⟩, g4⟩, g5⟩, g6⟩, g7⟩, g8⟩, g9⟩ := h
          rw [show decide ((c.toNat : Int) < 32) = false from decide_eq_false (by omega), show decide ((c.toNat : Int) > 126) = true from decide_eq_true (by omega), g1, g2, g3, g4, g5, g6, g7, g8, ba_list g9]
          rfl
        · rw [show decide (c.toNat < 32) = false from decide_eq_false h3, show decide (126 < c.toNat) = false from decide_eq_false h4] at h
          simp only [Bool.or_false, cond_false] at h
          rw [show decide ((c.toNat : Int) < 32) = false from decide_eq_false (by omega), show decide ((c.toNat : Int) > 126) = false from decide_eq_false (by omega), show (⟨#[c]⟩ : ByteArray) = ⟨(q c).toArray⟩ from ba_list h]
          rfl
theorem ba_ext {s t : ByteArray} (h : s.data.toList = t.data.toList) : s = t := by
  cases s; cases t; simpa using h
theorem extract_one (s : ByteArray) (i : Nat) (h : i < s.size) : s.extract i (i + 1) = ⟨#[s.data.toList.getD i 0]⟩ := by
  apply ba_ext
  have hl : i < s.data.toList.length := by rw [size_list]; exact h
  rw [show (s.extract i (i + 1)).data.toList = (s.data.toList.drop i).take 1 by simp [ByteArray.data_extract], List.drop_eq_getElem_cons hl]
  simp [List.getD_eq_getElem?_getD, h]
theorem all51 (s : ByteArray) (hs : s.size ≤ 140737488355328) (k : Exit → Env → Pev.R) : ∀ (d i : Nat) (t : ByteArray), i + d = s.size → t.size + 4 * d ≤ 140737488355328 →
    L51 (d + 1) (E51 s t i) k = k (.exit 0) (X51 (t ++ ⟨((s.data.toList.drop i).flatMap q).toArray⟩))
  | 0, i, t, h, _ => by
    rw [step51, show decide ((i : Int) < (s.size : Int)) = false from decide_eq_false (by omega), cond_false, List.drop_eq_nil_of_le (by simp; omega)]
    rw [show t ++ (⟨(([] : List UInt8).flatMap q).toArray⟩ : ByteArray) = t from ba_ext (by simp)]
  | d + 1, i, t, h, hl => by
    rw [step51, show decide ((i : Int) < (s.size : Int)) = true from decide_eq_true (by omega), show decide (0 ≤ (i : Int)) = true from decide_eq_true (by omega)]
    simp only [cond_true]
    rw [i64w _ (by omega) (by omega), show decide ((i : Int) ≤ (i : Int) + 1) = true from decide_eq_true (by omega), show decide ((i : Int) + 1 ≤ (s.size : Int)) = true from decide_eq_true (by omega)]
    simp only [cond_true]
    rw [Int.toNat_natCast, show ((i : Int) + 1).toNat = i + 1 by omega, extract_one s i (by omega), roundR_is _ _ _ _ (fun g => rfl)]
    have h4 := q_len (s.data.toList.getD i 0)
    have e : (⟨(q (s.data.toList.getD i 0)).toArray⟩ : ByteArray).size = (q (s.data.toList.getD i 0)).length := List.size_toArray
    rw [show decide (t.size + (⟨(q (s.data.toList.getD i 0)).toArray⟩ : ByteArray).size ≤ 9223372036854775807) = true from decide_eq_true (by rw [e]; omega), cond_true]
    rw [show ((i : Int) + 1) = ((i + 1 : Nat) : Int) by omega, all51 s hs k d (i + 1) _ (by omega) (by rw [ByteArray.size_append, e]; omega), drop_cons _ i (by rw [size_list]; omega)]
    congr 2
    apply ba_ext
    simp [List.flatMap_cons]
theorem orc51 : OrcOk Tryz.prog (tabs 0 []) A51 loop51 := by
  intro o ho E k r h
  obtain rfl := orcIs (show orcOf A51 loop51 = some o51 by kernel_rfl) ho
  unfold o51 at h
  split at h
  · rename_i s t
    cases hd : decide (t.size + 4 * s.size ≤ 140737488355328) with
    | false => rw [hd] at h; cases h
    | true =>
      rw [hd] at h
      have h1 := of_decide_eq_true hd
      exact ⟨s.size + 1, (all51 s (by omega) k s.size 0 t (by omega) h1).trans h⟩
  · cases h
theorem t51 (s : ByteArray) (h : s.size ≤ 1000000) : evalF Tryz.prog (tabs 0 []) A51 88 [.str s] = some (.str ⟨(quoteL s).toArray⟩) := by
  rw [show evalF Tryz.prog (tabs 0 []) A51 88 [.str s] = cond (decide ((⟨#[34]⟩ : ByteArray).size + 4 * s.size ≤ 140737488355328)) (cond (decide (((⟨#[34]⟩ : ByteArray) ++ ⟨(s.data.toList.flatMap q).toArray⟩).size + (⟨#[34]⟩ : ByteArray).size ≤ 9223372036854775807)) (some (.str ((⟨#[34]⟩ : ByteArray) ++ ⟨(s.data.toList.flatMap q).toArray⟩ ++ ⟨#[34]⟩))) none) none by kernel_rfl]
  have h1 := flat_len s.data.toList
  rw [size_list] at h1
  have e : (⟨(s.data.toList.flatMap q).toArray⟩ : ByteArray).size = (s.data.toList.flatMap q).length := List.size_toArray
  have e1 : (⟨#[34]⟩ : ByteArray).size = 1 := rfl
  rw [show decide ((⟨#[34]⟩ : ByteArray).size + 4 * s.size ≤ 140737488355328) = true from decide_eq_true (by rw [e1]; omega), show decide (((⟨#[34]⟩ : ByteArray) ++ ⟨(s.data.toList.flatMap q).toArray⟩).size + (⟨#[34]⟩ : ByteArray).size ≤ 9223372036854775807) = true from decide_eq_true (by rw [ByteArray.size_append, e, e1]; omega)]
  simp only [cond_true]
  rw [show ((⟨#[34]⟩ : ByteArray) ++ ⟨(s.data.toList.flatMap q).toArray⟩ ++ ⟨#[34]⟩) = ⟨(quoteL s).toArray⟩ from ba_ext (by simp [quoteL])]
theorem ok51 : EnterOk Tryz.prog 88 ∧ CSpecOk Tryz.prog cfg 88 sp24 := ⟨enter Tryz.func88 (by kernel_rfl) (by kernel_rfl), by
  intro args res h
  unfold sp24 at h
  simp only at h
  split at h <;> try (cases h; done)
  rename_i s
  cases hd : decide (s.size ≤ 1000000) with
  | false => rw [hd] at h; cases h
  | true =>
    rw [hd] at h
    obtain rfl := Option.some.inj h
    exact done1 noSpecs (A := A51) (c := loop51) (by kernel_rfl) orc51 (by kernel_rfl) (t51 s (of_decide_eq_true hd))⟩
end Go.Proofs.YtkkgimhjjhhkjaaGreatDoor
/- The statement ValueOrders: plain law, and its evaluation: true. -/
namespace Go.Proofs.YtkkgimhjjhhkjaaGreatDoor
open Go Go.Pev

theorem ba_empty (s : ByteArray) (h : (s.toList == ([] : List UInt8)) = true) : s = ⟨#[]⟩ := by
  have h1 : s.toList = [] := by simpa using h
  have h2 : s.data.toList = [] := by rw [← ByteArray.toList_eq]; exact h1
  cases s with | mk d => simp at h2; subst h2; rfl
theorem empty_list : (⟨#[]⟩ : ByteArray).toList = ([] : List UInt8) := by kernel_rfl
theorem eqVal (k i : Int) (s : ByteArray) (b : Bool) : eqB shVal (k, i, s, b) (k, 0, ⟨#[]⟩, false) = ((i == 0) && ((s.toList == ([] : List UInt8)) && (b == false))) := by
  rw [show eqB shVal (k, i, s, b) (k, 0, ⟨#[]⟩, false) = ((k == k) && ((i == 0) && ((s.toList == (⟨#[]⟩ : ByteArray).toList) && (b == false)))) by kernel_rfl, empty_list]
  rw [show (k == k) = true from beq_self_eq_true k, Bool.true_and]
theorem ck (k i : Int) (s : ByteArray) (b : Bool) : checkV k i s b = cond (ckB k i s b) (some ([], ckN k i s b)) none := by
  unfold checkV ckB ckN
  rw [eqVal k 0 s b, eqVal k i ⟨#[]⟩ b, eqVal k i s false]
  cases h1 : (k == 1) with
  | true =>
    cases hs : (s.toList == ([] : List UInt8)) with
    | true => obtain rfl := ba_empty s hs; cases b <;> rfl
    | false => cases b <;> rfl
  | false =>
    cases h2 : (k == 2) with
    | true =>
      rw [empty_list]
      cases hi : (i == 0) <;> cases b <;> cases decide ((s.size : Int) > 1000) <;> simp [bne, hi]
    | false =>
      cases h3 : (k == 3) with
      | true =>
        cases hs : (s.toList == ([] : List UInt8)) with
        | true => obtain rfl := ba_empty s hs; cases hi : (i == 0) <;> simp [bne, hi] <;> rfl
        | false => cases hi : (i == 0) <;> simp
      | false => rfl
theorem fr (b : Bool) (n : Int) (b' : Bool) (n' : Int) : first2 (cond b (some ([], n)) none) (cond b' (some ([], n')) none) = cond (frB b b') (some ([], frN b n b' n')) none := by
  cases b <;> cases b' <;> rfl
theorem cmpE_is (k i : Int) (s : ByteArray) (b : Bool) (k' i' : Int) (s' : ByteArray) (b' : Bool) : cmpE k i s b k' i' s' b' = cond (docB k i s b k' i' s' b') (some ([], docC k i s b k' i' s' b')) none := by
  unfold cmpE docB docC
  rw [ck, ck, fr]
  cases frB (ckB k i s b) (ckB k' i' s' b') <;> cases (k != k') <;> rfl
theorem or3_0 (a : Int) : or3 a 0 0 = a := by
  unfold or3
  cases h : a != 0 with
  | true => rfl
  | false => simp [bne] at h; subst h; rfl
theorem or3_1 (a : Int) : or3 0 a 0 = a := by
  rw [show or3 0 a 0 = cond (a != 0) a (cond ((0 : Int) != 0) 0 0) from rfl]
  cases h : a != 0 with
  | true => rfl
  | false => simp [bne] at h; subst h; rfl
theorem cmpN_is (k i : Int) (s : ByteArray) (b : Bool) (k' i' : Int) (s' : ByteArray) (b' : Bool) (hz : docB k i s b k' i' s' b' = false → docC k i s b k' i' s' b' = 0) : cmpN k i s b k' i' s' b' = docN k i s b k' i' s' b' := by
  unfold cmpN docN
  rw [ck, ck, fr]
  cases hd : docB k i s b k' i' s' b' with
  | true =>
    unfold docB at hd
    cases hf : frB (ckB k i s b) (ckB k' i' s' b') with
    | true => rfl
    | false =>
      rw [hf] at hd
      cases hk : (k != k') with
      | true => rfl
      | false => rw [hk] at hd; cases hd
  | false =>
    unfold docB at hd
    cases hf : frB (ckB k i s b) (ckB k' i' s' b') with
    | true => rw [hf] at hd; cases hk : (k != k') <;> rw [hk] at hd <;> cases hd
    | false =>
      rw [hf] at hd
      cases hk : (k != k') with
      | true => rw [hk] at hd; cases hd
      | false =>
        simp only [cond_false, Option.isNone_none, Bool.not_true]
        obtain rfl : k = k' := by simpa [bne] using hk
        have f1 : ckB k i s b = false ∧ ckB k i' s' b' = false := by
          revert hf; cases ckB k i s b <;> cases ckB k i' s' b' <;> intro hf <;> simp_all [frB]
        obtain ⟨f1, f2⟩ := f1
        unfold ckB at f1 f2
        cases h1 : (k == 1) with
        | true =>
          rw [h1] at f1 f2
          simp only [cond_true] at f1 f2
          cases hs : (s.toList == ([] : List UInt8)) with
          | false => rw [hs] at f1; cases f1
          | true =>
            cases hs' : (s'.toList == ([] : List UInt8)) with
            | false => rw [hs'] at f2; cases f2
            | true =>
              obtain rfl := ba_empty s hs
              obtain rfl := ba_empty s' hs'
              cases b with
              | true => rw [hs] at f1; cases f1
              | false =>
                cases b' with
                | true => rw [hs'] at f2; cases f2
                | false =>
                  rw [cmpS_nil empty_list empty_list, show IntKind.i64.wrap (cond false 1 0 - cond false 1 0) = 0 from rfl, or3_0]
                  unfold cmpI rcmp
                  rw [empty_list]
                  rfl
        | false =>
          rw [h1] at f1 f2
          cases h2 : (k == 2) with
          | true =>
            rw [h2] at f1 f2
            simp only [cond_false, cond_true] at f1 f2
            cases hi : (i != 0) with
            | true => rw [hi] at f1; cases f1
            | false =>
              cases hi' : (i' != 0) with
              | true => rw [hi'] at f2; cases f2
              | false =>
                rw [hi] at f1
                rw [hi'] at f2
                obtain rfl : i = 0 := by simpa [bne] using hi
                obtain rfl : i' = 0 := by simpa [bne] using hi'
                cases b with
                | true => cases f1
                | false =>
                  cases b' with
                  | true => cases f2
                  | false =>
                    rw [show cmpI 0 0 = 0 from rfl, show IntKind.i64.wrap (cond false 1 0 - cond false 1 0) = 0 from rfl, or3_1]
                    unfold cmpS rcmp
                    cases Op.bytesLess s.toList s'.toList <;> cases (s.toList == s'.toList) <;> rfl
          | false =>
            rw [h2] at f1 f2
            cases h3 : (k == 3) with
            | false => rw [h3] at f1; cases f1
            | true =>
              rw [h3] at f1 f2
              simp only [cond_false, cond_true] at f1 f2
              cases hs : (s.toList == ([] : List UInt8)) with
              | false => rw [hs] at f1; cases f1
              | true =>
                cases hs' : (s'.toList == ([] : List UInt8)) with
                | false => rw [hs'] at f2; cases f2
                | true =>
                  rw [hs] at f1
                  rw [hs'] at f2
                  cases hi : (i != 0) with
                  | true => rw [hi] at f1; cases f1
                  | false =>
                    cases hi' : (i' != 0) with
                    | true => rw [hi'] at f2; cases f2
                    | false =>
                      obtain rfl := ba_empty s hs
                      obtain rfl := ba_empty s' hs'
                      obtain rfl : i = 0 := by simpa [bne] using hi
                      obtain rfl : i' = 0 := by simpa [bne] using hi'
                      rw [cmpS_nil empty_list empty_list]
                      unfold rcmp
                      rw [empty_list]
                      cases b <;> cases b' <;> rfl
theorem ckN_0 (k i : Int) (s : ByteArray) (b : Bool) (h : ckB k i s b = false) : ckN k i s b = 0 := by
  revert h
  unfold ckB ckN
  cases (k == 1) <;> cases (k == 2) <;> cases (k == 3) <;> cases (s.toList == ([] : List UInt8)) <;> cases (i != 0) <;> cases b <;> cases decide ((s.size : Int) > 1000) <;> intro h <;> first | rfl | cases h
theorem docC_0 (k i : Int) (s : ByteArray) (b : Bool) (k' i' : Int) (s' : ByteArray) (b' : Bool) (h : docB k i s b k' i' s' b' = false) : docC k i s b k' i' s' b' = 0 := by
  have h1 := ckN_0 k i s b
  have h2 := ckN_0 k' i' s' b'
  revert h h1 h2
  unfold docB docC
  cases ckB k i s b <;> cases ckB k' i' s' b' <;> cases (k != k') <;> intro h h1 h2 <;> first | rfl | cases h | skip
end Go.Proofs.YtkkgimhjjhhkjaaGreatDoor
/- value.Text and aviaryref02.DocText; the statement ValueTexts by evaluation: true. -/
namespace Go.Proofs.YtkkgimhjjhhkjaaGreatDoor
open Go Go.Pev

def inI (i : Int) : Bool := decide (-9223372036854775808 ≤ i ∧ i ≤ 9223372036854775807)
/-- A value's text. -/
def textS (k i : Int) (s : ByteArray) (b : Bool) : ByteArray := cond (k == 1) ⟨(Lib.itoa i).toArray⟩ (cond (k == 2) ⟨(quoteL s).toArray⟩ ⟨(Lib.formatBool b).toArray⟩)
theorem ck_size {k i : Int} {s : ByteArray} {b : Bool} (h : ckB k i s b = false) (hk : (k == 2) = true) : s.size ≤ 1000000 := by
  unfold ckB at h
  have h1 : (k == 1) = false := by
    have : k = 2 := by simpa using hk
    subst this; rfl
  rw [h1, hk] at h
  cases hs : decide ((s.size : Int) > 1000) with
  | true => rw [hs] at h; revert h; cases (i != 0) <;> cases b <;> intro h <;> cases h
  | false => have := of_decide_eq_false hs; omega

def L11 : List (Nat × Pev.CSpec) := [(36, sp17), (59, sp23), (60, sp24), (61, sp25)]
theorem s11 : SpecsOk Tryz.prog (tabsT L11) := oneSpecTT (oneSpecTT (oneSpecTT (oneSpecTT noSpecsT (liftT ok25)) (liftT ok24)) ok23) (liftT (tree ok17))
def sp11 : Pev.CSpec := ⟨fun
  | [.ag [.int .i64 k, .int .i64 i, .str s, .bool b]] => .br (inI i) (.br (ckB k i s b) (.ret (.tup [.str ⟨#[]⟩, .err (some ([], ckN k i s b))])) (.ret (.tup [.str (textS k i s b), .err none]))) .fail
  | _ => .fail⟩
theorem ok11 : EnterOk Tryz.prog 30 ∧ CSpecOk Tryz.prog cfgT 30 sp11 := ⟨enter Tryz.func30 (by kernel_rfl) (by kernel_rfl), by
  intro args res h
  unfold sp11 at h
  simp only at h
  split at h <;> try (cases h; done)
  rename_i k i s b
  refine doneT s11 (A := A0) rfl (by kernel_rfl) ?_
  rw [show evalF Tryz.prog (tabsT L11) A0 30 [.ag [.int .i64 k, .int .i64 i, .str s, .bool b]] = (cond (!Option.isNone (checkV k i s b)) (some (.tup [.str ⟨#[]⟩, .err (checkV k i s b)])) 
 (cond (k == 1) 
  (cond (inI i) (some (.tup [.str { data := (Lib.itoa i).toArray }, .err none])) (none)) 
  (cond (k == 2) 
   (cond (decide (s.size ≤ 1000000)) (some (.tup [.str { data := (quoteL s).toArray }, .err none])) (none)) (some (.tup [.str { data := (Lib.formatBool b).toArray }, .err none]))))) by kernel_rfl]
  rw [← h]
  simp only [Tree.get]
  cases hi : inI i with
  | false => rw [hi] at h; cases h
  | true =>
    rw [ck]
    cases hc : ckB k i s b with
    | true => rfl
    | false =>
      cases h1 : (k == 1) with
      | true => simp [textS, h1]
      | false =>
        cases h2 : (k == 2) with
        | true => rw [show decide (s.size ≤ 1000000) = true from decide_eq_true (ck_size hc h2)]; simp [textS, h1, h2]
        | false => simp [textS, h1, h2]⟩

def L35 : List (Nat × Pev.CSpec) := [(59, sp23), (88, sp24)]
theorem s35 : SpecsOk Tryz.prog (tabsT L35) := oneSpecTT (oneSpecTT noSpecsT (liftT ok51)) ok23
def sp35 : Pev.CSpec := ⟨fun
  | [.ag [.int .i64 k, .int .i64 i, .str s, .bool b]] => .br (inI i) (.br (!(k == 2) || decide (s.size ≤ 1000000)) (.ret (.str (textS k i s b))) .fail) .fail
  | _ => .fail⟩
theorem ok35 : EnterOk Tryz.prog 65 ∧ CSpecOk Tryz.prog cfgT 65 sp35 := ⟨enter Tryz.func65 (by kernel_rfl) (by kernel_rfl), by
  intro args res h
  unfold sp35 at h
  simp only at h
  split at h <;> try (cases h; done)
  rename_i k i s b
  refine doneT s35 (A := A0) rfl (by kernel_rfl) ?_
  rw [show evalF Tryz.prog (tabsT L35) A0 65 [.ag [.int .i64 k, .int .i64 i, .str s, .bool b]] = (cond (k == 1) 
 (cond (inI i) (some (.str { data := (Lib.itoa i).toArray })) (none)) 
 (cond (k == 2) 
  (cond (decide (s.size ≤ 1000000)) (some (.str { data := (quoteL s).toArray })) (none)) 
  (cond (b) (some (.str { data := #[116, 114, 117, 101] })) (some (.str { data := #[102, 97, 108, 115, 101] }))))) by kernel_rfl]
  rw [← h]
  simp only [Tree.get]
  have hb : (cond b (some (AV.str { data := #[116, 114, 117, 101] })) (some (.str { data := #[102, 97, 108, 115, 101] }))) = some (.str ⟨(Lib.formatBool b).toArray⟩) := by cases b <;> kernel_rfl
  rw [hb]
  cases hi : inI i with
  | false => rw [hi] at h; cases h
  | true =>
    cases h1 : (k == 1) with
    | true =>
      have : (k == 2) = false := by
        have : k = 1 := by simpa using h1
        subst this; rfl
      simp [textS, h1, this]
    | false =>
      cases h2 : (k == 2) with
      | true =>
        rw [hi, h2] at h
        cases hs : decide (s.size ≤ 1000000) with
        | false => rw [hs] at h; cases h
        | true => simp [textS, h1, h2]
      | false => simp [textS, h1, h2]⟩
def L15 : List (Nat × Pev.CSpec) := [(38, sp18), (65, sp35)]
theorem s15 : SpecsOk Tryz.prog (tabsT L15) := oneSpecTT (oneSpecTT noSpecsT ok35) (liftT (tree ok18))
def sp15 : Pev.CSpec := ⟨fun
  | [.ag [.int .i64 k, .int .i64 i, .str s, .bool b]] => .br (inI i) (.br (ckB k i s b) (.ret (.tup [.str ⟨#[]⟩, agE (ckB k i s b) [] (ckN k i s b)])) (.ret (.tup [.str (textS k i s b), agE false [] 0]))) .fail
  | _ => .fail⟩
theorem inI_wf {i : Int} (h : (Lit.int .i64 i).wf = true) : inI i = true := by
  have h' : (decide (IntKind.i64.min ≤ i) && decide (i ≤ IntKind.i64.max)) = true := h
  rw [Bool.and_eq_true, decide_eq_true_eq, decide_eq_true_eq] at h'
  have h1 : IntKind.i64.min = -9223372036854775808 := by kernel_rfl
  have h2 : IntKind.i64.max = 9223372036854775807 := by kernel_rfl
  exact decide_eq_true ⟨h1 ▸ h'.1, h2 ▸ h'.2⟩
end Go.Proofs.YtkkgimhjjhhkjaaGreatDoor
/- Faults, digits and escapes of layer 2. -/
namespace Go.Proofs.YtkkgimhjjhhkjaaGreatDoor
open Go Go.Pev

def atE (k a : Int) (e : Err) : Err := match e with | none => none | some x => some ((k, a) :: x.1, x.2)
def sp46 : Pev.CSpec := ⟨fun | [.int .i64 k, .int .i64 a, .err e] => .ret (.err (atE k a e)) | _ => .fail⟩
theorem ok46 : EnterOk Tryz.prog 35 ∧ CSpecOk Tryz.prog cfg 35 sp46 := ⟨enter Tryz.func35 (by kernel_rfl) (by kernel_rfl), by
  intro args res h
  unfold sp46 at h
  simp only at h
  split at h <;> try (cases h; done)
  rename_i k a e
  obtain rfl := Option.some.inj h
  match e with
  | none => exact done noSpecs (A := A0) rfl (by kernel_rfl) (by kernel_rfl)
  | some (ps, n) => exact done noSpecs (A := A0) rfl (by kernel_rfl) (by kernel_rfl)⟩
def badE (a : Int) : Err := some ([(1, a)], 4)
def sp26 : Pev.CSpec := ⟨fun | [.int .i64 a] => .ret (.err (badE a)) | _ => .fail⟩
theorem ok26 : EnterOk Tryz.prog 68 ∧ CSpecOk Tryz.prog cfg 68 sp26 := ⟨enter Tryz.func68 (by kernel_rfl) (by kernel_rfl), by
  intro args res h
  unfold sp26 at h
  simp only at h
  split at h <;> try (cases h; done)
  obtain rfl := Option.some.inj h
  exact done (specs := [(35, sp46)]) (oneSpecT noSpecs ok46) (A := A0) rfl (by kernel_rfl) (by kernel_rfl)⟩
def sp21 : Pev.CSpec := ⟨fun
  | [.int .i64 k, .int .i64 a, .ag [.bool true, .sl (.pair (.int .i64) (.int .i64)) [], .int .i64 n]] => .ret (agE true [(k, a)] n)
  | _ => .fail⟩
theorem ok21 : EnterOk Tryz.prog 37 ∧ CSpecOk Tryz.prog cfg 37 sp21 := ⟨enter Tryz.func37 (by kernel_rfl) (by kernel_rfl), by
  intro args res h
  unfold sp21 at h
  simp only at h
  split at h <;> try (cases h; done)
  obtain rfl := Option.some.inj h
  exact done noSpecs (A := A0) rfl (by kernel_rfl) (by kernel_rfl)⟩
abbrev zeroV : AV := .ag [.int .i64 0, .int .i64 0, .str ⟨#[]⟩, .bool false]
def sp38 : Pev.CSpec := ⟨fun | [.int .i64 a] => .ret (.tup [zeroV, agE true [(1, a)] 4]) | _ => .fail⟩
theorem ok38 : EnterOk Tryz.prog 75 ∧ CSpecOk Tryz.prog cfg 75 sp38 := ⟨enter Tryz.func75 (by kernel_rfl) (by kernel_rfl), by
  intro args res h
  unfold sp38 at h
  simp only at h
  split at h <;> try (cases h; done)
  obtain rfl := Option.some.inj h
  exact done (specs := [(37, sp21), (28, sp22)]) (oneSpecT (oneSpecT noSpecs (tree ok22)) ok21) (A := A0) rfl (by kernel_rfl) (by kernel_rfl)⟩

/-- What a digit counts. -/
def digZ (c : Int) : Int := cond (decide (c ≥ 48)) (cond (decide (c ≤ 57)) (IntKind.i64.wrap (IntKind.u8.wrap (c - 48))) (cond (decide (c ≥ 97)) (cond (decide (c ≤ 102)) (IntKind.i64.wrap (IntKind.i64.wrap (IntKind.u8.wrap (c - 97)) + 10)) (-1)) (-1)))
  (cond (decide (c ≥ 97)) (cond (decide (c ≤ 102)) (IntKind.i64.wrap (IntKind.i64.wrap (IntKind.u8.wrap (c - 97)) + 10)) (-1)) (-1))
def sp60 : Pev.CSpec := ⟨fun | [.int .u8 c] => .ret (.int .i64 (digZ c)) | _ => .fail⟩
theorem ok60 : EnterOk Tryz.prog 108 ∧ CSpecOk Tryz.prog cfg 108 sp60 := ⟨enter Tryz.func108 (by kernel_rfl) (by kernel_rfl), by
  intro args res h
  unfold sp60 at h
  simp only at h
  split at h <;> try (cases h; done)
  rename_i c
  obtain rfl := Option.some.inj h
  refine done noSpecs (A := A0) rfl (by kernel_rfl) ?_
  rw [show evalF Tryz.prog (tabs 0 []) A0 108 [.int .u8 c] = (cond (decide (c ≥ 48)) 
 (cond (decide (c ≤ 57)) (some (.int .i64 (IntKind.i64.wrap (IntKind.u8.wrap (c - 48))))) 
  (cond (decide (c ≥ 97)) 
   (cond (decide (c ≤ 102)) (some (.int .i64 (IntKind.i64.wrap (IntKind.i64.wrap (IntKind.u8.wrap (c - 97)) + 10)))) (some (.int .i64 (-1)))) (some (.int .i64 (-1))))) 
 (cond (decide (c ≥ 97)) 
  (cond (decide (c ≤ 102)) (some (.int .i64 (IntKind.i64.wrap (IntKind.i64.wrap (IntKind.u8.wrap (c - 97)) + 10)))) (some (.int .i64 (-1)))) (some (.int .i64 (-1))))) by kernel_rfl]
  simp only [cond_some, cond_int]; rfl⟩
def hexZ (c : Int) : Int := (List.range 16).foldr (fun k r => cond ((((hexS.data.toList.getD k 0).toNat : Int)) == c) (k : Int) r) (-1)
def A53 : Anns := ⟨[(2, [.keep [0, 2, 3] []])], [], 1000⟩
def hexT (c : Int) : Option AV := (List.range 16).foldr (fun k r => cond ((((hexS.data.toList.getD k 0).toNat : Int)) == c) (some (.int .i64 (k : Int))) r) (some (.int .i64 (-1)))
theorem hexT_is (c : Int) : hexT c = some (.int .i64 (hexZ c)) := by
  unfold hexT hexZ
  induction List.range 16 with
  | nil => rfl
  | cons k l ih => simp only [List.foldr_cons, ih, cond_some, cond_int]
def digOk (n : Nat) : Bool := digZ n == hexZ n
theorem digTab : (List.range 256).all digOk = true := by kernel_rfl
theorem hex_dig (c : UInt8) : hexZ (c.toNat : Int) = digZ (c.toNat : Int) := by
  have h := List.all_eq_true.1 digTab c.toNat (List.mem_range.2 c.toNat_lt)
  exact (eq_of_beq h).symm
def sp53 : Pev.CSpec := ⟨fun | [.int .u8 c] => .ret (.int .i64 (hexZ c)) | _ => .fail⟩
theorem ok53 : EnterOk Tryz.prog 95 ∧ CSpecOk Tryz.prog cfg 95 sp53 := ⟨enter Tryz.func95 (by kernel_rfl) (by kernel_rfl), by
  intro args res h
  unfold sp53 at h
  simp only at h
  split at h <;> try (cases h; done)
  rename_i c
  obtain rfl := Option.some.inj h
  exact done noSpecs (A := A53) rfl (by kernel_rfl) ((show evalF Tryz.prog (tabs 0 []) A53 95 [.int .u8 c] = hexT c by kernel_rfl).trans (hexT_is c))⟩
end Go.Proofs.YtkkgimhjjhhkjaaGreatDoor
/- value.escape. -/
namespace Go.Proofs.YtkkgimhjjhhkjaaGreatDoor
open Go Go.Pev

/-- A string's byte; what it counts as a digit. -/
abbrev by' (s : ByteArray) (i : Nat) : Int := ((s.data.toList.getD i 0).toNat : Int)
abbrev dg (s : ByteArray) (i : Nat) : Int := digZ (by' s i)
theorem dig_lt (c : UInt8) : -1 ≤ digZ (c.toNat : Int) ∧ digZ (c.toNat : Int) ≤ 15 := by
  have h := List.all_eq_true.1 (show (List.range 256).all (fun n => decide (-1 ≤ digZ (n : Int)) && decide (digZ (n : Int) ≤ 15)) = true by kernel_rfl) c.toNat (List.mem_range.2 c.toNat_lt)
  simp only [Bool.and_eq_true, decide_eq_true_eq] at h
  exact h
/-- What stands behind a backslash at a: a fault's place, or a byte and the place behind it. -/
def escT {α : Type} (br : Bool → α → α → α) (s : ByteArray) (a : Nat) (bad : Nat → α) (ok : Int → Nat → α) : α :=
  br (decide (a = s.size)) (bad a) (br (by' s a == 34) (ok (by' s a) (a + 1)) (br (by' s a == 92) (ok (by' s a) (a + 1)) (br (by' s a == 120)
    (br (decide (s.size ≤ a + 1)) (bad s.size) (br (decide (dg s (a + 1) < 0)) (bad (a + 1)) (br (decide (s.size ≤ a + 2)) (bad s.size) (br (decide (dg s (a + 2) < 0)) (bad (a + 2))
      (br (decide (dg s (a + 1) * 16 + dg s (a + 2) ≥ 32)) (br (decide (dg s (a + 1) * 16 + dg s (a + 2) ≤ 126)) (bad (a + 2)) (ok (IntKind.u8.wrap (dg s (a + 1) * 16 + dg s (a + 2))) (a + 3))) (ok (IntKind.u8.wrap (dg s (a + 1) * 16 + dg s (a + 2))) (a + 3))))))) (bad a))))

def L48 : List (Nat × Pev.CSpec) := [(68, sp26), (108, sp60)]
theorem s48 : SpecsOk Tryz.prog (tabs 0 L48) := oneSpecT (oneSpecT noSpecs ok60) ok26
def E48 (s : ByteArray) (a n i : Int) : Env := ⟨[(0, .str s), (1, .int .i64 a), (4, .int .u8 0), (5, .int .i64 0), (6, .err none), (7, .int .i64 n), (8, .int .i64 i)], []⟩
def X48 (s : ByteArray) (a : Int) (e : Err) (n : Int) : Env := ⟨[(0, .str s), (1, .int .i64 a), (4, .int .u8 0), (5, .int .i64 0), (6, .err e), (7, .int .i64 n)], []⟩
def o48 : Orc := fun E k => match E with
  | ⟨[(0, .str s), (1, .int .i64 a), (4, .int .u8 0), (5, .int .i64 0), (6, .err none), (7, .int .i64 0), (8, .int .i64 i)], []⟩ =>
    cond (decide (i = a + 1 ∧ 0 ≤ a ∧ a ≤ 8000 ∧ s.size ≤ 8000)) (cond (decide (s.size ≤ a.toNat + 1)) (k .ret (X48 s a (badE s.size) 0)) (cond (decide (dg s (a.toNat + 1) < 0)) (k .ret (X48 s a (badE (a + 1)) 0))
      (cond (decide (s.size ≤ a.toNat + 2)) (k .ret (X48 s a (badE s.size) (dg s (a.toNat + 1)))) (cond (decide (dg s (a.toNat + 2) < 0)) (k .ret (X48 s a (badE (a + 2)) (dg s (a.toNat + 1)))) (k (.exit 1) (X48 s a none (dg s (a.toNat + 1) * 16 + dg s (a.toNat + 2)))))))) none
  | _ => none
def A48 : Anns := ⟨[(11, [.keep [0, 1, 4, 5, 6, 7, 8] []]), (100011, [.keep [0, 1, 4, 5, 6, 7] []])], [(11, o48)], 1000⟩
noncomputable def loop48 : Code := match loopsF Tryz.prog 94 with | c :: _ => c | [] => .skip
noncomputable abbrev L48' (m : Nat) (E : Env) (k : Exit → Env → Pev.R) : Pev.R := loopE (prep (tabs 0 L48) (annOf A48 loop48)) (evalC Tryz.prog (tabs 0 L48) A48 loop48) m E (outK (tabs 0 L48) A48 loop48 k)
def minI (i n : Int) : Int := cond (decide (n < i)) n i
theorem step48 (s : ByteArray) (a n i : Int) (m : Nat) (k : Exit → Env → Pev.R) :
    L48' (m + 1) (E48 s a n i) k = cond (decide (i < IntKind.i64.wrap (a + 3))) (cond (decide (i ≥ (s.size : Int))) (k .ret (X48 s a (badE (minI i s.size)) n))
      (cond (decide (0 ≤ i)) (cond (decide (i < (s.size : Int))) (cond (decide (dg s i.toNat < 0)) (k .ret (X48 s a (badE (minI i s.size)) n)) (cond (decide (0 ≤ i)) (cond (decide (i < (s.size : Int)))
        (L48' m (E48 s a (IntKind.i64.wrap (IntKind.i64.wrap (n * 2 ^ min 4 IntKind.i64.bits) + dg s i.toNat)) (IntKind.i64.wrap (i + 1))) k) none) none)) none) none)) (k (.exit 1) (X48 s a none n)) := by kernel_rfl
theorem round48 (s : ByteArray) (a n : Int) (i : Nat) (m : Nat) (k : Exit → Env → Pev.R) (ha : 0 ≤ a ∧ a ≤ 8000) (hi : (i : Int) < a + 3) (_ : s.size ≤ 8000) (hn : 0 ≤ n ∧ n ≤ 15) :
    L48' (m + 1) (E48 s a n i) k = cond (decide (s.size ≤ i)) (k .ret (X48 s a (badE s.size) n)) (cond (decide (dg s i < 0)) (k .ret (X48 s a (badE i) n)) (L48' m (E48 s a (n * 16 + dg s i) ((i + 1 : Nat) : Int)) k)) := by
  have hd : -1 ≤ dg s i ∧ dg s i ≤ 15 := dig_lt (s.data.toList.getD i 0)
  rw [step48, i64w (a + 3) (by omega) (by omega), show decide ((i : Int) < a + 3) = true from decide_eq_true hi, cond_true]
  by_cases h : s.size ≤ i
  · rw [show decide ((i : Int) ≥ (s.size : Int)) = true from decide_eq_true (by omega), show decide (s.size ≤ i) = true from decide_eq_true h, cond_true, cond_true]
    have : minI (i : Int) (s.size : Int) = (s.size : Int) := by
      unfold minI
      by_cases h' : s.size < i
      · rw [show decide ((s.size : Int) < (i : Int)) = true from decide_eq_true (by omega)]; rfl
      · rw [show decide ((s.size : Int) < (i : Int)) = false from decide_eq_false (by omega)]; show (i : Int) = _; omega
    rw [this]
  · rw [show decide ((i : Int) ≥ (s.size : Int)) = false from decide_eq_false (by omega), show decide (s.size ≤ i) = false from decide_eq_false h, show decide (0 ≤ (i : Int)) = true from decide_eq_true (by omega), show decide ((i : Int) < (s.size : Int)) = true from decide_eq_true (by omega)]
    simp only [cond_true, cond_false, Int.toNat_natCast]
    rw [show minI (i : Int) (s.size : Int) = (i : Int) by unfold minI; rw [show decide ((s.size : Int) < (i : Int)) = false from decide_eq_false (by omega)]; rfl]
    rw [show n * 2 ^ min 4 IntKind.i64.bits = n * 16 from rfl, i64w (n * 16) (by omega) (by omega), i64w (n * 16 + _) (by omega) (by omega), i64w ((i : Int) + 1) (by omega) (by omega)]
    rfl
theorem last48 (s : ByteArray) (a n : Int) (m : Nat) (k : Exit → Env → Pev.R) (ha : 0 ≤ a ∧ a ≤ 8000) : L48' (m + 1) (E48 s a n (a + 3)) k = k (.exit 1) (X48 s a none n) := by
  rw [step48, i64w (a + 3) (by omega) (by omega), show decide (a + 3 < a + 3) = false from decide_eq_false (by omega), cond_false]
theorem orc48 : OrcOk Tryz.prog (tabs 0 L48) A48 loop48 := by
  intro o ho E k r h
  obtain rfl := orcIs (show orcOf A48 loop48 = some o48 by kernel_rfl) ho
  unfold o48 at h
  split at h
  · rename_i s a i
    cases hd : decide (i = a + 1 ∧ 0 ≤ a ∧ a ≤ 8000 ∧ s.size ≤ 8000) with
    | false => rw [hd] at h; cases h
    | true =>
      rw [hd] at h
      obtain ⟨rfl, h1, h2, h3⟩ := of_decide_eq_true hd
      refine ⟨3, ?_⟩
      rw [← h]
      have e1 : a + 1 = ((a.toNat + 1 : Nat) : Int) := by omega
      have e2 : a + 2 = ((a.toNat + 2 : Nat) : Int) := by omega
      have d1 := dig_lt (s.data.toList.getD (a.toNat + 1) 0)
      show L48' 3 (E48 s a 0 (a + 1)) k = _
      rw [e1, round48 s a 0 (a.toNat + 1) 2 k ⟨h1, h2⟩ (by omega) h3 (by omega)]
      simp only [cond_true]
      cases decide (s.size ≤ a.toNat + 1) with
      | true => simp only [cond_true]
      | false =>
        cases hg : decide (dg s (a.toNat + 1) < 0) with
        | true => simp only [cond_true]
        | false =>
          have hg' := of_decide_eq_false hg
          simp only [cond_false]
          rw [Int.zero_mul, Int.zero_add, show a.toNat + 1 + 1 = a.toNat + 2 from rfl, round48 s a (dg s (a.toNat + 1)) (a.toNat + 2) 1 k ⟨h1, h2⟩ (by omega) h3 (by show 0 ≤ dg s (a.toNat + 1) ∧ dg s (a.toNat + 1) ≤ 15; exact ⟨by omega, d1.2⟩), ← e2]
          cases decide (s.size ≤ a.toNat + 2) with
          | true => simp only [cond_true]
          | false =>
            cases decide (dg s (a.toNat + 2) < 0) with
            | true => simp only [cond_true]
            | false =>
              simp only [cond_false]
              rw [show ((a.toNat + 2 + 1 : Nat) : Int) = a + 3 by omega, last48 s a _ 0 k ⟨h1, h2⟩]
  · cases h
def sp48 : Pev.CSpec := ⟨fun
  | [.str s, .int .i64 a] => .br (decide (0 ≤ a ∧ a ≤ s.size ∧ s.size ≤ 8000)) (escT Tree.br s a.toNat (fun p => Tree.ret (.tup [.int .u8 0, .int .i64 0, .err (badE p)])) (fun c n => Tree.ret (.tup [.int .u8 c, .int .i64 n, .err none]))) .fail
  | _ => .fail⟩
theorem escT_get (s : ByteArray) (a : Nat) (bad : Nat → Tree) (ok : Int → Nat → Tree) : (escT Tree.br s a bad ok).get = escT cond s a (fun p => (bad p).get) (fun c n => (ok c n).get) := rfl
theorem ok48 : EnterOk Tryz.prog 94 ∧ CSpecOk Tryz.prog cfg 94 sp48 := ⟨enter Tryz.func94 (by kernel_rfl) (by kernel_rfl), by
  intro args res h
  unfold sp48 at h
  simp only at h
  split at h <;> try (cases h; done)
  rename_i s a
  cases hd : decide (0 ≤ a ∧ a ≤ s.size ∧ s.size ≤ 8000) with
  | false => rw [hd] at h; cases h
  | true =>
    rw [hd] at h
    obtain ⟨h1, h2, h3⟩ := of_decide_eq_true hd
    replace h : (escT Tree.br s a.toNat (fun p => Tree.ret (.tup [.int .u8 0, .int .i64 0, .err (badE p)])) (fun c n => Tree.ret (.tup [.int .u8 c, .int .i64 n, .err none]))).get = some res := h
    rw [escT_get] at h
    refine done1 s48 (A := A48) (c := loop48) (by kernel_rfl) orc48 (by kernel_rfl) ?_
    rw [← h]
    obtain ⟨n, rfl⟩ := Int.eq_ofNat_of_zero_le h1
    let ok (c n : Int) : Option AV := some (.tup [.int .u8 c, .int .i64 n, .err none])
    let bad (p : Int) : Option AV := some (.tup [.int .u8 0, .int .i64 0, .err (badE p)])
    let i : Int := IntKind.i64.wrap ((n : Int) + 1)
    let a : Int := (n : Int)
    let x : Option AV := cond (decide (i = a + 1 ∧ 0 ≤ a ∧ a ≤ 8000 ∧ s.size ≤ 8000)) (cond (decide (s.size ≤ a.toNat + 1)) (bad s.size) (cond (decide (dg s (a.toNat + 1) < 0)) (bad (a + 1))
      (cond (decide (s.size ≤ a.toNat + 2)) (bad s.size) (cond (decide (dg s (a.toNat + 2) < 0)) (bad (a + 2))
        (cond (decide (dg s (a.toNat + 1) * 16 + dg s (a.toNat + 2) ≥ 32)) (cond (decide (dg s (a.toNat + 1) * 16 + dg s (a.toNat + 2) ≤ 126)) (bad (IntKind.i64.wrap (a + 2))) (ok (IntKind.u8.wrap (dg s (a.toNat + 1) * 16 + dg s (a.toNat + 2))) (IntKind.i64.wrap (a + 3)))) (ok (IntKind.u8.wrap (dg s (a.toNat + 1) * 16 + dg s (a.toNat + 2))) (IntKind.i64.wrap (a + 3)))))))) none
    rw [show evalF Tryz.prog (tabs 0 L48) A48 94 [.str s, .int .i64 (n : Int)] = cond (a == (s.size : Int)) (bad a) (cond (decide (0 ≤ a)) (cond (decide (a < (s.size : Int)))
      (cond (by' s a.toNat == 34) (cond (by' s a.toNat == 34) (cond (decide (0 ≤ a)) (cond (decide (a < (s.size : Int))) (ok (by' s a.toNat) i) none) none) (cond (by' s a.toNat == 120) x (bad a)))
        (cond (by' s a.toNat == 92) (cond (decide (0 ≤ a)) (cond (decide (a < (s.size : Int))) (ok (by' s a.toNat) i) none) none) (cond (by' s a.toNat == 120) x (bad a)))) none) none) by kernel_rfl]
    have c1 : i = (n : Int) + 1 := i64w _ (by omega) (by omega)
    have c2 : IntKind.i64.wrap (a + 2) = (n : Int) + 2 := i64w _ (by omega) (by omega)
    have c3 : IntKind.i64.wrap (a + 3) = (n : Int) + 3 := i64w _ (by omega) (by omega)
    have e : a.toNat = n := Int.toNat_natCast n
    have hx : x = cond (decide (s.size ≤ n + 1)) (bad s.size) (cond (decide (dg s (n + 1) < 0)) (bad ((n : Int) + 1))
      (cond (decide (s.size ≤ n + 2)) (bad s.size) (cond (decide (dg s (n + 2) < 0)) (bad ((n : Int) + 2))
        (cond (decide (dg s (n + 1) * 16 + dg s (n + 2) ≥ 32)) (cond (decide (dg s (n + 1) * 16 + dg s (n + 2) ≤ 126)) (bad ((n : Int) + 2)) (ok (IntKind.u8.wrap (dg s (n + 1) * 16 + dg s (n + 2))) ((n : Int) + 3))) (ok (IntKind.u8.wrap (dg s (n + 1) * 16 + dg s (n + 2))) ((n : Int) + 3)))))) := by
      show cond (decide (i = a + 1 ∧ 0 ≤ a ∧ a ≤ 8000 ∧ s.size ≤ 8000)) _ none = _
      rw [show decide (i = a + 1 ∧ 0 ≤ a ∧ a ≤ 8000 ∧ s.size ≤ 8000) = true from decide_eq_true ⟨c1, h1, by omega, h3⟩, cond_true, c2, c3, e]
    rw [hx, c1, e]
    unfold escT
    by_cases hE : n = s.size
    · rw [show (a == (s.size : Int)) = true by simp [a, hE], show decide (n = s.size) = true from decide_eq_true hE]
      rfl
    · rw [show (a == (s.size : Int)) = false by simp [a]; omega, show decide (n = s.size) = false from decide_eq_false hE, show decide (0 ≤ a) = true from decide_eq_true h1, show decide (a < (s.size : Int)) = true from decide_eq_true (by omega)]
      simp only [cond_true, cond_false, Int.toNat_natCast]
      cases by' s n == 34 <;> cases by' s n == 92 <;> cases by' s n == 120 <;> rfl⟩
end Go.Proofs.YtkkgimhjjhhkjaaGreatDoor
/- value.str: a string's text is read. -/
namespace Go.Proofs.YtkkgimhjjhhkjaaGreatDoor
open Go Go.Pev

/-- What comes of reading a string's text: its end, a fault's place, too long, bytes. -/
inductive SRd where
  | fin
  | bad (p : Nat)
  | long
  | ok (b : List Int)
def SRd.isFin : SRd → Bool | .fin => true | _ => false
def SRd.isBad : SRd → Bool | .bad _ => true | _ => false
def SRd.isLong : SRd → Bool | .long => true | _ => false
def SRd.pos : SRd → Nat | .bad p => p | _ => 0
def SRd.bytes : SRd → List Int | .ok b => b | _ => []
def strR (s : ByteArray) : Nat → Nat → List Int → SRd
  | 0, _, _ => .fin
  | f + 1, a, b => cond (decide (a < s.size)) (cond (by' s a == 34) (cond (decide (a + 1 < s.size)) (.bad (a + 1)) (cond (decide (b.length > 1000)) .long (.ok b)))
    (cond (decide (by' s a < 32)) (.bad a) (cond (decide (by' s a > 126)) (.bad a) (cond (by' s a == 92) (escT cond s (a + 1) .bad (fun c n => strR s f n (b ++ [c]))) (strR s f (a + 1) (b ++ [by' s a])))))) .fin
theorem escT_map {α β : Type} (g : α → β) (s : ByteArray) (a : Nat) (bad : Nat → α) (ok : Int → Nat → α) : g (escT cond s a bad ok) = escT cond s a (fun p => g (bad p)) (fun c n => g (ok c n)) := by
  unfold escT
  cases decide (a = s.size) <;> cases by' s a == 34 <;> cases by' s a == 92 <;> cases by' s a == 120 <;> cases decide (s.size ≤ a + 1) <;> cases decide (dg s (a + 1) < 0) <;> try rfl
  cases decide (s.size ≤ a + 2) <;> cases decide (dg s (a + 2) < 0) <;> cases decide (dg s (a + 1) * 16 + dg s (a + 2) ≥ 32) <;> cases decide (dg s (a + 1) * 16 + dg s (a + 2) ≤ 126) <;> rfl
theorem escT_congr {α : Type} (s : ByteArray) (a : Nat) {bad bad' : Nat → α} {ok ok' : Int → Nat → α} (h : ∀ p, bad p = bad' p) (h1 : ∀ c, ok c (a + 1) = ok' c (a + 1)) (h3 : ∀ c, ok c (a + 3) = ok' c (a + 3)) : escT cond s a bad ok = escT cond s a bad' ok' := by
  unfold escT
  simp only [h, h1, h3]

def L28 : List (Nat × Pev.CSpec) := [(68, sp26), (94, sp48)]
theorem s28 : SpecsOk Tryz.prog (tabs 0 L28) := oneSpecT (oneSpecT noSpecs ok48) ok26
abbrev zl (z : V) : List AV := [.int .i64 z.1, .int .i64 z.2.1, .str z.2.2.1, .bool z.2.2.2]
abbrev zeroL : List AV := [.int .i64 0, .int .i64 0, .str ⟨#[]⟩, .bool false]
def E28 (s : ByteArray) (zs : V) (b : List Int) (i : Int) : Env := ⟨[(0, .str s), (2, .ref 2 0), (3, .err none), (4, .own 900), (5, .int .i64 i)], [(2, some (.box 48 (zl zs))), (900, some (.row 5 (.int .u8) b))]⟩
def X28 (s : ByteArray) (e : Err) (v : List AV) : Env := ⟨[(0, .str s), (2, .ref 2 0), (3, .err e)], [(2, some (.box 48 v))]⟩
def fin28 (s : ByteArray) (zs : V) (k : Exit → Env → Pev.R) : SRd → Pev.R
  | .fin => k (.exit 0) (X28 s none (zl zs))
  | .bad p => k .ret (X28 s (badE p) zeroL)
  | .long => k .ret (X28 s (some ([], 2)) zeroL)
  | .ok b => k .ret (X28 s none [.int .i64 2, .int .i64 0, .str (ofU8s b), .bool false])
def o28 : Orc := fun E k => match E with
  | ⟨[(0, .str s), (2, .ref 2 0), (3, .err none), (4, .own 900), (5, .int .i64 1)], [(2, some (.box 48 [.int .i64 z1, .int .i64 z2, .str z3, .bool z4])), (900, some (.row 5 (.int .u8) []))]⟩ =>
    cond (decide (s.size ≤ 8000)) (cond (strR s (s.size + 1) 1 []).isFin (k (.exit 0) (X28 s none [.int .i64 z1, .int .i64 z2, .str z3, .bool z4])) (cond (strR s (s.size + 1) 1 []).isBad (k .ret (X28 s (badE (strR s (s.size + 1) 1 []).pos) zeroL))
      (cond (strR s (s.size + 1) 1 []).isLong (k .ret (X28 s (some ([], 2)) zeroL)) (k .ret (X28 s none [.int .i64 2, .int .i64 0, .str (ofU8s (strR s (s.size + 1) 1 []).bytes), .bool false]))))) none
  | _ => none
def A28 : Anns := ⟨[(3, [.keep [0, 2, 3, 4, 5] [2, 65, 900], .ownS 4 900 5, .keep [0, 2, 3, 4, 5] [2, 900]]), (100003, [.keep [0, 2, 3] [2]])], [(3, o28)], 1000⟩
noncomputable def loop28 : Code := match loopsF Tryz.prog 70 with | c :: _ => c | [] => .skip
noncomputable abbrev L28' (m : Nat) (E : Env) (k : Exit → Env → Pev.R) : Pev.R := loopE (prep (tabs 0 L28) (annOf A28 loop28)) (evalC Tryz.prog (tabs 0 L28) A28 loop28) m E (outK (tabs 0 L28) A28 loop28 k)
theorem step28 (s : ByteArray) (zs : V) (b : List Int) (i : Int) (m : Nat) (k : Exit → Env → Pev.R) :
    L28' (m + 1) (E28 s zs b i) k = cond (decide (i < (s.size : Int))) (cond (decide (0 ≤ i)) (cond (decide (i < (s.size : Int)))
      (cond (by' s i.toNat == 34) (cond (decide (IntKind.i64.wrap (i + 1) < (s.size : Int))) (k .ret (X28 s (badE (IntKind.i64.wrap (i + 1))) zeroL)) (cond (decide ((b.length : Int) > 1000)) (k .ret (X28 s (some ([], 2)) zeroL)) (k .ret (X28 s none [.int .i64 2, .int .i64 0, .str (ofU8s b), .bool false]))))
        (cond (decide (by' s i.toNat < 32)) (k .ret (X28 s (badE i) zeroL)) (cond (decide (by' s i.toNat > 126)) (k .ret (X28 s (badE i) zeroL)) (cond (by' s i.toNat == 92)
          (cond (decide (0 ≤ IntKind.i64.wrap (i + 1) ∧ IntKind.i64.wrap (i + 1) ≤ s.size ∧ s.size ≤ 8000)) (escT cond s (IntKind.i64.wrap (i + 1)).toNat (fun p => k .ret (X28 s (badE p) zeroL))
            (fun c n => cond (appLim 1 b.length 1) (L28' m (E28 s zs (b ++ [c]) n) k) none)) none)
          (cond (appLim 1 b.length 1) (L28' m (E28 s zs (b ++ [by' s i.toNat]) (IntKind.i64.wrap (i + 1))) k) none))))) none) none) (k (.exit 0) (X28 s none (zl zs))) := by kernel_rfl
theorem all28 (s : ByteArray) (zs : V) (hs : s.size ≤ 8000) (k : Exit → Env → Pev.R) : ∀ (f a : Nat) (b : List Int), s.size ≤ a + f → b.length ≤ a →
    L28' (f + 1) (E28 s zs b a) k = fin28 s zs k (strR s (f + 1) a b)
  | 0, a, b, h, _ => by
    rw [step28, show decide ((a : Int) < (s.size : Int)) = false from decide_eq_false (by omega), cond_false]
    simp only [strR]
    rw [show decide (a < s.size) = false from decide_eq_false (by omega)]
    rfl
  | f + 1, a, b, h, hb => by
    rw [step28]
    simp only [strR]
    by_cases ha : a < s.size
    · rw [show decide ((a : Int) < (s.size : Int)) = true from decide_eq_true (by omega), show decide (a < s.size) = true from decide_eq_true ha, show decide (0 ≤ (a : Int)) = true from decide_eq_true (by omega)]
      simp only [cond_true]
      rw [i64w ((a : Int) + 1) (by omega) (by omega), Int.toNat_natCast, show ((a : Int) + 1) = ((a + 1 : Nat) : Int) from rfl, Int.toNat_natCast]
      rw [show appLim 1 b.length 1 = true from decide_eq_true (by omega), show decide (((a + 1 : Nat) : Int) < (s.size : Int)) = decide (a + 1 < s.size) from decide_eq_decide.2 (by omega), show decide ((b.length : Int) > 1000) = decide (b.length > 1000) from decide_eq_decide.2 (by omega)]
      rw [show decide (0 ≤ ((a + 1 : Nat) : Int) ∧ ((a + 1 : Nat) : Int) ≤ (s.size : Int) ∧ s.size ≤ 8000) = true from decide_eq_true (by omega)]
      simp only [cond_true]
      cases by' s a == 34 with
      | true =>
        simp only [cond_true]
        cases decide (a + 1 < s.size) with
        | true => simp only [cond_true, fin28]
        | false => cases decide (b.length > 1000) <;> simp only [cond_true, cond_false, fin28]
      | false =>
        simp only [cond_false]
        cases decide (by' s a < 32) with
        | true => simp only [cond_true, fin28]
        | false =>
          cases decide (by' s a > 126) with
          | true => simp only [cond_true, cond_false, fin28]
          | false =>
            cases by' s a == 92 with
            | true =>
              simp only [cond_true, cond_false]
              rw [escT_map (fin28 s zs k)]
              refine escT_congr s (a + 1) (fun p => rfl) (fun c => ?_) (fun c => ?_)
              · exact all28 s zs hs k f (a + 1 + 1) (b ++ [c]) (by omega) (by simp; omega)
              · exact all28 s zs hs k f (a + 1 + 3) (b ++ [c]) (by omega) (by simp; omega)
            | false =>
              simp only [cond_false]
              exact all28 s zs hs k f (a + 1) (b ++ [by' s a]) (by omega) (by simp; omega)
    · rw [show decide ((a : Int) < (s.size : Int)) = false from decide_eq_false (by omega), show decide (a < s.size) = false from decide_eq_false ha]
      rfl
theorem orc28 : OrcOk Tryz.prog (tabs 0 L28) A28 loop28 := by
  intro o ho E k r h
  obtain rfl := orcIs (show orcOf A28 loop28 = some o28 by kernel_rfl) ho
  unfold o28 at h
  split at h
  · rename_i s z1 z2 z3 z4
    cases hd : decide (s.size ≤ 8000) with
    | false => rw [hd] at h; cases h
    | true =>
      rw [hd] at h
      refine ⟨s.size + 1, (all28 s (z1, z2, z3, z4) (of_decide_eq_true hd) k s.size 1 [] (by omega) (by simp)).trans ?_⟩
      rw [← h]
      cases strR s (s.size + 1) 1 [] <;> rfl
  · cases h
/-- What reading a string's text answers. -/
def strT (r : SRd) (n : Nat) : Tree := .br r.isFin (.ret (.tup [zeroV, .err (badE n)])) (.br r.isBad (.ret (.tup [zeroV, .err (badE r.pos)])) (.br r.isLong (.ret (.tup [zeroV, .err (some ([], 2))])) (.ret (.tup [.ag [.int .i64 2, .int .i64 0, .str (ofU8s r.bytes), .bool false], .err none]))))
def sp28 : Pev.CSpec := ⟨fun | [.str s] => .br (decide (s.size ≤ 8000)) (strT (strR s (s.size + 1) 1 []) s.size) .fail | _ => .fail⟩
theorem ok28 : EnterOk Tryz.prog 70 ∧ CSpecOk Tryz.prog cfg 70 sp28 := ⟨enter Tryz.func70 (by kernel_rfl) (by kernel_rfl), by
  intro args res h
  unfold sp28 at h
  simp only at h
  split at h <;> try (cases h; done)
  rename_i s
  refine done1 s28 (A := A28) (c := loop28) (by kernel_rfl) orc28 (by kernel_rfl) ?_
  rw [← h]
  kernel_rfl⟩
end Go.Proofs.YtkkgimhjjhhkjaaGreatDoor
