/- value.Compare, and what 'awake' asks at its own inputs. -/
import Derived.Test.YtciajnknnoecaaaDoorB
namespace Go.Proofs.YtciajnknnoecaaaDoor
open Go Go.Pev

def cmpE (k i : Int) (s : ByteArray) (b : Bool) (k' i' : Int) (s' : ByteArray) (b' : Bool) : Err :=
  cond (!(first2 (checkV k i s b) (checkV k' i' s' b')).isNone) (first2 (checkV k i s b) (checkV k' i' s' b')) (cond (k != k') (some ([], 5)) none)
def cmpN (k i : Int) (s : ByteArray) (b : Bool) (k' i' : Int) (s' : ByteArray) (b' : Bool) : Int :=
  cond (!(first2 (checkV k i s b) (checkV k' i' s' b')).isNone) 0 (cond (k != k') 0 (or3 (cmpI i i') (cmpS s s') (IntKind.i64.wrap (cond b 1 0 - cond b' 1 0))))
def sp14 : Pev.Spec := fun
  | [.ag [.int .i64 k, .int .i64 i, .str s, .bool b], .ag [.int .i64 k', .int .i64 i', .str s', .bool b']] => some (.tup [.int .i64 (cmpN k i s b k' i' s' b'), .err (cmpE k i s b k' i' s' b')])
  | _ => none
theorem t14 (k i : Int) (s : ByteArray) (b : Bool) (k' i' : Int) (s' : ByteArray) (b' : Bool) :
    evalF Tryd.prog (tabs 0 L14) A0 14 [.ag [.int .i64 k, .int .i64 i, .str s, .bool b], .ag [.int .i64 k', .int .i64 i', .str s', .bool b']] = some (.tup [.int .i64 (cmpN k i s b k' i' s' b'), .err (cmpE k i s b k' i' s' b')]) := by
  rw [show evalF Tryd.prog (tabs 0 L14) A0 14 [.ag [.int .i64 k, .int .i64 i, .str s, .bool b], .ag [.int .i64 k', .int .i64 i', .str s', .bool b']] =
    cond (!(first2 (checkV k i s b) (checkV k' i' s' b')).isNone) (some (.tup [.int .i64 0, .err (first2 (checkV k i s b) (checkV k' i' s' b'))]))
      (cond (k != k') (some (.tup [.int .i64 0, .err (some ([], 5))])) (some (.tup [.int .i64 (or3 (cmpI i i') (cmpS s s') (IntKind.i64.wrap (cond b 1 0 - cond b' 1 0))), .err none]))) by kernel_rfl]
  unfold cmpN cmpE
  cases (first2 (checkV k i s b) (checkV k' i' s' b')).isNone <;> cases (k != k') <;> rfl
theorem ok14 : EnterOk Tryd.prog 14 ∧ SpecOk Tryd.prog cfg 14 sp14 := ⟨enter Tryd.func14 (by kernel_rfl) (by kernel_rfl), by
  intro args res h
  unfold sp14 at h
  split at h <;> try (cases h; done)
  obtain rfl := Option.some.inj h
  exact done s14 rfl (by kernel_rfl) (t14 _ _ _ _ _ _ _ _)⟩

/-! ### at awake's inputs -/

theorem same (s : ByteArray) (l : List UInt8) (h : (s.data.toList == l) = true) : s = ⟨l.toArray⟩ := by
  have : s.data.toList = l := by simpa using h
  subst this
  rfl

def A24 : Anns := ⟨[(3, [.keep [0, 3, 8, 9] [6, 18, 29, 45, 900], .ownS 3 900 5, .keep [0, 3, 8, 9] [900]])], [], 1000⟩
def sp24c : Pev.Spec := fun | [.str s] => (match s.data.toList == [97, 34, 10] with | true => some (.str ⟨#[34, 97, 92, 34, 92, 120, 48, 97, 34]⟩) | false => none) | _ => none
theorem ok24c : EnterOk Tryd.prog 24 ∧ SpecOk Tryd.prog cfg 24 sp24c := ⟨enter Tryd.func24 (by kernel_rfl) (by kernel_rfl), by
  intro args res h
  unfold sp24c at h
  split at h <;> try (cases h; done)
  split at h <;> try (cases h; done)
  rename_i s _ hs
  obtain rfl := same s _ hs
  obtain rfl := Option.some.inj h
  exact done (A := A24) noSpecs rfl (by kernel_rfl) (by kernel_rfl)⟩

def sp11c : Pev.Spec := fun | [.ag [.int .i64 2, .int .i64 0, .str s, .bool false]] => (match s.data.toList == [97, 34, 10] with | true => some (.tup [.str ⟨#[34, 97, 92, 34, 92, 120, 48, 97, 34]⟩, .err none]) | false => none) | _ => none
def L11c : List (Nat × Pev.CSpec) := [(17, sp17), (24, sp24c)]
theorem ok11c : EnterOk Tryd.prog 11 ∧ SpecOk Tryd.prog cfg 11 sp11c := ⟨enter Tryd.func11 (by kernel_rfl) (by kernel_rfl), by
  intro args res h
  unfold sp11c at h
  split at h <;> try (cases h; done)
  split at h <;> try (cases h; done)
  rename_i s _ hs
  obtain rfl := same s _ hs
  obtain rfl := Option.some.inj h
  exact done (specs := L11c) (oneSpec (oneSpec noSpecs ok24c) ok17) (A := A0) rfl (by kernel_rfl) (by kernel_rfl)⟩

def sp70c : Pev.Spec := fun | [.str s, .int .i64 10, .int .i64 64] => (match s.data.toList == [53] with | true => some (.tup [.int .u64 5, .err none]) | false => none) | _ => none
theorem ok70c : EnterOk Tryd.prog 70 ∧ SpecOk Tryd.prog cfg 70 sp70c := ⟨enter Tryd.func70 (by kernel_rfl) (by kernel_rfl), by
  intro args res h
  unfold sp70c at h
  split at h <;> try (cases h; done)
  split at h <;> try (cases h; done)
  rename_i s _ hs
  obtain rfl := same s _ hs
  obtain rfl := Option.some.inj h
  exact done (A := A0) noSpecs rfl (by kernel_rfl) (by kernel_rfl)⟩
def sp58c : Pev.Spec := fun | [.str s, .int .i64 10, .int .i64 64] => (match s.data.toList == [45, 53] with | true => some (.tup [.int .i64 (-5), .err none]) | false => none) | _ => none
def L58c : List (Nat × Pev.CSpec) := [(70, sp70c)]
theorem ok58c : EnterOk Tryd.prog 58 ∧ SpecOk Tryd.prog cfg 58 sp58c := ⟨enter Tryd.func58 (by kernel_rfl) (by kernel_rfl), by
  intro args res h
  unfold sp58c at h
  split at h <;> try (cases h; done)
  split at h <;> try (cases h; done)
  rename_i s _ hs
  obtain rfl := same s _ hs
  obtain rfl := Option.some.inj h
  exact done (specs := L58c) (oneSpec noSpecs ok70c) (A := A0) rfl (by kernel_rfl) (by kernel_rfl)⟩
def sp47c : Pev.Spec := sp58c
def L47c : List (Nat × Pev.CSpec) := [(58, sp58c)]
theorem ok47c : EnterOk Tryd.prog 47 ∧ SpecOk Tryd.prog cfg 47 sp47c := ⟨enter Tryd.func47 (by kernel_rfl) (by kernel_rfl), by
  intro args res h
  unfold sp47c sp58c at h
  split at h <;> try (cases h; done)
  split at h <;> try (cases h; done)
  rename_i s _ hs
  obtain rfl := same s _ hs
  obtain rfl := Option.some.inj h
  exact done (specs := L47c) (oneSpec noSpecs ok58c) (A := A0) rfl (by kernel_rfl) (by kernel_rfl)⟩
def vm5 : AV := .tup [.ag [.int .i64 1, .int .i64 (-5), .str ⟨#[]⟩, .bool false], .err none]
def sp27c : Pev.Spec := fun | [.str s] => (match s.data.toList == [45, 53] with | true => some vm5 | false => none) | _ => none
def L27c : List (Nat × Pev.CSpec) := [(47, sp47c)]
theorem ok27c : EnterOk Tryd.prog 27 ∧ SpecOk Tryd.prog cfg 27 sp27c := ⟨enter Tryd.func27 (by kernel_rfl) (by kernel_rfl), by
  intro args res h
  unfold sp27c at h
  split at h <;> try (cases h; done)
  split at h <;> try (cases h; done)
  rename_i s _ hs
  obtain rfl := same s _ hs
  obtain rfl := Option.some.inj h
  exact done (specs := L27c) (oneSpec noSpecs ok47c) (A := A0) rfl (by kernel_rfl) (by kernel_rfl)⟩
def L12c : List (Nat × Pev.CSpec) := [(27, sp27c)]
theorem ok12c : EnterOk Tryd.prog 12 ∧ SpecOk Tryd.prog cfg 12 sp27c := ⟨enter Tryd.func12 (by kernel_rfl) (by kernel_rfl), by
  intro args res h
  unfold sp27c at h
  split at h <;> try (cases h; done)
  split at h <;> try (cases h; done)
  rename_i s _ hs
  obtain rfl := same s _ hs
  obtain rfl := Option.some.inj h
  exact done (specs := L12c) (oneSpec noSpecs ok27c) (A := A0) rfl (by kernel_rfl) (by kernel_rfl)⟩

def sp10 : Pev.Spec := fun | [] => some (.bool true) | _ => none
def L10 : List (Nat × Pev.CSpec) := [(11, sp11c), (12, sp27c), (14, sp14)]
theorem s10 : SpecsOk Tryd.prog (tabs 0 L10) := oneSpec (oneSpec (oneSpec noSpecs ok14) ok12c) ok11c
theorem ok10 : EnterOk Tryd.prog 10 ∧ SpecOk Tryd.prog cfg 10 sp10 := ⟨enter Tryd.func10 (by kernel_rfl) (by kernel_rfl), by
  intro args res h
  unfold sp10 at h
  split at h <;> try (cases h; done)
  obtain rfl := Option.some.inj h
  exact done (specs := L10) s10 (A := A0) rfl (by kernel_rfl) (by kernel_rfl)⟩
end Go.Proofs.YtciajnknnoecaaaDoor
