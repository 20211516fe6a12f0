/- What the functions under value.Compare do, as contracts. -/
import Derived.Test.YtciajnknnoecaaaDoorA
namespace Go.Proofs.YtciajnknnoecaaaDoor
open Go Go.Pev

theorem i64w (n : Int) (h1 : -9223372036854775808 ≤ n) (h2 : n ≤ 9223372036854775807) : IntKind.i64.wrap n = n := by rw [IntKind.wrap_i64]; omega
theorem cond_some {α : Type} (b : Bool) (x y : α) : (cond b (some x) (some y)) = some (cond b x y) := by cases b <;> rfl
theorem cond_int (b : Bool) (k : IntKind) (x y : Int) : (cond b (AV.int k x) (AV.int k y)) = AV.int k (cond b x y) := by cases b <;> rfl
theorem cond_err (b : Bool) (x y : Err) : (cond b (AV.err x) (AV.err y)) = AV.err (cond b x y) := by cases b <;> rfl
theorem cond_bool (b : Bool) (x y : Bool) : (cond b (AV.bool x) (AV.bool y)) = AV.bool (cond b x y) := by cases b <;> rfl
theorem cond_tup (b : Bool) (x y : List AV) : (cond b (AV.tup x) (AV.tup y)) = AV.tup (cond b x y) := by cases b <;> rfl
theorem cond_cons {α : Type} (b : Bool) (x y : α) (l m : List α) : (cond b (x :: l) (y :: m)) = cond b x y :: cond b l m := by cases b <;> rfl

def sp34 : Pev.Spec := fun | [.bool b] => some (.int .i64 (cond b 1 0)) | _ => none
theorem t34 (b : Bool) : evalF Tryd.prog (tabs 0 []) A0 34 [.bool b] = some (.int .i64 (cond b 1 0)) := by cases b <;> kernel_rfl
theorem ok34 : EnterOk Tryd.prog 34 ∧ SpecOk Tryd.prog cfg 34 sp34 := ⟨enter Tryd.func34 (by kernel_rfl) (by kernel_rfl), by
  intro args res h
  unfold sp34 at h
  split at h <;> try (cases h; done)
  obtain rfl := Option.some.inj h
  exact done noSpecs rfl (by kernel_rfl) (t34 _)⟩

def sp49 : Pev.Spec := fun | [.int .i64 _] => some (.bool false) | _ => none
theorem t49 (a : Int) : evalF Tryd.prog (tabs 0 []) A0 49 [.int .i64 a] = some (.bool false) := by
  rw [show evalF Tryd.prog (tabs 0 []) A0 49 [.int .i64 a] = some (.bool (a != a)) by kernel_rfl]; simp
theorem ok49 : EnterOk Tryd.prog 49 ∧ SpecOk Tryd.prog cfg 49 sp49 := ⟨enter Tryd.func49 (by kernel_rfl) (by kernel_rfl), by
  intro args res h
  unfold sp49 at h
  split at h <;> try (cases h; done)
  obtain rfl := Option.some.inj h
  exact done noSpecs rfl (by kernel_rfl) (t49 _)⟩

def sp50 : Pev.Spec := fun | [.str _] => some (.bool false) | _ => none
theorem t50 (a : ByteArray) : evalF Tryd.prog (tabs 0 []) A0 50 [.str a] = some (.bool false) := by
  rw [show evalF Tryd.prog (tabs 0 []) A0 50 [.str a] = some (.bool !(a.toList == a.toList)) by kernel_rfl]; simp
theorem ok50 : EnterOk Tryd.prog 50 ∧ SpecOk Tryd.prog cfg 50 sp50 := ⟨enter Tryd.func50 (by kernel_rfl) (by kernel_rfl), by
  intro args res h
  unfold sp50 at h
  split at h <;> try (cases h; done)
  obtain rfl := Option.some.inj h
  exact done noSpecs rfl (by kernel_rfl) (t50 _)⟩

def cmpI (a b : Int) : Int := cond (decide (a < b)) (-1) (cond (decide (a > b)) 1 0)
def sp32 : Pev.Spec := fun | [.int .i64 a, .int .i64 b] => some (.int .i64 (cmpI a b)) | _ => none
def L32 : List (Nat × Pev.CSpec) := [(49, sp49)]
theorem s32 : SpecsOk Tryd.prog (tabs 0 L32) := oneSpec noSpecs ok49
theorem t32 (a b : Int) : evalF Tryd.prog (tabs 0 L32) A0 32 [.int .i64 a, .int .i64 b] = some (.int .i64 (cmpI a b)) := by
  rw [show evalF Tryd.prog (tabs 0 L32) A0 32 [.int .i64 a, .int .i64 b] = cond (decide (a < b)) (some (.int .i64 (-1))) (cond (decide (a > b)) (some (.int .i64 1)) (some (.int .i64 0))) by kernel_rfl]
  simp only [cond_some, cond_int]; rfl
theorem ok32 : EnterOk Tryd.prog 32 ∧ SpecOk Tryd.prog cfg 32 sp32 := ⟨enter Tryd.func32 (by kernel_rfl) (by kernel_rfl), by
  intro args res h
  unfold sp32 at h
  split at h <;> try (cases h; done)
  obtain rfl := Option.some.inj h
  exact done s32 rfl (by kernel_rfl) (t32 _ _)⟩

def cmpS (a b : ByteArray) : Int := cond (Op.bytesLess a.toList b.toList) (-1) (cond (!(Op.bytesLess a.toList b.toList || a.toList == b.toList)) 1 0)
def sp33 : Pev.Spec := fun | [.str a, .str b] => some (.int .i64 (cmpS a b)) | _ => none
def L33 : List (Nat × Pev.CSpec) := [(50, sp50)]
theorem s33 : SpecsOk Tryd.prog (tabs 0 L33) := oneSpec noSpecs ok50
theorem t33 (a b : ByteArray) : evalF Tryd.prog (tabs 0 L33) A0 33 [.str a, .str b] = some (.int .i64 (cmpS a b)) := by
  rw [show evalF Tryd.prog (tabs 0 L33) A0 33 [.str a, .str b] = cond (Op.bytesLess a.toList b.toList) (some (.int .i64 (-1))) (cond (!(Op.bytesLess a.toList b.toList || a.toList == b.toList)) (some (.int .i64 1)) (some (.int .i64 0))) by kernel_rfl]
  simp only [cond_some, cond_int]; rfl
theorem ok33 : EnterOk Tryd.prog 33 ∧ SpecOk Tryd.prog cfg 33 sp33 := ⟨enter Tryd.func33 (by kernel_rfl) (by kernel_rfl), by
  intro args res h
  unfold sp33 at h
  split at h <;> try (cases h; done)
  obtain rfl := Option.some.inj h
  exact done s33 rfl (by kernel_rfl) (t33 _ _)⟩

def or3 (a b c : Int) : Int := cond (a != 0) a (cond (b != 0) b (cond (c != 0) c 0))
def sp31 : Pev.Spec := fun | [.sl (.int .i64) [a, b, c]] => some (.int .i64 (or3 a b c)) | _ => none
theorem t31 (a b c : Int) : evalF Tryd.prog (tabs 0 []) A0 31 [.sl (.int .i64) [a, b, c]] = some (.int .i64 (or3 a b c)) := by
  rw [show evalF Tryd.prog (tabs 0 []) A0 31 [.sl (.int .i64) [a, b, c]] = cond (a != 0) (some (.int .i64 a)) (cond (b != 0) (some (.int .i64 b)) (cond (c != 0) (some (.int .i64 c)) (some (.int .i64 0)))) by kernel_rfl]
  simp only [cond_some, cond_int]; rfl
theorem ok31 : EnterOk Tryd.prog 31 ∧ SpecOk Tryd.prog cfg 31 sp31 := ⟨enter Tryd.func31 (by kernel_rfl) (by kernel_rfl), by
  intro args res h
  unfold sp31 at h
  split at h <;> try (cases h; done)
  obtain rfl := Option.some.inj h
  exact done noSpecs rfl (by kernel_rfl) (t31 _ _ _)⟩

def first2 (a b : Err) : Err := cond (!a.isNone) a (cond (!b.isNone) b none)
def sp30 : Pev.Spec := fun | [.sl .err [a, b]] => some (.err (first2 a b)) | _ => none
theorem t30 (a b : Err) : evalF Tryd.prog (tabs 0 []) A0 30 [.sl .err [a, b]] = some (.err (first2 a b)) := by
  rw [show evalF Tryd.prog (tabs 0 []) A0 30 [.sl .err [a, b]] = cond (!a.isNone) (some (.err a)) (cond (!b.isNone) (some (.err b)) (some (.err none))) by kernel_rfl]
  simp only [cond_some, cond_err]; rfl
theorem ok30 : EnterOk Tryd.prog 30 ∧ SpecOk Tryd.prog cfg 30 sp30 := ⟨enter Tryd.func30 (by kernel_rfl) (by kernel_rfl), by
  intro args res h
  unfold sp30 at h
  split at h <;> try (cases h; done)
  obtain rfl := Option.some.inj h
  exact done noSpecs rfl (by kernel_rfl) (t30 _ _)⟩

def checkV (k i : Int) (s : ByteArray) (b : Bool) : Err :=
  cond (k == 1) (cond (!eqB shVal (k, 0, s, b) (k, 0, ⟨#[]⟩, false)) (some ([], 3)) (cond (decide ((s.size : Int) > 1000)) (some ([], 2)) none))
    (cond (k == 2) (cond (!eqB shVal (k, i, ⟨#[]⟩, b) (k, 0, ⟨#[]⟩, false)) (some ([], 3)) (cond (decide ((s.size : Int) > 1000)) (some ([], 2)) none))
      (cond (k == 3) (cond (!eqB shVal (k, i, s, false) (k, 0, ⟨#[]⟩, false)) (some ([], 3)) (cond (decide ((s.size : Int) > 1000)) (some ([], 2)) none)) (some ([], 3))))
def sp17 : Pev.Spec := fun | [.ag [.int .i64 k, .int .i64 i, .str s, .bool b]] => some (.err (checkV k i s b)) | _ => none
theorem t17 (k i : Int) (s : ByteArray) (b : Bool) : evalF Tryd.prog (tabs 0 []) A0 17 [.ag [.int .i64 k, .int .i64 i, .str s, .bool b]] = some (.err (checkV k i s b)) := by
  rw [show evalF Tryd.prog (tabs 0 []) A0 17 [.ag [.int .i64 k, .int .i64 i, .str s, .bool b]] =
    cond (k == 1) (cond (!eqB shVal (k, 0, s, b) (k, 0, ⟨#[]⟩, false)) (some (.err (some ([], 3)))) (cond (decide ((s.size : Int) > 1000)) (some (.err (some ([], 2)))) (some (.err none))))
    (cond (k == 2) (cond (!eqB shVal (k, i, ⟨#[]⟩, b) (k, 0, ⟨#[]⟩, false)) (some (.err (some ([], 3)))) (cond (decide ((s.size : Int) > 1000)) (some (.err (some ([], 2)))) (some (.err none))))
      (cond (k == 3) (cond (!eqB shVal (k, i, s, false) (k, 0, ⟨#[]⟩, false)) (some (.err (some ([], 3)))) (cond (decide ((s.size : Int) > 1000)) (some (.err (some ([], 2)))) (some (.err none)))) (some (.err (some ([], 3)))))) by kernel_rfl]
  simp only [cond_some, cond_err]; rfl
theorem ok17 : EnterOk Tryd.prog 17 ∧ SpecOk Tryd.prog cfg 17 sp17 := ⟨enter Tryd.func17 (by kernel_rfl) (by kernel_rfl), by
  intro args res h
  unfold sp17 at h
  split at h <;> try (cases h; done)
  obtain rfl := Option.some.inj h
  exact done noSpecs rfl (by kernel_rfl) (t17 _ _ _ _)⟩

def L14 : List (Nat × Pev.CSpec) := [(17, sp17), (30, sp30), (31, sp31), (32, sp32), (33, sp33), (34, sp34)]
theorem s14 : SpecsOk Tryd.prog (tabs 0 L14) := oneSpec (oneSpec (oneSpec (oneSpec (oneSpec (oneSpec noSpecs ok34) ok33) ok32) ok31) ok30) ok17
end Go.Proofs.YtciajnknnoecaaaDoor
