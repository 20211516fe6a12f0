/- aviaryref02.DocCompare; and the statement ValueOrders as the evaluator tells it. -/
import Derived.Test.YtciajnknnoecaaaDoorO
namespace Go.Proofs.YtciajnknnoecaaaDoor
open Go Go.Pev

theorem cond_ag (b : Bool) (x y : List AV) : (cond b (AV.ag x) (AV.ag y)) = AV.ag (cond b x y) := by cases b <;> rfl
theorem cond_sl (b : Bool) (s : Sh) (x y : List s.T) : (cond b (AV.sl s x) (AV.sl s y)) = AV.sl s (cond b x y) := by cases b <;> rfl
theorem cond_same {α : Type} (b : Bool) (x : α) : cond b x x = x := by cases b <;> rfl
theorem cond_nil {α : Type} (b : Bool) : cond b ([] : List α) [] = [] := by cases b <;> rfl

/-- An error told plainly, as data. -/
abbrev agE (b : Bool) (l : List (Int × Int)) (n : Int) : AV := .ag [.bool b, .sl shPlace l, .int .i64 n]

def sp22 : Pev.Spec := fun | [.int .i64 n] => some (agE true [] n) | _ => none
theorem ok22 : EnterOk Tryd.prog 22 ∧ SpecOk Tryd.prog cfg 22 sp22 := ⟨enter Tryd.func22 (by kernel_rfl) (by kernel_rfl), by
  intro args res h
  unfold sp22 at h
  split at h <;> try (cases h; done)
  obtain rfl := Option.some.inj h
  exact done noSpecs (A := A0) rfl (by kernel_rfl) (by kernel_rfl)⟩

def ckB (k i : Int) (s : ByteArray) (b : Bool) : Bool :=
  cond (k == 1) (cond (!(s.toList == ([] : List UInt8))) true (cond b true false))
    (cond (k == 2) (cond (i != 0) true (cond b true (cond (decide ((s.size : Int) > 1000)) true false)))
      (cond (k == 3) (cond (!(s.toList == ([] : List UInt8))) true (cond (i != 0) true false)) true))
def ckN (k i : Int) (s : ByteArray) (b : Bool) : Int :=
  cond (k == 1) (cond (!(s.toList == ([] : List UInt8))) 3 (cond b 3 0))
    (cond (k == 2) (cond (i != 0) 3 (cond b 3 (cond (decide ((s.size : Int) > 1000)) 2 0)))
      (cond (k == 3) (cond (!(s.toList == ([] : List UInt8))) 3 (cond (i != 0) 3 0)) 3))
def sp18 : Pev.Spec := fun | [.ag [.int .i64 k, .int .i64 i, .str s, .bool b]] => some (agE (ckB k i s b) [] (ckN k i s b)) | _ => none
def L18 : List (Nat × Pev.CSpec) := [(22, sp22)]
theorem s18 : SpecsOk Tryd.prog (tabs 0 L18) := oneSpec noSpecs ok22
theorem t18 (k i : Int) (s : ByteArray) (b : Bool) : evalF Tryd.prog (tabs 0 L18) A0 18 [.ag [.int .i64 k, .int .i64 i, .str s, .bool b]] = some (agE (ckB k i s b) [] (ckN k i s b)) := by
  rw [show evalF Tryd.prog (tabs 0 L18) A0 18 [.ag [.int .i64 k, .int .i64 i, .str s, .bool b]] =
    cond (k == 1) (cond (!(s.toList == ([] : List UInt8))) (some (agE true [] 3)) (cond b (some (agE true [] 3)) (some (agE false [] 0))))
    (cond (k == 2) (cond (i != 0) (some (agE true [] 3)) (cond b (some (agE true [] 3)) (cond (decide ((s.size : Int) > 1000)) (some (agE true [] 2)) (some (agE false [] 0)))))
      (cond (k == 3) (cond (!(s.toList == ([] : List UInt8))) (some (agE true [] 3)) (cond (i != 0) (some (agE true [] 3)) (some (agE false [] 0)))) (some (agE true [] 3)))) by kernel_rfl]
  simp only [cond_some, cond_ag, cond_cons, cond_bool, cond_int, cond_nil, cond_sl]; rfl
theorem ok18 : EnterOk Tryd.prog 18 ∧ SpecOk Tryd.prog cfg 18 sp18 := ⟨enter Tryd.func18 (by kernel_rfl) (by kernel_rfl), by
  intro args res h
  unfold sp18 at h
  split at h <;> try (cases h; done)
  obtain rfl := Option.some.inj h
  exact done s18 (A := A0) rfl (by kernel_rfl) (t18 _ _ _ _)⟩

def frB (b b' : Bool) : Bool := cond b b (cond b' b' false)
def frN (b : Bool) (n : Int) (b' : Bool) (n' : Int) : Int := cond b n (cond b' n' 0)
def A42 : Anns := ⟨[(2, [.keep [2,5,6,7] [2]])], [], 1000⟩
def sp42 : Pev.Spec := fun | [.sl (.pair .bool (.pair (.sl (.pair (.int .i64) (.int .i64))) (.int .i64))) [(b, [], n), (b', [], n')]] => some (agE (frB b b') [] (frN b n b' n')) | _ => none
theorem t42 (b : Bool) (n : Int) (b' : Bool) (n' : Int) : evalF Tryd.prog (tabs 0 []) A42 42 [.sl shE [(b, [], n), (b', [], n')]] = some (agE (frB b b') [] (frN b n b' n')) := by
  rw [show evalF Tryd.prog (tabs 0 []) A42 42 [.sl shE [(b, [], n), (b', [], n')]] = cond b (some (agE b [] n)) (cond b' (some (agE b' [] n')) (some (agE false [] 0))) by kernel_rfl]
  simp only [cond_some, cond_ag, cond_cons, cond_bool, cond_int, cond_nil, cond_sl]; rfl
theorem ok42 : EnterOk Tryd.prog 42 ∧ SpecOk Tryd.prog cfg 42 sp42 := ⟨enter Tryd.func42 (by kernel_rfl) (by kernel_rfl), by
  intro args res h
  unfold sp42 at h
  split at h <;> try (cases h; done)
  obtain rfl := Option.some.inj h
  exact done noSpecs (A := A42) rfl (by kernel_rfl) (t42 _ _ _ _)⟩

def rcmp (i : Int) (s : ByteArray) (b : Bool) (i' : Int) (s' : ByteArray) (b' : Bool) : Int :=
  cond (decide (i < i')) (-1) (cond (Op.bytesLess s.toList s'.toList) (-1) (cond (!b) (cond b' (-1) (cond (decide (i > i')) 1 (cond (!(Op.bytesLess s.toList s'.toList || s.toList == s'.toList)) 1 (cond b (cond (!b') 1 0) 0))))
    (cond (decide (i > i')) 1 (cond (!(Op.bytesLess s.toList s'.toList || s.toList == s'.toList)) 1 (cond b (cond (!b') 1 0) 0)))))
def sp43 : Pev.Spec := fun | [.ag [.int .i64 _, .int .i64 i, .str s, .bool b], .ag [.int .i64 _, .int .i64 i', .str s', .bool b']] => some (.int .i64 (rcmp i s b i' s' b')) | _ => none
theorem t43 (k i : Int) (s : ByteArray) (b : Bool) (k' i' : Int) (s' : ByteArray) (b' : Bool) : evalF Tryd.prog (tabs 0 []) A0 43 [.ag [.int .i64 k, .int .i64 i, .str s, .bool b], .ag [.int .i64 k', .int .i64 i', .str s', .bool b']] = some (.int .i64 (rcmp i s b i' s' b')) := by
  rw [show evalF Tryd.prog (tabs 0 []) A0 43 [.ag [.int .i64 k, .int .i64 i, .str s, .bool b], .ag [.int .i64 k', .int .i64 i', .str s', .bool b']] =
    cond (decide (i < i')) (some (.int .i64 (-1))) (cond (Op.bytesLess s.toList s'.toList) (some (.int .i64 (-1))) (cond (!b) (cond b' (some (.int .i64 (-1))) (cond (decide (i > i')) (some (.int .i64 1)) (cond (!(Op.bytesLess s.toList s'.toList || s.toList == s'.toList)) (some (.int .i64 1)) (cond b (cond (!b') (some (.int .i64 1)) (some (.int .i64 0))) (some (.int .i64 0))))))
    (cond (decide (i > i')) (some (.int .i64 1)) (cond (!(Op.bytesLess s.toList s'.toList || s.toList == s'.toList)) (some (.int .i64 1)) (cond b (cond (!b') (some (.int .i64 1)) (some (.int .i64 0))) (some (.int .i64 0))))))) by kernel_rfl]
  simp only [cond_some, cond_int]; rfl
theorem ok43 : EnterOk Tryd.prog 43 ∧ SpecOk Tryd.prog cfg 43 sp43 := ⟨enter Tryd.func43 (by kernel_rfl) (by kernel_rfl), by
  intro args res h
  unfold sp43 at h
  split at h <;> try (cases h; done)
  obtain rfl := Option.some.inj h
  exact done noSpecs (A := A0) rfl (by kernel_rfl) (t43 _ _ _ _ _ _ _ _)⟩

def docB (k i : Int) (s : ByteArray) (b : Bool) (k' i' : Int) (s' : ByteArray) (b' : Bool) : Bool :=
  cond (!(frB (ckB k i s b) (ckB k' i' s' b'))) (cond (k != k') true (frB (ckB k i s b) (ckB k' i' s' b'))) (frB (ckB k i s b) (ckB k' i' s' b'))
def docC (k i : Int) (s : ByteArray) (b : Bool) (k' i' : Int) (s' : ByteArray) (b' : Bool) : Int :=
  cond (!(frB (ckB k i s b) (ckB k' i' s' b'))) (cond (k != k') 5 (frN (ckB k i s b) (ckN k i s b) (ckB k' i' s' b') (ckN k' i' s' b'))) (frN (ckB k i s b) (ckN k i s b) (ckB k' i' s' b') (ckN k' i' s' b'))
def docN (k i : Int) (s : ByteArray) (b : Bool) (k' i' : Int) (s' : ByteArray) (b' : Bool) : Int := cond (docB k i s b k' i' s' b') 0 (rcmp i s b i' s' b')
def sp20 : Pev.Spec := fun | [.ag [.int .i64 k, .int .i64 i, .str s, .bool b], .ag [.int .i64 k', .int .i64 i', .str s', .bool b']] => some (.tup [.int .i64 (docN k i s b k' i' s' b'), agE (docB k i s b k' i' s' b') [] (docC k i s b k' i' s' b')]) | _ => none
def L20 : List (Nat × Pev.CSpec) := [(18, sp18), (22, sp22), (42, sp42), (43, sp43)]
theorem s20 : SpecsOk Tryd.prog (tabs 0 L20) := oneSpec (oneSpec (oneSpec (oneSpec noSpecs ok43) ok42) ok22) ok18
theorem t20 (k i : Int) (s : ByteArray) (b : Bool) (k' i' : Int) (s' : ByteArray) (b' : Bool) : evalF Tryd.prog (tabs 0 L20) A0 20 [.ag [.int .i64 k, .int .i64 i, .str s, .bool b], .ag [.int .i64 k', .int .i64 i', .str s', .bool b']] = some (.tup [.int .i64 (docN k i s b k' i' s' b'), agE (docB k i s b k' i' s' b') [] (docC k i s b k' i' s' b')]) := by
  rw [show evalF Tryd.prog (tabs 0 L20) A0 20 [.ag [.int .i64 k, .int .i64 i, .str s, .bool b], .ag [.int .i64 k', .int .i64 i', .str s', .bool b']] =
   (cond (!frB (ckB k i s b) (ckB k' i' s' b')) 
 (cond (k != k') (some (.tup [.int .i64 0, .ag [.bool true, .sl (shPlace) [], .int .i64 5]])) 
  (cond (frB (ckB k i s b) (ckB k' i' s' b')) (some (.tup [.int .i64 0, .ag [.bool (frB (ckB k i s b) (ckB k' i' s' b')), .sl (shPlace) [], .int .i64 (frN (ckB k i s b) (ckN k i s b) (ckB k' i' s' b') (ckN k' i' s' b'))]])) (some (.tup [.int .i64 (rcmp i s b i' s' b'), .ag [.bool (frB (ckB k i s b) (ckB k' i' s' b')), .sl (shPlace) [], .int .i64 (frN (ckB k i s b) (ckN k i s b) (ckB k' i' s' b') (ckN k' i' s' b'))]])))) 
 (cond (frB (ckB k i s b) (ckB k' i' s' b')) (some (.tup [.int .i64 0, .ag [.bool (frB (ckB k i s b) (ckB k' i' s' b')), .sl (shPlace) [], .int .i64 (frN (ckB k i s b) (ckN k i s b) (ckB k' i' s' b') (ckN k' i' s' b'))]])) (some (.tup [.int .i64 (rcmp i s b i' s' b'), .ag [.bool (frB (ckB k i s b) (ckB k' i' s' b')), .sl (shPlace) [], .int .i64 (frN (ckB k i s b) (ckN k i s b) (ckB k' i' s' b') (ckN k' i' s' b'))]])))) by kernel_rfl]
  unfold docN docB docC
  cases frB (ckB k i s b) (ckB k' i' s' b') <;> cases (k != k') <;> rfl
theorem ok20 : EnterOk Tryd.prog 20 ∧ SpecOk Tryd.prog cfg 20 sp20 := ⟨enter Tryd.func20 (by kernel_rfl) (by kernel_rfl), by
  intro args res h
  unfold sp20 at h
  split at h <;> try (cases h; done)
  obtain rfl := Option.some.inj h
  exact done s20 (A := A0) rfl (by kernel_rfl) (t20 _ _ _ _ _ _ _ _)⟩

/-- Whether an error is the one that is told. -/
def failsB (e : Err) (b : Bool) (l : List (Int × Int)) (n : Int) : Bool :=
  match e with
  | none => sameE false [] 0 b l n
  | some (ps, m) => sameE true ps m b l n
def deep (e : Err) : Nat := match e with | none => 0 | some (ps, _) => ps.length
def sp16g : Pev.CSpec := ⟨fun
  | [.err e, .ag [.bool b', .sl (.pair (.int .i64) (.int .i64)) l', .int .i64 n']] => .br (decide (deep e < 200)) (.ret (.bool (failsB e b' l' n'))) .fail
  | _ => .fail⟩
theorem ok16g : EnterOk Tryd.prog 16 ∧ CSpecOk Tryd.prog cfgG 16 sp16g := ⟨ok16.1, by
  intro args res h
  unfold sp16g at h
  simp only at h
  split at h <;> try (cases h; done)
  rename_i e b' l' n'
  refine ok16.2 _ res ?_
  match e, h with
  | none, h => exact h
  | some (ps, m), h => exact h⟩
def L8 : List (Nat × Pev.CSpec) := [(10, sp10), (14, sp14), (16, sp16g), (20, sp20)]
theorem s8 : SpecsOk Tryd.prog (tabsG L8) := oneSpecG (oneSpecG (oneSpecGT (oneSpecG noSpecsG (liftG ok20)) ok16g) (liftG ok14)) (liftG ok10)
end Go.Proofs.YtciajnknnoecaaaDoor
