/- Faults, digits and escapes of layer 2. -/
import Derived.Test.YtciajnknnoecaaaDoorU
import Derived.Test.YtciajnknnoecaaaDoorP
namespace Go.Proofs.YtciajnknnoecaaaDoor
open Go Go.Pev

def atE (k a : Int) (e : Err) : Err := match e with | none => none | some x => some ((k, a) :: x.1, x.2)
def sp46 : Pev.CSpec := ⟨fun | [.int .i64 k, .int .i64 a, .err e] => .ret (.err (atE k a e)) | _ => .fail⟩
theorem ok46 : EnterOk Tryd.prog 46 ∧ CSpecOk Tryd.prog cfg 46 sp46 := ⟨enter Tryd.func46 (by kernel_rfl) (by kernel_rfl), by
  intro args res h
  unfold sp46 at h
  simp only at h
  split at h <;> try (cases h; done)
  rename_i k a e
  obtain rfl := Option.some.inj h
  match e with
  | none => exact done noSpecs (A := A0) rfl (by kernel_rfl) (by kernel_rfl)
  | some (ps, n) => exact done noSpecs (A := A0) rfl (by kernel_rfl) (by kernel_rfl)⟩
def badE (a : Int) : Err := some ([(1, a)], 4)
def sp26 : Pev.CSpec := ⟨fun | [.int .i64 a] => .ret (.err (badE a)) | _ => .fail⟩
theorem ok26 : EnterOk Tryd.prog 26 ∧ CSpecOk Tryd.prog cfg 26 sp26 := ⟨enter Tryd.func26 (by kernel_rfl) (by kernel_rfl), by
  intro args res h
  unfold sp26 at h
  simp only at h
  split at h <;> try (cases h; done)
  obtain rfl := Option.some.inj h
  exact done (specs := [(46, sp46)]) (oneSpecT noSpecs ok46) (A := A0) rfl (by kernel_rfl) (by kernel_rfl)⟩
def sp21 : Pev.CSpec := ⟨fun
  | [.int .i64 k, .int .i64 a, .ag [.bool true, .sl (.pair (.int .i64) (.int .i64)) [], .int .i64 n]] => .ret (agE true [(k, a)] n)
  | _ => .fail⟩
theorem ok21 : EnterOk Tryd.prog 21 ∧ CSpecOk Tryd.prog cfg 21 sp21 := ⟨enter Tryd.func21 (by kernel_rfl) (by kernel_rfl), by
  intro args res h
  unfold sp21 at h
  simp only at h
  split at h <;> try (cases h; done)
  obtain rfl := Option.some.inj h
  exact done noSpecs (A := A0) rfl (by kernel_rfl) (by kernel_rfl)⟩
abbrev zeroV : AV := .ag [.int .i64 0, .int .i64 0, .str ⟨#[]⟩, .bool false]
def sp38 : Pev.CSpec := ⟨fun | [.int .i64 a] => .ret (.tup [zeroV, agE true [(1, a)] 4]) | _ => .fail⟩
theorem ok38 : EnterOk Tryd.prog 38 ∧ CSpecOk Tryd.prog cfg 38 sp38 := ⟨enter Tryd.func38 (by kernel_rfl) (by kernel_rfl), by
  intro args res h
  unfold sp38 at h
  simp only at h
  split at h <;> try (cases h; done)
  obtain rfl := Option.some.inj h
  exact done (specs := [(21, sp21), (22, sp22)]) (oneSpecT (oneSpecT noSpecs (tree ok22)) ok21) (A := A0) rfl (by kernel_rfl) (by kernel_rfl)⟩

/-- What a digit counts. -/
def digZ (c : Int) : Int := cond (decide (c ≥ 48)) (cond (decide (c ≤ 57)) (IntKind.i64.wrap (IntKind.u8.wrap (c - 48))) (cond (decide (c ≥ 97)) (cond (decide (c ≤ 102)) (IntKind.i64.wrap (IntKind.i64.wrap (IntKind.u8.wrap (c - 97)) + 10)) (-1)) (-1)))
  (cond (decide (c ≥ 97)) (cond (decide (c ≤ 102)) (IntKind.i64.wrap (IntKind.i64.wrap (IntKind.u8.wrap (c - 97)) + 10)) (-1)) (-1))
def sp60 : Pev.CSpec := ⟨fun | [.int .u8 c] => .ret (.int .i64 (digZ c)) | _ => .fail⟩
theorem ok60 : EnterOk Tryd.prog 60 ∧ CSpecOk Tryd.prog cfg 60 sp60 := ⟨enter Tryd.func60 (by kernel_rfl) (by kernel_rfl), by
  intro args res h
  unfold sp60 at h
  simp only at h
  split at h <;> try (cases h; done)
  rename_i c
  obtain rfl := Option.some.inj h
  refine done noSpecs (A := A0) rfl (by kernel_rfl) ?_
  rw [show evalF Tryd.prog (tabs 0 []) A0 60 [.int .u8 c] = (cond (decide (c ≥ 48)) 
 (cond (decide (c ≤ 57)) (some (.int .i64 (IntKind.i64.wrap (IntKind.u8.wrap (c - 48))))) 
  (cond (decide (c ≥ 97)) 
   (cond (decide (c ≤ 102)) (some (.int .i64 (IntKind.i64.wrap (IntKind.i64.wrap (IntKind.u8.wrap (c - 97)) + 10)))) (some (.int .i64 (-1)))) (some (.int .i64 (-1))))) 
 (cond (decide (c ≥ 97)) 
  (cond (decide (c ≤ 102)) (some (.int .i64 (IntKind.i64.wrap (IntKind.i64.wrap (IntKind.u8.wrap (c - 97)) + 10)))) (some (.int .i64 (-1)))) (some (.int .i64 (-1))))) by kernel_rfl]
  simp only [cond_some, cond_int]; rfl⟩
def hexZ (c : Int) : Int := (List.range 16).foldr (fun k r => cond ((((hexS.data.toList.getD k 0).toNat : Int)) == c) (k : Int) r) (-1)
def A53 : Anns := ⟨[(2, [.keep [0, 2, 3] []])], [], 1000⟩
def hexT (c : Int) : Option AV := (List.range 16).foldr (fun k r => cond ((((hexS.data.toList.getD k 0).toNat : Int)) == c) (some (.int .i64 (k : Int))) r) (some (.int .i64 (-1)))
theorem hexT_is (c : Int) : hexT c = some (.int .i64 (hexZ c)) := by
  unfold hexT hexZ
  induction List.range 16 with
  | nil => rfl
  | cons k l ih => simp only [List.foldr_cons, ih, cond_some, cond_int]
def digOk (n : Nat) : Bool := digZ n == hexZ n
theorem digTab : (List.range 256).all digOk = true := by kernel_rfl
theorem hex_dig (c : UInt8) : hexZ (c.toNat : Int) = digZ (c.toNat : Int) := by
  have h := List.all_eq_true.1 digTab c.toNat (List.mem_range.2 c.toNat_lt)
  exact (eq_of_beq h).symm
def sp53 : Pev.CSpec := ⟨fun | [.int .u8 c] => .ret (.int .i64 (hexZ c)) | _ => .fail⟩
theorem ok53 : EnterOk Tryd.prog 53 ∧ CSpecOk Tryd.prog cfg 53 sp53 := ⟨enter Tryd.func53 (by kernel_rfl) (by kernel_rfl), by
  intro args res h
  unfold sp53 at h
  simp only at h
  split at h <;> try (cases h; done)
  rename_i c
  obtain rfl := Option.some.inj h
  exact done noSpecs (A := A53) rfl (by kernel_rfl) ((show evalF Tryd.prog (tabs 0 []) A53 53 [.int .u8 c] = hexT c by kernel_rfl).trans (hexT_is c))⟩
end Go.Proofs.YtciajnknnoecaaaDoor
