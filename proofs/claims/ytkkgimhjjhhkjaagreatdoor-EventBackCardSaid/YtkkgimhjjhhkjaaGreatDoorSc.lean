/- strings.Compare's contract, in the trees' form. -/
import Derived.Test.YtkkgimhjjhhkjaaGreatDoorGa
namespace Go.Proofs.YtkkgimhjjhhkjaaGreatDoor
open Go Go.Pev
noncomputable def cmpF (a b : ByteArray) : Option Int := sealed (some (Lib.compareBytes a.data.toList b.data.toList))
theorem cmpF_eq (a b : ByteArray) : cmpF a b = some (Lib.compareBytes a.data.toList b.data.toList) := sealed_eq _
noncomputable def strings_Compare_sp : Pev.CSpec := genSpec [.str, .str] [.int .i64] (fun x => cmpF x.1 x.2)
theorem strings_Compare_ok : EnterOk Tryz.prog 81 ∧ CSpecOk Tryz.prog cfgG 81 strings_Compare_sp := ⟨enter Tryz.func81 (by kernel_rfl) (by kernel_rfl), handSpec (by
  intro ⟨(a : ByteArray), (b : ByteArray)⟩ r h
  replace h : cmpF a b = some r := h
  rw [cmpF_eq] at h
  obtain rfl := Option.some.inj h
  intro M w vs hM hg ha
  cases ha with
  | cons a1 t1 =>
    cases t1 with
    | cons a2 t2 =>
      cases t2
      rename_i v1 v2
      obtain rfl : v1 = .string a := a1
      obtain rfl : v2 = .string b := a2
      exact (Tryz.strings_Compare a b w).mono fun e w' ⟨q1, q2⟩ => ⟨_, q1, rfl, q2 ▸ KeepS.refl _ _⟩)⟩
noncomputable def L_strings_Compare : List (Nat × CSpec) := (81, strings_Compare_sp) :: L_law03_fails
theorem s_strings_Compare : SpecsOk Tryz.prog (tabsG L_strings_Compare) := oneSpecGT s_law03_fails strings_Compare_ok
end Go.Proofs.YtkkgimhjjhhkjaaGreatDoor
