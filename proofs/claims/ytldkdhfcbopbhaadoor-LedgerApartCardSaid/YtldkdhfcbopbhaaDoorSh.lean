/- Contracts of Go's library at this translation's numbers (as the kit's lay-plain.mjs lays them). -/
import Derived.Shelf.Small.Strs
import Derived.Test.YtldkdhfcbopbhaaDoorPewZ
import Derived.Test.YtldkdhfcbopbhaaDoorM
namespace Go.Proofs.YtldkdhfcbopbhaaDoor
open Go Go.Pev
/-- A bound, a filter. -/
abbrev Bd := ByteArray × Int × Int × Int × Bool × ByteArray × Bool × Bool
abbrev Fil := Bool × List Bd
abbrev Op21 := Int × Int × Int × Int × Int × List (ByteArray × V) × Fil
def Tryd.lays106_ren : Go.Shelf.Ren := ⟨fun | 106 => 55 | 213 => 67 | 265 => 70 | n => n, fun | 9 => 9 | 3 => 3 | n => n, fun | n => n⟩
theorem Tryd.lays106 : Go.Proofs.Lays.n106 Tryd.prog Tryd.lays106_ren := {
  mixed := by kernel_rfl
  f106 := Tryd.func55.trans (congrArg some (by kernel_rfl))
  f213 := Tryd.func67.trans (congrArg some (by kernel_rfl))
  f265 := Tryd.func70.trans (congrArg some (by kernel_rfl))
  t3 := Tryd.underlying3
  a3 := Tryd.isAgg3
  z3 := Tryd.sizeOf3
  v3 := Tryd.zeroValue3
  t9 := Tryd.underlying9
  a9 := Tryd.isAgg9
  z9 := Tryd.sizeOf9
  v9 := Tryd.zeroValue9 }
open Go.RowKit in
theorem Tryd.strings_Compare (a b : ByteArray) (w : World) :
    Calls Tryd.prog 55 #[.string a, .string b] w fun e w' => e = .returned (.int .i64 (Lib.compareBytes a.data.toList b.data.toList)) ∧ w' = w := Any.strings_Compare Tryd.lays106 a b w
/-- With errors.As. -/
theorem noSpecsG : SpecsOk Tryd.prog (tabsG []) := ⟨(fun g sp h => by cases h), .inr (asOk [])⟩
def cmpF (a b : ByteArray) : Option Int := some (Lib.compareBytes a.data.toList b.data.toList)
theorem cmpF_eq (a b : ByteArray) : cmpF a b = some (Lib.compareBytes a.data.toList b.data.toList) := rfl
noncomputable def strings_Compare_sp : Pev.CSpec := genSpec [.str, .str] [.int .i64] (fun x => cmpF x.1 x.2)
theorem strings_Compare_ok : EnterOk Tryd.prog 55 ∧ CSpecOk Tryd.prog cfgG 55 strings_Compare_sp := ⟨enter Tryd.func55 (by kernel_rfl) (by kernel_rfl), handSpec (by
  intro ⟨(a : ByteArray), (b : ByteArray)⟩ r h
  replace h : cmpF a b = some r := h
  rw [cmpF_eq] at h
  obtain rfl := Option.some.inj h
  refine Contract.of0 ?_ rfl rfl
  intro M w vs hM hg ha
  cases ha with
  | cons a1 t1 =>
    cases t1 with
    | cons a2 t2 =>
      cases t2
      rename_i v1 v2
      obtain rfl : v1 = .string a := a1
      obtain rfl : v2 = .string b := a2
      exact (Tryd.strings_Compare a b w).mono fun e w' ⟨q1, q2⟩ => ⟨_, q1, rfl, q2 ▸ KeepS.refl _ _⟩)⟩
noncomputable def L0 : List (Nat × Pev.CSpec) := [(55, strings_Compare_sp)]
theorem s0 : SpecsOk Tryd.prog (tabsG L0) := oneSpecGT noSpecsG strings_Compare_ok
end Go.Proofs.YtldkdhfcbopbhaaDoor
