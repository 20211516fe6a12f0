/- Contracts of Go's library at this translation's numbers (as the kit's lay-plain.mjs lays them). -/
import Derived.Shelf.Small.Strs
import Derived.Test.YtdiomgmckidccaaGreatDoorPewZa
import Derived.Test.YtdiomgmckidccaaGreatDoorM
set_option maxRecDepth 100000
namespace Go.Proofs.YtdiomgmckidccaaGreatDoor
open Go Go.Pev
/-- A bound, a filter. -/
abbrev Bd := ByteArray × Int × Int × Int × Bool × ByteArray × Bool × Bool
abbrev Fil := Bool × List Bd
abbrev Item := Int × Fil
abbrev Op8 := Int × Int × Fil × List (ByteArray × V)
def Tryz.lays106_ren : Go.Shelf.Ren := ⟨fun | 106 => 92 | 213 => 118 | 265 => 128 | n => n, fun | 9 => 9 | 3 => 3 | n => n, fun | n => n⟩
theorem Tryz.lays106 : Go.Proofs.Lays.n106 Tryz.prog Tryz.lays106_ren := {
  mixed := by kernel_rfl
  f106 := Tryz.func92.trans (congrArg some (by kernel_rfl))
  f213 := Tryz.func118.trans (congrArg some (by kernel_rfl))
  f265 := Tryz.func128.trans (congrArg some (by kernel_rfl))
  t3 := Tryz.underlying3
  a3 := Tryz.isAgg3
  z3 := Tryz.sizeOf3
  v3 := Tryz.zeroValue3
  t9 := Tryz.underlying9
  a9 := Tryz.isAgg9
  z9 := Tryz.sizeOf9
  v9 := Tryz.zeroValue9 }
open Go.RowKit in
theorem Tryz.strings_Compare (a b : ByteArray) (w : World) :
    Calls Tryz.prog 92 #[.string a, .string b] w fun e w' => e = .returned (.int .i64 (Lib.compareBytes a.data.toList b.data.toList)) ∧ w' = w := Any.strings_Compare Tryz.lays106 a b w
/-- With errors.As. -/
theorem noSpecsG : SpecsOk Tryz.prog (tabsG []) := ⟨(fun g sp h => by cases h), .inr (asOk [])⟩
def cmpF (a b : ByteArray) : Option Int := some (Lib.compareBytes a.data.toList b.data.toList)
theorem cmpF_eq (a b : ByteArray) : cmpF a b = some (Lib.compareBytes a.data.toList b.data.toList) := rfl
noncomputable def strings_Compare_sp : Pev.CSpec := genSpec [.str, .str] [.int .i64] (fun x => cmpF x.1 x.2)
theorem strings_Compare_ok : EnterOk Tryz.prog 92 ∧ CSpecOk Tryz.prog cfgG 92 strings_Compare_sp := ⟨enter Tryz.func92 (by kernel_rfl) (by kernel_rfl), handSpec (by
  intro ⟨(a : ByteArray), (b : ByteArray)⟩ r h
  replace h : cmpF a b = some r := h
  rw [cmpF_eq] at h
  obtain rfl := Option.some.inj h
  refine Contract.of0 ?_ rfl rfl
  intro M w vs hM hg ha
  cases ha with
  | cons a1 t1 =>
    cases t1 with
    | cons a2 t2 =>
      cases t2
      rename_i v1 v2
      obtain rfl : v1 = .string a := a1
      obtain rfl : v2 = .string b := a2
      exact (Tryz.strings_Compare a b w).mono fun e w' ⟨q1, q2⟩ => ⟨_, q1, rfl, q2 ▸ KeepS.refl _ _⟩)⟩
noncomputable def L0 : List (Nat × Pev.CSpec) := [(92, strings_Compare_sp)]
theorem s0 : SpecsOk Tryz.prog (tabsG L0) := oneSpecGT noSpecsG strings_Compare_ok
end Go.Proofs.YtdiomgmckidccaaGreatDoor
