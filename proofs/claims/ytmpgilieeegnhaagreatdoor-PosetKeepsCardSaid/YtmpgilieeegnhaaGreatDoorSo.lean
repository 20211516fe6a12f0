/- Sorting, at this translation's numbers: the kit's layings (as its tool prints them) and their contracts. -/
import Derived.Test.YtmpgilieeegnhaaGreatDoorPewAh
import Derived.Test.YtmpgilieeegnhaaGreatDoorSh
set_option maxRecDepth 100000
namespace Go.Proofs.YtmpgilieeegnhaaGreatDoor
open Go Go.Pev Go.Shelf
def Tryz.lays189_ren : Go.Shelf.Ren := ⟨fun | 189 => 68 | 125 => 86 | 257 => 85 | 128 => 107 | 129 => 108 | 294 => 98 | 295 => 99 | 296 => 100 | 297 => 101 | 298 => 102 | 299 => 103 | 216 => 104 | 300 => 105 | 301 => 106 | 328 => 115 | 329 => 116 | 330 => 117 | 331 => 118 | 332 => 119 | 215 => 120 | 343 => 122 | n => n, fun | 28 => 35 | 3 => 3 | 46 => 136 | 0 => 0 | 51 => 167 | 53 => 169 | 4 => 4 | 183 => 160 | 182 => 159 | 131 => 164 | 5 => 5 | 9 => 9 | 218 => 173 | 222 => 177 | 228 => 181 | 229 => 182 | n => n, fun | n => n⟩
theorem Tryz.lays189 : Go.Proofs.Lays.n189 Tryz.prog Tryz.lays189_ren := {
  mixed := by kernel_rfl
  f125 := Tryz.func86.trans (congrArg some (by kernel_rfl))
  f128 := Tryz.func107.trans (congrArg some (by kernel_rfl))
  f129 := Tryz.func108.trans (congrArg some (by kernel_rfl))
  f189 := Tryz.func68.trans (congrArg some (by kernel_rfl))
  f215 := Tryz.func120.trans (congrArg some (by kernel_rfl))
  f216 := Tryz.func104.trans (congrArg some (by kernel_rfl))
  f257 := Tryz.func85.trans (congrArg some (by kernel_rfl))
  f294 := Tryz.func98.trans (congrArg some (by kernel_rfl))
  f295 := Tryz.func99.trans (congrArg some (by kernel_rfl))
  f296 := Tryz.func100.trans (congrArg some (by kernel_rfl))
  f297 := Tryz.func101.trans (congrArg some (by kernel_rfl))
  f298 := Tryz.func102.trans (congrArg some (by kernel_rfl))
  f299 := Tryz.func103.trans (congrArg some (by kernel_rfl))
  f300 := Tryz.func105.trans (congrArg some (by kernel_rfl))
  f301 := Tryz.func106.trans (congrArg some (by kernel_rfl))
  f328 := Tryz.func115.trans (congrArg some (by kernel_rfl))
  f329 := Tryz.func116.trans (congrArg some (by kernel_rfl))
  f330 := Tryz.func117.trans (congrArg some (by kernel_rfl))
  f331 := Tryz.func118.trans (congrArg some (by kernel_rfl))
  f332 := Tryz.func119.trans (congrArg some (by kernel_rfl))
  f343 := Tryz.func122.trans (congrArg some (by kernel_rfl))
  t0 := Tryz.underlying0
  a0 := Tryz.isAgg0
  z0 := Tryz.sizeOf0
  v0 := Tryz.zeroValue0
  t3 := Tryz.underlying3
  a3 := Tryz.isAgg3
  z3 := Tryz.sizeOf3
  v3 := Tryz.zeroValue3
  t4 := Tryz.underlying4
  a4 := Tryz.isAgg4
  z4 := Tryz.sizeOf4
  v4 := Tryz.zeroValue4
  t5 := Tryz.underlying5
  a5 := Tryz.isAgg5
  z5 := Tryz.sizeOf5
  v5 := Tryz.zeroValue5
  t9 := Tryz.underlying9
  a9 := Tryz.isAgg9
  z9 := Tryz.sizeOf9
  v9 := Tryz.zeroValue9
  t28 := Tryz.underlying35
  a28 := Tryz.isAgg35
  z28 := Tryz.sizeOf35
  v28 := Tryz.zeroValue35
  t46 := Tryz.underlying136
  a46 := Tryz.isAgg136
  z46 := Tryz.sizeOf136
  v46 := Tryz.zeroValue136
  t51 := Tryz.underlying167
  a51 := Tryz.isAgg167
  z51 := Tryz.sizeOf167
  v51 := Tryz.zeroValue167
  t53 := Tryz.underlying169
  a53 := Tryz.isAgg169
  z53 := Tryz.sizeOf169
  v53 := Tryz.zeroValue169
  t131 := Tryz.underlying164
  a131 := Tryz.isAgg164
  z131 := Tryz.sizeOf164
  v131 := Tryz.zeroValue164
  t182 := Tryz.underlying159
  a182 := Tryz.isAgg159
  z182 := Tryz.sizeOf159
  v182 := Tryz.zeroValue159
  t183 := Tryz.underlying160
  a183 := Tryz.isAgg160
  z183 := Tryz.sizeOf160
  v183 := Tryz.zeroValue160
  t218 := Tryz.underlying173
  a218 := Tryz.isAgg173
  z218 := Tryz.sizeOf173
  v218 := Tryz.zeroValue173
  t222 := Tryz.underlying177
  a222 := Tryz.isAgg177
  z222 := Tryz.sizeOf177
  v222 := Tryz.zeroValue177
  t228 := Tryz.underlying181
  a228 := Tryz.isAgg181
  z228 := Tryz.sizeOf181
  v228 := Tryz.zeroValue181
  t229 := Tryz.underlying182
  a229 := Tryz.isAgg182
  z229 := Tryz.sizeOf182
  v229 := Tryz.zeroValue182 }
def Tryz.keysZ_ren : Go.Shelf.Ren := ⟨fun | 7 => 52 | 10 => 69 | n => n, fun | 23 => 78 | 26 => 3 | 3 => 31 | 28 => 90 | 0 => 0 | 27 => 89 | 33 => 77 | 4 => 4 | n => n, fun | n => n⟩
theorem Tryz.keysZ : Go.Proofs.SlLaysZI.n7 Tryz.prog Tryz.keysZ_ren := {
  mixed := by kernel_rfl
  f7 := ⟨Tryz.f52.name, by decide, Tryz.func52.trans (congrArg some (by kernel_rfl))⟩
  f10 := ⟨Tryz.f69.name, by decide, Tryz.func69.trans (congrArg some (by kernel_rfl))⟩
  t0 := Tryz.underlying0
  a0 := Tryz.isAgg0
  z0 := Tryz.sizeOf0
  v0 := Tryz.zeroValue0
  t4 := Tryz.underlying4
  a4 := Tryz.isAgg4
  z4 := Tryz.sizeOf4
  v4 := Tryz.zeroValue4
  t23 := Tryz.underlying78
  a23 := Tryz.isAgg78
  z23 := Tryz.sizeOf78
  v23 := Tryz.zeroValue78
  t26 := Tryz.underlying3
  a26 := Tryz.isAgg3
  z26 := Tryz.sizeOf3
  v26 := Tryz.zeroValue3
  t27 := Tryz.underlying89
  a27 := Tryz.isAgg89
  z27 := Tryz.sizeOf89
  v27 := Tryz.zeroValue89
  t28 := Tryz.underlying90
  a28 := Tryz.isAgg90
  z28 := Tryz.sizeOf90
  v28 := Tryz.zeroValue90
  t33 := Tryz.underlying77
  a33 := Tryz.isAgg77
  z33 := Tryz.sizeOf77
  v33 := Tryz.zeroValue77 }
def Tryz.keys1Z_ren : Go.Shelf.Ren := ⟨fun | 10 => 69 | n => n, fun | 33 => 77 | 23 => 78 | 0 => 0 | 4 => 4 | 26 => 3 | 3 => 31 | n => n, fun | n => n⟩
theorem Tryz.keys1Z : Go.Proofs.SlLaysZI.n10 Tryz.prog Tryz.keys1Z_ren := {
  mixed := by kernel_rfl
  f10 := ⟨Tryz.f69.name, by decide, Tryz.func69.trans (congrArg some (by kernel_rfl))⟩
  t0 := Tryz.underlying0
  a0 := Tryz.isAgg0
  z0 := Tryz.sizeOf0
  v0 := Tryz.zeroValue0
  t4 := Tryz.underlying4
  a4 := Tryz.isAgg4
  z4 := Tryz.sizeOf4
  v4 := Tryz.zeroValue4
  t23 := Tryz.underlying78
  a23 := Tryz.isAgg78
  z23 := Tryz.sizeOf78
  v23 := Tryz.zeroValue78
  t26 := Tryz.underlying3
  a26 := Tryz.isAgg3
  z26 := Tryz.sizeOf3
  v26 := Tryz.zeroValue3
  t33 := Tryz.underlying77
  a33 := Tryz.isAgg77
  z33 := Tryz.sizeOf77
  v33 := Tryz.zeroValue77 }
def Tryz.sortedZ_ren : Go.Shelf.Ren := ⟨fun | 6 => 51 | 8 => 67 | 9 => 68 | 11 => 84 | 13 => 86 | 12 => 85 | 23 => 107 | 24 => 108 | 14 => 98 | 15 => 99 | 16 => 100 | 17 => 101 | 18 => 102 | 19 => 103 | 20 => 104 | 21 => 105 | 22 => 106 | 25 => 115 | 26 => 116 | 27 => 117 | 28 => 118 | 29 => 119 | 30 => 120 | 31 => 122 | n => n, fun | 26 => 3 | 28 => 90 | 24 => 35 | 0 => 0 | 3 => 3 | 37 => 136 | 48 => 167 | 50 => 169 | 4 => 4 | 40 => 160 | 39 => 159 | 45 => 164 | 5 => 5 | 9 => 9 | 51 => 173 | 55 => 177 | 57 => 181 | 58 => 182 | 33 => 77 | n => n, fun | n => n⟩
theorem Tryz.sortedZ : Go.Proofs.SlLaysZI.n6 Tryz.prog Tryz.sortedZ_ren := {
  mixed := by kernel_rfl
  f6 := ⟨Tryz.f51.name, by decide, Tryz.func51.trans (congrArg some (by kernel_rfl))⟩
  f8 := ⟨Tryz.f67.name, by decide, Tryz.func67.trans (congrArg some (by kernel_rfl))⟩
  f11 := ⟨Tryz.f84.name, by decide, Tryz.func84.trans (congrArg some (by kernel_rfl))⟩
  t0 := Tryz.underlying0
  a0 := Tryz.isAgg0
  z0 := Tryz.sizeOf0
  v0 := Tryz.zeroValue0
  t24 := Tryz.underlying35
  a24 := Tryz.isAgg35
  z24 := Tryz.sizeOf35
  v24 := Tryz.zeroValue35
  t26 := Tryz.underlying3
  a26 := Tryz.isAgg3
  z26 := Tryz.sizeOf3
  v26 := Tryz.zeroValue3
  t28 := Tryz.underlying90
  a28 := Tryz.isAgg90
  z28 := Tryz.sizeOf90
  v28 := Tryz.zeroValue90
  i26 := by kernel_rfl }
noncomputable def slices_Sort_sp : CSpec := sortI_sp 3
theorem slices_Sort_ok : EnterOk Tryz.prog 68 ∧ CSpecOk Tryz.prog cfgG 68 slices_Sort_sp := ⟨enter Tryz.func68 (by kernel_rfl) (by kernel_rfl), sortI_spec Tryz.lays189 3⟩
noncomputable def maps_Keys_sp : CSpec := keys_sp 78 69
theorem maps_Keys_ok : EnterOk Tryz.prog 52 ∧ CSpecOk Tryz.prog cfgG 52 maps_Keys_sp := ⟨enter Tryz.func52 (by kernel_rfl) (by kernel_rfl), keysI_spec Tryz.keysZ⟩
/-- The numbers in their order. -/
def sortedG (x : Option Nat) (H : List Pev.Node) : Option (List Int × List Pev.Node) := (sortedZ 78 true shFil x H).map fun ks => (ks, H)
noncomputable def slices_Sorted_sp : CSpec := genSpecR [.fnc 69 [.rf .ptr], .hin] [.row 3 (.int .i64), .reg] none true (fun x => sortedG x.1 x.2.2.1)
theorem sortsIn (m : Nat) : Go.Proofs.AnyZI.SortsIn Tryz.prog Tryz.sortedZ_ren Fence.wide m :=
  ⟨fun blk off cap ss W hH hblk hsz => callsIn_wide.2 (Go.Proofs.Any.slices_Sort_int Tryz.lays189 blk off cap ss W hH hblk hsz), fun p cap W => callsIn_wide.2 (Go.Proofs.Any.slices_Sort_int_none Tryz.lays189 p cap W)⟩
theorem slices_Sorted_ok : EnterOk Tryz.prog 51 ∧ CSpecOk Tryz.prog cfgG 51 slices_Sorted_sp := ⟨enter Tryz.func51 (by kernel_rfl) (by kernel_rfl), handSpecR (by
  intro x r h
  obtain ⟨n, lk, H, ⟨⟩⟩ := x
  replace h : (sortedZ 78 true shFil n H).map (fun ks => (ks, H)) = some r := h
  obtain ⟨ks, h1, h2⟩ := Option.map_eq_some_iff.1 h
  subst h2
  exact sortedI_ok Tryz.sortedZ Tryz.keys1Z Tryz.underlying3 (sortsIn 4) (enters_of Tryz.func68 (by kernel_rfl) rfl) (enters_of Tryz.func69 (by kernel_rfl) rfl) h1)⟩
noncomputable def L1 : List (Nat × Pev.CSpec) := (51, slices_Sorted_sp) :: (52, maps_Keys_sp) :: (68, slices_Sort_sp) :: L0
theorem s1 : SpecsOk Tryz.prog (tabsG L1) := oneSpecGT (oneSpecGT (oneSpecGT s0 slices_Sort_ok) maps_Keys_ok) slices_Sorted_ok
end Go.Proofs.YtmpgilieeegnhaaGreatDoor
