/- Library functions that are met by contract: slices.Sort of ints, slices.Clone: nothing is asked. -/
import Derived.Shelf.SlSortCmp.NoneTotal
import Derived.Test.YtkhjkjojjdkidaaGreatDoorVcSG
import Derived.Test.YtkhjkjojjdkidaaGreatDoorVcW
import Derived.Test.YtkhjkjojjdkidaaGreatDoorChecked
import Derived.KernelRfl
namespace Go.Proofs.YtkhjkjojjdkidaaGreatDoor
open Go Go.Vc Go.Shelf Go.Proofs
set_option maxRecDepth 100000
def B0k : Go.Shelf.Ren := ⟨fun | 6 => 123 | 15 => 140 | 14 => 139 | 28 => 150 | 29 => 151 | 20 => 142 | 21 => 143 | 22 => 144 | 23 => 145 | 24 => 146 | 25 => 147 | 26 => 148 | 27 => 149 | 46 => 154 | 47 => 155 | 48 => 156 | 49 => 157 | 50 => 158 | 57 => 159 | n => n, fun | 22 => 33 | 24 => 69 | 25 => 159 | 3 => 3 | 39 => 92 | 0 => 0 | 53 => 181 | 55 => 25 | 4 => 4 | 46 => 175 | 45 => 174 | 50 => 90 | 5 => 5 | 9 => 9 | 66 => 184 | 70 => 188 | 76 => 190 | 77 => 191 | n => n, fun | n => n⟩
theorem sortF123 : Go.Proofs.SlLaysF0.n6 Tryz.prog B0k := {
  mixed := by kernel_rfl
  f6 := ⟨Tryz.f123.name, by decide, Tryz.func123.trans (congrArg some (by kernel_rfl))⟩
  f14 := ⟨Tryz.f139.name, by decide, Tryz.func139.trans (congrArg some (by kernel_rfl))⟩
  f15 := Tryz.func140.trans (congrArg some (by kernel_rfl))
  f20 := ⟨Tryz.f142.name, by decide, Tryz.func142.trans (congrArg some (by kernel_rfl))⟩
  f21 := ⟨Tryz.f143.name, by decide, Tryz.func143.trans (congrArg some (by kernel_rfl))⟩
  f22 := ⟨Tryz.f144.name, by decide, Tryz.func144.trans (congrArg some (by kernel_rfl))⟩
  f23 := ⟨Tryz.f145.name, by decide, Tryz.func145.trans (congrArg some (by kernel_rfl))⟩
  f24 := ⟨Tryz.f146.name, by decide, Tryz.func146.trans (congrArg some (by kernel_rfl))⟩
  f25 := ⟨Tryz.f147.name, by decide, Tryz.func147.trans (congrArg some (by kernel_rfl))⟩
  f26 := ⟨Tryz.f148.name, by decide, Tryz.func148.trans (congrArg some (by kernel_rfl))⟩
  f27 := ⟨Tryz.f149.name, by decide, Tryz.func149.trans (congrArg some (by kernel_rfl))⟩
  f28 := Tryz.func150.trans (congrArg some (by kernel_rfl))
  f29 := Tryz.func151.trans (congrArg some (by kernel_rfl))
  f46 := ⟨Tryz.f154.name, by decide, Tryz.func154.trans (congrArg some (by kernel_rfl))⟩
  f47 := Tryz.func155.trans (congrArg some (by kernel_rfl))
  f48 := Tryz.func156.trans (congrArg some (by kernel_rfl))
  f49 := ⟨Tryz.f157.name, by decide, Tryz.func157.trans (congrArg some (by kernel_rfl))⟩
  f50 := ⟨Tryz.f158.name, by decide, Tryz.func158.trans (congrArg some (by kernel_rfl))⟩
  f57 := ⟨Tryz.f159.name, by decide, Tryz.func159.trans (congrArg some (by kernel_rfl))⟩
  t0 := Tryz.underlying0
  a0 := Tryz.isAgg0
  z0 := Tryz.sizeOf0
  v0 := Tryz.zeroValue0
  t3 := Tryz.underlying3
  a3 := Tryz.isAgg3
  z3 := Tryz.sizeOf3
  v3 := Tryz.zeroValue3
  t4 := Tryz.underlying4
  a4 := Tryz.isAgg4
  z4 := Tryz.sizeOf4
  v4 := Tryz.zeroValue4
  t5 := Tryz.underlying5
  a5 := Tryz.isAgg5
  z5 := Tryz.sizeOf5
  v5 := Tryz.zeroValue5
  t9 := Tryz.underlying9
  a9 := Tryz.isAgg9
  z9 := Tryz.sizeOf9
  v9 := Tryz.zeroValue9
  t22 := Tryz.underlying33
  a22 := Tryz.isAgg33
  z22 := Tryz.sizeOf33
  v22 := Tryz.zeroValue33
  t25 := Tryz.underlying159
  a25 := Tryz.isAgg159
  z25 := Tryz.sizeOf159
  v25 := Tryz.zeroValue159
  t39 := Tryz.underlying92
  a39 := Tryz.isAgg92
  z39 := Tryz.sizeOf92
  v39 := Tryz.zeroValue92
  t45 := Tryz.underlying174
  a45 := Tryz.isAgg174
  z45 := Tryz.sizeOf174
  v45 := Tryz.zeroValue174
  t46 := Tryz.underlying175
  a46 := Tryz.isAgg175
  z46 := Tryz.sizeOf175
  v46 := Tryz.zeroValue175
  t50 := Tryz.underlying90
  a50 := Tryz.isAgg90
  z50 := Tryz.sizeOf90
  v50 := Tryz.zeroValue90
  t53 := Tryz.underlying181
  a53 := Tryz.isAgg181
  z53 := Tryz.sizeOf181
  v53 := Tryz.zeroValue181
  t55 := Tryz.underlying25
  a55 := Tryz.isAgg25
  z55 := Tryz.sizeOf25
  v55 := Tryz.zeroValue25
  t66 := Tryz.underlying184
  a66 := Tryz.isAgg184
  z66 := Tryz.sizeOf184
  v66 := Tryz.zeroValue184
  t70 := Tryz.underlying188
  a70 := Tryz.isAgg188
  z70 := Tryz.sizeOf188
  v70 := Tryz.zeroValue188
  t76 := Tryz.underlying190
  a76 := Tryz.isAgg190
  z76 := Tryz.sizeOf190
  v76 := Tryz.zeroValue190
  t77 := Tryz.underlying191
  a77 := Tryz.isAgg191
  z77 := Tryz.sizeOf191
  v77 := Tryz.zeroValue191 }
def B0l : Go.Shelf.Ren := ⟨fun | 41 => 137 | n => n, fun | 22 => 67 | 23 => 5 | 4 => 4 | n => n, fun | n => n⟩
theorem clone137 : Go.Proofs.SlLaysE0.n41 Tryz.prog B0l := {
  mixed := by kernel_rfl
  f41 := ⟨Tryz.f137.name, by decide, Tryz.func137.trans (congrArg some (by kernel_rfl))⟩
  t4 := Tryz.underlying4
  a4 := Tryz.isAgg4
  z4 := Tryz.sizeOf4
  v4 := Tryz.zeroValue4
  t22 := Tryz.underlying67
  a22 := Tryz.isAgg67
  z22 := Tryz.sizeOf67
  v22 := Tryz.zeroValue67 }
theorem sortOk123 : SortOk Tryz.prog 123 3 := ⟨fun enc hk h1 cf hO g cb blk off cap d w eg hcmp hH hblk hsz => Go.Proofs.AnyQ.slices_SortFunc_eq sortF123 3 (fun w => by kernel_rfl) (fun w => by kernel_rfl) enc hk h1 cf hO g cb blk off cap d w eg hcmp hH hblk hsz, fun p cap fv w => Go.Proofs.AnyF.slices_SortFunc_none sortF123 p cap fv w⟩
theorem cloneOk137 : CloneOk Tryz.prog 137 5 1 1 := CloneOk.of clone137 rfl rfl ⟨by kernel_rfl, by decide⟩ (fun w => by kernel_rfl)
end Go.Proofs.YtkhjkjojjdkidaaGreatDoor
