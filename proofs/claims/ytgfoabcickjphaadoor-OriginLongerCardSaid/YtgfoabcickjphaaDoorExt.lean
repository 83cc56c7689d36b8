/- Library functions that are met by contract: slices.Sort of ints, slices.Clone: nothing is asked. -/
import Derived.Shelf.SlSortCmp.NoneTotal
import Derived.Test.YtgfoabcickjphaaDoorVcSG
import Derived.Test.YtgfoabcickjphaaDoorVcW
import Derived.Test.YtgfoabcickjphaaDoorChecked
import Derived.KernelRfl
namespace Go.Proofs.YtgfoabcickjphaaDoor
open Go Go.Vc Go.Shelf Go.Proofs
set_option maxRecDepth 100000
def clone23_ren : Go.Shelf.Ren := ⟨fun | 41 => 23 | n => n, fun | 22 => 34 | 23 => 4 | 4 => 4 | n => n, fun | n => n⟩
theorem clone23 : Go.Proofs.SlLaysE0.n41 Tryd.prog clone23_ren := {
  mixed := by kernel_rfl
  f41 := ⟨Tryd.f23.name, by decide, Tryd.func23.trans (congrArg some (by kernel_rfl))⟩
  t4 := Tryd.underlying4
  a4 := Tryd.isAgg4
  z4 := Tryd.sizeOf4
  v4 := Tryd.zeroValue4
  t22 := Tryd.underlying34
  a22 := Tryd.isAgg34
  z22 := Tryd.sizeOf34
  v22 := Tryd.zeroValue34 }
def clone59_ren : Go.Shelf.Ren := ⟨fun | 41 => 59 | n => n, fun | 22 => 38 | 23 => 46 | 4 => 4 | n => n, fun | n => n⟩
theorem clone59 : Go.Proofs.SlLaysE0.n41 Tryd.prog clone59_ren := {
  mixed := by kernel_rfl
  f41 := ⟨Tryd.f59.name, by decide, Tryd.func59.trans (congrArg some (by kernel_rfl))⟩
  t4 := Tryd.underlying4
  a4 := Tryd.isAgg4
  z4 := Tryd.sizeOf4
  v4 := Tryd.zeroValue4
  t22 := Tryd.underlying38
  a22 := Tryd.isAgg38
  z22 := Tryd.sizeOf38
  v22 := Tryd.zeroValue38 }
def sortF60_ren : Go.Shelf.Ren := ⟨fun | 6 => 60 | 15 => 74 | 14 => 73 | 28 => 92 | 29 => 93 | 20 => 84 | 21 => 85 | 22 => 86 | 23 => 87 | 24 => 88 | 25 => 89 | 26 => 90 | 27 => 91 | 46 => 98 | 47 => 99 | 48 => 100 | 49 => 101 | 50 => 102 | 57 => 104 | n => n, fun | 22 => 38 | 24 => 46 | 25 => 126 | 3 => 3 | 39 => 70 | 0 => 0 | 53 => 151 | 55 => 40 | 4 => 4 | 46 => 145 | 45 => 144 | 50 => 121 | 5 => 5 | 9 => 9 | 66 => 156 | 70 => 160 | 76 => 163 | 77 => 164 | n => n, fun | n => n⟩
theorem sortF60 : Go.Proofs.SlLaysF0.n6 Tryd.prog sortF60_ren := {
  mixed := by kernel_rfl
  f6 := ⟨Tryd.f60.name, by decide, Tryd.func60.trans (congrArg some (by kernel_rfl))⟩
  f14 := ⟨Tryd.f73.name, by decide, Tryd.func73.trans (congrArg some (by kernel_rfl))⟩
  f15 := Tryd.func74.trans (congrArg some (by kernel_rfl))
  f20 := ⟨Tryd.f84.name, by decide, Tryd.func84.trans (congrArg some (by kernel_rfl))⟩
  f21 := ⟨Tryd.f85.name, by decide, Tryd.func85.trans (congrArg some (by kernel_rfl))⟩
  f22 := ⟨Tryd.f86.name, by decide, Tryd.func86.trans (congrArg some (by kernel_rfl))⟩
  f23 := ⟨Tryd.f87.name, by decide, Tryd.func87.trans (congrArg some (by kernel_rfl))⟩
  f24 := ⟨Tryd.f88.name, by decide, Tryd.func88.trans (congrArg some (by kernel_rfl))⟩
  f25 := ⟨Tryd.f89.name, by decide, Tryd.func89.trans (congrArg some (by kernel_rfl))⟩
  f26 := ⟨Tryd.f90.name, by decide, Tryd.func90.trans (congrArg some (by kernel_rfl))⟩
  f27 := ⟨Tryd.f91.name, by decide, Tryd.func91.trans (congrArg some (by kernel_rfl))⟩
  f28 := Tryd.func92.trans (congrArg some (by kernel_rfl))
  f29 := Tryd.func93.trans (congrArg some (by kernel_rfl))
  f46 := ⟨Tryd.f98.name, by decide, Tryd.func98.trans (congrArg some (by kernel_rfl))⟩
  f47 := Tryd.func99.trans (congrArg some (by kernel_rfl))
  f48 := Tryd.func100.trans (congrArg some (by kernel_rfl))
  f49 := ⟨Tryd.f101.name, by decide, Tryd.func101.trans (congrArg some (by kernel_rfl))⟩
  f50 := ⟨Tryd.f102.name, by decide, Tryd.func102.trans (congrArg some (by kernel_rfl))⟩
  f57 := ⟨Tryd.f104.name, by decide, Tryd.func104.trans (congrArg some (by kernel_rfl))⟩
  t0 := Tryd.underlying0
  a0 := Tryd.isAgg0
  z0 := Tryd.sizeOf0
  v0 := Tryd.zeroValue0
  t3 := Tryd.underlying3
  a3 := Tryd.isAgg3
  z3 := Tryd.sizeOf3
  v3 := Tryd.zeroValue3
  t4 := Tryd.underlying4
  a4 := Tryd.isAgg4
  z4 := Tryd.sizeOf4
  v4 := Tryd.zeroValue4
  t5 := Tryd.underlying5
  a5 := Tryd.isAgg5
  z5 := Tryd.sizeOf5
  v5 := Tryd.zeroValue5
  t9 := Tryd.underlying9
  a9 := Tryd.isAgg9
  z9 := Tryd.sizeOf9
  v9 := Tryd.zeroValue9
  t22 := Tryd.underlying38
  a22 := Tryd.isAgg38
  z22 := Tryd.sizeOf38
  v22 := Tryd.zeroValue38
  t25 := Tryd.underlying126
  a25 := Tryd.isAgg126
  z25 := Tryd.sizeOf126
  v25 := Tryd.zeroValue126
  t39 := Tryd.underlying70
  a39 := Tryd.isAgg70
  z39 := Tryd.sizeOf70
  v39 := Tryd.zeroValue70
  t45 := Tryd.underlying144
  a45 := Tryd.isAgg144
  z45 := Tryd.sizeOf144
  v45 := Tryd.zeroValue144
  t46 := Tryd.underlying145
  a46 := Tryd.isAgg145
  z46 := Tryd.sizeOf145
  v46 := Tryd.zeroValue145
  t50 := Tryd.underlying121
  a50 := Tryd.isAgg121
  z50 := Tryd.sizeOf121
  v50 := Tryd.zeroValue121
  t53 := Tryd.underlying151
  a53 := Tryd.isAgg151
  z53 := Tryd.sizeOf151
  v53 := Tryd.zeroValue151
  t55 := Tryd.underlying40
  a55 := Tryd.isAgg40
  z55 := Tryd.sizeOf40
  v55 := Tryd.zeroValue40
  t66 := Tryd.underlying156
  a66 := Tryd.isAgg156
  z66 := Tryd.sizeOf156
  v66 := Tryd.zeroValue156
  t70 := Tryd.underlying160
  a70 := Tryd.isAgg160
  z70 := Tryd.sizeOf160
  v70 := Tryd.zeroValue160
  t76 := Tryd.underlying163
  a76 := Tryd.isAgg163
  z76 := Tryd.sizeOf163
  v76 := Tryd.zeroValue163
  t77 := Tryd.underlying164
  a77 := Tryd.isAgg164
  z77 := Tryd.sizeOf164
  v77 := Tryd.zeroValue164 }
theorem cloneOk23 : CloneOk Tryd.prog 23 4 1 1 := CloneOk.of clone23 rfl rfl ⟨by kernel_rfl, by decide⟩ (fun w => by kernel_rfl)
theorem cloneOk59 : CloneOk Tryd.prog 59 46 6 48 := CloneOk.of clone59 rfl rfl ⟨by kernel_rfl, by decide⟩ (fun w => by kernel_rfl)
theorem sortOk60 : SortOk Tryd.prog 60 6 := ⟨fun enc hk h1 cf hO g cb blk off cap d w eg hcmp hH hblk hsz => Go.Proofs.AnyQ.slices_SortFunc_eq sortF60 6 (fun w => by kernel_rfl) (fun w => by kernel_rfl) enc hk h1 cf hO g cb blk off cap d w eg hcmp hH hblk hsz, fun p cap fv w => Go.Proofs.AnyF.slices_SortFunc_none sortF60 p cap fv w⟩
end Go.Proofs.YtgfoabcickjphaaDoor
