/- Library functions that are met by contract: slices.Sort of ints, slices.Clone: nothing is asked. -/
import Derived.Shelf.SlMaps.Clone
import Derived.Shelf.SlSortCmp.NoneTotal
import Derived.Test.YtbkhigkknhlmhaaVcMQ
import Derived.Test.YtbkhigkknhlmhaaVcSG
import Derived.Test.YtbkhigkknhlmhaaVcW
import Derived.Test.YtbkhigkknhlmhaaChecked
import Derived.KernelRfl
namespace Go.Proofs.Ytbkhigkknhlmhaa
open Go Go.Vc Go.Shelf Go.Proofs
def sortF42_ren : Go.Shelf.Ren := ⟨fun | 6 => 42 | 15 => 72 | 14 => 71 | 28 => 94 | 29 => 95 | 20 => 86 | 21 => 87 | 22 => 88 | 23 => 89 | 24 => 90 | 25 => 91 | 26 => 92 | 27 => 93 | 46 => 101 | 47 => 102 | 48 => 103 | 49 => 104 | 50 => 105 | 57 => 108 | n => n, fun | 22 => 23 | 24 => 39 | 25 => 72 | 3 => 3 | 39 => 76 | 0 => 0 | 53 => 106 | 55 => 31 | 4 => 4 | 46 => 100 | 45 => 99 | 50 => 51 | 5 => 5 | 9 => 9 | 66 => 112 | 70 => 116 | 76 => 120 | 77 => 121 | n => n, fun | n => n⟩
theorem sortF42 : Go.Proofs.SlLaysF0.n6 Try.prog sortF42_ren := {
  mixed := by kernel_rfl
  f6 := ⟨Try.f42.name, by decide, Try.func42.trans (congrArg some (by kernel_rfl))⟩
  f14 := ⟨Try.f71.name, by decide, Try.func71.trans (congrArg some (by kernel_rfl))⟩
  f15 := Try.func72.trans (congrArg some (by kernel_rfl))
  f20 := ⟨Try.f86.name, by decide, Try.func86.trans (congrArg some (by kernel_rfl))⟩
  f21 := ⟨Try.f87.name, by decide, Try.func87.trans (congrArg some (by kernel_rfl))⟩
  f22 := ⟨Try.f88.name, by decide, Try.func88.trans (congrArg some (by kernel_rfl))⟩
  f23 := ⟨Try.f89.name, by decide, Try.func89.trans (congrArg some (by kernel_rfl))⟩
  f24 := ⟨Try.f90.name, by decide, Try.func90.trans (congrArg some (by kernel_rfl))⟩
  f25 := ⟨Try.f91.name, by decide, Try.func91.trans (congrArg some (by kernel_rfl))⟩
  f26 := ⟨Try.f92.name, by decide, Try.func92.trans (congrArg some (by kernel_rfl))⟩
  f27 := ⟨Try.f93.name, by decide, Try.func93.trans (congrArg some (by kernel_rfl))⟩
  f28 := Try.func94.trans (congrArg some (by kernel_rfl))
  f29 := Try.func95.trans (congrArg some (by kernel_rfl))
  f46 := ⟨Try.f101.name, by decide, Try.func101.trans (congrArg some (by kernel_rfl))⟩
  f47 := Try.func102.trans (congrArg some (by kernel_rfl))
  f48 := Try.func103.trans (congrArg some (by kernel_rfl))
  f49 := ⟨Try.f104.name, by decide, Try.func104.trans (congrArg some (by kernel_rfl))⟩
  f50 := ⟨Try.f105.name, by decide, Try.func105.trans (congrArg some (by kernel_rfl))⟩
  f57 := ⟨Try.f108.name, by decide, Try.func108.trans (congrArg some (by kernel_rfl))⟩
  t0 := Try.underlying0
  a0 := Try.isAgg0
  z0 := Try.sizeOf0
  v0 := Try.zeroValue0
  t3 := Try.underlying3
  a3 := Try.isAgg3
  z3 := Try.sizeOf3
  v3 := Try.zeroValue3
  t4 := Try.underlying4
  a4 := Try.isAgg4
  z4 := Try.sizeOf4
  v4 := Try.zeroValue4
  t5 := Try.underlying5
  a5 := Try.isAgg5
  z5 := Try.sizeOf5
  v5 := Try.zeroValue5
  t9 := Try.underlying9
  a9 := Try.isAgg9
  z9 := Try.sizeOf9
  v9 := Try.zeroValue9
  t22 := Try.underlying23
  a22 := Try.isAgg23
  z22 := Try.sizeOf23
  v22 := Try.zeroValue23
  t25 := Try.underlying72
  a25 := Try.isAgg72
  z25 := Try.sizeOf72
  v25 := Try.zeroValue72
  t39 := Try.underlying76
  a39 := Try.isAgg76
  z39 := Try.sizeOf76
  v39 := Try.zeroValue76
  t45 := Try.underlying99
  a45 := Try.isAgg99
  z45 := Try.sizeOf99
  v45 := Try.zeroValue99
  t46 := Try.underlying100
  a46 := Try.isAgg100
  z46 := Try.sizeOf100
  v46 := Try.zeroValue100
  t50 := Try.underlying51
  a50 := Try.isAgg51
  z50 := Try.sizeOf51
  v50 := Try.zeroValue51
  t53 := Try.underlying106
  a53 := Try.isAgg106
  z53 := Try.sizeOf106
  v53 := Try.zeroValue106
  t55 := Try.underlying31
  a55 := Try.isAgg31
  z55 := Try.sizeOf31
  v55 := Try.zeroValue31
  t66 := Try.underlying112
  a66 := Try.isAgg112
  z66 := Try.sizeOf112
  v66 := Try.zeroValue112
  t70 := Try.underlying116
  a70 := Try.isAgg116
  z70 := Try.sizeOf116
  v70 := Try.zeroValue116
  t76 := Try.underlying120
  a76 := Try.isAgg120
  z76 := Try.sizeOf120
  v76 := Try.zeroValue120
  t77 := Try.underlying121
  a77 := Try.isAgg121
  z77 := Try.sizeOf121
  v77 := Try.zeroValue121 }
def clone64_ren : Go.Shelf.Ren := ⟨fun | 41 => 64 | n => n, fun | 22 => 23 | 23 => 39 | 4 => 4 | n => n, fun | n => n⟩
theorem clone64 : Go.Proofs.SlLaysE0.n41 Try.prog clone64_ren := {
  mixed := by kernel_rfl
  f41 := ⟨Try.f64.name, by decide, Try.func64.trans (congrArg some (by kernel_rfl))⟩
  t4 := Try.underlying4
  a4 := Try.isAgg4
  z4 := Try.sizeOf4
  v4 := Try.zeroValue4
  t22 := Try.underlying23
  a22 := Try.isAgg23
  z22 := Try.sizeOf23
  v22 := Try.zeroValue23 }
def mclone67_ren : Go.Shelf.Ren := ⟨fun | 5 => 67 | 7 => 84 | n => n, fun | 23 => 68 | 25 => 37 | 3 => 3 | 4 => 4 | 20 => 20 | n => n, fun | n => n⟩
theorem mclone67 : Go.Proofs.SlLaysW.n5 Try.prog mclone67_ren := {
  mixed := by kernel_rfl
  f5 := ⟨Try.f67.name, by decide, Try.func67.trans (congrArg some (by kernel_rfl))⟩
  f7 := Try.func84.trans (congrArg some (by kernel_rfl))
  t4 := Try.underlying4
  a4 := Try.isAgg4
  z4 := Try.sizeOf4
  v4 := Try.zeroValue4
  t20 := Try.underlying20
  a20 := Try.isAgg20
  z20 := Try.sizeOf20
  v20 := Try.zeroValue20
  t23 := Try.underlying68
  a23 := Try.isAgg68
  z23 := Try.sizeOf68
  v23 := Try.zeroValue68 }
theorem sortOk42 : SortOk Try.prog 42 5 := ⟨fun enc hk h1 cf hO g cb blk off cap d w eg hcmp hH hblk hsz => Go.Proofs.AnyQ.slices_SortFunc_eq sortF42 5 (fun w => by kernel_rfl) (fun w => by kernel_rfl) enc hk h1 cf hO g cb blk off cap d w eg hcmp hH hblk hsz, fun p cap fv w => Go.Proofs.AnyF.slices_SortFunc_none sortF42 p cap fv w⟩
theorem cloneOk64 : CloneOk Try.prog 64 39 5 40 := CloneOk.of clone64 rfl rfl ⟨by kernel_rfl, by decide⟩ (fun w => by kernel_rfl)
theorem mcloneOk67 : MCloneOk Try.prog 67 := ⟨fun b es clock w hb => Go.Proofs.AnyW.maps_Clone mclone67 b es clock w hb⟩
end Go.Proofs.Ytbkhigkknhlmhaa
