/- Library functions that are met by contract: slices.Sort of ints, slices.Clone: nothing is asked. -/
import Derived.Shelf.Slices.In.SortNone
import Derived.Shelf.Sort.Plain
import Derived.Test.YtgbfjigliajbkaaVcW
import Derived.Test.YtgbfjigliajbkaaChecked
import Derived.KernelRfl
namespace Go.Proofs.Ytgbfjigliajbkaa
open Go Go.Vc Go.Shelf Go.Proofs
def clone26_ren : Go.Shelf.Ren := ⟨fun | 41 => 26 | n => n, fun | 22 => 22 | 23 => 3 | 4 => 4 | n => n, fun | n => n⟩
theorem clone26 : Go.Proofs.SlLaysE0.n41 Try.prog clone26_ren := {
  mixed := by kernel_rfl
  f41 := ⟨Try.f26.name, by decide, Try.func26.trans (congrArg some (by kernel_rfl))⟩
  t4 := Try.underlying4
  a4 := Try.isAgg4
  z4 := Try.sizeOf4
  v4 := Try.zeroValue4
  t22 := Try.underlying22
  a22 := Try.isAgg22
  z22 := Try.sizeOf22
  v22 := Try.zeroValue22 }
def lays189_ren : Go.Shelf.Ren := ⟨fun | 189 => 31 | 125 => 38 | 257 => 37 | 128 => 48 | 129 => 49 | 294 => 39 | 295 => 40 | 296 => 41 | 297 => 42 | 298 => 43 | 299 => 44 | 216 => 45 | 300 => 46 | 301 => 47 | 328 => 50 | 329 => 51 | 330 => 52 | 331 => 53 | 332 => 54 | 215 => 55 | 343 => 56 | n => n, fun | 28 => 22 | 3 => 3 | 46 => 35 | 0 => 0 | 51 => 69 | 53 => 71 | 4 => 4 | 183 => 61 | 182 => 60 | 131 => 66 | 5 => 5 | 9 => 9 | 218 => 72 | 222 => 76 | 228 => 78 | 229 => 79 | n => n, fun | n => n⟩
theorem lays189 : Go.Proofs.Lays.n189 Try.prog lays189_ren := {
  mixed := by kernel_rfl
  f125 := Try.func38.trans (congrArg some (by kernel_rfl))
  f128 := Try.func48.trans (congrArg some (by kernel_rfl))
  f129 := Try.func49.trans (congrArg some (by kernel_rfl))
  f189 := Try.func31.trans (congrArg some (by kernel_rfl))
  f215 := Try.func55.trans (congrArg some (by kernel_rfl))
  f216 := Try.func45.trans (congrArg some (by kernel_rfl))
  f257 := Try.func37.trans (congrArg some (by kernel_rfl))
  f294 := Try.func39.trans (congrArg some (by kernel_rfl))
  f295 := Try.func40.trans (congrArg some (by kernel_rfl))
  f296 := Try.func41.trans (congrArg some (by kernel_rfl))
  f297 := Try.func42.trans (congrArg some (by kernel_rfl))
  f298 := Try.func43.trans (congrArg some (by kernel_rfl))
  f299 := Try.func44.trans (congrArg some (by kernel_rfl))
  f300 := Try.func46.trans (congrArg some (by kernel_rfl))
  f301 := Try.func47.trans (congrArg some (by kernel_rfl))
  f328 := Try.func50.trans (congrArg some (by kernel_rfl))
  f329 := Try.func51.trans (congrArg some (by kernel_rfl))
  f330 := Try.func52.trans (congrArg some (by kernel_rfl))
  f331 := Try.func53.trans (congrArg some (by kernel_rfl))
  f332 := Try.func54.trans (congrArg some (by kernel_rfl))
  f343 := Try.func56.trans (congrArg some (by kernel_rfl))
  t0 := Try.underlying0
  a0 := Try.isAgg0
  z0 := Try.sizeOf0
  v0 := Try.zeroValue0
  t3 := Try.underlying3
  a3 := Try.isAgg3
  z3 := Try.sizeOf3
  v3 := Try.zeroValue3
  t4 := Try.underlying4
  a4 := Try.isAgg4
  z4 := Try.sizeOf4
  v4 := Try.zeroValue4
  t5 := Try.underlying5
  a5 := Try.isAgg5
  z5 := Try.sizeOf5
  v5 := Try.zeroValue5
  t9 := Try.underlying9
  a9 := Try.isAgg9
  z9 := Try.sizeOf9
  v9 := Try.zeroValue9
  t28 := Try.underlying22
  a28 := Try.isAgg22
  z28 := Try.sizeOf22
  v28 := Try.zeroValue22
  t46 := Try.underlying35
  a46 := Try.isAgg35
  z46 := Try.sizeOf35
  v46 := Try.zeroValue35
  t51 := Try.underlying69
  a51 := Try.isAgg69
  z51 := Try.sizeOf69
  v51 := Try.zeroValue69
  t53 := Try.underlying71
  a53 := Try.isAgg71
  z53 := Try.sizeOf71
  v53 := Try.zeroValue71
  t131 := Try.underlying66
  a131 := Try.isAgg66
  z131 := Try.sizeOf66
  v131 := Try.zeroValue66
  t182 := Try.underlying60
  a182 := Try.isAgg60
  z182 := Try.sizeOf60
  v182 := Try.zeroValue60
  t183 := Try.underlying61
  a183 := Try.isAgg61
  z183 := Try.sizeOf61
  v183 := Try.zeroValue61
  t218 := Try.underlying72
  a218 := Try.isAgg72
  z218 := Try.sizeOf72
  v218 := Try.zeroValue72
  t222 := Try.underlying76
  a222 := Try.isAgg76
  z222 := Try.sizeOf76
  v222 := Try.zeroValue76
  t228 := Try.underlying78
  a228 := Try.isAgg78
  z228 := Try.sizeOf78
  v228 := Try.zeroValue78
  t229 := Try.underlying79
  a229 := Try.isAgg79
  z229 := Try.sizeOf79
  v229 := Try.zeroValue79 }
theorem cloneOk26 : CloneOk Try.prog 26 3 1 8 := CloneOk.of clone26 rfl rfl ⟨by kernel_rfl, by decide⟩ (fun w => by kernel_rfl)
open Classical in
noncomputable def ext31_slices_Sort (a0 : List Int) : Option (List Int) := if a0.length < 4611686018427387904 then some (a0.mergeSort fun x y => decide (x ≤ y)) else none
theorem ext31_slices_Sort_ac (a0 : List Int) (r : List Int) (h : ext31_slices_Sort a0 = some r) : AC Try.prog 31 [(.sref 0 1 0 a0.length)] [(0, (.row 3 1 (a0.map (eI .i64))))] (.tup []) [(0, some (.row 3 1 (r.map (eI .i64))))] := by
  unfold ext31_slices_Sort at h
  split at h
  · rename_i hlt
    cases h
    exact AC.rowI a0 _ (List.length_mergeSort _) (fun _ b cap cur w hw ht => (Go.Proofs.Any.slices_Sort_int lays189 b 0 cap a0 w (holds_of_cells hw ht) (Array.getElem?_eq_some_iff.1 hw).1 hlt).mono fun ex w' ⟨he, n, os, hw'⟩ => ⟨he, hw' ▸ sorted_done hw ht (List.length_mergeSort _)⟩) (fun _ p cap w => Go.Proofs.Any.slices_Sort_int_none lays189 p cap w)
  · cases h
end Go.Proofs.Ytgbfjigliajbkaa
