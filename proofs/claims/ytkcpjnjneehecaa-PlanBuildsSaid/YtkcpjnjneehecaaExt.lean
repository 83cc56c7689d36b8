/- Library functions that are met by contract: slices.Sort of ints, slices.Clone: nothing is asked. -/
import Derived.Shelf.SlIterI.Sorted
import Derived.Shelf.Slices.In.SortNone
import Derived.Shelf.Sort.Plain
import Derived.Test.YtkcpjnjneehecaaVcSq
import Derived.Test.YtkcpjnjneehecaaVcW
import Derived.Test.YtkcpjnjneehecaaChecked
import Derived.KernelRfl
namespace Go.Proofs.Ytkcpjnjneehecaa
open Go Go.Vc Go.Shelf Go.Proofs
set_option maxRecDepth 100000
def sorted55_ren : Go.Shelf.Ren := ⟨fun | 6 => 55 | 8 => 62 | 9 => 63 | 11 => 69 | 13 => 71 | 12 => 70 | 23 => 81 | 24 => 82 | 14 => 72 | 15 => 73 | 16 => 74 | 17 => 75 | 18 => 76 | 19 => 77 | 20 => 78 | 21 => 79 | 22 => 80 | 25 => 83 | 26 => 84 | 27 => 85 | 28 => 86 | 29 => 87 | 30 => 88 | 31 => 89 | n => n, fun | 26 => 3 | 28 => 89 | 24 => 23 | 0 => 0 | 3 => 3 | 37 => 102 | 48 => 114 | 50 => 116 | 4 => 4 | 40 => 107 | 39 => 106 | 45 => 91 | 5 => 5 | 9 => 9 | 51 => 117 | 55 => 121 | 57 => 123 | 58 => 124 | 33 => 95 | n => n, fun | n => n⟩
theorem sorted55 : Go.Proofs.SlLaysZI.n6 Try.prog sorted55_ren := {
  mixed := by kernel_rfl
  f6 := ⟨Try.f55.name, by decide, Try.func55.trans (congrArg some (by kernel_rfl))⟩
  f8 := ⟨Try.f62.name, by decide, Try.func62.trans (congrArg some (by kernel_rfl))⟩
  f11 := ⟨Try.f69.name, by decide, Try.func69.trans (congrArg some (by kernel_rfl))⟩
  t0 := Try.underlying0
  a0 := Try.isAgg0
  z0 := Try.sizeOf0
  v0 := Try.zeroValue0
  t24 := Try.underlying23
  a24 := Try.isAgg23
  z24 := Try.sizeOf23
  v24 := Try.zeroValue23
  t26 := Try.underlying3
  a26 := Try.isAgg3
  z26 := Try.sizeOf3
  v26 := Try.zeroValue3
  t28 := Try.underlying89
  a28 := Try.isAgg89
  z28 := Try.sizeOf89
  v28 := Try.zeroValue89
  i26 := by kernel_rfl }
def lays189_ren : Go.Shelf.Ren := ⟨fun | 189 => 63 | 125 => 71 | 257 => 70 | 128 => 81 | 129 => 82 | 294 => 72 | 295 => 73 | 296 => 74 | 297 => 75 | 298 => 76 | 299 => 77 | 216 => 78 | 300 => 79 | 301 => 80 | 328 => 83 | 329 => 84 | 330 => 85 | 331 => 86 | 332 => 87 | 215 => 88 | 343 => 89 | n => n, fun | 28 => 23 | 3 => 3 | 46 => 102 | 0 => 0 | 51 => 114 | 53 => 116 | 4 => 4 | 183 => 107 | 182 => 106 | 131 => 91 | 5 => 5 | 9 => 9 | 218 => 117 | 222 => 121 | 228 => 123 | 229 => 124 | n => n, fun | n => n⟩
theorem lays189 : Go.Proofs.Lays.n189 Try.prog lays189_ren := {
  mixed := by kernel_rfl
  f125 := Try.func71.trans (congrArg some (by kernel_rfl))
  f128 := Try.func81.trans (congrArg some (by kernel_rfl))
  f129 := Try.func82.trans (congrArg some (by kernel_rfl))
  f189 := Try.func63.trans (congrArg some (by kernel_rfl))
  f215 := Try.func88.trans (congrArg some (by kernel_rfl))
  f216 := Try.func78.trans (congrArg some (by kernel_rfl))
  f257 := Try.func70.trans (congrArg some (by kernel_rfl))
  f294 := Try.func72.trans (congrArg some (by kernel_rfl))
  f295 := Try.func73.trans (congrArg some (by kernel_rfl))
  f296 := Try.func74.trans (congrArg some (by kernel_rfl))
  f297 := Try.func75.trans (congrArg some (by kernel_rfl))
  f298 := Try.func76.trans (congrArg some (by kernel_rfl))
  f299 := Try.func77.trans (congrArg some (by kernel_rfl))
  f300 := Try.func79.trans (congrArg some (by kernel_rfl))
  f301 := Try.func80.trans (congrArg some (by kernel_rfl))
  f328 := Try.func83.trans (congrArg some (by kernel_rfl))
  f329 := Try.func84.trans (congrArg some (by kernel_rfl))
  f330 := Try.func85.trans (congrArg some (by kernel_rfl))
  f331 := Try.func86.trans (congrArg some (by kernel_rfl))
  f332 := Try.func87.trans (congrArg some (by kernel_rfl))
  f343 := Try.func89.trans (congrArg some (by kernel_rfl))
  t0 := Try.underlying0
  a0 := Try.isAgg0
  z0 := Try.sizeOf0
  v0 := Try.zeroValue0
  t3 := Try.underlying3
  a3 := Try.isAgg3
  z3 := Try.sizeOf3
  v3 := Try.zeroValue3
  t4 := Try.underlying4
  a4 := Try.isAgg4
  z4 := Try.sizeOf4
  v4 := Try.zeroValue4
  t5 := Try.underlying5
  a5 := Try.isAgg5
  z5 := Try.sizeOf5
  v5 := Try.zeroValue5
  t9 := Try.underlying9
  a9 := Try.isAgg9
  z9 := Try.sizeOf9
  v9 := Try.zeroValue9
  t28 := Try.underlying23
  a28 := Try.isAgg23
  z28 := Try.sizeOf23
  v28 := Try.zeroValue23
  t46 := Try.underlying102
  a46 := Try.isAgg102
  z46 := Try.sizeOf102
  v46 := Try.zeroValue102
  t51 := Try.underlying114
  a51 := Try.isAgg114
  z51 := Try.sizeOf114
  v51 := Try.zeroValue114
  t53 := Try.underlying116
  a53 := Try.isAgg116
  z53 := Try.sizeOf116
  v53 := Try.zeroValue116
  t131 := Try.underlying91
  a131 := Try.isAgg91
  z131 := Try.sizeOf91
  v131 := Try.zeroValue91
  t182 := Try.underlying106
  a182 := Try.isAgg106
  z182 := Try.sizeOf106
  v182 := Try.zeroValue106
  t183 := Try.underlying107
  a183 := Try.isAgg107
  z183 := Try.sizeOf107
  v183 := Try.zeroValue107
  t218 := Try.underlying117
  a218 := Try.isAgg117
  z218 := Try.sizeOf117
  v218 := Try.zeroValue117
  t222 := Try.underlying121
  a222 := Try.isAgg121
  z222 := Try.sizeOf121
  v222 := Try.zeroValue121
  t228 := Try.underlying123
  a228 := Try.isAgg123
  z228 := Try.sizeOf123
  v228 := Try.zeroValue123
  t229 := Try.underlying124
  a229 := Try.isAgg124
  z229 := Try.sizeOf124
  v229 := Try.zeroValue124 }
set_option maxRecDepth 100000 in
set_option maxHeartbeats 2000000 in
theorem values55 (xs : List Int) (bx : Nat) (a : Option Addr) (c : Nat) (w : World) (hbx : w.cell? ⟨bx, 0, none⟩ = some (.slice a xs.length c)) (hlt : bx < w.heap.size) (hl : xs.length ≤ LIM)
    (hc : xs = [] ∨ ∃ b o, a = some ⟨b, o, none⟩ ∧ b < w.heap.size ∧ ∀ j x, xs[j]? = some x → w.cell? ⟨b, o + j, none⟩ = some (.int .i64 x)) (n : Nat) (hn : 1 ≤ n) :
    SeqB Fence.wide n Try.prog 64 #[.pointer (some ⟨bx, 0, none⟩)] (fun ss => ss = xs) xs.length w := by
  intro l J W hW _ hJb hY h0
  unfold LIM at hl
  refine callsIn_of_wp Try.func64 rfl trivial ?_ rfl
  have hbW : W.cell? ⟨bx, 0, none⟩ = some (.slice a xs.length c) := (hW.cell (p := ⟨bx, 0, none⟩) hlt).trans hbx
  simp only [Try.ntmps64, List.size_toArray, List.length_cons, List.length_nil, Nat.reduceAdd, Nat.reduceSub, Array.replicate_succ, Array.replicate_zero, List.push_toArray, List.append_toArray, List.nil_append, List.cons_append]
  gi_wp2
  gi_loopw [7] (fun i wr => ∃ k : Nat, k ≤ xs.length ∧ i = .int .i64 k ∧ J (xs.take k) wr)
    (fun i _ => xs.length - (intOf i).toNat)
  case atStart => exact ⟨0, Nat.zero_le _, rfl, h0⟩
  case round =>
    obtain ⟨k, hk, rfl, hJs⟩ := hrel
    by_cases hlt2 : k < xs.length
    · rcases hc with rfl | ⟨b, o, rfl, hb, hcc⟩
      · simp at hlt2
      · have hx : xs[k]? = some xs[k] := List.getElem?_eq_getElem hlt2
        have hcx : wr.cell? ⟨b, o + k, none⟩ = some (.int .i64 xs[k]) := ((hJb _ _ hJs).cell (p := ⟨b, o + k, none⟩) hb).trans (hcc k _ hx)
        obtain ⟨fn, tmps, assign, cd, hy, hR⟩ := hY _ xs[k] wr hJs (by rw [List.length_take]; omega)
        gi_wp2
        refine hR.mono ?_
        rintro e W3 ⟨rfl, hJ3, _⟩
        gi_wp2
        go_roundw
        case rel => exact ⟨k + 1, by omega, by simp, by rw [List.take_succ_eq_append_getElem hlt2]; exact hJ3⟩
        case measure => simp [intOf]; omega
    · obtain rfl : k = xs.length := by omega
      gi_wp2
      go_end0
      exact ⟨⟨_, rfl⟩, _, rfl, by rw [List.take_length] at hJs; exact hJs⟩
theorem sorts55 (m : Nat) : AnyZI.SortsIn Try.prog sorted55_ren Fence.wide m :=
  ⟨fun blk off cap ss W hH hblk hsz => callsIn_wide.2 (Go.Proofs.Any.slices_Sort_int lays189 blk off cap ss W hH hblk hsz), fun p cap W => callsIn_wide.2 (Go.Proofs.Any.slices_Sort_int_none lays189 p cap W)⟩
theorem sortedOk55 : SortedOk Try.prog 55 64 3 := by
  intro xs bx a c w hbx hlt hl hc
  refine (callsIn_wide (n := 6)).1 ?_
  have hl2 := hl
  unfold LIM at hl2
  have cS := sortedB sorted55 Fence.wide 6 trivial trivial trivial trivial rfl (by omega) (sorts55 _) (enters_of Try.func63 (by kernel_rfl) rfl) 64 #[.pointer (some ⟨bx, 0, none⟩)] trivial (enters_of Try.func64 (by kernel_rfl) rfl) (fun ss => ss = xs) xs.length (by unfold maxLen; omega) (by omega) w (values55 xs bx a c w hbx hlt hl hc _ (by omega)) (fun ss h => by rw [h]; exact Nat.le_refl _)
  refine cS.mono ?_
  rintro e w' ⟨v, ss, rfl, rfl, hrow, _, hb⟩
  exact ⟨v, rfl, hrow, hb⟩
theorem sorted55_ac (a0 : List Int) (hc : decide (a0.length ≤ LIM) = true) : AC Try.prog 55 [(.func 64 [(.ptr 0 0 [])])] [(0, (.box 23 (.d (.list 1 (a0.map (eI .i64))))))] (.d (.list 1 ((a0.mergeSort fun x y => decide (x ≤ y)).map (eI .i64)))) [(0, none)] := AC.sortedV sortedOk55 a0 hc
open Classical in
noncomputable def ext63_slices_Sort (a0 : List Int) : Option (List Int) := if a0.length < 4611686018427387904 then some (a0.mergeSort fun x y => decide (x ≤ y)) else none
theorem ext63_slices_Sort_ac (a0 : List Int) (r : List Int) (h : ext63_slices_Sort a0 = some r) : AC Try.prog 63 [(.sref 0 1 0 a0.length)] [(0, (.row 3 1 (a0.map (eI .i64))))] (.tup []) [(0, some (.row 3 1 (r.map (eI .i64))))] := by
  unfold ext63_slices_Sort at h
  split at h
  · rename_i hlt
    cases h
    exact AC.rowI a0 _ (List.length_mergeSort _) (fun _ b cap cur w hw ht => (Go.Proofs.Any.slices_Sort_int lays189 b 0 cap a0 w (holds_of_cells hw ht) (Array.getElem?_eq_some_iff.1 hw).1 hlt).mono fun ex w' ⟨he, n, os, hw'⟩ => ⟨he, hw' ▸ sorted_done hw ht (List.length_mergeSort _)⟩) (fun _ p cap w => Go.Proofs.Any.slices_Sort_int_none lays189 p cap w)
  · cases h
end Go.Proofs.Ytkcpjnjneehecaa
