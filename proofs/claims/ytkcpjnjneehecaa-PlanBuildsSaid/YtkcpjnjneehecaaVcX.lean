/- Sorted lists of numbers: the element of a rank, and how many are at most it. -/
import Derived.Test.YtkcpjnjneehecaaVcS
namespace Go.Vc
open Go
def srt (l:List Int):List Int:=l.mergeSort fun x y=>decide (x≤y)
theorem srt_perm (l:List Int):(srt l).Perm l:=List.mergeSort_perm _ _
theorem srt_len (l:List Int):(srt l).length=l.length:=(srt_perm l).length_eq
theorem srt_sorted (l:List Int):(srt l).Pairwise (· ≤ ·):=by
 have:=List.pairwise_mergeSort (le:=fun x y:Int=>decide (x≤y)) (fun a b c h1 h2=>by simp at *;omega) (fun a b=>by simp;omega) l
 exact this.imp (fun h=>by simpa using h)
end Go.Vc
