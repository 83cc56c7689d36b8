/- Part of the proof that 'TopFrames' holds of every input: no condition. -/
import Derived.Test.YtalojkjpjdcibaaGreatDoorRows
import Derived.Test.YtalojkjpjdcibaaGreatDoorChecked
import Derived.JoinedOf
import Derived.KernelRfl
namespace Go.Proofs.YtalojkjpjdcibaaGreatDoor
open Go
theorem B6u:joinedFacts Tryz.prog 5 Tryz.f5 Rows.topFramesSpec Rows.topFramesRow=true:=by kernel_rfl
theorem named:Tryz.prog.funcNamed Rows.topFramesRow.func=some 5:=by kernel_rfl
theorem B6v:Tryz.f5.isInstance Tryz.prog Rows.topFramesRow.origin Rows.topFramesRow.targs:=of_decide_eq_true (by kernel_rfl)
theorem B6w:Tryz.f5.isWrapper Tryz.prog Rows.topFramesRow.wrapper Rows.topFramesRow.mainSum:=by unfold Func.isWrapper;first | (rw [if_pos (by decide +kernel)];kernel_rfl) | (rw [if_neg (by decide +kernel)];exact⟨rfl,rfl⟩)
end Go.Proofs.YtalojkjpjdcibaaGreatDoor
