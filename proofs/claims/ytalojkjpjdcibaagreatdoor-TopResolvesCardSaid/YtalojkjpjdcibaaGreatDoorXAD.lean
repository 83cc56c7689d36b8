/- Part of the proof that 'TopResolves' holds of every input: no condition. -/
import Derived.Test.YtalojkjpjdcibaaGreatDoorRows
import Derived.Test.YtalojkjpjdcibaaGreatDoorChecked
import Derived.JoinedOf
import Derived.KernelRfl
namespace Go.Proofs.YtalojkjpjdcibaaGreatDoor
open Go
theorem joined:joinedFacts Tryz.prog 4 Tryz.f4 Rows.topResolvesSpec Rows.topResolvesRow=true:=by kernel_rfl
theorem named:Tryz.prog.funcNamed Rows.topResolvesRow.func=some 4:=by kernel_rfl
theorem isInst:Tryz.f4.isInstance Tryz.prog Rows.topResolvesRow.origin Rows.topResolvesRow.targs:=of_decide_eq_true (by kernel_rfl)
theorem isWrap:Tryz.f4.isWrapper Tryz.prog Rows.topResolvesRow.wrapper Rows.topResolvesRow.mainSum:=by unfold Func.isWrapper;first | (rw [if_pos (by decide +kernel)];kernel_rfl) | (rw [if_neg (by decide +kernel)];exact⟨rfl,rfl⟩)
end Go.Proofs.YtalojkjpjdcibaaGreatDoor
