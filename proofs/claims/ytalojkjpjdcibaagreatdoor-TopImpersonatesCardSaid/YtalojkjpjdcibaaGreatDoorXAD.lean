/- Part of the proof that 'TopImpersonates' holds of every input: no condition. -/
import Derived.Test.YtalojkjpjdcibaaGreatDoorRows
import Derived.Test.YtalojkjpjdcibaaGreatDoorChecked
import Derived.JoinedOf
import Derived.KernelRfl
namespace Go.Proofs.YtalojkjpjdcibaaGreatDoor
open Go
theorem joined:joinedFacts Tryz.prog 3 Tryz.f3 Rows.topImpersonatesSpec Rows.topImpersonatesRow=true:=by kernel_rfl
theorem named:Tryz.prog.funcNamed Rows.topImpersonatesRow.func=some 3:=by kernel_rfl
theorem isInst:Tryz.f3.isInstance Tryz.prog Rows.topImpersonatesRow.origin Rows.topImpersonatesRow.targs:=of_decide_eq_true (by kernel_rfl)
theorem isWrap:Tryz.f3.isWrapper Tryz.prog Rows.topImpersonatesRow.wrapper Rows.topImpersonatesRow.mainSum:=by unfold Func.isWrapper;first | (rw [if_pos (by decide +kernel)];kernel_rfl) | (rw [if_neg (by decide +kernel)];exact⟨rfl,rfl⟩)
end Go.Proofs.YtalojkjpjdcibaaGreatDoor
