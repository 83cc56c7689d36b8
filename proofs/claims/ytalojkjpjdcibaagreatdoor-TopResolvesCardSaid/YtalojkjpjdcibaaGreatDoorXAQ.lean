/- Part of the proof that 'TopResolves' holds of every input: no condition. -/
import Derived.Test.YtalojkjpjdcibaaGreatDoorRows
import Derived.Test.YtalojkjpjdcibaaGreatDoorChecked
import Derived.SevenTiedAt
import Derived.KernelRfl
namespace Go.Proofs.YtalojkjpjdcibaaGreatDoor
open Go
theorem goesN:false=Rows.topResolvesRow.goesBy Tryz.prog:=by kernel_rfl
end Go.Proofs.YtalojkjpjdcibaaGreatDoor
