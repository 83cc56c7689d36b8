/- Part of the proof that 'TopFrames' holds of every input: no condition. -/
import Derived.Test.YtalojkjpjdcibaaGreatDoorRows
import Derived.Test.YtalojkjpjdcibaaGreatDoorChecked
import Derived.SevenTiedAt
import Derived.KernelRfl
namespace Go.Proofs.YtalojkjpjdcibaaGreatDoor
open Go
theorem C2l:false=Rows.topFramesRow.goesBy Tryz.prog:=by kernel_rfl
end Go.Proofs.YtalojkjpjdcibaaGreatDoor
