/- Part of the proof that 'TopFrames' holds of every input: no condition. -/
import Derived.Test.YtalojkjpjdcibaaGreatDoorRows
import Derived.Test.YtalojkjpjdcibaaGreatDoorCards
import Derived.Test.YtalojkjpjdcibaaGreatDoorTie
import Derived.SevenTiedAt
import Derived.Lay
import Derived.Stop.Joined
import Derived.Test.YtalojkjpjdcibaaGreatDoorXAQ
import Derived.Test.YtalojkjpjdcibaaGreatDoorXAR
namespace Go.Proofs.YtalojkjpjdcibaaGreatDoor
open Go Go.Vc Go.Top Go.ChangeShapes Go.WideShapes Go.ChangeAt Go.RowKit
theorem holds:Rows.TopFramesCardSaid :=
 Claim7.holds_tied_plain_at .later [] [.data,.data,.data,.data,.sentinel,.sentinel,.widerDeep,.pinned] true (true,"4ef03a62461c2e49a41ce8ac48712684f76bb9c538884c6f83f44cabcd4c4d2e") true
  A5y (λ_ h=>by cases h) (by kernel_rfl) (λ_ h=>by cases h) topFrames_row_tie rfl ⟨rfl,rfl⟩ (by kernel_rfl) rfl
  (λf fn hf hfn=>by
   obtain rfl:f=5:=(Option.some.inj (named.symm.trans hf)).symm;obtain rfl:fn=Tryz.f5:=(Option.some.inj (Tryz.func5.symm.trans hfn)).symm;exact⟨by kernel_rfl,λj t ht=>by
    rw [Tryz.params5] at ht;have hm:t∈[22]:=by simpa using Array.mem_of_getElem? ht
    have hall:([22].all λu => !Tryz.prog.wantsStandIn u)=true:=by kernel_rfl
    exact(show Tryz.prog.wantsStandIn t=false by simpa using List.all_eq_true.1 hall t hm)⟩)
  C2l
end Go.Proofs.YtalojkjpjdcibaaGreatDoor
