/- Part of the proof that 'TopResolves' holds of every input: no condition. -/
import Derived.Test.YtalojkjpjdcibaaGreatDoorRows
import Derived.Test.YtalojkjpjdcibaaGreatDoorCards
import Derived.Test.YtalojkjpjdcibaaGreatDoorTie
import Derived.SevenTiedAt
import Derived.Lay
import Derived.Stop.Joined
import Derived.Test.YtalojkjpjdcibaaGreatDoorXAP
import Derived.Test.YtalojkjpjdcibaaGreatDoorXAQ
namespace Go.Proofs.YtalojkjpjdcibaaGreatDoor
open Go Go.Vc Go.Top Go.ChangeShapes Go.WideShapes Go.ChangeAt Go.RowKit
theorem holds:Rows.TopResolvesCardSaid :=
  Claim7.holds_tied_plain_at .later [] [.data,.data,.data,.data,.sentinel,.sentinel,.widerDeep,.pinned] true (true,"4ef03a62461c2e49a41ce8ac48712684f76bb9c538884c6f83f44cabcd4c4d2e") true
    A9t (fun _ h=>by cases h) (by kernel_rfl) (fun _ h=>by cases h) topResolves_row_tie rfl ⟨rfl,rfl⟩ (by kernel_rfl) rfl
    (fun f fn hf hfn=>by
      obtain rfl:f=4:=Option.some.inj ((show Tryz.prog.funcNamed "exchangepoint/exchangepointtop.TopResolves" = some 4 by kernel_rfl).symm.trans hf) |>.symm;obtain rfl:fn=Tryz.f4:=(Option.some.inj (Tryz.func4.symm.trans hfn)).symm;exact⟨by kernel_rfl,fun j t ht=>by
        rw [Tryz.params4] at ht;have hm:t∈[22,3,3]:=by simpa using Array.mem_of_getElem? ht
        have hall:([22,3,3].all fun u => !Tryz.prog.wantsStandIn u)=true:=by kernel_rfl
        exact(show Tryz.prog.wantsStandIn t=false by simpa using List.all_eq_true.1 hall t hm)⟩)
    goesN
end Go.Proofs.YtalojkjpjdcibaaGreatDoor
