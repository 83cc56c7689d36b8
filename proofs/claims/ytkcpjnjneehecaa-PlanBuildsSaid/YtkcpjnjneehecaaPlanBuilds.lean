/- The statement 'PlanBuilds' holds of every input: no condition. -/
import Derived.Test.YtkcpjnjneehecaaRows
import Derived.Test.YtkcpjnjneehecaaVcPz
import Derived.SizedLaws
import Derived.Test.YtkcpjnjneehecaaFns
import Derived.Test.YtkcpjnjneehecaaPureZA
import Derived.Test.YtkcpjnjneehecaaPureZB
import Derived.Test.YtkcpjnjneehecaaPureZC
import Derived.Test.YtkcpjnjneehecaaPureP
namespace Go.Proofs.Ytkcpjnjneehecaa
open Go Go.Vc Go.ChangeShapes Go.WideShapes Go.ChangeAt Go.RowKit
theorem own:ownKnob Try.prog.godebug=none:=by kernel_rfl
theorem laid:laidOutB Try.prog=true:=by kernel_rfl
theorem cells4:Try.prog.cellsOf 4=1:=by kernel_rfl
theorem rd4:RdZ Try.prog 4 1 false (fun d=>∃ x:Bool,True∧d=eB x) :=
 (Rd.bool Try.underlying4 cells4).z
theorem cells3:Try.prog.cellsOf 3=1:=by kernel_rfl
theorem rd3:RdZ Try.prog 3 1 false (fun d=>∃ x:Int,(IntKind.i64.min≤x∧x≤IntKind.i64.max)∧d=(eI .i64) x) :=
 (Rd.int Try.underlying3 cells3).z
def q63 (x:aItem):Prop:=(True)∧((IntKind.i64.min≤x.fIndex∧x.fIndex≤IntKind.i64.max))∧True
theorem cells63:Try.prog.cellsOf 63=2:=by kernel_rfl
theorem rd63:RdZ Try.prog 63 2 true (fun d=>∃ x:aItem,q63 x∧d=e_aItem x) :=
 RdZ.st (ps:=[(fun d=>∃ x:Bool,True∧d=eB x),(fun d=>∃ x:Int,(IntKind.i64.min≤x∧x≤IntKind.i64.max)∧d=(eI .i64) x)]) Try.underlying63 rfl cells63 (.cons rfl rd4 (.cons rfl rd3 .nil)) (fun ds h=>by
  obtain⟨_,ds0,rfl,⟨x0,k0,rfl⟩,h0⟩:=FA.cons h
  obtain⟨_,ds1,rfl,⟨x1,k1,rfl⟩,h1⟩:=FA.cons h0
  obtain rfl:=FA.nil h1
  exact⟨⟨x0,x1⟩,⟨k0,k1,trivial⟩,rfl⟩) (fun d ⟨x,k,h⟩=>by
  subst h
  obtain⟨k0,k1,_⟩:=k
  exact⟨_,rfl,⟨⟨_,k0,rfl⟩,⟨⟨_,k1,rfl⟩,trivial⟩⟩⟩)
def q22 (x:(List aItem)):Prop:=(∀ y∈x,q63 y)∧x.length≤maxLen∧x.length*16≤reachBytes
theorem cells22:Try.prog.cellsOf 22=1:=by kernel_rfl
theorem rd22:RdZ Try.prog 22 1 false (fun d=>∃ x:(List aItem),q22 x∧d=(.list 2 (x.map e_aItem))) :=
 RdZ.list Try.underlying22 cells22 (by decide) (by kernel_rfl) rd63
def q23 (x:(List Int)):Prop:=(∀ y∈x,(IntKind.i64.min≤y∧y≤IntKind.i64.max))∧x.length≤maxLen∧x.length*8≤reachBytes
theorem cells23:Try.prog.cellsOf 23=1:=by kernel_rfl
theorem rd23:RdZ Try.prog 23 1 false (fun d=>∃ x:(List Int),q23 x∧d=(.list 1 (x.map (eI .i64)))) :=
 RdZ.list Try.underlying23 cells23 (by decide) (by kernel_rfl) rd3
def q53 (x:aShed):Prop:=(q22 x.fItems)∧(q23 x.fLoads)∧True
theorem cells53:Try.prog.cellsOf 53=2:=by kernel_rfl
theorem rd53:RdZ Try.prog 53 2 true (fun d=>∃ x:aShed,q53 x∧d=e_aShed x) :=
 RdZ.st (ps:=[(fun d=>∃ x:(List aItem),q22 x∧d=(.list 2 (x.map e_aItem))),(fun d=>∃ x:(List Int),q23 x∧d=(.list 1 (x.map (eI .i64))))]) Try.underlying53 rfl cells53 (.cons rfl rd22 (.cons rfl rd23 .nil)) (fun ds h=>by
  obtain⟨_,ds0,rfl,⟨x0,k0,rfl⟩,h0⟩:=FA.cons h
  obtain⟨_,ds1,rfl,⟨x1,k1,rfl⟩,h1⟩:=FA.cons h0
  obtain rfl:=FA.nil h1
  exact⟨⟨x0,x1⟩,⟨k0,k1,trivial⟩,rfl⟩) (fun d ⟨x,k,h⟩=>by
  subst h
  obtain⟨k0,k1,_⟩:=k
  exact⟨_,rfl,⟨⟨_,k0,rfl⟩,⟨⟨_,k1,rfl⟩,trivial⟩⟩⟩)
def q46 (x:(List aShed)):Prop:=(∀ y∈x,q53 y)∧x.length≤maxLen∧x.length*48≤reachBytes
theorem cells46:Try.prog.cellsOf 46=1:=by kernel_rfl
theorem rd46:RdZ Try.prog 46 1 false (fun d=>∃ x:(List aShed),q46 x∧d=(.list 2 (x.map e_aShed))) :=
 RdZ.list Try.underlying46 cells46 (by decide) (by kernel_rfl) rd53
theorem law_ac (xs:List D) (h:FA [(fun d=>∃ x:(List aShed),q46 x∧d=(.list 2 (x.map e_aShed))),(fun d=>∃ x:(List Int),q23 x∧d=(.list 1 (x.map (eI .i64)))),(fun d=>∃ x:Int,(IntKind.i64.min≤x∧x≤IntKind.i64.max)∧d=(eI .i64) x),(fun d=>∃ x:Int,(IntKind.i64.min≤x∧x≤IntKind.i64.max)∧d=(eI .i64) x)] xs):AC Try.prog 6 (xs.map .d) [] (.d (.bool true)) []:=by
 obtain⟨_,xs0,rfl,⟨a0,k0,rfl⟩,h0⟩:=FA.cons h
 obtain⟨_,xs1,rfl,⟨a1,k1,rfl⟩,h1⟩:=FA.cons h0
 obtain⟨_,xs2,rfl,⟨a2,k2,rfl⟩,h2⟩:=FA.cons h1
 obtain⟨_,xs3,rfl,⟨a3,k3,rfl⟩,h3⟩:=FA.cons h2
 obtain rfl:=FA.nil h3
 exact xlaw43_PlanBuilds_ac a0 a1 a2 a3 true (builds_law a0 k0 a1 k1 a2 k2 a3 k3)
theorem read3:Program.readableRec Try.prog 3=true∧3<Try.prog.types.size:=⟨by kernel_rfl,of_decide_eq_true (by kernel_rfl)⟩
theorem read23:Program.readableRec Try.prog 23=true∧23<Try.prog.types.size:=⟨by kernel_rfl,of_decide_eq_true (by kernel_rfl)⟩
theorem read46:Program.readableRec Try.prog 46=true∧46<Try.prog.types.size:=⟨by kernel_rfl,of_decide_eq_true (by kernel_rfl)⟩
theorem reads:∀ t∈([46,23,3,3]:List TypeId),Program.readableRec Try.prog t=true∧t<Try.prog.types.size:=by
 intro t ht
 cases ht with
 | head=>exact read46
 | tail _ ht =>
 cases ht with
 | head=>exact read23
 | tail _ ht =>
 cases ht with
 | head=>exact read3
 | tail _ ht =>
 cases ht with
 | head=>exact read3
 | tail _ ht =>
 cases ht
set_option maxRecDepth 100000 in
theorem lifted (os:Os) (started:os.Started) (H:Type) (enc:TypeId×Value→H) :
  ReturnsInHanded {} Try.checked os 6 .any (Rows.planBuildsSpec.pre6 enc Try.prog Try.f6 Rows.planBuildsRow.domain false) (Rows.planBuildsSpec.post enc Try.prog Try.f6 false true false false):=by
 refine returnsInHanded_of_change_sized (C:=Try.checked) own started (by kernel_rfl) Try.func6
  (ChangeSpec.witness6 (enc:=enc) (C:=Try.checked) false ⟨#[],#[.slice none 0 0,.slice none 0 0,.int .i64 0,.int .i64 0],[]⟩ 8 (by kernel_rfl) (by kernel_rfl) (by kernel_rfl) (by kernel_rfl)) ?_
 intro W base args ds gs before hval0 hW hcnd hsz _
 exact law_callsZ (P:=Try.prog) (ts:=[46,23,3,3]) (tb:=4) hval0 hW rfl rfl (sized_of hW rfl rfl (by kernel_rfl) hsz) (.cons rd46 (.cons rd23 (.cons rd3 (.cons rd3 .nil)))) Try.underlying4 (by kernel_rfl) laid reads
  (fun ds hl=>by match ds,hl with | [_,_,_,_],_=>rfl) law_ac
theorem holds:Rows.PlanBuildsSaid :=
 OpenClaim.holds_of_wide 6 Try.f6 rfl rfl rfl rfl rfl rfl rfl ⟨rfl,rfl,rfl,rfl,rfl⟩ rfl rfl rfl rfl rfl (by kernel_rfl) Try.func6 (by kernel_rfl)
  (of_decide_eq_true (by kernel_rfl)) (by unfold Func.isWrapper;first | (rw [if_pos (by decide +kernel)];kernel_rfl) | (rw [if_neg (by decide +kernel)];exact⟨rfl,rfl⟩))
  (fun os started H enc _=>lifted os started H enc)
end Go.Proofs.Ytkcpjnjneehecaa
