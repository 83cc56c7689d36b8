/- The statement 'PlanSheds' holds of every input: no condition. -/
import Derived.Test.YtkcpjnjneehecaaRows
import Derived.Test.YtkcpjnjneehecaaFns
import Derived.Test.YtkcpjnjneehecaaPureZA
import Derived.Test.YtkcpjnjneehecaaPureZB
import Derived.Test.YtkcpjnjneehecaaPureZC
import Derived.Test.YtkcpjnjneehecaaPureN
namespace Go.Proofs.Ytkcpjnjneehecaa
open Go Go.Vc Go.ChangeShapes Go.WideShapes Go.ChangeAt Go.RowKit
theorem own:ownKnob Try.prog.godebug=none:=by kernel_rfl
theorem laid:laidOutB Try.prog=true:=by kernel_rfl
theorem cells4:Try.prog.cellsOf 4=1:=by kernel_rfl
theorem rd4:Rd Try.prog 4 1 false (fun d=>∃ x:Bool,True∧d=eB x) :=
 Rd.bool Try.underlying4 cells4
theorem cells3:Try.prog.cellsOf 3=1:=by kernel_rfl
theorem rd3:Rd Try.prog 3 1 false (fun d=>∃ x:Int,(IntKind.i64.min≤x∧x≤IntKind.i64.max)∧d=(eI .i64) x) :=
 Rd.int Try.underlying3 cells3
def q63 (x:aItem):Prop:=(True)∧((IntKind.i64.min≤x.fIndex∧x.fIndex≤IntKind.i64.max))∧True
theorem cells63:Try.prog.cellsOf 63=2:=by kernel_rfl
theorem rd63:Rd Try.prog 63 2 true (fun d=>∃ x:aItem,q63 x∧d=e_aItem x) :=
 Rd.st (ps:=[(fun d=>∃ x:Bool,True∧d=eB x),(fun d=>∃ x:Int,(IntKind.i64.min≤x∧x≤IntKind.i64.max)∧d=(eI .i64) x)]) Try.underlying63 rfl cells63 (.cons rfl rd4 (.cons rfl rd3 .nil)) (fun ds h=>by
  obtain⟨_,ds0,rfl,⟨x0,k0,rfl⟩,h0⟩:=FA.cons h
  obtain⟨_,ds1,rfl,⟨x1,k1,rfl⟩,h1⟩:=FA.cons h0
  obtain rfl:=FA.nil h1
  exact⟨⟨x0,x1⟩,⟨k0,k1,trivial⟩,rfl⟩) (fun d ⟨x,k,h⟩=>by
  subst h
  obtain⟨k0,k1,_⟩:=k
  exact⟨_,rfl,⟨⟨_,k0,rfl⟩,⟨⟨_,k1,rfl⟩,trivial⟩⟩⟩)
def q22 (x:(List aItem)):Prop:=(∀ y∈x,q63 y)∧x.length≤maxLen
theorem cells22:Try.prog.cellsOf 22=1:=by kernel_rfl
theorem rd22:Rd Try.prog 22 1 false (fun d=>∃ x:(List aItem),q22 x∧d=(.list 2 (x.map e_aItem))) :=
 Rd.list Try.underlying22 cells22 (by decide) rd63
def q23 (x:(List Int)):Prop:=(∀ y∈x,(IntKind.i64.min≤y∧y≤IntKind.i64.max))∧x.length≤maxLen
theorem cells23:Try.prog.cellsOf 23=1:=by kernel_rfl
theorem rd23:Rd Try.prog 23 1 false (fun d=>∃ x:(List Int),q23 x∧d=(.list 1 (x.map (eI .i64)))) :=
 Rd.list Try.underlying23 cells23 (by decide) rd3
theorem law_ac (xs:List D) (h:FA [(fun d=>∃ x:(List aItem),q22 x∧d=(.list 2 (x.map e_aItem))),(fun d=>∃ x:(List Int),q23 x∧d=(.list 1 (x.map (eI .i64)))),(fun d=>∃ x:(List Int),q23 x∧d=(.list 1 (x.map (eI .i64))))] xs):AC Try.prog 3 (xs.map .d) [] (.d (.bool true)) []:=by
 obtain⟨_,xs0,rfl,⟨a0,k0,rfl⟩,h0⟩:=FA.cons h
 obtain⟨_,xs1,rfl,⟨a1,k1,rfl⟩,h1⟩:=FA.cons h0
 obtain⟨_,xs2,rfl,⟨a2,k2,rfl⟩,h2⟩:=FA.cons h1
 obtain rfl:=FA.nil h2
 exact xlaw43_PlanSheds_ac a0 a1 a2 true (sheds_law a0 k0 a1 k1 a2 k2)
theorem read22:Program.readableRec Try.prog 22=true∧22<Try.prog.types.size:=⟨by kernel_rfl,of_decide_eq_true (by kernel_rfl)⟩
theorem read23:Program.readableRec Try.prog 23=true∧23<Try.prog.types.size:=⟨by kernel_rfl,of_decide_eq_true (by kernel_rfl)⟩
theorem reads:∀ t∈([22,23,23]:List TypeId),Program.readableRec Try.prog t=true∧t<Try.prog.types.size:=by
 intro t ht
 cases ht with
 | head=>exact read22
 | tail _ ht =>
 cases ht with
 | head=>exact read23
 | tail _ ht =>
 cases ht with
 | head=>exact read23
 | tail _ ht =>
 cases ht
set_option maxRecDepth 100000 in
theorem lifted (os:Os) (started:os.Started) (H:Type) (enc:TypeId×Value→H) :
  ReturnsInHanded {} Try.checked os 3 .any (Rows.planShedsSpec.pre6 enc Try.prog Try.f3 Rows.planShedsRow.domain false) (Rows.planShedsSpec.post enc Try.prog Try.f3 false true false false):=by
 refine returnsInHanded_of_change (C:=Try.checked) own started (by kernel_rfl) Try.func3
  (ChangeSpec.witness6 (enc:=enc) (C:=Try.checked) false ⟨#[],#[.slice none 0 0,.slice none 0 0,.slice none 0 0],[]⟩ 8 (by kernel_rfl) (by kernel_rfl) (by kernel_rfl) (by kernel_rfl)) ?_
 intro W base args ds gs before hval0 hW hcnd _
 exact law_calls (P:=Try.prog) (ts:=[22,23,23]) (tb:=4) hval0 hW rfl rfl (.cons rd22 (.cons rd23 (.cons rd23 .nil))) Try.underlying4 (by kernel_rfl) laid reads
  (fun ds hl=>by match ds,hl with | [_,_,_],_=>rfl) law_ac
theorem holds:Rows.PlanShedsSaid :=
 OpenClaim.holds_of_wide 3 Try.f3 rfl rfl rfl rfl rfl rfl rfl ⟨rfl,rfl,rfl,rfl,rfl⟩ rfl rfl rfl rfl rfl (by kernel_rfl) Try.func3 (by kernel_rfl)
  (of_decide_eq_true (by kernel_rfl)) (by unfold Func.isWrapper;first | (rw [if_pos (by decide +kernel)];kernel_rfl) | (rw [if_neg (by decide +kernel)];exact⟨rfl,rfl⟩))
  (fun os started H enc _=>lifted os started H enc)
end Go.Proofs.Ytkcpjnjneehecaa
