/- The statement 'PlanLarge' holds of every input: no condition. -/
import Derived.Test.YtkcpjnjneehecaaRows
import Derived.Test.YtkcpjnjneehecaaFns
import Derived.Test.YtkcpjnjneehecaaPureZA
import Derived.Test.YtkcpjnjneehecaaPureZB
import Derived.Test.YtkcpjnjneehecaaPureZC
import Derived.Test.YtkcpjnjneehecaaPureM
namespace Go.Proofs.Ytkcpjnjneehecaa
open Go Go.Vc Go.ChangeShapes Go.WideShapes Go.ChangeAt Go.RowKit
theorem own:ownKnob Try.prog.godebug=none:=by kernel_rfl
theorem laid:laidOutB Try.prog=true:=by kernel_rfl
theorem cells3:Try.prog.cellsOf 3=1:=by kernel_rfl
theorem rd3:Rd Try.prog 3 1 false (fun d=>∃ x:Int,(IntKind.i64.min≤x∧x≤IntKind.i64.max)∧d=(eI .i64) x) :=
 Rd.int Try.underlying3 cells3
def q45 (x:aLink):Prop:=((IntKind.i64.min≤x.fA∧x.fA≤IntKind.i64.max))∧((IntKind.i64.min≤x.fB∧x.fB≤IntKind.i64.max))∧((IntKind.i64.min≤x.fCapacity∧x.fCapacity≤IntKind.i64.max))∧True
theorem cells45:Try.prog.cellsOf 45=3:=by kernel_rfl
theorem rd45:Rd Try.prog 45 3 true (fun d=>∃ x:aLink,q45 x∧d=e_aLink x) :=
 Rd.st (ps:=[(fun d=>∃ x:Int,(IntKind.i64.min≤x∧x≤IntKind.i64.max)∧d=(eI .i64) x),(fun d=>∃ x:Int,(IntKind.i64.min≤x∧x≤IntKind.i64.max)∧d=(eI .i64) x),(fun d=>∃ x:Int,(IntKind.i64.min≤x∧x≤IntKind.i64.max)∧d=(eI .i64) x)]) Try.underlying45 rfl cells45 (.cons rfl rd3 (.cons rfl rd3 (.cons rfl rd3 .nil))) (fun ds h=>by
  obtain⟨_,ds0,rfl,⟨x0,k0,rfl⟩,h0⟩:=FA.cons h
  obtain⟨_,ds1,rfl,⟨x1,k1,rfl⟩,h1⟩:=FA.cons h0
  obtain⟨_,ds2,rfl,⟨x2,k2,rfl⟩,h2⟩:=FA.cons h1
  obtain rfl:=FA.nil h2
  exact⟨⟨x0,x1,x2⟩,⟨k0,k1,k2,trivial⟩,rfl⟩) (fun d ⟨x,k,h⟩=>by
  subst h
  obtain⟨k0,k1,k2,_⟩:=k
  exact⟨_,rfl,⟨⟨_,k0,rfl⟩,⟨⟨_,k1,rfl⟩,⟨⟨_,k2,rfl⟩,trivial⟩⟩⟩⟩)
def q27 (x:(List aLink)):Prop:=(∀ y∈x,q45 y)∧x.length≤maxLen
theorem cells27:Try.prog.cellsOf 27=1:=by kernel_rfl
theorem rd27:Rd Try.prog 27 1 false (fun d=>∃ x:(List aLink),q27 x∧d=(.list 3 (x.map e_aLink))) :=
 Rd.list Try.underlying27 cells27 (by decide) rd45
theorem cells4:Try.prog.cellsOf 4=1:=by kernel_rfl
theorem rd4:Rd Try.prog 4 1 false (fun d=>∃ x:Bool,True∧d=eB x) :=
 Rd.bool Try.underlying4 cells4
def q28 (x:(List Bool)):Prop:=(∀ y∈x,True)∧x.length≤maxLen
theorem cells28:Try.prog.cellsOf 28=1:=by kernel_rfl
theorem rd28:Rd Try.prog 28 1 false (fun d=>∃ x:(List Bool),q28 x∧d=(.list 1 (x.map eB))) :=
 Rd.list Try.underlying28 cells28 (by decide) rd4
def q30 (x:aFabric):Prop:=((IntKind.i64.min≤x.fSwitches∧x.fSwitches≤IntKind.i64.max))∧(q27 x.fLinks)∧(q28 x.fDown)∧(q28 x.fDead)∧True
theorem cells30:Try.prog.cellsOf 30=4:=by kernel_rfl
theorem rd30:Rd Try.prog 30 4 true (fun d=>∃ x:aFabric,q30 x∧d=e_aFabric x) :=
 Rd.st (ps:=[(fun d=>∃ x:Int,(IntKind.i64.min≤x∧x≤IntKind.i64.max)∧d=(eI .i64) x),(fun d=>∃ x:(List aLink),q27 x∧d=(.list 3 (x.map e_aLink))),(fun d=>∃ x:(List Bool),q28 x∧d=(.list 1 (x.map eB))),(fun d=>∃ x:(List Bool),q28 x∧d=(.list 1 (x.map eB)))]) Try.underlying30 rfl cells30 (.cons rfl rd3 (.cons rfl rd27 (.cons rfl rd28 (.cons rfl rd28 .nil)))) (fun ds h=>by
  obtain⟨_,ds0,rfl,⟨x0,k0,rfl⟩,h0⟩:=FA.cons h
  obtain⟨_,ds1,rfl,⟨x1,k1,rfl⟩,h1⟩:=FA.cons h0
  obtain⟨_,ds2,rfl,⟨x2,k2,rfl⟩,h2⟩:=FA.cons h1
  obtain⟨_,ds3,rfl,⟨x3,k3,rfl⟩,h3⟩:=FA.cons h2
  obtain rfl:=FA.nil h3
  exact⟨⟨x0,x1,x2,x3⟩,⟨k0,k1,k2,k3,trivial⟩,rfl⟩) (fun d ⟨x,k,h⟩=>by
  subst h
  obtain⟨k0,k1,k2,k3,_⟩:=k
  exact⟨_,rfl,⟨⟨_,k0,rfl⟩,⟨⟨_,k1,rfl⟩,⟨⟨_,k2,rfl⟩,⟨⟨_,k3,rfl⟩,trivial⟩⟩⟩⟩⟩)
def q23 (x:(List Int)):Prop:=(∀ y∈x,(IntKind.i64.min≤y∧y≤IntKind.i64.max))∧x.length≤maxLen
theorem cells23:Try.prog.cellsOf 23=1:=by kernel_rfl
theorem rd23:Rd Try.prog 23 1 false (fun d=>∃ x:(List Int),q23 x∧d=(.list 1 (x.map (eI .i64)))) :=
 Rd.list Try.underlying23 cells23 (by decide) rd3
theorem law_ac (xs:List D) (h:FA [(fun d=>∃ x:aFabric,q30 x∧d=e_aFabric x),(fun d=>∃ x:(List Int),q23 x∧d=(.list 1 (x.map (eI .i64))))] xs):AC Try.prog 4 (xs.map .d) [] (.d (.bool true)) []:=by
 obtain⟨_,xs0,rfl,⟨a0,k0,rfl⟩,h0⟩:=FA.cons h
 obtain⟨_,xs1,rfl,⟨a1,k1,rfl⟩,h1⟩:=FA.cons h0
 obtain rfl:=FA.nil h1
 exact xlaw43_PlanLarge_ac a0 a1 true (large_law a0 k0 a1 k1)
theorem read23:Program.readableRec Try.prog 23=true∧23<Try.prog.types.size:=⟨by kernel_rfl,of_decide_eq_true (by kernel_rfl)⟩
theorem read30:Program.readableRec Try.prog 30=true∧30<Try.prog.types.size:=⟨by kernel_rfl,of_decide_eq_true (by kernel_rfl)⟩
theorem reads:∀ t∈([30,23]:List TypeId),Program.readableRec Try.prog t=true∧t<Try.prog.types.size:=by
 intro t ht
 cases ht with
 | head=>exact read30
 | tail _ ht =>
 cases ht with
 | head=>exact read23
 | tail _ ht =>
 cases ht
set_option maxRecDepth 100000 in
theorem lifted (os:Os) (started:os.Started) (H:Type) (enc:TypeId×Value→H) :
  ReturnsInHanded {} Try.checked os 4 .any (Rows.planLargeSpec.pre6 enc Try.prog Try.f4 Rows.planLargeRow.domain false) (Rows.planLargeSpec.post enc Try.prog Try.f4 false true false false):=by
 refine returnsInHanded_of_change (C:=Try.checked) own started (by kernel_rfl) Try.func4
  (ChangeSpec.witness6 (enc:=enc) (C:=Try.checked) false ⟨#[],#[.agg #[.int .i64 0,.slice none 0 0,.slice none 0 0,.slice none 0 0],.slice none 0 0],[]⟩ 8 (by kernel_rfl) (by kernel_rfl) (by kernel_rfl) (by kernel_rfl)) ?_
 intro W base args ds gs before hval0 hW hcnd _
 exact law_calls (P:=Try.prog) (ts:=[30,23]) (tb:=4) hval0 hW rfl rfl (.cons rd30 (.cons rd23 .nil)) Try.underlying4 (by kernel_rfl) laid reads
  (fun ds hl=>by match ds,hl with | [_,_],_=>rfl) law_ac
theorem holds:Rows.PlanLargeSaid :=
 OpenClaim.holds_of_wide 4 Try.f4 rfl rfl rfl rfl rfl rfl rfl ⟨rfl,rfl,rfl,rfl,rfl⟩ rfl rfl rfl rfl rfl (by kernel_rfl) Try.func4 (by kernel_rfl)
  (of_decide_eq_true (by kernel_rfl)) (by unfold Func.isWrapper;first | (rw [if_pos (by decide +kernel)];kernel_rfl) | (rw [if_neg (by decide +kernel)];exact⟨rfl,rfl⟩))
  (fun os started H enc _=>lifted os started H enc)
end Go.Proofs.Ytkcpjnjneehecaa
