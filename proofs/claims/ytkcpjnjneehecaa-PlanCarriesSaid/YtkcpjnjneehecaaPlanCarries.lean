/- The statement 'PlanCarries' holds of every input: no condition. -/
import Derived.Test.YtkcpjnjneehecaaRows
import Derived.Test.YtkcpjnjneehecaaFns
import Derived.Test.YtkcpjnjneehecaaPureZA
import Derived.Test.YtkcpjnjneehecaaPureZB
import Derived.Test.YtkcpjnjneehecaaPureZC
import Derived.Test.YtkcpjnjneehecaaPureO
namespace Go.Proofs.Ytkcpjnjneehecaa
open Go Go.Vc Go.ChangeShapes Go.WideShapes Go.ChangeAt Go.RowKit
theorem own:ownKnob Try.prog.godebug=none:=by kernel_rfl
theorem laid:laidOutB Try.prog=true:=by kernel_rfl
theorem cells3:Try.prog.cellsOf 3=1:=by kernel_rfl
theorem rd3:Rd Try.prog 3 1 false (fun d=>∃ x:Int,(IntKind.i64.min≤x∧x≤IntKind.i64.max)∧d=(eI .i64) x) :=
 Rd.int Try.underlying3 cells3
def q23 (x:(List Int)):Prop:=(∀ y∈x,(IntKind.i64.min≤y∧y≤IntKind.i64.max))∧x.length≤maxLen
theorem cells23:Try.prog.cellsOf 23=1:=by kernel_rfl
theorem rd23:Rd Try.prog 23 1 false (fun d=>∃ x:(List Int),q23 x∧d=(.list 1 (x.map (eI .i64)))) :=
 Rd.list Try.underlying23 cells23 (by decide) rd3
theorem law_ac (xs:List D) (h:FA [(fun d=>∃ x:(List Int),q23 x∧d=(.list 1 (x.map (eI .i64))))] xs):AC Try.prog 5 (xs.map .d) [] (.d (.bool true)) []:=by
 obtain⟨_,xs0,rfl,⟨a0,k0,rfl⟩,h0⟩:=FA.cons h
 obtain rfl:=FA.nil h0
 exact xlaw43_PlanCarries_ac a0 true (carries_law a0 k0)
theorem read23:Program.readableRec Try.prog 23=true∧23<Try.prog.types.size:=⟨by kernel_rfl,of_decide_eq_true (by kernel_rfl)⟩
theorem reads:∀ t∈([23]:List TypeId),Program.readableRec Try.prog t=true∧t<Try.prog.types.size:=by
 intro t ht
 cases ht with
 | head=>exact read23
 | tail _ ht =>
 cases ht
set_option maxRecDepth 100000 in
theorem lifted (os:Os) (started:os.Started) (H:Type) (enc:TypeId×Value→H) :
  ReturnsInHanded {} Try.checked os 5 .any (Rows.planCarriesSpec.pre6 enc Try.prog Try.f5 Rows.planCarriesRow.domain false) (Rows.planCarriesSpec.post enc Try.prog Try.f5 false true false false):=by
 refine returnsInHanded_of_change (C:=Try.checked) own started (by kernel_rfl) Try.func5
  (ChangeSpec.witness6 (enc:=enc) (C:=Try.checked) false ⟨#[],#[.slice none 0 0],[]⟩ 8 (by kernel_rfl) (by kernel_rfl) (by kernel_rfl) (by kernel_rfl)) ?_
 intro W base args ds gs before hval0 hW hcnd _
 exact law_calls (P:=Try.prog) (ts:=[23]) (tb:=4) hval0 hW rfl rfl (.cons rd23 .nil) Try.underlying4 (by kernel_rfl) laid reads
  (fun ds hl=>by match ds,hl with | [_],_=>rfl) law_ac
theorem holds:Rows.PlanCarriesSaid :=
 OpenClaim.holds_of_wide 5 Try.f5 rfl rfl rfl rfl rfl rfl rfl ⟨rfl,rfl,rfl,rfl,rfl⟩ rfl rfl rfl rfl rfl (by kernel_rfl) Try.func5 (by kernel_rfl)
  (of_decide_eq_true (by kernel_rfl)) (by unfold Func.isWrapper;first | (rw [if_pos (by decide +kernel)];kernel_rfl) | (rw [if_neg (by decide +kernel)];exact⟨rfl,rfl⟩))
  (fun os started H enc _=>lifted os started H enc)
end Go.Proofs.Ytkcpjnjneehecaa
