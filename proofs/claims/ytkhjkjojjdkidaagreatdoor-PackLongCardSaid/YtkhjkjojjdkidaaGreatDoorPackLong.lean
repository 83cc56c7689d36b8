/- The statement 'PackLong' holds of every input, and the package variables that it lists are laid by the text: no condition. -/
import Derived.Test.YtkhjkjojjdkidaaGreatDoorRows
import Derived.Test.YtkhjkjojjdkidaaGreatDoorCards
import Derived.Test.YtkhjkjojjdkidaaGreatDoorTie
import Derived.SevenTiedAt
import Derived.Stop.Joined
import Derived.Test.YtkhjkjojjdkidaaGreatDoorVcPm
import Derived.Test.YtkhjkjojjdkidaaGreatDoorFns
import Derived.Test.YtkhjkjojjdkidaaGreatDoorPureZA
import Derived.Test.YtkhjkjojjdkidaaGreatDoorPureZB
import Derived.Test.YtkhjkjojjdkidaaGreatDoorPureZC
import Derived.Test.YtkhjkjojjdkidaaGreatDoorPureQL
namespace Go.Proofs.YtkhjkjojjdkidaaGreatDoor
open Go Go.Vc Go.ChangeShapes Go.WideShapes Go.ChangeAt Go.RowKit
theorem own:ownKnob Tryz.prog.godebug=none:=by kernel_rfl
theorem laid:laidOutB Tryz.prog=true:=by kernel_rfl
def laidL:List (String×DataW Unit):=[("exchangepoint/attribute.flags",Rows.laid_exchangepoint_attribute_flags)]
theorem B4g (os:Os) (args:Array Value):laidMetH Tryz.prog laidL ((World.doorLaid Tryz.prog 54 os).forCall (fun _ _=>0) ⟨#[],args,[]⟩).memory :=
 laidMetH_of_parts3 (fuel:=8) (laidMet_of_run' 8 (by kernel_rfl) (by kernel_rfl)) (by kernel_rfl) (by kernel_rfl)
set_option maxRecDepth 100000 in
theorem glob0 {W:World} (h:laidMetH Tryz.prog laidL W):(globD 0 (.imap gv0)).holds (Zw W) W :=
 B3k (es:=gv0) h List.mem_cons_self (by kernel_rfl) (by kernel_rfl) Tryz.underlying164 Tryz.underlying3 Tryz.underlying3 (by decide)
def knows:List (Nat×Know):=[(500,globD 0 (.imap gv0))]
theorem cells3:Tryz.prog.cellsOf 3=1:=by kernel_rfl
theorem rd3:Rd Tryz.prog 3 1 false (fun d=>∃ x:Int,(IntKind.i64.min≤x∧x≤IntKind.i64.max)∧d=(eI .i64) x) :=
 Rd.int Tryz.underlying3 cells3
def q23 (x:(List Int)):Prop:=(∀ y∈x,(IntKind.i64.min≤y∧y≤IntKind.i64.max))∧x.length≤maxLen
theorem cells23:Tryz.prog.cellsOf 23=1:=by kernel_rfl
theorem rd23:Rd Tryz.prog 23 1 false (fun d=>∃ x:(List Int),q23 x∧d=(.list 1 (x.map (eI .i64)))) :=
 Rd.list Tryz.underlying23 cells23 (by decide) rd3
theorem B6n (xs:List D) (h:FA [(fun d=>∃ x:(List Int),q23 x∧d=(.list 1 (x.map (eI .i64)))),(fun d=>∃ x:Int,(IntKind.i64.min≤x∧x≤IntKind.i64.max)∧d=(eI .i64) x)] xs):AC Tryz.prog 4 (xs.map .d) (knowP knows) (.d (.bool true)) (knowO knows):=by
 obtain⟨_,xs0,rfl,⟨a0,k0,rfl⟩,h0⟩:=FA.cons h
 obtain⟨_,xs1,rfl,⟨a1,k1,rfl⟩,h1⟩:=FA.cons h0
 obtain rfl:=FA.nil h1
 exact A5y a0 a1 true (B5b a0 k0 a1 k1)
theorem read3:Program.readableRec Tryz.prog 3=true∧3<Tryz.prog.types.size:=⟨by kernel_rfl,of_decide_eq_true (by kernel_rfl)⟩
theorem read23:Program.readableRec Tryz.prog 23=true∧23<Tryz.prog.types.size:=⟨by kernel_rfl,of_decide_eq_true (by kernel_rfl)⟩
theorem reads:∀ t∈([23,3]:List TypeId),Program.readableRec Tryz.prog t=true∧t<Tryz.prog.types.size:=by
 intro t ht
 cases ht with
 | head=>exact read23
 | tail _ ht =>
 cases ht with
 | head=>exact read3
 | tail _ ht =>
 cases ht
set_option maxRecDepth 100000 in
theorem lifted (os:Os) (started:os.Started) (H:Type) (enc:TypeId×Value→H) :
  ReturnsInHanded {} Tryz.checked os 4 .any (fun w args=>(Rows.packLongSpec.pre enc Tryz.prog Tryz.f4 [] false w args∧laidMetH Tryz.prog laidL w)∧sizedMet enc Tryz.prog Tryz.f4 (OpenSpec.ofChange Rows.packLongSpec) false w args)
   (Rows.packLongSpec.post enc Tryz.prog Tryz.f4 false true false false):=by
 refine returnsInHanded_of_change_and (C:=Tryz.checked) (X:=fun w _=>laidMetH Tryz.prog laidL w) (fun _ _ _ hh h=>h.of_heap hh) own started (by kernel_rfl) Tryz.func4
  (ChangeSpec.witness_shaped (enc:=enc) (C:=Tryz.checked) (os:=os) (X:=fun w _=>laidMetH Tryz.prog laidL w) false (World.doorLaid Tryz.prog 54 os) #[.slice none 0 0,.int .i64 0] 8 rfl (World.shaped_of_RefB (by kernel_rfl) (by kernel_rfl)) (by kernel_rfl) (by kernel_rfl) (by kernel_rfl) (B4g os _)) ?_
 intro W base args ds gs before hval0 hW _ _ hL _
 have hk:∀ p∈knows,p.2.holds (Zw W) W:=fun p hp=>by
  cases hp with
  | head=>exact glob0 hL
  | tail _ hp=>cases hp
 exact B22 (P:=Tryz.prog) (ts:=[23,3]) (tb:=4) knows hk hval0 hW rfl rfl (.cons rd23 (.cons rd3 .nil)) Tryz.underlying4 (by kernel_rfl) laid reads
  (fun ds hl=>by match ds,hl with | [_,_],_=>rfl) B6n
theorem B3o:Rows.PackLongSaid :=
 OpenClaim.holds_of_wide 4 Tryz.f4 rfl rfl rfl rfl rfl rfl rfl ⟨rfl,rfl,rfl,rfl,rfl⟩ rfl rfl rfl rfl rfl (by kernel_rfl) Tryz.func4 (by kernel_rfl)
  (of_decide_eq_true (by kernel_rfl)) (by unfold Func.isWrapper;first | (rw [if_pos (by decide +kernel)];kernel_rfl) | (rw [if_neg (by decide +kernel)];exact⟨rfl,rfl⟩))
  (fun os started H enc _=>lifted os started H enc)
theorem holds:Rows.PackLongCardSaid :=
 Claim7.holds_tied_plain_at .later [] [.mapped] true (true,"6cfef4e9f0547fe6924e1048c1267e0f525b8f2e42a2441f3e2f715082584cd1") false
  B3o (fun _ h=>by cases h) (by kernel_rfl) (fun _ h=>by cases h) packLong_row_tie rfl ⟨rfl,rfl⟩ (by kernel_rfl) rfl
  (fun f fn hf hfn=>by
   obtain rfl:f=4:=Option.some.inj ((show Tryz.prog.funcNamed "exchangepoint/exchangepointlaw30.PackLong" = some 4 by kernel_rfl).symm.trans hf) |>.symm
   obtain rfl:fn=Tryz.f4:=(Option.some.inj (Tryz.func4.symm.trans hfn)).symm
   exact⟨by kernel_rfl,fun j t ht=>by
    rw [Tryz.params4] at ht
    have hm:t∈[23,3]:=by simpa using Array.mem_of_getElem? ht
    have hall:([23,3].all fun u => !Tryz.prog.wantsStandIn u)=true:=by kernel_rfl
    exact(show Tryz.prog.wantsStandIn t=false by simpa using List.all_eq_true.1 hall t hm)⟩)
  (by kernel_rfl)
end Go.Proofs.YtkhjkjojjdkidaaGreatDoor
