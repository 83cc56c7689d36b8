/- The statement 'OriginPayloads' holds of every input, and the package variables that it lists are laid by the text: no condition. -/
import Derived.Test.YtgfoabcickjphaaGreatDoorRows
import Derived.Test.YtgfoabcickjphaaGreatDoorCards
import Derived.Test.YtgfoabcickjphaaGreatDoorTie
import Derived.SevenTiedAt
import Derived.Stop.Joined
import Derived.Test.YtgfoabcickjphaaGreatDoorVcPl
import Derived.Test.YtgfoabcickjphaaGreatDoorFns
import Derived.Test.YtgfoabcickjphaaGreatDoorPureE
import Derived.Test.YtgfoabcickjphaaGreatDoorPureO
import Derived.Test.YtgfoabcickjphaaGreatDoorPureZJ
import Derived.Test.YtgfoabcickjphaaGreatDoorPureA
import Derived.Test.YtgfoabcickjphaaGreatDoorPureD
import Derived.Test.YtgfoabcickjphaaGreatDoorPureEP
namespace Go.Proofs.YtgfoabcickjphaaGreatDoor
open Go Go.Vc Go.ChangeShapes Go.WideShapes Go.ChangeAt Go.RowKit
theorem own:ownKnob Tryz.prog.godebug=none:=by kernel_rfl
theorem laid:laidOutB Tryz.prog=true:=by kernel_rfl
def laidL:List (String×DataW Unit):=[("exchangepoint/resource.addresses",Rows.laid_exchangepoint_resource_addresses),("exchangepoint/resource.numbers",Rows.laid_exchangepoint_resource_numbers)]
theorem door_met (os:Os) (args:Array Value):laidMetH Tryz.prog laidL ((World.doorLaid Tryz.prog 19 os).forCall (fun _ _=>0) ⟨#[],args,[]⟩).memory :=
 laidMetH_of_parts3 (fuel:=8) (laidMet_of_run' 8 (by kernel_rfl) (by kernel_rfl)) (by kernel_rfl) (by kernel_rfl)
set_option maxRecDepth 100000 in
theorem glob0 {W:World} (h:laidMetH Tryz.prog laidL W):(globF 0 [109,150,151]).holds (Zw W) W :=
 laid_fns3 h List.mem_cons_self (by kernel_rfl) (by kernel_rfl) Tryz.underlying117 (by kernel_rfl) rfl rfl rfl rfl (by kernel_rfl) (by kernel_rfl) (by kernel_rfl) (fun _ _ _ h=>Go.func_of_trod (f0:=109) Tryz.underlying93 (by kernel_rfl) h) (fun _ _ _ h=>Go.func_of_trod (f0:=150) Tryz.underlying115 (by kernel_rfl) h) (fun _ _ _ h=>Go.func_of_trod (f0:=151) Tryz.underlying115 (by kernel_rfl) h) rfl
set_option maxRecDepth 100000 in
theorem glob1 {W:World} (h:laidMetH Tryz.prog laidL W):(globF 1 [98,152,153]).holds (Zw W) W :=
 laid_fns3 h (List.mem_cons_of_mem _ List.mem_cons_self) (by kernel_rfl) (by kernel_rfl) Tryz.underlying121 (by kernel_rfl) rfl rfl rfl rfl (by kernel_rfl) (by kernel_rfl) (by kernel_rfl) (fun _ _ _ h=>Go.func_of_trod (f0:=98) Tryz.underlying53 (by kernel_rfl) h) (fun _ _ _ h=>Go.func_of_trod (f0:=152) Tryz.underlying119 (by kernel_rfl) h) (fun _ _ _ h=>Go.func_of_trod (f0:=153) Tryz.underlying119 (by kernel_rfl) h) rfl
def knows:List (Nat×Know):=[(500,globF 0 [109,150,151]),(501,globF 1 [98,152,153])]
theorem cells3:Tryz.prog.cellsOf 3=1:=by kernel_rfl
theorem rd3:Rd Tryz.prog 3 1 false (fun d=>∃ x:Int,(IntKind.i64.min≤x∧x≤IntKind.i64.max)∧d=(eI .i64) x) :=
 Rd.int Tryz.underlying3 cells3
theorem cells4:Tryz.prog.cellsOf 4=1:=by kernel_rfl
theorem rd4:Rd Tryz.prog 4 1 false (fun d=>∃ x:Bool,True∧d=eB x) :=
 Rd.bool Tryz.underlying4 cells4
theorem cells42:Tryz.prog.cellsOf 42=1:=by kernel_rfl
theorem rd42:Rd Tryz.prog 42 1 false (fun d=>∃ x:Int,(IntKind.u64.min≤x∧x≤IntKind.u64.max)∧d=(eI .u64) x) :=
 Rd.int Tryz.underlying42 cells42
def q44 (x:aAddr):Prop:=(True)∧((IntKind.u64.min≤x.fHi∧x.fHi≤IntKind.u64.max))∧((IntKind.u64.min≤x.fLo∧x.fLo≤IntKind.u64.max))∧True
theorem cells44:Tryz.prog.cellsOf 44=3:=by kernel_rfl
theorem rd44:Rd Tryz.prog 44 3 true (fun d=>∃ x:aAddr,q44 x∧d=e_aAddr x) :=
 Rd.st (ps:=[(fun d=>∃ x:Bool,True∧d=eB x),(fun d=>∃ x:Int,(IntKind.u64.min≤x∧x≤IntKind.u64.max)∧d=(eI .u64) x),(fun d=>∃ x:Int,(IntKind.u64.min≤x∧x≤IntKind.u64.max)∧d=(eI .u64) x)]) Tryz.underlying44 rfl cells44 (.cons rfl rd4 (.cons rfl rd42 (.cons rfl rd42 .nil))) (fun ds h=>by
  obtain⟨_,ds0,rfl,⟨x0,k0,rfl⟩,h0⟩:=FA.cons h
  obtain⟨_,ds1,rfl,⟨x1,k1,rfl⟩,h1⟩:=FA.cons h0
  obtain⟨_,ds2,rfl,⟨x2,k2,rfl⟩,h2⟩:=FA.cons h1
  obtain rfl:=FA.nil h2
  exact⟨⟨x0,x1,x2⟩,⟨k0,k1,k2,trivial⟩,rfl⟩) (fun d ⟨x,k,h⟩=>by
  subst h
  obtain⟨k0,k1,k2,_⟩:=k
  exact⟨_,rfl,⟨⟨_,k0,rfl⟩,⟨⟨_,k1,rfl⟩,⟨⟨_,k2,rfl⟩,trivial⟩⟩⟩⟩)
def q46 (x:aPrefix):Prop:=(q44 x.fAddr)∧((IntKind.i64.min≤x.fLen∧x.fLen≤IntKind.i64.max))∧True
theorem cells46:Tryz.prog.cellsOf 46=4:=by kernel_rfl
theorem rd46:Rd Tryz.prog 46 4 true (fun d=>∃ x:aPrefix,q46 x∧d=e_aPrefix x) :=
 Rd.st (ps:=[(fun d=>∃ x:aAddr,q44 x∧d=e_aAddr x),(fun d=>∃ x:Int,(IntKind.i64.min≤x∧x≤IntKind.i64.max)∧d=(eI .i64) x)]) Tryz.underlying46 rfl cells46 (.cons rfl rd44 (.cons rfl rd3 .nil)) (fun ds h=>by
  obtain⟨_,ds0,rfl,⟨x0,k0,rfl⟩,h0⟩:=FA.cons h
  obtain⟨_,ds1,rfl,⟨x1,k1,rfl⟩,h1⟩:=FA.cons h0
  obtain rfl:=FA.nil h1
  exact⟨⟨x0,x1⟩,⟨k0,k1,trivial⟩,rfl⟩) (fun d ⟨x,k,h⟩=>by
  subst h
  obtain⟨k0,k1,_⟩:=k
  exact⟨_,rfl,⟨⟨_,k0,rfl⟩,⟨⟨_,k1,rfl⟩,trivial⟩⟩⟩)
def q48 (x:aObject):Prop:=(q46 x.fPrefix)∧((IntKind.i64.min≤x.fMax∧x.fMax≤IntKind.i64.max))∧((IntKind.i64.min≤x.fASN∧x.fASN≤IntKind.i64.max))∧True
theorem cells48:Tryz.prog.cellsOf 48=6:=by kernel_rfl
theorem rd48:Rd Tryz.prog 48 6 true (fun d=>∃ x:aObject,q48 x∧d=e_aObject x) :=
 Rd.st (ps:=[(fun d=>∃ x:aPrefix,q46 x∧d=e_aPrefix x),(fun d=>∃ x:Int,(IntKind.i64.min≤x∧x≤IntKind.i64.max)∧d=(eI .i64) x),(fun d=>∃ x:Int,(IntKind.i64.min≤x∧x≤IntKind.i64.max)∧d=(eI .i64) x)]) Tryz.underlying48 rfl cells48 (.cons rfl rd46 (.cons rfl rd3 (.cons rfl rd3 .nil))) (fun ds h=>by
  obtain⟨_,ds0,rfl,⟨x0,k0,rfl⟩,h0⟩:=FA.cons h
  obtain⟨_,ds1,rfl,⟨x1,k1,rfl⟩,h1⟩:=FA.cons h0
  obtain⟨_,ds2,rfl,⟨x2,k2,rfl⟩,h2⟩:=FA.cons h1
  obtain rfl:=FA.nil h2
  exact⟨⟨x0,x1,x2⟩,⟨k0,k1,k2,trivial⟩,rfl⟩) (fun d ⟨x,k,h⟩=>by
  subst h
  obtain⟨k0,k1,k2,_⟩:=k
  exact⟨_,rfl,⟨⟨_,k0,rfl⟩,⟨⟨_,k1,rfl⟩,⟨⟨_,k2,rfl⟩,trivial⟩⟩⟩⟩)
def q38 (x:(List aObject)):Prop:=(∀ y∈x,q48 y)∧x.length≤maxLen
theorem cells38:Tryz.prog.cellsOf 38=1:=by kernel_rfl
theorem rd38:Rd Tryz.prog 38 1 false (fun d=>∃ x:(List aObject),q38 x∧d=(.list 6 (x.map e_aObject))) :=
 Rd.list Tryz.underlying38 cells38 (by decide) rd48
def q66 (x:aSigned):Prop:=((IntKind.i64.min≤x.fKey∧x.fKey≤IntKind.i64.max))∧((IntKind.i64.min≤x.fASN∧x.fASN≤IntKind.i64.max))∧((IntKind.i64.min≤x.fFrom∧x.fFrom≤IntKind.i64.max))∧((IntKind.i64.min≤x.fUntil∧x.fUntil≤IntKind.i64.max))∧(q38 x.fObjects)∧True
theorem cells66:Tryz.prog.cellsOf 66=5:=by kernel_rfl
theorem rd66:Rd Tryz.prog 66 5 true (fun d=>∃ x:aSigned,q66 x∧d=e_aSigned x) :=
 Rd.st (ps:=[(fun d=>∃ x:Int,(IntKind.i64.min≤x∧x≤IntKind.i64.max)∧d=(eI .i64) x),(fun d=>∃ x:Int,(IntKind.i64.min≤x∧x≤IntKind.i64.max)∧d=(eI .i64) x),(fun d=>∃ x:Int,(IntKind.i64.min≤x∧x≤IntKind.i64.max)∧d=(eI .i64) x),(fun d=>∃ x:Int,(IntKind.i64.min≤x∧x≤IntKind.i64.max)∧d=(eI .i64) x),(fun d=>∃ x:(List aObject),q38 x∧d=(.list 6 (x.map e_aObject)))]) Tryz.underlying66 rfl cells66 (.cons rfl rd3 (.cons rfl rd3 (.cons rfl rd3 (.cons rfl rd3 (.cons rfl rd38 .nil))))) (fun ds h=>by
  obtain⟨_,ds0,rfl,⟨x0,k0,rfl⟩,h0⟩:=FA.cons h
  obtain⟨_,ds1,rfl,⟨x1,k1,rfl⟩,h1⟩:=FA.cons h0
  obtain⟨_,ds2,rfl,⟨x2,k2,rfl⟩,h2⟩:=FA.cons h1
  obtain⟨_,ds3,rfl,⟨x3,k3,rfl⟩,h3⟩:=FA.cons h2
  obtain⟨_,ds4,rfl,⟨x4,k4,rfl⟩,h4⟩:=FA.cons h3
  obtain rfl:=FA.nil h4
  exact⟨⟨x0,x1,x2,x3,x4⟩,⟨k0,k1,k2,k3,k4,trivial⟩,rfl⟩) (fun d ⟨x,k,h⟩=>by
  subst h
  obtain⟨k0,k1,k2,k3,k4,_⟩:=k
  exact⟨_,rfl,⟨⟨_,k0,rfl⟩,⟨⟨_,k1,rfl⟩,⟨⟨_,k2,rfl⟩,⟨⟨_,k3,rfl⟩,⟨⟨_,k4,rfl⟩,trivial⟩⟩⟩⟩⟩⟩)
def q26 (x:(List aSigned)):Prop:=(∀ y∈x,q66 y)∧x.length≤maxLen
theorem cells26:Tryz.prog.cellsOf 26=1:=by kernel_rfl
theorem rd26:Rd Tryz.prog 26 1 false (fun d=>∃ x:(List aSigned),q26 x∧d=(.list 5 (x.map e_aSigned))) :=
 Rd.list Tryz.underlying26 cells26 (by decide) rd66
def q23 (x:(List Int)):Prop:=(∀ y∈x,(IntKind.i64.min≤y∧y≤IntKind.i64.max))∧x.length≤maxLen
theorem cells23:Tryz.prog.cellsOf 23=1:=by kernel_rfl
theorem rd23:Rd Tryz.prog 23 1 false (fun d=>∃ x:(List Int),q23 x∧d=(.list 1 (x.map (eI .i64)))) :=
 Rd.list Tryz.underlying23 cells23 (by decide) rd3
theorem law_ac (xs:List D) (h:FA [(fun d=>∃ x:(List aSigned),q26 x∧d=(.list 5 (x.map e_aSigned))),(fun d=>∃ x:(List Int),q23 x∧d=(.list 1 (x.map (eI .i64)))),(fun d=>∃ x:Int,(IntKind.i64.min≤x∧x≤IntKind.i64.max)∧d=(eI .i64) x),(fun d=>∃ x:Int,(IntKind.i64.min≤x∧x≤IntKind.i64.max)∧d=(eI .i64) x)] xs):AC Tryz.prog 6 (xs.map .d) (knowP knows) (.d (.bool true)) (knowO knows):=by
 obtain⟨_,xs0,rfl,⟨a0,k0,rfl⟩,h0⟩:=FA.cons h
 obtain⟨_,xs1,rfl,⟨a1,k1,rfl⟩,h1⟩:=FA.cons h0
 obtain⟨_,xs2,rfl,⟨a2,k2,rfl⟩,h2⟩:=FA.cons h1
 obtain⟨_,xs3,rfl,⟨a3,k3,rfl⟩,h3⟩:=FA.cons h2
 obtain rfl:=FA.nil h3
 exact xlaw22_OriginPayloads_ac a0 a1 a2 a3 true (payloads_law a0 k0 a1 k1 a2 k2 a3 k3)
theorem read3:Program.readableRec Tryz.prog 3=true∧3<Tryz.prog.types.size:=⟨by kernel_rfl,of_decide_eq_true (by kernel_rfl)⟩
theorem read23:Program.readableRec Tryz.prog 23=true∧23<Tryz.prog.types.size:=⟨by kernel_rfl,of_decide_eq_true (by kernel_rfl)⟩
theorem read26:Program.readableRec Tryz.prog 26=true∧26<Tryz.prog.types.size:=⟨by kernel_rfl,of_decide_eq_true (by kernel_rfl)⟩
theorem reads:∀ t∈([26,23,3,3]:List TypeId),Program.readableRec Tryz.prog t=true∧t<Tryz.prog.types.size:=by
 intro t ht
 cases ht with
 | head=>exact read26
 | tail _ ht =>
 cases ht with
 | head=>exact read23
 | tail _ ht =>
 cases ht with
 | head=>exact read3
 | tail _ ht =>
 cases ht with
 | head=>exact read3
 | tail _ ht =>
 cases ht
set_option maxRecDepth 100000 in
theorem lifted (os:Os) (started:os.Started) (H:Type) (enc:TypeId×Value→H) :
  ReturnsInHanded {} Tryz.checked os 6 .any (fun w args=>(Rows.originPayloadsSpec.pre enc Tryz.prog Tryz.f6 [] false w args∧laidMetH Tryz.prog laidL w)∧sizedMet enc Tryz.prog Tryz.f6 (OpenSpec.ofChange Rows.originPayloadsSpec) false w args)
   (Rows.originPayloadsSpec.post enc Tryz.prog Tryz.f6 false true false false):=by
 refine returnsInHanded_of_change_and (C:=Tryz.checked) (X:=fun w _=>laidMetH Tryz.prog laidL w) (fun _ _ _ hh h=>h.of_heap hh) own started (by kernel_rfl) Tryz.func6
  (ChangeSpec.witness_shaped (enc:=enc) (C:=Tryz.checked) (os:=os) (X:=fun w _=>laidMetH Tryz.prog laidL w) false (World.doorLaid Tryz.prog 19 os) #[.slice none 0 0,.slice none 0 0,.int .i64 0,.int .i64 0] 8 rfl (World.shaped_of_RefB (by kernel_rfl) (by kernel_rfl)) (by kernel_rfl) (by kernel_rfl) (by kernel_rfl) (door_met os _)) ?_
 intro W base args ds gs before hval0 hW _ _ hL _
 have hk:∀ p∈knows,p.2.holds (Zw W) W:=fun p hp=>by
  cases hp with
  | head=>exact glob0 hL
  | tail _ hp =>
  cases hp with
  | head=>exact glob1 hL
  | tail _ hp=>cases hp
 exact law_callsG (P:=Tryz.prog) (ts:=[26,23,3,3]) (tb:=4) knows hk hval0 hW rfl rfl (.cons rd26 (.cons rd23 (.cons rd3 (.cons rd3 .nil)))) Tryz.underlying4 (by kernel_rfl) laid reads
  (fun ds hl=>by match ds,hl with | [_,_,_,_],_=>rfl) law_ac
theorem row_holds:Rows.OriginPayloadsSaid :=
 OpenClaim.holds_of_wide 6 Tryz.f6 rfl rfl rfl rfl rfl rfl rfl ⟨rfl,rfl,rfl,rfl,rfl⟩ rfl rfl rfl rfl rfl (by kernel_rfl) Tryz.func6 (by kernel_rfl)
  (of_decide_eq_true (by kernel_rfl)) (by unfold Func.isWrapper;first | (rw [if_pos (by decide +kernel)];kernel_rfl) | (rw [if_neg (by decide +kernel)];exact⟨rfl,rfl⟩))
  (fun os started H enc _=>lifted os started H enc)
theorem holds:Rows.OriginPayloadsCardSaid :=
 Claim7.holds_tied_plain_at .later [] [.funcs,.funcs] true (true,"e8d0a760e142add5aec0e9a118357c2d98901f0667e91027e31a17c75215362b") false
  row_holds (fun _ h=>by cases h) (by kernel_rfl) (fun _ h=>by cases h) originPayloads_row_tie rfl ⟨rfl,rfl⟩ (by kernel_rfl) rfl
  (fun f fn hf hfn=>by
   obtain rfl:f=6:=Option.some.inj ((show Tryz.prog.funcNamed "exchangepoint/exchangepointlaw22.OriginPayloads" = some 6 by kernel_rfl).symm.trans hf) |>.symm
   obtain rfl:fn=Tryz.f6:=(Option.some.inj (Tryz.func6.symm.trans hfn)).symm
   exact⟨by kernel_rfl,fun j t ht=>by
    rw [Tryz.params6] at ht
    have hm:t∈[26,23,3,3]:=by simpa using Array.mem_of_getElem? ht
    have hall:([26,23,3,3].all fun u => !Tryz.prog.wantsStandIn u)=true:=by kernel_rfl
    exact(show Tryz.prog.wantsStandIn t=false by simpa using List.all_eq_true.1 hall t hm)⟩)
  (by kernel_rfl)
end Go.Proofs.YtgfoabcickjphaaGreatDoor
