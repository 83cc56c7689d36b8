/- Printed by gen.py: the Go functions as plain functions, and that the code does what they say. -/
import Derived.Test.YtkcpjnjneehecaaChecked
import Derived.Test.YtkcpjnjneehecaaVcYB
import Derived.Test.YtkcpjnjneehecaaVcZ
import Derived.Test.YtkcpjnjneehecaaVcGC
import Derived.KernelRfl
import Derived.Test.YtkcpjnjneehecaaExt
import Derived.Test.YtkcpjnjneehecaaVcWS
import Derived.Test.YtkcpjnjneehecaaVcQu
import Derived.Test.YtkcpjnjneehecaaVcAC
namespace Go.Proofs.Ytkcpjnjneehecaa
open Go Go.Vc
open Try
open Go.Vc.OpJ (assign alloc lss pickT pickF extract lenD indexD loadD eqlI gtr callVal leq geq loadR nilP indexS buildSlice lenS fieldD neqI pickAnd pickOr)
set_option maxHeartbeats 4000000
set_option maxRecDepth 100000
noncomputable section
structure aItem where
 fSwitch:Bool
 fIndex:Int
def e_aItem (x:aItem):D:=.st [(.bool x.fSwitch),(.int .i64 x.fIndex)]
structure aLink where
 fA:Int
 fB:Int
 fCapacity:Int
def e_aLink (x:aLink):D:=.st [(.int .i64 x.fA),(.int .i64 x.fB),(.int .i64 x.fCapacity)]
structure aLoad where
 fA:Int
 fB:Int
 fRate:Int
def e_aLoad (x:aLoad):D:=.st [(.int .i64 x.fA),(.int .i64 x.fB),(.int .i64 x.fRate)]
def e_LeapiLink (x:(List aLink)):D:=(.list 3 (x.map e_aLink))
def e_LeB (x:(List Bool)):D:=(.list 1 (x.map eB))
structure aFabric where
 fSwitches:Int
 fLinks:(List aLink)
 fDown:(List Bool)
 fDead:(List Bool)
def e_aFabric (x:aFabric):D:=.st [(.int .i64 x.fSwitches),(.list 3 (x.fLinks.map e_aLink)),(.list 1 (x.fDown.map eB)),(.list 1 (x.fDead.map eB))]
def e_LeIi64 (x:(List Int)):D:=(.list 1 (x.map (eI .i64)))
def e_A2eIi64 (x:(List Int)):D:=(.arr 2 1 (x.map (eI .i64)))
def e_LeapiItem (x:(List aItem)):D:=(.list 2 (x.map e_aItem))
structure exchangepointmill_Deck where
 fL:(List Int)
 fAt:Int
def e_exchangepointmill_Deck (x:exchangepointmill_Deck):D:=.st [(.list 1 (x.fL.map (eI .i64))),(.int .i64 x.fAt)]
structure aShed where
 fItems:(List aItem)
 fLoads:(List Int)
def e_aShed (x:aShed):D:=.st [(.list 2 (x.fItems.map e_aItem)),(.list 1 (x.fLoads.map (eI .i64)))]
def e_LeapiShed (x:(List aShed)):D:=(.list 2 (x.map e_aShed))
@[reducible] def qe_aLink_3 (x:List aLink):V:=.d (.list 3 (x.map e_aLink))
@[reducible] def qe_aItem_2 (x:List aItem):V:=.d (.list 2 (x.map e_aItem))
@[reducible] def qe_aLoad_3 (x:List aLoad):V:=.d (.list 3 (x.map e_aLoad))
@[reducible] def qI_1 (x:List Int):V:=.d (.list 1 (x.map (eI .i64)))
@[reducible] def we_aLink_45_3 (x:List aLink):Ob:=.row 45 3 (x.map e_aLink)
@[reducible] def wI_3_1 (x:List Int):Ob:=.row 3 1 (x.map (eI .i64))
@[reducible] def we_aItem_63_2 (x:List aItem):Ob:=.row 63 2 (x.map e_aItem)
@[reducible] def we_aLoad_59_3 (x:List aLoad):Ob:=.row 59 3 (x.map e_aLoad)
@[reducible] def qe_aShed_2 (x:List aShed):V:=.d (.list 2 (x.map e_aShed))
@[reducible] def we_aShed_53_2 (x:List aShed):Ob:=.row 53 2 (x.map e_aShed)
theorem tyZS45:TyZ Try.prog 45 (.st [(.d (.int .i64 0)),(.d (.int .i64 0)),(.d (.int .i64 0))]):=⟨by kernel_rfl,fun w=>by kernel_rfl⟩
theorem tyS45:TyS Try.prog 45 3 true:=⟨by kernel_rfl,by kernel_rfl⟩
theorem tyZD45:TyZ Try.prog 45 (.d (.st [(.int .i64 0),(.int .i64 0),(.int .i64 0)])):=⟨by kernel_rfl,fun w=>by kernel_rfl⟩
theorem tyS4:TyS Try.prog 4 1 false:=⟨by kernel_rfl,by kernel_rfl⟩
theorem tyZD4:TyZ Try.prog 4 (.d (.bool false)):=⟨by kernel_rfl,fun w=>by kernel_rfl⟩
theorem tyE4:TyE Try.prog 4 1 1:=⟨by kernel_rfl,by decide⟩
theorem tyZS30:TyZ Try.prog 30 (.st [(.d (.int .i64 0)),.nils,.nils,.nils]):=⟨by kernel_rfl,fun w=>by kernel_rfl⟩
theorem tyZ30:TyZ Try.prog 30 (.st [(.d (.int .i64 0)),.nils,.nils,.nils]):=⟨by kernel_rfl,fun w=>by kernel_rfl⟩
theorem tyS30:TyS Try.prog 30 4 true:=⟨by kernel_rfl,by kernel_rfl⟩
theorem tyZS59:TyZ Try.prog 59 (.st [(.d (.int .i64 0)),(.d (.int .i64 0)),(.d (.int .i64 0))]):=⟨by kernel_rfl,fun w=>by kernel_rfl⟩
theorem tyS59:TyS Try.prog 59 3 true:=⟨by kernel_rfl,by kernel_rfl⟩
theorem tyZD59:TyZ Try.prog 59 (.d (.st [(.int .i64 0),(.int .i64 0),(.int .i64 0)])):=⟨by kernel_rfl,fun w=>by kernel_rfl⟩
theorem tyS3:TyS Try.prog 3 1 false:=⟨by kernel_rfl,by kernel_rfl⟩
theorem tyZD3:TyZ Try.prog 3 (.d (.int .i64 0)):=⟨by kernel_rfl,fun w=>by kernel_rfl⟩
theorem tyS27:TyS Try.prog 27 1 false:=⟨by kernel_rfl,by kernel_rfl⟩
theorem tyZ45:TyZ Try.prog 45 (.d (.st [(.int .i64 0),(.int .i64 0),(.int .i64 0)])):=⟨by kernel_rfl,fun w=>by kernel_rfl⟩
theorem tyS28:TyS Try.prog 28 1 false:=⟨by kernel_rfl,by kernel_rfl⟩
theorem fnOk31:FnOk Try.prog 31:=⟨by kernel_rfl⟩
theorem tyZ59:TyZ Try.prog 59 (.d (.st [(.int .i64 0),(.int .i64 0),(.int .i64 0)])):=⟨by kernel_rfl,fun w=>by kernel_rfl⟩
theorem tyS63:TyS Try.prog 63 2 true:=⟨by kernel_rfl,by kernel_rfl⟩
theorem tyZ63:TyZ Try.prog 63 (.d (.st [(.bool false),(.int .i64 0)])):=⟨by kernel_rfl,fun w=>by kernel_rfl⟩
theorem held63:Program.stoodInHeld Try.prog 63=false:=by kernel_rfl
theorem eqg63:Program.eqGuardType Try.prog (Program.depth Try.prog) 63=false:=by kernel_rfl
theorem fnOk61:FnOk Try.prog 61:=⟨by kernel_rfl⟩
theorem fnOk54:FnOk Try.prog 54:=⟨by kernel_rfl⟩
theorem fnOk35:FnOk Try.prog 35:=⟨by kernel_rfl⟩
theorem fnOk56:FnOk Try.prog 56:=⟨by kernel_rfl⟩
theorem fnOk55:FnOk Try.prog 55:=⟨by kernel_rfl⟩
theorem fnOk36:FnOk Try.prog 36:=⟨by kernel_rfl⟩
theorem tyE45:TyE Try.prog 45 3 24:=⟨by kernel_rfl,by decide⟩
theorem fnOk65:FnOk Try.prog 65:=⟨by kernel_rfl⟩
theorem fnOk66:FnOk Try.prog 66:=⟨by kernel_rfl⟩
theorem fnOk57:FnOk Try.prog 57:=⟨by kernel_rfl⟩
theorem fnOk37:FnOk Try.prog 37:=⟨by kernel_rfl⟩
theorem tyE23:TyE Try.prog 23 1 24:=⟨by kernel_rfl,by decide⟩
theorem tyZD23:TyZ Try.prog 23 (.d (.list 1 (([]:List Int).map (eI .i64)))):=⟨by kernel_rfl,fun w=>by kernel_rfl⟩
theorem tyE3:TyE Try.prog 3 1 8:=⟨by kernel_rfl,by decide⟩
theorem tyZ23:TyZ Try.prog 23 .nils:=⟨by kernel_rfl,fun w=>by kernel_rfl⟩
theorem tyS23:TyS Try.prog 23 1 false:=⟨by kernel_rfl,by kernel_rfl⟩
theorem fnOk68:FnOk Try.prog 68:=⟨by kernel_rfl⟩
theorem fnOk60:FnOk Try.prog 60:=⟨by kernel_rfl⟩
theorem tyZ103:TyZ Try.prog 103 (.d (.arr 2 1 ((List.replicate 2 0).map (eI .i64)))):=⟨by kernel_rfl,fun w=>by kernel_rfl⟩
theorem tyS103:TyS Try.prog 103 2 true:=⟨by kernel_rfl,by kernel_rfl⟩
theorem tyZ104:TyZ Try.prog 104 (.d (.arr 2 2 ((List.replicate 2 (List.replicate 2 0)).map e_A2eIi64))):=⟨by kernel_rfl,fun w=>by kernel_rfl⟩
theorem fnOk67:FnOk Try.prog 67:=⟨by kernel_rfl⟩
theorem fnOk58:FnOk Try.prog 58:=⟨by kernel_rfl⟩
theorem fnOk59:FnOk Try.prog 59:=⟨by kernel_rfl⟩
theorem fnOk38:FnOk Try.prog 38:=⟨by kernel_rfl⟩
theorem fnOk39:FnOk Try.prog 39:=⟨by kernel_rfl⟩
theorem fnOk14:FnOk Try.prog 14:=⟨by kernel_rfl⟩
theorem tyZS63:TyZ Try.prog 63 (.st [(.d (.bool false)),(.d (.int .i64 0))]):=⟨by kernel_rfl,fun w=>by kernel_rfl⟩
theorem tyZD63:TyZ Try.prog 63 (.d (.st [(.bool false),(.int .i64 0)])):=⟨by kernel_rfl,fun w=>by kernel_rfl⟩
theorem tyE63:TyE Try.prog 63 2 16:=⟨by kernel_rfl,by decide⟩
theorem tyS22:TyS Try.prog 22 1 false:=⟨by kernel_rfl,by kernel_rfl⟩
theorem tyZD22:TyZ Try.prog 22 (.d (.list 2 (([]:List aItem).map e_aItem))):=⟨by kernel_rfl,fun w=>by kernel_rfl⟩
theorem tyE22:TyE Try.prog 22 1 24:=⟨by kernel_rfl,by decide⟩
theorem fnOk10:FnOk Try.prog 10:=⟨by kernel_rfl⟩
theorem fnOk7:FnOk Try.prog 7:=⟨by kernel_rfl⟩
theorem tyZS68:TyZ Try.prog 68 (.st [.nils,(.d (.int .i64 0))]):=⟨by kernel_rfl,fun w=>by kernel_rfl⟩
theorem fnOk8:FnOk Try.prog 8:=⟨by kernel_rfl⟩
theorem fnOk24:FnOk Try.prog 24:=⟨by kernel_rfl⟩
theorem fnOk34:FnOk Try.prog 34:=⟨by kernel_rfl⟩
theorem fnOk28:FnOk Try.prog 28:=⟨by kernel_rfl⟩
theorem tyE59:TyE Try.prog 59 3 24:=⟨by kernel_rfl,by decide⟩
theorem fnOk29:FnOk Try.prog 29:=⟨by kernel_rfl⟩
theorem fnOk30:FnOk Try.prog 30:=⟨by kernel_rfl⟩
theorem fnOk9:FnOk Try.prog 9:=⟨by kernel_rfl⟩
theorem fnOk32:FnOk Try.prog 32:=⟨by kernel_rfl⟩
theorem fnOk11:FnOk Try.prog 11:=⟨by kernel_rfl⟩
theorem fnOk33:FnOk Try.prog 33:=⟨by kernel_rfl⟩
theorem fnOk21:FnOk Try.prog 21:=⟨by kernel_rfl⟩
theorem fnOk40:FnOk Try.prog 40:=⟨by kernel_rfl⟩
theorem fnOk47:FnOk Try.prog 47:=⟨by kernel_rfl⟩
theorem fnOk22:FnOk Try.prog 22:=⟨by kernel_rfl⟩
theorem fnOk48:FnOk Try.prog 48:=⟨by kernel_rfl⟩
theorem fnOk50:FnOk Try.prog 50:=⟨by kernel_rfl⟩
theorem fnOk49:FnOk Try.prog 49:=⟨by kernel_rfl⟩
theorem fnOk23:FnOk Try.prog 23:=⟨by kernel_rfl⟩
theorem fnOk41:FnOk Try.prog 41:=⟨by kernel_rfl⟩
theorem fnOk15:FnOk Try.prog 15:=⟨by kernel_rfl⟩
theorem fnOk16:FnOk Try.prog 16:=⟨by kernel_rfl⟩
theorem tyZS53:TyZ Try.prog 53 (.st [.nils,.nils]):=⟨by kernel_rfl,fun w=>by kernel_rfl⟩
theorem tyS53:TyS Try.prog 53 2 true:=⟨by kernel_rfl,by kernel_rfl⟩
theorem tyZD53:TyZ Try.prog 53 (.d (.st [(.list 2 (([]:List aItem).map e_aItem)),(.list 1 (([]:List Int).map (eI .i64)))])):=⟨by kernel_rfl,fun w=>by kernel_rfl⟩
theorem tyE53:TyE Try.prog 53 2 48:=⟨by kernel_rfl,by decide⟩
theorem fnOk17:FnOk Try.prog 17:=⟨by kernel_rfl⟩
theorem fnOk18:FnOk Try.prog 18:=⟨by kernel_rfl⟩
theorem fnOk19:FnOk Try.prog 19:=⟨by kernel_rfl⟩
theorem tyZ53:TyZ Try.prog 53 (.st [.nils,.nils]):=⟨by kernel_rfl,fun w=>by kernel_rfl⟩
theorem fnOk44:FnOk Try.prog 44:=⟨by kernel_rfl⟩
theorem fnOk43:FnOk Try.prog 43:=⟨by kernel_rfl⟩
theorem fnOk42:FnOk Try.prog 42:=⟨by kernel_rfl⟩
theorem fnOk46:FnOk Try.prog 46:=⟨by kernel_rfl⟩
theorem fnOk45:FnOk Try.prog 45:=⟨by kernel_rfl⟩
theorem fnOk20:FnOk Try.prog 20:=⟨by kernel_rfl⟩
theorem tyS46:TyS Try.prog 46 1 false:=⟨by kernel_rfl,by kernel_rfl⟩
theorem tyZD46:TyZ Try.prog 46 (.d (.list 2 (([]:List aShed).map e_aShed))):=⟨by kernel_rfl,fun w=>by kernel_rfl⟩
theorem fnOk25:FnOk Try.prog 25:=⟨by kernel_rfl⟩
theorem fnOk51:FnOk Try.prog 51:=⟨by kernel_rfl⟩
theorem fnOk52:FnOk Try.prog 52:=⟨by kernel_rfl⟩
theorem fnOk53:FnOk Try.prog 53:=⟨by kernel_rfl⟩
theorem fnOk26:FnOk Try.prog 26:=⟨by kernel_rfl⟩
theorem fnOk27:FnOk Try.prog 27:=⟨by kernel_rfl⟩
instance iS45:TS Try.prog 45 3 true:=⟨tyS45⟩
instance iS4:TS Try.prog 4 1 false:=⟨tyS4⟩
instance iS30:TS Try.prog 30 4 true:=⟨tyS30⟩
instance iS59:TS Try.prog 59 3 true:=⟨tyS59⟩
instance iS3:TS Try.prog 3 1 false:=⟨tyS3⟩
instance iS27:TS Try.prog 27 1 false:=⟨tyS27⟩
instance iS28:TS Try.prog 28 1 false:=⟨tyS28⟩
instance iS63:TS Try.prog 63 2 true:=⟨tyS63⟩
instance iS23:TS Try.prog 23 1 false:=⟨tyS23⟩
instance iS103:TS Try.prog 103 2 true:=⟨tyS103⟩
instance iS22:TS Try.prog 22 1 false:=⟨tyS22⟩
instance iS53:TS Try.prog 53 2 true:=⟨tyS53⟩
instance iS46:TS Try.prog 46 1 false:=⟨tyS46⟩
instance iZ30:TZ Try.prog 30 (.st [(.d (.int .i64 0)),.nils,.nils,.nils]):=⟨tyZ30⟩
instance iZ45:TZ Try.prog 45 (.d (.st [(.int .i64 0),(.int .i64 0),(.int .i64 0)])):=⟨tyZ45⟩
instance iZ59:TZ Try.prog 59 (.d (.st [(.int .i64 0),(.int .i64 0),(.int .i64 0)])):=⟨tyZ59⟩
instance iZ63:TZ Try.prog 63 (.d (.st [(.bool false),(.int .i64 0)])):=⟨tyZ63⟩
instance iZ23:TZ Try.prog 23 .nils:=⟨tyZ23⟩
instance iZ103:TZ Try.prog 103 (.d (.arr 2 1 ((List.replicate 2 0).map (eI .i64)))):=⟨tyZ103⟩
instance iZ104:TZ Try.prog 104 (.d (.arr 2 2 ((List.replicate 2 (List.replicate 2 0)).map e_A2eIi64))):=⟨tyZ104⟩
instance iZ53:TZ Try.prog 53 (.st [.nils,.nils]):=⟨tyZ53⟩
instance iL45:TZL Try.prog 45 [(.d (.int .i64 0)),(.d (.int .i64 0)),(.d (.int .i64 0))]:=⟨tyZS45⟩
instance iP45:TP Try.prog 45 [(0,1),(1,1),(2,1)]:=⟨⟨_,underlying45,fun w=>by kernel_rfl⟩⟩
instance iL30:TZL Try.prog 30 [(.d (.int .i64 0)),.nils,.nils,.nils]:=⟨tyZS30⟩
instance iP30:TP Try.prog 30 [(0,1),(1,1),(2,1),(3,1)]:=⟨⟨_,underlying30,fun w=>by kernel_rfl⟩⟩
instance iL59:TZL Try.prog 59 [(.d (.int .i64 0)),(.d (.int .i64 0)),(.d (.int .i64 0))]:=⟨tyZS59⟩
instance iP59:TP Try.prog 59 [(0,1),(1,1),(2,1)]:=⟨⟨_,underlying59,fun w=>by kernel_rfl⟩⟩
instance iL63:TZL Try.prog 63 [(.d (.bool false)),(.d (.int .i64 0))]:=⟨tyZS63⟩
instance iP63:TP Try.prog 63 [(0,1),(1,1)]:=⟨⟨_,underlying63,fun w=>by kernel_rfl⟩⟩
instance iL68:TZL Try.prog 68 [.nils,(.d (.int .i64 0))]:=⟨tyZS68⟩
instance iP68:TP Try.prog 68 [(0,1),(1,1)]:=⟨⟨_,underlying68,fun w=>by kernel_rfl⟩⟩
instance iL53:TZL Try.prog 53 [.nils,.nils]:=⟨tyZS53⟩
instance iP53:TP Try.prog 53 [(0,1),(1,1)]:=⟨⟨_,underlying53,fun w=>by kernel_rfl⟩⟩
instance iD45:TZD Try.prog 45 (.st [(.int .i64 0),(.int .i64 0),(.int .i64 0)]):=⟨tyZD45⟩
instance iD4:TZD Try.prog 4 (.bool false):=⟨tyZD4⟩
instance iD59:TZD Try.prog 59 (.st [(.int .i64 0),(.int .i64 0),(.int .i64 0)]):=⟨tyZD59⟩
instance iD3:TZD Try.prog 3 (.int .i64 0):=⟨tyZD3⟩
instance iD23:TZD Try.prog 23 (.list 1 (([]:List Int).map (eI .i64))):=⟨tyZD23⟩
instance iD63:TZD Try.prog 63 (.st [(.bool false),(.int .i64 0)]):=⟨tyZD63⟩
instance iD22:TZD Try.prog 22 (.list 2 (([]:List aItem).map e_aItem)):=⟨tyZD22⟩
instance iD53:TZD Try.prog 53 (.st [(.list 2 (([]:List aItem).map e_aItem)),(.list 1 (([]:List Int).map (eI .i64)))]):=⟨tyZD53⟩
instance iD46:TZD Try.prog 46 (.list 2 (([]:List aShed).map e_aShed)):=⟨tyZD46⟩
instance iE4:TE Try.prog 4 1 1:=⟨tyE4⟩
instance iE45:TE Try.prog 45 3 24:=⟨tyE45⟩
instance iE23:TE Try.prog 23 1 24:=⟨tyE23⟩
instance iE3:TE Try.prog 3 1 8:=⟨tyE3⟩
instance iE63:TE Try.prog 63 2 16:=⟨tyE63⟩
instance iE22:TE Try.prog 22 1 24:=⟨tyE22⟩
instance iE59:TE Try.prog 59 3 24:=⟨tyE59⟩
instance iE53:TE Try.prog 53 2 48:=⟨tyE53⟩
instance iF31:FO Try.prog 31:=⟨fnOk31⟩
instance iF61:FO Try.prog 61:=⟨fnOk61⟩
instance iF54:FO Try.prog 54:=⟨fnOk54⟩
instance iF35:FO Try.prog 35:=⟨fnOk35⟩
instance iF56:FO Try.prog 56:=⟨fnOk56⟩
instance iF55:FO Try.prog 55:=⟨fnOk55⟩
instance iF36:FO Try.prog 36:=⟨fnOk36⟩
instance iF65:FO Try.prog 65:=⟨fnOk65⟩
instance iF66:FO Try.prog 66:=⟨fnOk66⟩
instance iF57:FO Try.prog 57:=⟨fnOk57⟩
instance iF37:FO Try.prog 37:=⟨fnOk37⟩
instance iF68:FO Try.prog 68:=⟨fnOk68⟩
instance iF60:FO Try.prog 60:=⟨fnOk60⟩
instance iF67:FO Try.prog 67:=⟨fnOk67⟩
instance iF58:FO Try.prog 58:=⟨fnOk58⟩
instance iF59:FO Try.prog 59:=⟨fnOk59⟩
instance iF38:FO Try.prog 38:=⟨fnOk38⟩
instance iF39:FO Try.prog 39:=⟨fnOk39⟩
instance iF14:FO Try.prog 14:=⟨fnOk14⟩
instance iF10:FO Try.prog 10:=⟨fnOk10⟩
instance iF7:FO Try.prog 7:=⟨fnOk7⟩
instance iF8:FO Try.prog 8:=⟨fnOk8⟩
instance iF24:FO Try.prog 24:=⟨fnOk24⟩
instance iF34:FO Try.prog 34:=⟨fnOk34⟩
instance iF28:FO Try.prog 28:=⟨fnOk28⟩
instance iF29:FO Try.prog 29:=⟨fnOk29⟩
instance iF30:FO Try.prog 30:=⟨fnOk30⟩
instance iF9:FO Try.prog 9:=⟨fnOk9⟩
instance iF32:FO Try.prog 32:=⟨fnOk32⟩
instance iF11:FO Try.prog 11:=⟨fnOk11⟩
instance iF33:FO Try.prog 33:=⟨fnOk33⟩
instance iF21:FO Try.prog 21:=⟨fnOk21⟩
instance iF40:FO Try.prog 40:=⟨fnOk40⟩
instance iF47:FO Try.prog 47:=⟨fnOk47⟩
instance iF22:FO Try.prog 22:=⟨fnOk22⟩
instance iF48:FO Try.prog 48:=⟨fnOk48⟩
instance iF50:FO Try.prog 50:=⟨fnOk50⟩
instance iF49:FO Try.prog 49:=⟨fnOk49⟩
instance iF23:FO Try.prog 23:=⟨fnOk23⟩
instance iF41:FO Try.prog 41:=⟨fnOk41⟩
instance iF15:FO Try.prog 15:=⟨fnOk15⟩
instance iF16:FO Try.prog 16:=⟨fnOk16⟩
instance iF17:FO Try.prog 17:=⟨fnOk17⟩
instance iF18:FO Try.prog 18:=⟨fnOk18⟩
instance iF19:FO Try.prog 19:=⟨fnOk19⟩
instance iF44:FO Try.prog 44:=⟨fnOk44⟩
instance iF43:FO Try.prog 43:=⟨fnOk43⟩
instance iF42:FO Try.prog 42:=⟨fnOk42⟩
instance iF46:FO Try.prog 46:=⟨fnOk46⟩
instance iF45:FO Try.prog 45:=⟨fnOk45⟩
instance iF20:FO Try.prog 20:=⟨fnOk20⟩
instance iF25:FO Try.prog 25:=⟨fnOk25⟩
instance iF51:FO Try.prog 51:=⟨fnOk51⟩
instance iF52:FO Try.prog 52:=⟨fnOk52⟩
instance iF53:FO Try.prog 53:=⟨fnOk53⟩
instance iF26:FO Try.prog 26:=⟨fnOk26⟩
instance iF27:FO Try.prog 27:=⟨fnOk27⟩
instance iU3:Und Try.prog 3 (.int .i64):=⟨underlying3⟩
instance iU4:Und Try.prog 4 .bool:=⟨underlying4⟩
instance iU22:Und Try.prog 22 (.slice 63):=⟨underlying22⟩
instance iU23:Und Try.prog 23 (.slice 3):=⟨underlying23⟩
instance iU27:Und Try.prog 27 (.slice 45):=⟨underlying27⟩
instance iU28:Und Try.prog 28 (.slice 4):=⟨underlying28⟩
instance iU30:UF Try.prog 30 [(3,0),(27,1),(28,2),(28,3)]:=⟨⟨_,underlying30,rfl⟩⟩
instance iU31:Und Try.prog 31 (.slice 59):=⟨underlying31⟩
instance iU34:Und Try.prog 34 (.slice 22):=⟨underlying34⟩
instance iU38:Und Try.prog 38 (.slice 23):=⟨underlying38⟩
instance iU45:UF Try.prog 45 [(3,0),(3,1),(3,2)]:=⟨⟨_,underlying45,rfl⟩⟩
instance iU46:Und Try.prog 46 (.slice 53):=⟨underlying46⟩
instance iU53:UF Try.prog 53 [(22,0),(23,1)]:=⟨⟨_,underlying53,rfl⟩⟩
instance iU59:UF Try.prog 59 [(3,0),(3,1),(3,2)]:=⟨⟨_,underlying59,rfl⟩⟩
instance iU63:UF Try.prog 63 [(4,0),(3,1)]:=⟨⟨_,underlying63,rfl⟩⟩
instance iU64:Und Try.prog 64 (.slice 46):=⟨underlying64⟩
instance iU68:UF Try.prog 68 [(23,0),(3,1)]:=⟨⟨_,underlying68,rfl⟩⟩
instance iU103:Und Try.prog 103 (.array 2 3):=⟨underlying103⟩
instance iU104:Und Try.prog 104 (.array 2 103):=⟨underlying104⟩
instance iM3:Emb Try.prog 3 Int (eI .i64):=⟨fun _ _=>rfl⟩
instance iM4:Emb Try.prog 4 Bool eB:=⟨fun _ _=>rfl⟩
instance iM22:Emb Try.prog 22 (List aItem) e_LeapiItem:=⟨fun _ _=>rfl⟩
instance iM23:Emb Try.prog 23 (List Int) e_LeIi64:=⟨fun _ _=>rfl⟩
instance iM45:Emb Try.prog 45 aLink e_aLink:=⟨fun _ _=>rfl⟩
instance iM46:Emb Try.prog 46 (List aShed) e_LeapiShed:=⟨fun _ _=>rfl⟩
instance iM53:Emb Try.prog 53 aShed e_aShed:=⟨fun _ _=>rfl⟩
instance iM59:Emb Try.prog 59 aLoad e_aLoad:=⟨fun _ _=>rfl⟩
instance iM63:Emb Try.prog 63 aItem e_aItem:=⟨fun _ _=>rfl⟩
def fabric_Valid_L0 (a0:aFabric) (s1:Int):Option (((Unit)⊕(Unit))⊕(Int)) :=
 (if (decide (s1<(a0.fLinks.length:Int)))=true then
 (idx a0.fLinks s1).bind fun x11 =>
 (if (((((((decide (x11.fA<0)) || (decide (a0.fSwitches≤x11.fA))) || (decide (x11.fB<0))) || (decide (a0.fSwitches≤x11.fB))) || (x11.fA==x11.fB)) || (decide (x11.fCapacity<1))) || (decide (1048576<x11.fCapacity)))=true then
 some (.inl (.inl ()))
 else
 some (.inr (w64 (s1+1))))
 else
 some (.inl (.inr ())))
def fabric_Valid (a0:aFabric):Option (Bool) :=
 (loop (fabric_Valid_L0 a0) 0).bind fun x13=>match x13 with
 | (.inl _) =>
  some false
 | (.inr _) =>
  some (((((decide (1≤a0.fSwitches))&&(decide (a0.fSwitches≤8)))&&(decide ((a0.fLinks.length:Int)≤24)))&&((a0.fDown.length:Int)==(a0.fLinks.length:Int)))&&((a0.fDead.length:Int)==a0.fSwitches))
theorem fabric_Valid_ac (a0:aFabric) (r:Bool) (h:fabric_Valid a0=some r):AC Try.prog 31 [(.d (e_aFabric a0))] [] (.d (.bool r)) []:=by
 refine ac2 Try.func31 rfl rfl fun B hB hN L => ?_
 delta fabric_Valid at h
 refine sr (SQ tt) ?_
 apply AWp.seq
 refine sr (SQ tt) ?_
 apply AWp.block
 obtain⟨x13,hx14,h⟩:=bindS h
 refine lg (fabric_Valid_L0 a0) (fun s1:Int=>([(1,(pt 1001)),(6,(qe_aLink_3 a0.fLinks)),(7,(i6 (a0.fLinks.length:Int))),(8,(i6 s1))]:EL)) (fun s1:Int=>([(1001,bd 30 (e_aFabric a0))]:OL)) (fun(x:(Unit)⊕(Unit)) e E' O'=>match x with | (.inl _p)=>e = .ret∧Mat B E' O' ([(2,(bo false))]:EL) ([]:OL) | (.inr _p)=>e = .exit 0∧Mat B E' O' ([(1,(pt 1001))]:EL) ([(1001,bd 30 (e_aFabric a0))]:OL)) hx14 (mp [] _ _ hB) (fun s1 y h => ?_) (fun e E' O' hR => ?_)
 ·unfold fabric_Valid_L0 at h
  refine sr (SQ tt) ?_
  apply AWp.seq
  apply AWp.cond rfl<;>intro hg10
  ·have h:=ite_t hg10 h
   apply AWp.skip
   apply seqQ_n
   apply AWp.seq
   apply AWp.block
   obtain⟨_,hx11,h⟩:=bindS h
   refine sr (SQ (fa hx11 tt)) ?_
   refine sr (SQ tt) ?_
   apply AWp.cond rfl<;>intro hg12
   ·have h:=ite_t hg12 h
    refine sr (SQ tt) ?_
    apply AWp.ret
    apply blkQ_r
    apply seqQ_r
    obtain rfl:=oi h
    exact⟨(fun hc=>by cases hc),rfl,(mp [] _ _ hB)⟩
   ·have h:=ite_f hg12 h
    apply AWp.skip
    apply blkQ_n
    apply seqQ_n
    refine rg (SQ tt) ?_
    obtain rfl:=oi h
    exact⟨rfl,(mp [] _ _ hB)⟩
  ·have h:=ite_f hg10 h
   apply AWp.exit
   apply seqQ_e
   obtain rfl:=oi h
   exact⟨(fun hc=>by cases hc),rfl,(mp [] _ _ hB)⟩
 ·rcases x13 with _ | _
  ·obtain⟨rfl,hmat⟩:=hR
   apply blkQ_r
   apply seqQ_r
   obtain rfl:=oi h
   exact rt (Mat.trans hmat (mp [] [(2,(bo false))] [] hB)) [(bo false)] (Res.tmp (by rfl) (by rfl) Res.nil) rfl
  ·obtain⟨rfl,hmat⟩:=hR
   apply blkQ_hit
   apply seqQ_n
   refine AWp.ghost hmat ?_
   refine sr (SQ tt) ?_
   apply AWp.ret
   obtain rfl:=oi h
   exact rt (kp [(2,_)] [] hB rfl rfl (by rfl)) [(bo (((((decide (1≤a0.fSwitches))&&(decide (a0.fSwitches≤8)))&&(decide ((a0.fLinks.length:Int)≤24)))&&((a0.fDown.length:Int)==(a0.fLinks.length:Int)))&&((a0.fDead.length:Int)==a0.fSwitches)))] (Res.tmp (by rfl) (by rfl) Res.nil) rfl
def slices_Index_L0 (a0:(List aItem)) (a1:aItem) (s1:Int):Option (((Int)⊕(Unit))⊕(Int)) :=
 (if (decide (s1<(a0.length:Int)))=true then
 (idx a0 s1).bind fun x11 =>
 (if ((a1.fSwitch==x11.fSwitch)&&((a1.fIndex==x11.fIndex)&&true))=true then
 some (.inl (.inl s1))
 else
 some (.inr (w64 (s1+1))))
 else
 some (.inl (.inr ())))
def slices_Index (a0:(List aItem)) (a1:aItem):Option (Int) :=
 (loop (slices_Index_L0 a0 a1) 0).bind fun x13=>match x13 with
 | (.inl p8) =>
  some p8
 | (.inr _) =>
  some (-1)
theorem slices_Index_ac (a0:(List aItem)) (a1:aItem) (r:Int) (h:slices_Index a0 a1=some r):AC Try.prog 61 [(.d (.list 2 (a0.map e_aItem))),(.d (e_aItem a1))] [] (.d (.int .i64 r)) []:=by
 refine AC.of_code2 Try.func61 rfl rfl (Nat.le_of_ble_eq_true (by rfl)) fun B hB hN => ?_
 delta slices_Index at h
 refine sr (SQ tt) ?_
 apply AWp.seq
 refine sr (SQ tt) ?_
 apply AWp.block
 obtain⟨x13,hx14,h⟩:=bindS h
 refine lg (slices_Index_L0 a0 a1) (fun s1:Int=>([(0,(qe_aItem_2 a0)),(3,(pt 1003)),(7,(i6 (a0.length:Int))),(8,(i6 s1))]:EL)) (fun s1:Int=>([(1003,bd 63 (e_aItem a1))]:OL)) (fun(x:(Int)⊕(Unit)) e E' O'=>match x with | (.inl p8)=>e = .ret∧Mat B E' O' ([(4,(i6 p8))]:EL) ([]:OL) | (.inr _p)=>e = .exit 0∧Mat B E' O' ([]:EL) ([]:OL)) hx14 (mp [] _ _ hB) (fun s1 y h => ?_) (fun e E' O' hR => ?_)
 ·unfold slices_Index_L0 at h
  refine sr (SQ tt) ?_
  apply AWp.seq
  apply AWp.cond rfl<;>intro hg10
  ·have h:=ite_t hg10 h
   apply AWp.skip
   apply seqQ_n
   apply AWp.seq
   apply AWp.block
   refine sr (SQ tt) ?_
   obtain⟨x11,hx11,h⟩:=bindS h
   apply sd (c (lb hN 63 _ _ tyS63 (At.here _) (q 3)) rfl (c (mv hN (q 0)) rfl (c (mv hN (q 5)) rfl (c (indexD underlying22 tyS63 (idx_some hx11).1 (get_map e_aItem (idx_some hx11).2) (ltN hN rfl) (q 12) (q 13)) rfl (c (loadD tyS63 (by rfl) (by rfl) (ltN hN rfl) (q 14)) rfl (c (OpJ.eqlD (h:=2) (FitE.st underlying63 rfl held63 (FitF.cons (x:=(.bool a1.fSwitch)) (y:=(.bool x11.fSwitch)) (by decide) rfl tyS4 ⟨rfl,rfl⟩ ⟨rfl,rfl⟩ (FitE.bool (h:=0) a1.fSwitch x11.fSwitch underlying4) (FitF.cons (x:=(.int .i64 a1.fIndex)) (y:=(.int .i64 x11.fIndex)) (by decide) rfl tyS3 ⟨rfl,rfl⟩ ⟨rfl,rfl⟩ (FitE.int (h:=0) a1.fIndex x11.fIndex underlying3) FitF.nil))) eqg63 ⟨rfl,rfl⟩ (by rfl) (ltN hN rfl) (q 11) (q 15)) rfl cn)))))) (by kernel_rfl) (by kernel_rfl)
   apply AWp.cond rfl<;>intro hg12
   ·have h:=ite_t hg12 h
    refine sr (SQ tt) ?_
    apply AWp.ret
    apply blkQ_r
    apply seqQ_r
    obtain rfl:=oi h
    exact⟨(fun hc=>by cases hc),rfl,(mp [] _ _ hB)⟩
   ·have h:=ite_f hg12 h
    apply AWp.skip
    apply blkQ_n
    apply seqQ_n
    refine rg (SQ tt) ?_
    obtain rfl:=oi h
    exact⟨rfl,(mp [] _ _ hB)⟩
  ·have h:=ite_f hg10 h
   apply AWp.exit
   apply seqQ_e
   obtain rfl:=oi h
   exact⟨(fun hc=>by cases hc),rfl,(mp [] _ _ hB)⟩
 ·rcases x13 with p8 | _
  ·obtain⟨rfl,hmat⟩:=hR
   apply blkQ_r
   apply seqQ_r
   obtain rfl:=oi h
   exact rt (Mat.trans hmat (mp [] [(4,(i6 p8))] [] hB)) [(i6 p8)] (Res.tmp (by rfl) (by rfl) Res.nil) rfl
  ·obtain⟨rfl,hmat⟩:=hR
   apply blkQ_hit
   apply seqQ_n
   refine AWp.ghost hmat ?_
   refine sr (SQ tt) ?_
   apply AWp.ret
   obtain rfl:=oi h
   exact rt (kp [(4,_)] [] hB rfl rfl (by rfl)) [(i6 (-1))] (Res.tmp (by rfl) (by rfl) Res.nil) rfl
def slices_Contains (a0:(List aItem)) (a1:aItem):Option (Bool) :=
 (slices_Index a0 a1).bind fun r1 =>
 some (decide (0≤r1))
theorem slices_Contains_ac (a0:(List aItem)) (a1:aItem) (r:Bool) (h:slices_Contains a0 a1=some r):AC Try.prog 54 [(.d (.list 2 (a0.map e_aItem))),(.d (e_aItem a1))] [] (.d (.bool r)) []:=by
 refine AC.of_code2 Try.func54 rfl rfl (Nat.le_of_ble_eq_true (by rfl)) fun B hB hN => ?_
 delta slices_Contains at h
 refine sr (SQ tt) ?_
 obtain⟨r1,hr1,h⟩:=bindS h
 refine sr (SQ (fa (cl [] (slices_Index_ac a0 a1 r1 hr1)) tt)) ?_
 apply AWp.ret
 obtain rfl:=oi h
 exact rt (kp [(4,_)] [] hB rfl rfl (by rfl)) [(bo (decide (0≤r1)))] (Res.tmp (by rfl) (by rfl) Res.nil) rfl
def drain_Valid_L0 (a0:aFabric) (a1:(List aLoad)) (s3:Int):Option (((Unit)⊕(Unit))⊕(Int)) :=
 (if (decide (s3<(a1.length:Int)))=true then
 (idx a1 s3).bind fun x13 =>
 (if ((((((decide (x13.fA<0)) || (decide (a0.fSwitches≤x13.fA))) || (decide (x13.fB<0))) || (decide (a0.fSwitches≤x13.fB))) || (decide (x13.fRate<0))) || (decide (1073741824<x13.fRate)))=true then
 some (.inl (.inl ()))
 else
 some (.inr (w64 (s3+1))))
 else
 some (.inl (.inr ())))
def drain_Valid_L1 (a0:aFabric) (a2:(List aItem)) (s17:Int):Option (((Unit)⊕(Unit))⊕(Int)) :=
 (if (decide (s17<(a2.length:Int)))=true then
 (idx a2 s17).bind fun x51 =>
 jn (fun m53:Int =>
 jn (fun m58:Bool =>
 (if m58=true then
 some (.inl (.inl ()))
 else
 some (.inr (w64 (s17+1))))) (fun j59 =>
 (if ((decide (x51.fIndex<0)) || (decide (m53≤x51.fIndex)))=true then
 j59 true
 else
 chk ((decide (0≤s17)&&decide (0≤s17.toNat)&&decide (s17.toNat≤a2.length))) <|
 (slices_Contains ((a2.take s17.toNat).drop 0) x51).bind fun r63 =>
 j59 r63))) (fun j54 =>
 (if x51.fSwitch=true then
 j54 a0.fSwitches
 else
 j54 (a0.fLinks.length:Int)))
 else
 some (.inl (.inr ())))
def drain_Valid (a0:aFabric) (a1:(List aLoad)) (a2:(List aItem)):Option (Bool) :=
 (fabric_Valid a0).bind fun r1 =>
 (if (((!r1) || (decide (16<(a1.length:Int)))) || (decide (8<(a2.length:Int))))=true then
 some false
 else
 (loop (drain_Valid_L0 a0 a1) 0).bind fun x15=>match x15 with
 | (.inl _) =>
  some false
 | (.inr _) =>
  (loop (drain_Valid_L1 a0 a2) 0).bind fun x65=>match x65 with
  | (.inl _) =>
   some false
  | (.inr _) =>
   some true)
theorem drain_Valid_ac (a0:aFabric) (a1:(List aLoad)) (a2:(List aItem)) (r:Bool) (h:drain_Valid a0 a1 a2=some r):AC Try.prog 35 [(.d (e_aFabric a0)),(.d (.list 3 (a1.map e_aLoad))),(.d (.list 2 (a2.map e_aItem)))] [] (.d (.bool r)) []:=by
 refine ac2 Try.func35 rfl rfl fun B hB hN L => ?_
 delta drain_Valid at h
 refine sr (SQ tt) ?_
 apply AWp.seq
 obtain⟨r1,hr1,h⟩:=bindS h
 refine sr (SQ (fa (cl [] (fabric_Valid_ac a0 r1 hr1)) tt)) ?_
 apply AWp.cond rfl<;>intro hg2
 ·have h:=ite_t hg2 h
  refine sr (SQ tt) ?_
  apply AWp.ret
  apply seqQ_r
  obtain rfl:=oi h
  exact rt (kp [(6,_)] [] hB rfl rfl (by rfl)) [(bo false)] (Res.tmp (by rfl) (by rfl) Res.nil) rfl
 ·have h:=ite_f hg2 h
  apply AWp.skip
  apply seqQ_n
  apply AWp.seq
  refine sr (SQ tt) ?_
  apply AWp.block
  obtain⟨x15,hx16,h⟩:=bindS h
  refine lg (drain_Valid_L0 a0 a1) (fun s3:Int=>([(2,(qe_aItem_2 a2)),(3,(pt 1003)),(25,(qe_aLoad_3 a1)),(26,(i6 (a1.length:Int))),(27,(i6 s3))]:EL)) (fun s3:Int=>([(1003,bd 30 (e_aFabric a0))]:OL)) (fun(x:(Unit)⊕(Unit)) e E' O'=>match x with | (.inl _p)=>e = .ret∧Mat B E' O' ([(6,(bo false))]:EL) ([]:OL) | (.inr _p)=>e = .exit 0∧Mat B E' O' ([(2,(qe_aItem_2 a2)),(3,(pt 1003))]:EL) ([(1003,bd 30 (e_aFabric a0))]:OL)) hx16 (mp [] _ _ hB) (fun s3 y h => ?_) (fun e E' O' hR => ?_)
  ·unfold drain_Valid_L0 at h
   refine sr (SQ tt) ?_
   apply AWp.seq
   apply AWp.cond rfl<;>intro hg12
   ·have h:=ite_t hg12 h
    apply AWp.skip
    apply seqQ_n
    apply AWp.seq
    apply AWp.block
    obtain⟨_,hx13,h⟩:=bindS h
    refine sr (SQ (fa hx13 tt)) ?_
    refine sr (SQ tt) ?_
    apply AWp.cond rfl<;>intro hg14
    ·have h:=ite_t hg14 h
     refine sr (SQ tt) ?_
     apply AWp.ret
     apply blkQ_r
     apply seqQ_r
     obtain rfl:=oi h
     exact⟨(fun hc=>by cases hc),rfl,(mp [] _ _ hB)⟩
    ·have h:=ite_f hg14 h
     apply AWp.skip
     apply blkQ_n
     apply seqQ_n
     refine rg (SQ tt) ?_
     obtain rfl:=oi h
     exact⟨rfl,(mp [] _ _ hB)⟩
   ·have h:=ite_f hg12 h
    apply AWp.exit
    apply seqQ_e
    obtain rfl:=oi h
    exact⟨(fun hc=>by cases hc),rfl,(mp [] _ _ hB)⟩
  ·rcases x15 with _ | _
   ·obtain⟨rfl,hmat⟩:=hR
    apply blkQ_r
    apply seqQ_r
    obtain rfl:=oi h
    exact rt (Mat.trans hmat (mp [] [(6,(bo false))] [] hB)) [(bo false)] (Res.tmp (by rfl) (by rfl) Res.nil) rfl
   ·obtain⟨rfl,hmat⟩:=hR
    apply blkQ_hit
    apply seqQ_n
    refine AWp.ghost hmat ?_
    apply AWp.seq
    refine sr (SQ tt) ?_
    apply AWp.block
    obtain⟨x65,hx66,h⟩:=bindS h
    refine lg (drain_Valid_L1 a0 a2) (fun s17:Int=>([(2,(qe_aItem_2 a2)),(3,(pt 1003)),(64,(qe_aItem_2 a2)),(65,(i6 (a2.length:Int))),(66,(i6 s17))]:EL)) (fun s17:Int=>([(1003,bd 30 (e_aFabric a0))]:OL)) (fun(x:(Unit)⊕(Unit)) e E' O'=>match x with | (.inl _p)=>e = .ret∧Mat B E' O' ([(6,(bo false))]:EL) ([]:OL) | (.inr _p)=>e = .exit 2∧Mat B E' O' ([]:EL) ([]:OL)) hx66 (mp [] _ _ hB) (fun s17 y h => ?_) (fun e E' O' hR => ?_)
    ·unfold drain_Valid_L1 at h
     refine sr (SQ tt) ?_
     apply AWp.seq
     apply AWp.cond rfl<;>intro hg50
     ·have h:=ite_t hg50 h
      apply AWp.skip
      apply seqQ_n
      apply AWp.seq
      apply AWp.block
      obtain⟨x51,hx51,h⟩:=bindS h
      refine sr (SQ (fa hx51 tt)) ?_
      refine sr (SQ tt) ?_
      apply AWp.seq
      refine sr (SQ tt) ?_
      refine gh [(2,_),(3,_),(9,_),(10,_),(11,_),(64,_),(65,_),(66,_),(75,_)] [(1003,some _),(1010,some _)] hB rfl rfl (by rfl) ?_
      refine AWp.cut h (fun m53:Int=>([(2,(qe_aItem_2 a2)),(3,(pt 1003)),(9,(i6 s17)),(10,(pt 1010)),(11,(i6 m53)),(64,(qe_aItem_2 a2)),(65,(i6 (a2.length:Int))),(66,(i6 s17))]:EL)) (fun m53:Int=>([(1003,bd 30 (e_aFabric a0)),(1010,bd 63 (e_aItem x51))]:OL)) (fun m53 h E' O' hmat => ?_) (fun j54 hjj54 h => ?_)
      ·apply seqQ_n
       refine AWp.ghost hmat ?_
       apply AWp.seq
       refine AWp.cut h (fun m58:Bool=>([(2,(qe_aItem_2 a2)),(3,(pt 1003)),(64,(qe_aItem_2 a2)),(65,(i6 (a2.length:Int))),(66,(i6 s17)),(93,(bo m58))]:EL)) (fun m58:Bool=>([(1003,bd 30 (e_aFabric a0))]:OL)) (fun m58 h E' O' hmat => ?_) (fun j59 hjj59 h => ?_)
       ·apply seqQ_n
        refine AWp.ghost hmat ?_
        apply AWp.cond rfl<;>intro hg60
        ·have h:=ite_t hg60 h
         refine sr (SQ tt) ?_
         apply AWp.ret
         apply blkQ_r
         apply seqQ_r
         obtain rfl:=oi h
         exact⟨(fun hc=>by cases hc),rfl,(mp [] _ _ hB)⟩
        ·have h:=ite_f hg60 h
         apply AWp.skip
         apply blkQ_n
         apply seqQ_n
         refine rg (SQ tt) ?_
         obtain rfl:=oi h
         exact⟨rfl,(mp [] _ _ hB)⟩
       ·rcases bft ((decide (x51.fIndex<0)) || (decide (m53≤x51.fIndex))) with hg61 | hg61
        ·have h:=ite_t hg61 h
         refine drS (SQ (fa hg61 tt)) ?_
         exact hjj59 _ h _ _ (mp [] _ _ hB)
        ·have h:=ite_f hg61 h
         obtain⟨hc62,h⟩:=chk_some h
         obtain⟨r63,hr63,h⟩:=bindS h
         apply dr (c (fo 1010 1 [1] hN underlying63 1 tyS3 (q 10)) rfl (c (la hN 63 tyS3 (q 78)) rfl (c (lss (L rfl) (q 79) (ii 0)) rfl (c (mv hN (q 80)) rfl (c (oq hN 81 (fo 1010 1 [1] hN underlying63 1 tyS3 (q 10)) (OptL.keep (by rfl) OptL.nil) (GuardV.plain _)) rfl (c (oq hN 81 (la hN 63 tyS3 (q 82)) (OptL.opt OptL.nil) (GuardV.plain _)) rfl (c (oq hN 81 (mv hN (q 11)) (OptL.keep (by rfl) OptL.nil) (GuardV.plain _)) rfl (c (oq hN 81 (geq (L rfl) (q 83) (q 84)) (OptL.opt (OptL.opt OptL.nil)) (GuardV.plain _)) rfl (c (pickOr rfl (L rfl) (q 81) (q 85)) rfl (c (OpJ.val (v':=.d (.bool false)) (by rw [hg61]<;>rfl) (mv hN (q 86))) rfl (c (gd 87 (mv hN (q 2))) rfl (c (gd 87 (mv hN (q 9))) rfl (c (gd 87 (OpJ.cutD underlying22 tyS63 (es':=((a2.take s17.toNat).drop 0).map e_aItem) (l:=0) (h:=s17.toNat) (.inl ⟨rfl,rfl,rfl⟩) (.inr ⟨_,_,_,rfl,(ot 89 (i6 s17)),(of_decide_eq_true (and_l2 (and_l2 hc62))),rfl⟩) (of_decide_eq_true (and_r2 (and_l2 hc62))) (by first | (simp;done) | simpa using (of_decide_eq_true (and_r2 hc62))) (by first | rw [List.map_drop,List.map_take] | (simp [List.map_take,List.map_drop];done) | simp [List.take_of_length_le]) (L rfl) (q 88))) rfl (c (gd 87 (lb hN 63 _ _ tyS63 (At.here _) (q 10))) rfl (cg (gd 87 (cf hB fnOk54 (slices_Contains_ac ((a2.take s17.toNat).drop 0) x51 r63 hr63) (L rfl) (OpdL.cons (q 90) (OpdL.cons (q 91) OpdL.nil)))) rfl (c (pickF (L rfl) (q 87) (q 92)) rfl cn)))))))))))))))) (by kernel_rfl) (by kernel_rfl)
         exact hjj59 _ h _ _ (mp [] _ _ hB)
      ·apply AWp.cond rfl<;>intro hg64
       ·have h:=ite_t hg64 h
        refine rg (SQ tt) ?_
        exact hjj54 _ h _ _ (mp [] _ _ hB)
       ·have h:=ite_f hg64 h
        apply AWp.skip
        exact hjj54 _ h _ _ (mp [] _ _ hB)
     ·have h:=ite_f hg50 h
      apply AWp.exit
      apply seqQ_e
      obtain rfl:=oi h
      exact⟨(fun hc=>by cases hc),rfl,(mp [] _ _ hB)⟩
    ·rcases x65 with _ | _
     ·obtain⟨rfl,hmat⟩:=hR
      apply blkQ_r
      apply seqQ_r
      obtain rfl:=oi h
      exact rt (Mat.trans hmat (mp [] [(6,(bo false))] [] hB)) [(bo false)] (Res.tmp (by rfl) (by rfl) Res.nil) rfl
     ·obtain⟨rfl,hmat⟩:=hR
      apply blkQ_hit
      apply seqQ_n
      refine AWp.ghost hmat ?_
      refine sr (SQ tt) ?_
      apply AWp.ret
      obtain rfl:=oi h
      exact rt (kp [(6,_)] [] hB rfl rfl (by rfl)) [(bo true)] (Res.tmp (by rfl) (by rfl) Res.nil) rfl
def slices_Values (a0:(List Int)):Option ((List Int)) :=
 some a0
theorem slices_Values_ac (a0:(List Int)) (r:(List Int)) (h:slices_Values a0=some r):AC Try.prog 56 [(.d (.list 1 (a0.map (eI .i64))))] [] (.func 64 [(pt 1001)]) [(1001,bd 23 (.list 1 (r.map (eI .i64))))]:=by
 refine AC.of_code2 Try.func56 rfl rfl (Nat.le_of_ble_eq_true (by rfl)) fun B hB hN => ?_
 delta slices_Values at h
 refine sr (SQ tt) ?_
 apply sr (cg (OpJ.makeF (OpdL.cons (q 1) OpdL.nil) rfl rfl (ltN hN rfl)) rfl (c (assign (ltN hN rfl) (q 3)) rfl cn))
 apply AWp.ret
 obtain rfl:=oi h
 exact rt (kp [(2,_)] [(1001,some _)] hB rfl rfl (by rfl)) [(.func 64 [(pt 1001)])] (Res.tmp (by rfl) (by rfl) Res.nil) rfl
def ext55_slices_Sorted (a0:(List Int)):Option (List Int):=chk (decide (a0.length≤LIM)) <|
 some (a0.mergeSort fun x y=>decide (x≤y))
theorem ext55_slices_Sorted_ac (a0:(List Int)) (r:List Int) (h:ext55_slices_Sorted a0=some r):AC Try.prog 55 [(.func 64 [(pt 0)])] [(0,(.box 23 (.d (.list 1 (a0.map (eI .i64))))))] (.d (.list 1 (r.map (eI .i64)))) [(0,none)]:=by
 obtain⟨hc,h⟩:=chk_some h
 obtain rfl:=oi h
 exact sorted55_ac a0 hc
def plan_permitted_L0 (r3:List Int) (s4:Int):Option (((Unit)⊕(Unit))⊕(Int)) :=
 (if (decide (s4<(r3.length:Int)))=true then
 (idx r3 s4).bind fun x14 =>
 (if (x14 != s4)=true then
 some (.inl (.inl ()))
 else
 some (.inr (w64 (s4+1))))
 else
 some (.inl (.inr ())))
def plan_permitted (a0:(List aLoad)) (a1:(List Int)):Option (Bool) :=
 (if ((a1.length:Int) != (a0.length:Int))=true then
 some false
 else
 (slices_Values a1).bind fun r2 =>
 (ext55_slices_Sorted r2).bind fun r3 =>
 (loop (plan_permitted_L0 r3) 0).bind fun x16=>match x16 with
 | (.inl _) =>
  some false
 | (.inr _) =>
  some true)
theorem plan_permitted_ac (a0:(List aLoad)) (a1:(List Int)) (r:Bool) (h:plan_permitted a0 a1=some r):AC Try.prog 36 [(.d (.list 3 (a0.map e_aLoad))),(.d (.list 1 (a1.map (eI .i64))))] [] (.d (.bool r)) []:=by
 refine ac2 Try.func36 rfl rfl fun B hB hN L => ?_
 delta plan_permitted at h
 refine sr (SQ tt) ?_
 apply AWp.seq
 refine sr (SQ tt) ?_
 apply AWp.cond rfl<;>intro hg1
 ·have h:=ite_t hg1 h
  refine sr (SQ tt) ?_
  apply AWp.ret
  apply seqQ_r
  obtain rfl:=oi h
  exact rt (kp [(4,_)] [] hB rfl rfl (by rfl)) [(bo false)] (Res.tmp (by rfl) (by rfl) Res.nil) rfl
 ·have h:=ite_f hg1 h
  apply AWp.skip
  apply seqQ_n
  apply AWp.seq
  obtain⟨r2,hr2,h⟩:=bindS h
  obtain⟨r3,hr3,h⟩:=bindS h
  refine rg (SQ (fa (cl [(1001,100000)] (slices_Values_ac a1 r2 hr2)) (fa (cl [(0,100000)] (ext55_slices_Sorted_ac r2 r3 hr3)) tt))) ?_
  apply seqQ_n
  refine AWp.ghost (mp [] [(5,(qI_1 r3))] [] hB) ?_
  apply AWp.seq
  refine sr (SQ tt) ?_
  apply AWp.block
  obtain⟨x16,hx17,h⟩:=bindS h
  refine lg (plan_permitted_L0 r3) (fun s4:Int=>([(16,(qI_1 r3)),(17,(i6 (r3.length:Int))),(18,(i6 s4))]:EL)) (fun s4:Int=>([]:OL)) (fun(x:(Unit)⊕(Unit)) e E' O'=>match x with | (.inl _p)=>e = .ret∧Mat B E' O' ([(4,(bo false))]:EL) ([]:OL) | (.inr _p)=>e = .exit 0∧Mat B E' O' ([]:EL) ([]:OL)) hx17 (mp [] _ _ hB) (fun s4 y h => ?_) (fun e E' O' hR => ?_)
  ·unfold plan_permitted_L0 at h
   refine sr (SQ tt) ?_
   apply AWp.seq
   apply AWp.cond rfl<;>intro hg13
   ·have h:=ite_t hg13 h
    apply AWp.skip
    apply seqQ_n
    apply AWp.seq
    apply AWp.block
    obtain⟨_,hx14,h⟩:=bindS h
    refine sr (SQ (fa hx14 tt)) ?_
    refine sr (SQ tt) ?_
    apply AWp.cond rfl<;>intro hg15
    ·have h:=ite_t hg15 h
     refine sr (SQ tt) ?_
     apply AWp.ret
     apply blkQ_r
     apply seqQ_r
     obtain rfl:=oi h
     exact⟨(fun hc=>by cases hc),rfl,(mp [] _ _ hB)⟩
    ·have h:=ite_f hg15 h
     apply AWp.skip
     apply blkQ_n
     apply seqQ_n
     refine rg (SQ tt) ?_
     obtain rfl:=oi h
     exact⟨rfl,(mp [] _ _ hB)⟩
   ·have h:=ite_f hg13 h
    apply AWp.exit
    apply seqQ_e
    obtain rfl:=oi h
    exact⟨(fun hc=>by cases hc),rfl,(mp [] _ _ hB)⟩
  ·rcases x16 with _ | _
   ·obtain⟨rfl,hmat⟩:=hR
    apply blkQ_r
    apply seqQ_r
    obtain rfl:=oi h
    exact rt (Mat.trans hmat (mp [] [(4,(bo false))] [] hB)) [(bo false)] (Res.tmp (by rfl) (by rfl) Res.nil) rfl
   ·obtain⟨rfl,hmat⟩:=hR
    apply blkQ_hit
    apply seqQ_n
    refine AWp.ghost hmat ?_
    refine sr (SQ tt) ?_
    apply AWp.ret
    obtain rfl:=oi h
    exact rt (kp [(4,_)] [] hB rfl rfl (by rfl)) [(bo true)] (Res.tmp (by rfl) (by rfl) Res.nil) rfl
def clone_List (a0:(List aLink)):Option ((List aLink)) :=
 chk (decide (a0.length≤LIM)) <|
 some a0
theorem clone_List_ac (a0:(List aLink)) (r:(List aLink)) (h:clone_List a0=some r):AC Try.prog 65 [(.d (.list 3 (a0.map e_aLink)))] [] (.d (.list 3 (r.map e_aLink))) []:=by
 refine AC.of_code2 Try.func65 rfl rfl (Nat.le_of_ble_eq_true (by rfl)) fun B hB hN => ?_
 delta clone_List at h
 refine sr (SQ tt) ?_
 obtain⟨hc1,h⟩:=chk_some h
 refine sr (SQ (fa hc1 tt)) ?_
 apply AWp.ret
 obtain rfl:=oi h
 exact rt (Mat.trans (Mat.freezeP (n:=1004) (e:=45) (sz:=3) (es:=a0.map e_aLink) (Ts:=[(2,(qe_aLink_3 a0))]) (Bs:=[]) (by rfl) (TwT.cons (x:=(.sref 1004 3 0 a0.length)) (by rfl) (FrzL.all (by first | rfl | (simp;done) | (simp;omega) | omega)) TwT.nil) TwB.nil) (mp [] [(2,(qe_aLink_3 a0))] [] hB)) [(qe_aLink_3 a0)] (Res.tmp (by rfl) (by rfl) Res.nil) rfl
def clone_List_3 (a0:(List Bool)):Option ((List Bool)) :=
 chk (decide (a0.length≤LIM)) <|
 some a0
theorem clone_List_3_ac (a0:(List Bool)) (r:(List Bool)) (h:clone_List_3 a0=some r):AC Try.prog 66 [(.d (.list 1 (a0.map eB)))] [] (.sref 900000 1 0 r.length) [(900000,some (.row 4 1 (r.map eB)))]:=by
 refine AC.of_code2 Try.func66 rfl rfl (Nat.le_of_ble_eq_true (by rfl)) fun B hB hN => ?_
 delta clone_List_3 at h
 refine sr (SQ tt) ?_
 obtain⟨hc1,h⟩:=chk_some h
 refine sr (SQ (fa hc1 tt)) ?_
 apply AWp.ret
 obtain rfl:=oi h
 exact rt (mp [(900000,1004)] [(2,(.sref 900000 1 0 a0.length))] [(900000,some (.row 4 1 (a0.map eB)))] hB) [(.sref 900000 1 0 a0.length)] (Res.tmp (by rfl) (by rfl) Res.nil) rfl
def clone_Fabric_3 (a0:aFabric):Option (aFabric) :=
 (clone_List a0.fLinks).bind fun r1 =>
 (clone_List_3 a0.fDown).bind fun r2 =>
 (clone_List_3 a0.fDead).bind fun r3 =>
 some (aFabric.mk a0.fSwitches r1 r2 r3)
theorem clone_Fabric_3_ac (a0:aFabric) (r:aFabric) (h:clone_Fabric_3 a0=some r):AC Try.prog 57 [(.d (e_aFabric a0))] [] (.st [(.d (.int .i64 r.fSwitches)),(.d (.list 3 (r.fLinks.map e_aLink))),(.sref 900000 1 0 r.fDown.length),(.sref 900001 1 0 r.fDead.length)]) [(900000,some (.row 4 1 (r.fDown.map eB))),(900001,some (.row 4 1 (r.fDead.map eB)))]:=by
 refine AC.of_code2 Try.func57 rfl rfl (Nat.le_of_ble_eq_true (by rfl)) fun B hB hN => ?_
 delta clone_Fabric_3 at h
 refine sr (SQ tt) ?_
 apply AWp.seq
 obtain⟨r1,hr1,h⟩:=bindS h
 obtain⟨r2,hr2,h⟩:=bindS h
 obtain⟨r3,hr3,h⟩:=bindS h
 refine drS (SQ (fa (cl [] (clone_List_ac a0.fLinks r1 hr1)) (fa (cl [(900000,100100)] (clone_List_3_ac a0.fDown r2 hr2)) (fa (cl [(900000,100200)] (clone_List_3_ac a0.fDead r3 hr3)) tt)))) ?_
 apply seqQ_n
 refine AWp.ghost (mp [] [(1,(pt 1001)),(2,(pt 1002))] [(1001,some (.box 30 (.st [(i6 a0.fSwitches),(qe_aLink_3 r1),(.sref 100100 1 0 r2.length),(.sref 100200 1 0 r3.length)]))),(1002,some (.box 30 (.st [(i6 0),.nils,.nils,.nils]))),(100100,some (.row 4 1 (r2.map eB))),(100200,some (.row 4 1 (r3.map eB)))] hB) ?_
 refine sr (SQ tt) ?_
 apply AWp.ret
 obtain rfl:=oi h
 exact rt (mp [(900000,100100),(900001,100200)] [(2,(pt 1002))] [(1002,some (.box 30 (.st [(i6 a0.fSwitches),(qe_aLink_3 r1),(.sref 900000 1 0 r2.length),(.sref 900001 1 0 r3.length)]))),(900000,some (.row 4 1 (r2.map eB))),(900001,some (.row 4 1 (r3.map eB)))] hB) [(.st [(i6 a0.fSwitches),(qe_aLink_3 r1),(.sref 900000 1 0 r2.length),(.sref 900001 1 0 r3.length)])] (Res.cell (c:=(.st [(i6 a0.fSwitches),(qe_aLink_3 r1),(.sref 900000 1 0 r2.length),(.sref 900001 1 0 r3.length)])) (by rfl) (by rfl) tyS30 (by rfl) (by rfl) (by rfl) Res.nil) rfl
def drain_Without_L0 (a1:(List aItem)) (s2:Int×(List Bool)×(List Bool)):Option ((((List Bool)×(List Bool)))⊕(Int×(List Bool)×(List Bool))) :=
 (if (decide (s2.1<(a1.length:Int)))=true then
 (idx a1 s2.1).bind fun x49 =>
 (if x49.fSwitch=true then
 jn (fun m57:(List Bool) =>
 some (.inr ((w64 (s2.1+1)),m57,s2.2.2))) (fun j58 =>
 (if ((decide (0≤x49.fIndex))&&(decide (x49.fIndex<(s2.2.1.length:Int))))=true then
 (idx s2.2.1 x49.fIndex).bind fun _ =>
 (idx s2.2.1 x49.fIndex).bind fun _ =>
 j58 (s2.2.1.set x49.fIndex.toNat true)
 else
 j58 s2.2.1))
 else
 jn (fun m65:(List Bool) =>
 some (.inr ((w64 (s2.1+1)),s2.2.1,m65))) (fun j66 =>
 (if ((decide (0≤x49.fIndex))&&(decide (x49.fIndex<(s2.2.2.length:Int))))=true then
 (idx s2.2.2 x49.fIndex).bind fun _ =>
 (idx s2.2.2 x49.fIndex).bind fun _ =>
 j66 (s2.2.2.set x49.fIndex.toNat true)
 else
 j66 s2.2.2)))
 else
 some (.inl (s2.2.1,s2.2.2)))
def drain_Without (a0:aFabric) (a1:(List aItem)):Option (aFabric) :=
 (clone_Fabric_3 a0).bind fun r1 =>
 (loop (drain_Without_L0 a1) (0,r1.fDead,r1.fDown)).bind fun p47 =>
 some (aFabric.mk r1.fSwitches r1.fLinks p47.2 p47.1)
theorem drain_Without_ac (a0:aFabric) (a1:(List aItem)) (r:aFabric) (h:drain_Without a0 a1=some r):AC Try.prog 37 [(.d (e_aFabric a0)),(.d (.list 2 (a1.map e_aItem)))] [] (.d (e_aFabric r)) []:=by
 refine ac2 Try.func37 rfl rfl fun B hB hN L => ?_
 delta drain_Without at h
 refine sr (SQ tt) ?_
 apply AWp.seq
 obtain⟨r1,hr1,h⟩:=bindS h
 refine rg (SQ (fa (cl [(900000,100000),(900001,100001)] (clone_Fabric_3_ac a0 r1 hr1)) tt)) ?_
 apply seqQ_n
 refine AWp.ghost (mp [] [(1,(qe_aItem_2 a1)),(4,(pt 1004)),(5,(pt 1005))] [(1004,some (.box 30 (.st [(i6 0),.nils,.nils,.nils]))),(1005,some (.box 30 (.st [(i6 r1.fSwitches),(qe_aLink_3 r1.fLinks),(.sref 100000 1 0 r1.fDown.length),(.sref 100001 1 0 r1.fDead.length)]))),(100000,some (.row 4 1 (r1.fDown.map eB))),(100001,some (.row 4 1 (r1.fDead.map eB)))] hB) ?_
 apply AWp.seq
 refine sr (SQ tt) ?_
 apply AWp.block
 obtain⟨p47,hx71,h⟩:=bindS h
 refine lg (drain_Without_L0 a1) (fun s2:Int×(List Bool)×(List Bool)=>([(4,(pt 1004)),(5,(pt 1005)),(11,(qe_aItem_2 a1)),(12,(i6 (a1.length:Int))),(13,(i6 s2.1))]:EL)) (fun s2:Int×(List Bool)×(List Bool)=>([(1004,some (.box 30 (.st [(i6 0),.nils,.nils,.nils]))),(1005,some (.box 30 (.st [(i6 r1.fSwitches),(qe_aLink_3 r1.fLinks),(.sref 100000 1 0 s2.2.2.length),(.sref 100001 1 0 s2.2.1.length)]))),(100000,some (.row 4 1 (s2.2.2.map eB))),(100001,some (.row 4 1 (s2.2.1.map eB)))]:OL)) (fun(p47:((List Bool)×(List Bool))) e E' O'=>e = .exit 0∧Mat B E' O' ([(4,(pt 1004)),(5,(pt 1005))]:EL) ([(1004,some (.box 30 (.st [(i6 0),.nils,.nils,.nils]))),(1005,some (.box 30 (.st [(i6 r1.fSwitches),(qe_aLink_3 r1.fLinks),(.sref 100000 1 0 p47.2.length),(.sref 100001 1 0 p47.1.length)]))),(100000,some (.row 4 1 (p47.2.map eB))),(100001,some (.row 4 1 (p47.1.map eB)))]:OL)) hx71 (mp [] _ _ hB) (fun s2 y h => ?_) (fun e E' O' hR => ?_)
 ·unfold drain_Without_L0 at h
  refine sr (SQ tt) ?_
  apply AWp.seq
  apply AWp.cond rfl<;>intro hg48
  ·have h:=ite_t hg48 h
   apply AWp.skip
   apply seqQ_n
   apply AWp.seq
   apply AWp.block
   obtain⟨x49,hx49,h⟩:=bindS h
   refine sr (SQ (fa hx49 tt)) ?_
   refine sr (SQ tt) ?_
   apply AWp.seq
   refine sr (SQ tt) ?_
   apply AWp.cond rfl<;>intro hg53
   ·have h:=ite_t hg53 h
    refine rg (SQ tt) ?_
    apply seqQ_n
    refine sr (SQ tt) ?_
    refine gh [(4,_),(5,_),(7,_),(8,_),(11,_),(12,_),(13,_),(32,_)] [(1004,some _),(1005,some _),(1007,some _),(100000,some _),(100001,some _)] hB rfl rfl (by rfl) ?_
    refine AWp.cut h (fun m57:(List Bool)=>([(4,(pt 1004)),(5,(pt 1005)),(11,(qe_aItem_2 a1)),(12,(i6 (a1.length:Int))),(13,(i6 s2.1))]:EL)) (fun m57:(List Bool)=>([(1004,some (.box 30 (.st [(i6 0),.nils,.nils,.nils]))),(1005,some (.box 30 (.st [(i6 r1.fSwitches),(qe_aLink_3 r1.fLinks),(.sref 100000 1 0 s2.2.2.length),(.sref 100001 1 0 m57.length)]))),(100000,some (.row 4 1 (s2.2.2.map eB))),(100001,some (.row 4 1 (m57.map eB)))]:OL)) (fun m57 h E' O' hmat => ?_) (fun j58 hjj58 h => ?_)
    ·apply blkQ_n
     apply seqQ_n
     refine AWp.ghost hmat ?_
     refine rg (SQ tt) ?_
     obtain rfl:=oi h
     exact⟨rfl,(mp [] _ _ hB)⟩
    ·apply AWp.cond rfl<;>intro hg59
     ·have h:=ite_t hg59 h
      obtain⟨_,hx60,h⟩:=bindS h
      obtain⟨_,hx61,h⟩:=bindS h
      refine rg (SQ (fa hx60 (fa hx61 (fa (sv true) tt)))) ?_
      exact hjj58 _ h _ _ (Mat.trans (mp [] [(4,(pt 1004)),(5,(pt 1005)),(11,(qe_aItem_2 a1)),(12,(i6 (a1.length:Int))),(13,(i6 s2.1))] [(1004,some (.box 30 (.st [(i6 0),.nils,.nils,.nils]))),(1005,some (.box 30 (.st [(i6 r1.fSwitches),(qe_aLink_3 r1.fLinks),(.sref 100000 1 0 s2.2.2.length),(.sref 100001 1 0 s2.2.1.length)]))),(100000,some (.row 4 1 (s2.2.2.map eB))),(100001,some (.row 4 1 ((s2.2.1.set x49.fIndex.toNat true).map eB)))] hB) (Mat.trans (Mat.lenP (Ts:=[]) (Bs:=[(1005,some (.box 30 (.st [(i6 r1.fSwitches),(qe_aLink_3 r1.fLinks),(.sref 100000 1 0 s2.2.2.length),(.sref 100001 1 0 ((s2.2.1.set x49.fIndex.toNat true).length))])))]) TwT.nil (TwB.cons (x:=(.st [(i6 r1.fSwitches),(qe_aLink_3 r1.fLinks),(.sref 100000 1 0 s2.2.2.length),(.sref 100001 1 0 s2.2.1.length)])) (by rfl) (Tw.st (TwL.cons (Tw.same _) (TwL.cons (Tw.same _) (TwL.cons (Tw.same _) (TwL.cons (Tw.leaf ⟨_,_,_,_,_,rfl,rfl,(by first | rfl | (simp;done) | (simp;omega) | omega)⟩) TwL.nil))))) TwB.nil)) (mp [] _ _ hB)))
     ·have h:=ite_f hg59 h
      apply AWp.skip
      exact hjj58 _ h _ _ (mp [] _ _ hB)
   ·have h:=ite_f hg53 h
    apply AWp.skip
    apply seqQ_n
    refine sr (SQ tt) ?_
    refine gh [(4,_),(5,_),(7,_),(8,_),(11,_),(12,_),(13,_),(32,_)] [(1004,some _),(1005,some _),(1007,some _),(100000,some _),(100001,some _)] hB rfl rfl (by rfl) ?_
    refine AWp.cut h (fun m65:(List Bool)=>([(4,(pt 1004)),(5,(pt 1005)),(11,(qe_aItem_2 a1)),(12,(i6 (a1.length:Int))),(13,(i6 s2.1))]:EL)) (fun m65:(List Bool)=>([(1004,some (.box 30 (.st [(i6 0),.nils,.nils,.nils]))),(1005,some (.box 30 (.st [(i6 r1.fSwitches),(qe_aLink_3 r1.fLinks),(.sref 100000 1 0 m65.length),(.sref 100001 1 0 s2.2.1.length)]))),(100000,some (.row 4 1 (m65.map eB))),(100001,some (.row 4 1 (s2.2.1.map eB)))]:OL)) (fun m65 h E' O' hmat => ?_) (fun j66 hjj66 h => ?_)
    ·apply blkQ_n
     apply seqQ_n
     refine AWp.ghost hmat ?_
     refine rg (SQ tt) ?_
     obtain rfl:=oi h
     exact⟨rfl,(mp [] _ _ hB)⟩
    ·apply AWp.cond rfl<;>intro hg67
     ·have h:=ite_t hg67 h
      obtain⟨_,hx68,h⟩:=bindS h
      obtain⟨_,hx69,h⟩:=bindS h
      refine rg (SQ (fa hx68 (fa hx69 (fa (sv true) tt)))) ?_
      exact hjj66 _ h _ _ (Mat.trans (mp [] [(4,(pt 1004)),(5,(pt 1005)),(11,(qe_aItem_2 a1)),(12,(i6 (a1.length:Int))),(13,(i6 s2.1))] [(1004,some (.box 30 (.st [(i6 0),.nils,.nils,.nils]))),(1005,some (.box 30 (.st [(i6 r1.fSwitches),(qe_aLink_3 r1.fLinks),(.sref 100000 1 0 s2.2.2.length),(.sref 100001 1 0 s2.2.1.length)]))),(100000,some (.row 4 1 ((s2.2.2.set x49.fIndex.toNat true).map eB))),(100001,some (.row 4 1 (s2.2.1.map eB)))] hB) (Mat.trans (Mat.lenP (Ts:=[]) (Bs:=[(1005,some (.box 30 (.st [(i6 r1.fSwitches),(qe_aLink_3 r1.fLinks),(.sref 100000 1 0 ((s2.2.2.set x49.fIndex.toNat true).length)),(.sref 100001 1 0 s2.2.1.length)])))]) TwT.nil (TwB.cons (x:=(.st [(i6 r1.fSwitches),(qe_aLink_3 r1.fLinks),(.sref 100000 1 0 s2.2.2.length),(.sref 100001 1 0 s2.2.1.length)])) (by rfl) (Tw.st (TwL.cons (Tw.same _) (TwL.cons (Tw.same _) (TwL.cons (Tw.leaf ⟨_,_,_,_,_,rfl,rfl,(by first | rfl | (simp;done) | (simp;omega) | omega)⟩) (TwL.cons (Tw.same _) TwL.nil))))) TwB.nil)) (mp [] _ _ hB)))
     ·have h:=ite_f hg67 h
      apply AWp.skip
      exact hjj66 _ h _ _ (mp [] _ _ hB)
  ·have h:=ite_f hg48 h
   apply AWp.exit
   apply seqQ_e
   obtain rfl:=oi h
   exact⟨(fun hc=>by cases hc),rfl,(mp [] _ _ hB)⟩
 ·obtain⟨rfl,hmat⟩:=hR
  apply blkQ_hit
  apply seqQ_n
  refine AWp.ghost hmat ?_
  refine sr (SQ tt) ?_
  apply AWp.ret
  obtain rfl:=oi h
  exact rt (Mat.trans (Mat.freezeP (n:=100000) (e:=4) (sz:=1) (es:=p47.2.map eB) (Ts:=[]) (Bs:=[(1004,some (.box 30 (.st [(i6 r1.fSwitches),(qe_aLink_3 r1.fLinks),(.d (.list 1 (p47.2.map eB))),(.sref 100001 1 0 p47.1.length)])))]) (by rfl) TwT.nil (TwB.cons (x:=(.st [(i6 r1.fSwitches),(qe_aLink_3 r1.fLinks),(.sref 100000 1 0 p47.2.length),(.sref 100001 1 0 p47.1.length)])) (by rfl) (Tw.st (TwL.cons (Tw.same _) (TwL.cons (Tw.same _) (TwL.cons (FrzL.all (by first | rfl | (simp;done) | (simp;omega) | omega)) (TwL.cons (Tw.same _) TwL.nil))))) TwB.nil)) (Mat.trans (Mat.freezeP (n:=100001) (e:=4) (sz:=1) (es:=p47.1.map eB) (Ts:=[]) (Bs:=[(1004,some (.box 30 (.st [(i6 r1.fSwitches),(qe_aLink_3 r1.fLinks),(.d (.list 1 (p47.2.map eB))),(.d (.list 1 (p47.1.map eB)))])))]) (by rfl) TwT.nil (TwB.cons (x:=(.st [(i6 r1.fSwitches),(qe_aLink_3 r1.fLinks),(.d (.list 1 (p47.2.map eB))),(.sref 100001 1 0 p47.1.length)])) (by rfl) (Tw.st (TwL.cons (Tw.same _) (TwL.cons (Tw.same _) (TwL.cons (Tw.same _) (TwL.cons (FrzL.all (by first | rfl | (simp;done) | (simp;omega) | omega)) TwL.nil))))) TwB.nil)) (Mat.trans (Mat.coeP (Ts:=[]) (Bs:=[(1004,bd 30 (.st [(.int .i64 r1.fSwitches),(.list 3 (r1.fLinks.map e_aLink)),(.list 1 (p47.2.map eB)),(.list 1 (p47.1.map eB))]))]) TwT.nil (TwB.cons (x:=(.st [(i6 r1.fSwitches),(qe_aLink_3 r1.fLinks),(.d (.list 1 (p47.2.map eB))),(.d (.list 1 (p47.1.map eB)))])) (by rfl) (Tw.leaf ⟨_,(Co.st (CoL.cons (Co.d _) (CoL.cons (Co.d _) (CoL.cons (Co.d _) (CoL.cons (Co.d _) CoL.nil))))),rfl⟩) TwB.nil)) (mp [] [(4,(pt 1004))] [(1004,bd 30 (.st [(.int .i64 r1.fSwitches),(.list 3 (r1.fLinks.map e_aLink)),(.list 1 (p47.2.map eB)),(.list 1 (p47.1.map eB))]))] hB)))) [(.d (.st [(.int .i64 r1.fSwitches),(.list 3 (r1.fLinks.map e_aLink)),(.list 1 (p47.2.map eB)),(.list 1 (p47.1.map eB))]))] (Res.cell (c:=(.d (.st [(.int .i64 r1.fSwitches),(.list 3 (r1.fLinks.map e_aLink)),(.list 1 (p47.2.map eB)),(.list 1 (p47.1.map eB))]))) (by rfl) (by rfl) tyS30 (by rfl) (by rfl) (by rfl) Res.nil) rfl
def fabric_alive (a0:aFabric) (a1:Int):Option (Bool) :=
 jn (fun m3:Bool =>
 some m3) (fun j4 =>
 (if ((decide (0≤a1))&&(decide (a1<(a0.fDead.length:Int))))=true then
 (idx a0.fDead a1).bind fun x6 =>
 j4 (!x6)
 else
 j4 false))
theorem fabric_alive_ac (a0:aFabric) (a1:Int) (r:Bool) (h:fabric_alive a0 a1=some r):AC Try.prog 68 [(.d (e_aFabric a0)),(.d (.int .i64 a1))] [] (.d (.bool r)) []:=by
 refine ac2 Try.func68 rfl rfl fun B hB hN L => ?_
 delta fabric_alive at h
 refine sr (SQ tt) ?_
 apply AWp.seq
 refine AWp.cut h (fun m3:Bool=>([(4,(bo m3))]:EL)) (fun m3:Bool=>([]:OL)) (fun m3 h E' O' hmat => ?_) (fun j4 hjj4 h => ?_)
 ·apply seqQ_n
  refine AWp.ghost hmat ?_
  apply AWp.ret
  obtain rfl:=oi h
  exact rt (kp [(4,_)] [] hB rfl rfl (by rfl)) [(bo m3)] (Res.tmp (by rfl) (by rfl) Res.nil) rfl
 ·rcases bft ((decide (0≤a1))&&(decide (a1<(a0.fDead.length:Int)))) with hg5 | hg5
  ·have h:=ite_t hg5 h
   obtain⟨_,hx6,h⟩:=bindS h
   refine rg (SQ (fa hg5 (fa hx6 tt))) ?_
   exact hjj4 _ h _ _ (mp [] _ _ hB)
  ·have h:=ite_f hg5 h
   refine rg (SQ (fa hg5 tt)) ?_
   exact hjj4 _ h _ _ (mp [] _ _ hB)
def fabric_Works (a0:aFabric) (a1:Int):Option (Bool) :=
 jn (fun m3:Bool =>
 (if m3=true then
 some false
 else
 jn (fun m13:Bool =>
 some m13) (fun j14 =>
 (idx a0.fLinks a1).bind fun x15 =>
 (fabric_alive a0 x15.fA).bind fun r16 =>
 (if r16=true then
 (idx a0.fLinks a1).bind fun x18 =>
 (fabric_alive a0 x18.fB).bind fun r19 =>
 j14 r19
 else
 j14 false)))) (fun j4 =>
 (if (((decide (a1<0)) || (decide ((a0.fLinks.length:Int)≤a1))) || (decide ((a0.fDown.length:Int)≤a1)))=true then
 j4 true
 else
 (idx a0.fDown a1).bind fun x21 =>
 j4 x21))
theorem fabric_Works_ac (a0:aFabric) (a1:Int) (r:Bool) (h:fabric_Works a0 a1=some r):AC Try.prog 60 [(.d (e_aFabric a0)),(.d (.int .i64 a1))] [] (.d (.bool r)) []:=by
 refine ac2 Try.func60 rfl rfl fun B hB hN L => ?_
 delta fabric_Works at h
 refine sr (SQ tt) ?_
 apply AWp.seq
 apply AWp.seq
 refine AWp.cut h (fun m3:Bool=>([(1,(i6 a1)),(2,(pt 1002)),(27,(bo m3))]:EL)) (fun m3:Bool=>([(1002,bd 30 (e_aFabric a0))]:OL)) (fun m3 h E' O' hmat => ?_) (fun j4 hjj4 h => ?_)
 ·apply seqQ_n
  refine AWp.ghost hmat ?_
  apply AWp.cond rfl<;>intro hg5
  ·have h:=ite_t hg5 h
   refine sr (SQ tt) ?_
   apply AWp.ret
   apply seqQ_r
   obtain rfl:=oi h
   exact rt (kp [(4,_)] [] hB rfl rfl (by rfl)) [(bo false)] (Res.tmp (by rfl) (by rfl) Res.nil) rfl
  ·have h:=ite_f hg5 h
   apply AWp.skip
   apply seqQ_n
   apply AWp.seq
   refine AWp.cut h (fun m13:Bool=>([(4,(bo m13))]:EL)) (fun m13:Bool=>([]:OL)) (fun m13 h E' O' hmat => ?_) (fun j14 hjj14 h => ?_)
   ·apply seqQ_n
    refine AWp.ghost hmat ?_
    apply AWp.ret
    obtain rfl:=oi h
    exact rt (kp [(4,_)] [] hB rfl rfl (by rfl)) [(bo m13)] (Res.tmp (by rfl) (by rfl) Res.nil) rfl
   ·obtain⟨x15,hx15,h⟩:=bindS h
    obtain⟨r16,hr16,h⟩:=bindS h
    rcases bft r16 with hg17 | hg17
    ·have h:=ite_t hg17 h
     obtain⟨x18,hx18,h⟩:=bindS h
     obtain⟨r19,hr19,h⟩:=bindS h
     refine drS (SQ (fa hx15 (fa (cl [] (fabric_alive_ac a0 x15.fA r16 hr16)) (fa hg17 (fa hx18 (fa (cl [] (fabric_alive_ac a0 x18.fB r19 hr19)) tt)))))) ?_
     exact hjj14 _ h _ _ (mp [] _ _ hB)
    ·have h:=ite_f hg17 h
     refine drS (SQ (fa hx15 (fa (cl [] (fabric_alive_ac a0 x15.fA r16 hr16)) (fa hg17 tt)))) ?_
     exact hjj14 _ h _ _ (mp [] _ _ hB)
 ·rcases bft (((decide (a1<0)) || (decide ((a0.fLinks.length:Int)≤a1))) || (decide ((a0.fDown.length:Int)≤a1))) with hg20 | hg20
  ·have h:=ite_t hg20 h
   refine rg (SQ (fa hg20 tt)) ?_
   exact hjj4 _ h _ _ (mp [] _ _ hB)
  ·have h:=ite_f hg20 h
   obtain⟨_,hx21,h⟩:=bindS h
   refine rg (SQ (fa hg20 (fa hx21 tt))) ?_
   exact hjj4 _ h _ _ (mp [] _ _ hB)
def fabric_reach_L0 (a0:aFabric) (s2:Int×(List Int)):Option ((((List Int)))⊕(Int×(List Int))) :=
 (if (decide (s2.1<((List.replicate (maxI 0 (minI a0.fSwitches (a0.fDead.length:Int))).toNat (0:Int)).length:Int)))=true then
 (idx s2.2 s2.1).bind fun _ =>
 (idx s2.2 s2.1).bind fun _ =>
 some (.inr ((w64 (s2.1+1)),(s2.2.set s2.1.toNat (-1))))
 else
 some (.inl s2.2))
def fabric_reach_L3 (x3310:aLink) (s3316:Int×(List Int)×(List Int)):Option ((((List Int)×(List Int)))⊕(Int×(List Int)×(List Int))) :=
 (if (decide (s3316.1<2))=true then
 (idx ([([x3310.fA,x3310.fB]:List Int),([x3310.fB,x3310.fA]:List Int)]:List (List Int)) s3316.1).bind fun x3439 =>
 jn (fun m3456:Bool =>
 jn (fun m3471:(List Int)×(List Int) =>
 some (.inr ((w64 (s3316.1+1)),m3471.1,m3471.2))) (fun j3472 =>
 (if m3456=true then
 chk (decide (0≤1)&&decide (1<2)) <|
 (idx x3439 1).bind fun x3475 =>
 chk (decide (0≤0)&&decide (0<2)) <|
 (idx x3439 0).bind fun x3477 =>
 (idx s3316.2.2 x3477).bind fun _ =>
 (idx s3316.2.2 x3477).bind fun x3479 =>
 (idx s3316.2.2 x3475).bind fun _ =>
 (idx s3316.2.2 x3475).bind fun _ =>
 chk (decide (0≤1)&&decide (1<2)) <|
 (idx x3439 1).bind fun x3483 =>
 chk (decide ((s3316.2.1++([x3483]:List Int)).length≤LIM)) <|
 j3472 ((s3316.2.1++([x3483]:List Int)),(s3316.2.2.set x3475.toNat (w64 (x3479+1))))
 else
 j3472 (s3316.2.1,s3316.2.2)))) (fun j3457 =>
 chk (decide (0≤0)&&decide (0<2)) <|
 (idx x3439 0).bind fun x3487 =>
 (idx s3316.2.1 0).bind fun _ =>
 (idx s3316.2.1 0).bind fun x3489 =>
 (if (x3487==x3489)=true then
 chk (decide (0≤1)&&decide (1<2)) <|
 (idx x3439 1).bind fun x3492 =>
 (if (decide (x3492<(s3316.2.2.length:Int)))=true then
 chk (decide (0≤1)&&decide (1<2)) <|
 (idx x3439 1).bind fun x3495 =>
 (idx s3316.2.2 x3495).bind fun _ =>
 (idx s3316.2.2 x3495).bind fun x3497 =>
 j3457 (decide (x3497<0))
 else
 j3457 false)
 else
 j3457 false))
 else
 some (.inl (s3316.2.1,s3316.2.2)))
def fabric_reach_L2 (a0:aFabric) (a2:Int) (s2334:Int×(List Int)×(List Int)):Option ((((List Int)×(List Int)))⊕(Int×(List Int)×(List Int))) :=
 (if (decide (s2334.1<(a0.fLinks.length:Int)))=true then
 jn (fun m3308:(List Int)×(List Int) =>
 some (.inr ((w64 (s2334.1+1)),m3308.1,m3308.2))) (fun j3309 =>
 (idx a0.fLinks s2334.1).bind fun x3310 =>
 jn (fun m3313:Bool =>
 (if m3313=true then
 j3309 (s2334.2.1,s2334.2.2)
 else
 (loop (fabric_reach_L3 x3310) (0,s2334.2.1,s2334.2.2)).bind fun p3437 =>
 j3309 (p3437.1,p3437.2))) (fun j3314 =>
 (if (s2334.1==a2)=true then
 j3314 true
 else
 (fabric_Works a0 s2334.1).bind fun r3501 =>
 j3314 (!r3501))))
 else
 some (.inl (s2334.2.1,s2334.2.2)))
def fabric_reach_L1 (a0:aFabric) (a2:Int) (s19:(List Int)×(List Int)):Option ((((List Int)))⊕((List Int)×(List Int))) :=
 (if (decide (0<(s19.1.length:Int)))=true then
 (loop (fabric_reach_L2 a0 a2) (0,s19.1,s19.2)).bind fun p3113 =>
 chk ((decide (0≤1)&&decide (1≤p3113.1.length))) <|
 some (.inr ((p3113.1.drop 1),p3113.2))
 else
 some (.inl s19.2))
def fabric_reach (a0:aFabric) (a1:Int) (a2:Int):Option ((List Int)) :=
 chk ((decide (0≤(maxI 0 (minI a0.fSwitches (a0.fDead.length:Int))))&&decide ((maxI 0 (minI a0.fSwitches (a0.fDead.length:Int)))≤(maxI 0 (minI a0.fSwitches (a0.fDead.length:Int))))&&decide ((maxI 0 (minI a0.fSwitches (a0.fDead.length:Int)))≤(LIM:Int)))) <|
 (loop (fabric_reach_L0 a0) (0,(List.replicate (maxI 0 (minI a0.fSwitches (a0.fDead.length:Int))).toNat 0))).bind fun p9 =>
 (fabric_alive a0 a1).bind fun r15 =>
 (if ((!r15) || (decide ((p9.length:Int)≤a1)))=true then
 some p9
 else
 (idx p9 a1).bind fun _ =>
 (idx p9 a1).bind fun _ =>
 (loop (fabric_reach_L1 a0 a2) (([a1]:List Int),(p9.set a1.toNat 0))).bind fun p2332 =>
 some p2332)
theorem fabric_reach_ac (a0:aFabric) (a1:Int) (a2:Int) (r:(List Int)) (h:fabric_reach a0 a1 a2=some r):AC Try.prog 67 [(.d (e_aFabric a0)),(.d (.int .i64 a1)),(.d (.int .i64 a2))] [] (.d (.list 1 (r.map (eI .i64)))) []:=by
 refine ac2 Try.func67 rfl rfl fun B hB hN L => ?_
 delta fabric_reach at h
 refine sr (SQ tt) ?_
 obtain⟨hc1,h⟩:=chk_some h
 refine sr (SQ (fa hc1 tt)) ?_
 apply AWp.seq
 refine sr (SQ tt) ?_
 apply AWp.block
 obtain⟨p9,hx14,h⟩:=bindS h
 refine lg (fabric_reach_L0 a0) (fun s2:Int×(List Int)=>([(1,(i6 a1)),(2,(i6 a2)),(3,(pt 1003)),(7,(.sref 1021 1 0 s2.2.length)),(23,(i6 ((List.replicate (maxI 0 (minI a0.fSwitches (a0.fDead.length:Int))).toNat (0:Int)).length:Int))),(24,(i6 s2.1))]:EL)) (fun s2:Int×(List Int)=>([(1003,bd 30 (e_aFabric a0)),(1021,some (wI_3_1 s2.2))]:OL)) (fun(p9:((List Int))) e E' O'=>e = .exit 0∧Mat B E' O' ([(1,(i6 a1)),(2,(i6 a2)),(3,(pt 1003)),(7,(.sref 1021 1 0 p9.length))]:EL) ([(1003,bd 30 (e_aFabric a0)),(1021,some (wI_3_1 p9))]:OL)) hx14 (mp [] _ _ hB) (fun s2 y h => ?_) (fun e E' O' hR => ?_)
 ·unfold fabric_reach_L0 at h
  refine sr (SQ tt) ?_
  apply AWp.seq
  apply AWp.cond rfl<;>intro hg10
  ·have h:=ite_t hg10 h
   apply AWp.skip
   apply seqQ_n
   apply AWp.seq
   apply AWp.block
   refine sr (SQ tt) ?_
   obtain⟨_,hx11,h⟩:=bindS h
   obtain⟨_,hx12,h⟩:=bindS h
   refine rg (SQ (fa hx11 (fa hx12 (fa (sv (-1)) tt)))) ?_
   apply blkQ_n
   apply seqQ_n
   refine rg (SQ tt) ?_
   obtain rfl:=oi h
   exact⟨rfl,(Mat.trans (mp [] [(1,(i6 a1)),(2,(i6 a2)),(3,(pt 1003)),(7,(.sref 1021 1 0 s2.2.length)),(23,(i6 ((List.replicate (maxI 0 (minI a0.fSwitches (a0.fDead.length:Int))).toNat (0:Int)).length:Int))),(24,(i6 (w64 (s2.1+1))))] [(1003,bd 30 (e_aFabric a0)),(1021,some (wI_3_1 (s2.2.set s2.1.toNat (-1))))] hB) (Mat.trans (Mat.lenP (Ts:=[(7,(.sref 1021 1 0 ((s2.2.set s2.1.toNat (-1)).length)))]) (Bs:=[]) (TwT.cons (x:=(.sref 1021 1 0 s2.2.length)) (by rfl) (Tw.leaf ⟨_,_,_,_,_,rfl,rfl,(by first | rfl | (simp;done) | (simp;omega) | omega)⟩) TwT.nil) TwB.nil) (mp [] _ _ hB)))⟩
  ·have h:=ite_f hg10 h
   apply AWp.exit
   apply seqQ_e
   obtain rfl:=oi h
   exact⟨(fun hc=>by cases hc),rfl,(mp [] _ _ hB)⟩
 ·obtain⟨rfl,hmat⟩:=hR
  apply blkQ_hit
  apply seqQ_n
  refine AWp.ghost hmat ?_
  apply AWp.seq
  obtain⟨r15,hr15,h⟩:=bindS h
  refine sr (SQ (fa (cl [] (fabric_alive_ac a0 a1 r15 hr15)) tt)) ?_
  apply AWp.cond rfl<;>intro hg16
  ·have h:=ite_t hg16 h
   refine sr (SQ tt) ?_
   apply AWp.ret
   apply seqQ_r
   obtain rfl:=oi h
   exact rt (Mat.trans (Mat.freezeP (n:=1021) (e:=3) (sz:=1) (es:=p9.map (eI .i64)) (Ts:=[(6,(qI_1 p9))]) (Bs:=[]) (by rfl) (TwT.cons (x:=(.sref 1021 1 0 p9.length)) (by rfl) (FrzL.all (by first | rfl | (simp;done) | (simp;omega) | omega)) TwT.nil) TwB.nil) (mp [] [(6,(qI_1 p9))] [] hB)) [(qI_1 p9)] (Res.tmp (by rfl) (by rfl) Res.nil) rfl
  ·have h:=ite_f hg16 h
   apply AWp.skip
   apply seqQ_n
   obtain⟨_,hx17,h⟩:=bindS h
   obtain⟨_,hx18,h⟩:=bindS h
   refine sr (SQ (fa hx17 (fa hx18 (fa (sv 0) tt)))) ?_
   apply AWp.seq
   apply sr (c (mv hN (q 1)) rfl (cg (OpJ.buildSliceR underlying23 tyS3 tyZD3 (by rfl) (by decide) (by decide) hB (nm:=1046) (by decide) (len:=([a1]:List Int).length) (by rfl) (Opds.cons (q 45) Opds.nil) (by kernel_rfl) (es:=([a1]:List Int).map (eI .i64)) (by rfl) (by rfl) (by kernel_rfl) (by simp) (L rfl)) rfl (c (assign (L rfl) (q 46)) rfl cn)))
   apply AWp.block
   obtain⟨p2332,hx3506,h⟩:=bindS h
   refine AWp.loopG (fabric_reach_L1 a0 a2) (fun(gs19:List Int) (s19:(List Int)×(List Int))=>([(2,(i6 a2)),(3,(pt 1003)),(7,(.sref 1021 1 0 s19.2.length)),(9,(.sref 3009 1 gs19.length s19.1.length))]:EL)) (fun(gs19:List Int) (s19:(List Int)×(List Int))=>([(1003,bd 30 (e_aFabric a0)),(1021,some (wI_3_1 s19.2)),(3009,some (wI_3_1 (gs19++s19.1)))]:OL)) (fun(p2332:((List Int))) e E' O'=>e = .exit 2∧Mat B E' O' ([(7,(.sref 1021 1 0 p2332.length))]:EL) ([(1021,some (wI_3_1 p2332))]:OL)) hx3506 (fun gs19 s19 y h => ?_) (fun e E' O' hR => ?_) ([]:List Int) (Mat.trans (Mat.lenP (Ts:=[(7,(.sref 1021 1 0 ((p9.set a1.toNat (0:Int)).length)))]) (Bs:=[]) (TwT.cons (x:=(.sref 1021 1 0 p9.length)) (by rfl) (Tw.leaf ⟨_,_,_,_,_,rfl,rfl,(by first | rfl | (simp;done) | (simp;omega) | omega)⟩) TwT.nil) TwB.nil) (mp [(3009,1046)] ((fun(gs19:List Int) (s19:(List Int)×(List Int))=>([(2,(i6 a2)),(3,(pt 1003)),(7,(.sref 1021 1 0 s19.2.length)),(9,(.sref 3009 1 gs19.length s19.1.length))]:EL)) ([]:List Int) (([a1]:List Int),(p9.set a1.toNat 0))) ((fun(gs19:List Int) (s19:(List Int)×(List Int))=>([(1003,bd 30 (e_aFabric a0)),(1021,some (wI_3_1 s19.2)),(3009,some (wI_3_1 (gs19++s19.1)))]:OL)) ([]:List Int) (([a1]:List Int),(p9.set a1.toNat 0))) hB))
   ·unfold fabric_reach_L1 at h
    apply AWp.seq
    refine sr (SQ tt) ?_
    apply AWp.cond rfl<;>intro hg2333
    ·have h:=ite_t hg2333 h
     apply AWp.skip
     apply seqQ_n
     apply AWp.seq
     apply AWp.block
     refine sr (SQ tt) ?_
     apply AWp.block
     obtain⟨p3113,hx3503,h⟩:=bindS h
     refine AWp.loopG (fabric_reach_L2 a0 a2) (fun(gs2334:List Int) (s2334:Int×(List Int)×(List Int))=>([(2,(i6 a2)),(3,(pt 1003)),(7,(.sref 1021 1 0 s2334.2.2.length)),(9,(.sref 3009 1 gs2334.length s2334.2.1.length)),(53,(qe_aLink_3 a0.fLinks)),(54,(i6 (a0.fLinks.length:Int))),(55,(i6 s2334.1))]:EL)) (fun(gs2334:List Int) (s2334:Int×(List Int)×(List Int))=>([(1003,bd 30 (e_aFabric a0)),(1021,some (wI_3_1 s2334.2.2)),(3009,some (wI_3_1 (gs2334++s2334.2.1)))]:OL)) (fun(p3113:((List Int)×(List Int))) e E' O'=>e = .exit 4∧∃ gp3113:List Int,Mat B E' O' ([(2,(i6 a2)),(3,(pt 1003)),(7,(.sref 1021 1 0 p3113.2.length)),(9,(.sref 3009 1 gp3113.length p3113.1.length))]:EL) ([(1003,bd 30 (e_aFabric a0)),(1021,some (wI_3_1 p3113.2)),(3009,some (wI_3_1 (gp3113++p3113.1)))]:OL)) hx3503 (fun gs2334 s2334 y h => ?_) (fun e E' O' hR => ?_) gs19 (mp [] ((fun(gs2334:List Int) (s2334:Int×(List Int)×(List Int))=>([(2,(i6 a2)),(3,(pt 1003)),(7,(.sref 1021 1 0 s2334.2.2.length)),(9,(.sref 3009 1 gs2334.length s2334.2.1.length)),(53,(qe_aLink_3 a0.fLinks)),(54,(i6 (a0.fLinks.length:Int))),(55,(i6 s2334.1))]:EL)) gs19 (0,s19.1,s19.2)) ((fun(gs2334:List Int) (s2334:Int×(List Int)×(List Int))=>([(1003,bd 30 (e_aFabric a0)),(1021,some (wI_3_1 s2334.2.2)),(3009,some (wI_3_1 (gs2334++s2334.2.1)))]:OL)) gs19 (0,s19.1,s19.2)) hB)
     ·unfold fabric_reach_L2 at h
      refine sr (SQ tt) ?_
      apply AWp.seq
      apply AWp.cond rfl<;>intro hg3114
      ·have h:=ite_t hg3114 h
       apply AWp.skip
       apply seqQ_n
       apply AWp.seq
       refine AWp.cutG h (fun(gm3308:List Int) (m3308:(List Int)×(List Int))=>([(2,(i6 a2)),(3,(pt 1003)),(7,(.sref 1021 1 0 m3308.2.length)),(9,(.sref 3009 1 gm3308.length m3308.1.length)),(53,(qe_aLink_3 a0.fLinks)),(54,(i6 (a0.fLinks.length:Int))),(55,(i6 s2334.1))]:EL)) (fun(gm3308:List Int) (m3308:(List Int)×(List Int))=>([(1003,bd 30 (e_aFabric a0)),(1021,some (wI_3_1 m3308.2)),(3009,some (wI_3_1 (gm3308++m3308.1)))]:OL)) (fun gm3308 m3308 h E' O' hmat => ?_) (fun j3309 hjj3309 h => ?_)
       ·apply seqQ_n
        refine AWp.ghost hmat ?_
        refine rg (SQ tt) ?_
        obtain rfl:=oi h
        exact⟨rfl,gm3308,(Mat.trans (mp [] [(2,(i6 a2)),(3,(pt 1003)),(7,(.sref 1021 1 0 m3308.2.length)),(9,(.sref 3009 1 gm3308.length m3308.1.length)),(53,(qe_aLink_3 a0.fLinks)),(54,(i6 (a0.fLinks.length:Int))),(55,(i6 (w64 (s2334.1+1))))] [(1003,bd 30 (e_aFabric a0)),(1021,some (wI_3_1 m3308.2)),(3009,some (wI_3_1 (gm3308++m3308.1)))] hB) (mp [] ((fun(gs2334:List Int) (s2334:Int×(List Int)×(List Int))=>([(2,(i6 a2)),(3,(pt 1003)),(7,(.sref 1021 1 0 s2334.2.2.length)),(9,(.sref 3009 1 gs2334.length s2334.2.1.length)),(53,(qe_aLink_3 a0.fLinks)),(54,(i6 (a0.fLinks.length:Int))),(55,(i6 s2334.1))]:EL)) gm3308 ((w64 (s2334.1+1)),m3308.1,m3308.2)) ((fun(gs2334:List Int) (s2334:Int×(List Int)×(List Int))=>([(1003,bd 30 (e_aFabric a0)),(1021,some (wI_3_1 s2334.2.2)),(3009,some (wI_3_1 (gs2334++s2334.2.1)))]:OL)) gm3308 ((w64 (s2334.1+1)),m3308.1,m3308.2)) hB))⟩
       ·apply AWp.block
        obtain⟨x3310,hx3310,h⟩:=bindS h
        refine sr (SQ (fa hx3310 tt)) ?_
        apply AWp.seq
        apply AWp.seq
        refine AWp.cut h (fun m3313:Bool=>([(2,(i6 a2)),(3,(pt 1003)),(7,(.sref 1021 1 0 s2334.2.2.length)),(9,(.sref 3009 1 gs2334.length s2334.2.1.length)),(11,(pt 1011)),(53,(qe_aLink_3 a0.fLinks)),(54,(i6 (a0.fLinks.length:Int))),(55,(i6 s2334.1)),(68,(bo m3313))]:EL)) (fun m3313:Bool=>([(1003,bd 30 (e_aFabric a0)),(1011,bd 45 (e_aLink x3310)),(1021,some (wI_3_1 s2334.2.2)),(3009,some (wI_3_1 (gs2334++s2334.2.1)))]:OL)) (fun m3313 h E' O' hmat => ?_) (fun j3314 hjj3314 h => ?_)
        ·apply seqQ_n
         refine AWp.ghost hmat ?_
         apply AWp.cond rfl<;>intro hg3315
         ·have h:=ite_t hg3315 h
          apply AWp.exit
          apply seqQ_e
          apply blkQ_hit
          exact hjj3309 gs2334 _ h _ _ (mp [] _ _ hB)
         ·have h:=ite_f hg3315 h
          apply AWp.skip
          apply seqQ_n
          apply sr (c (fo 1011 0 [0] hN underlying45 0 tyS3 (q 11)) rfl (c (la hN 45 tyS3 (q 69)) rfl (c (fo 1011 1 [1] hN underlying45 1 tyS3 (q 11)) rfl (c (la hN 45 tyS3 (q 71)) rfl (cg (OpJ.buildArr (n:=2) (z:=(.int .i64 0)) underlying103 tyS3 tyZ103 (Opds.cons (q 70) (Opds.cons (q 72) Opds.nil)) (by kernel_rfl) (es:=([(.int .i64 x3310.fA),(.int .i64 x3310.fB)]:List D)) (by rfl) (by rfl) (by kernel_rfl) (by simp) (L rfl)) rfl (c (fo 1011 1 [1] hN underlying45 1 tyS3 (q 11)) rfl (c (la hN 45 tyS3 (q 74)) rfl (c (fo 1011 0 [0] hN underlying45 0 tyS3 (q 11)) rfl (c (la hN 45 tyS3 (q 76)) rfl (cg (OpJ.buildArr (n:=2) (z:=(.int .i64 0)) underlying103 tyS3 tyZ103 (Opds.cons (q 75) (Opds.cons (q 77) Opds.nil)) (by kernel_rfl) (es:=([(.int .i64 x3310.fB),(.int .i64 x3310.fA)]:List D)) (by rfl) (by rfl) (by kernel_rfl) (by simp) (L rfl)) rfl (cg (OpJ.buildArr (n:=2) (z:=(.arr 2 1 ((List.replicate 2 0).map (eI .i64)))) underlying104 tyS103 tyZ104 (Opds.cons (q 73) (Opds.cons (q 78) Opds.nil)) (by kernel_rfl) (es:=([(.arr 2 1 (([x3310.fA,x3310.fB]:List Int).map (eI .i64))),(.arr 2 1 (([x3310.fB,x3310.fA]:List Int).map (eI .i64)))]:List D)) (by rfl) (by rfl) (by kernel_rfl) (by simp) (L rfl)) rfl (c (mv hN (ii 0)) rfl cn))))))))))))
          apply AWp.block
          obtain⟨p3437,hx3499,h⟩:=bindS h
          refine AWp.loopG (fabric_reach_L3 x3310) (fun(gs3316:List Int) (s3316:Int×(List Int)×(List Int))=>([(2,(i6 a2)),(3,(pt 1003)),(7,(.sref 1021 1 0 s3316.2.2.length)),(9,(.sref 3009 1 gs3316.length s3316.2.1.length)),(53,(qe_aLink_3 a0.fLinks)),(54,(i6 (a0.fLinks.length:Int))),(55,(i6 s2334.1)),(79,(.d (.arr 2 2 (([([x3310.fA,x3310.fB]:List Int),([x3310.fB,x3310.fA]:List Int)]:List (List Int)).map e_A2eIi64)))),(80,(i6 s3316.1))]:EL)) (fun(gs3316:List Int) (s3316:Int×(List Int)×(List Int))=>([(1003,bd 30 (e_aFabric a0)),(1021,some (wI_3_1 s3316.2.2)),(3009,some (wI_3_1 (gs3316++s3316.2.1)))]:OL)) (fun(p3437:((List Int)×(List Int))) e E' O'=>e = .exit 6∧∃ gp3437:List Int,Mat B E' O' ([(2,(i6 a2)),(3,(pt 1003)),(7,(.sref 1021 1 0 p3437.2.length)),(9,(.sref 3009 1 gp3437.length p3437.1.length)),(53,(qe_aLink_3 a0.fLinks)),(54,(i6 (a0.fLinks.length:Int))),(55,(i6 s2334.1))]:EL) ([(1003,bd 30 (e_aFabric a0)),(1021,some (wI_3_1 p3437.2)),(3009,some (wI_3_1 (gp3437++p3437.1)))]:OL)) hx3499 (fun gs3316 s3316 y h => ?_) (fun e E' O' hR => ?_) gs2334 (mp [] ((fun(gs3316:List Int) (s3316:Int×(List Int)×(List Int))=>([(2,(i6 a2)),(3,(pt 1003)),(7,(.sref 1021 1 0 s3316.2.2.length)),(9,(.sref 3009 1 gs3316.length s3316.2.1.length)),(53,(qe_aLink_3 a0.fLinks)),(54,(i6 (a0.fLinks.length:Int))),(55,(i6 s2334.1)),(79,(.d (.arr 2 2 (([([x3310.fA,x3310.fB]:List Int),([x3310.fB,x3310.fA]:List Int)]:List (List Int)).map e_A2eIi64)))),(80,(i6 s3316.1))]:EL)) gs2334 (0,s2334.2.1,s2334.2.2)) ((fun(gs3316:List Int) (s3316:Int×(List Int)×(List Int))=>([(1003,bd 30 (e_aFabric a0)),(1021,some (wI_3_1 s3316.2.2)),(3009,some (wI_3_1 (gs3316++s3316.2.1)))]:OL)) gs2334 (0,s2334.2.1,s2334.2.2)) hB)
          ·unfold fabric_reach_L3 at h
           refine sr (SQ tt) ?_
           apply AWp.seq
           apply AWp.cond rfl<;>intro hg3438
           ·have h:=ite_t hg3438 h
            apply AWp.skip
            apply seqQ_n
            apply AWp.seq
            apply AWp.block
            obtain⟨x3439,hx3439,h⟩:=bindS h
            apply sr (cg (OpJ.indexV (el:=(.arr 2 1 (x3439.map (eI .i64)))) underlying104 tyS103 ⟨by rfl,by rfl⟩ (idx_some hx3439).1 (get_map e_A2eIi64 (idx_some hx3439).2) (L rfl) (q 79) (q 80)) rfl (cg (alloc hB tyZ103 (nm:=1013) (by decide) (L rfl)) rfl (cg (sB tyS103 (q 13) (q 82)) rfl cn)))
            apply AWp.seq
            refine AWp.cut h (fun m3456:Bool=>([(2,(i6 a2)),(3,(pt 1003)),(7,(.sref 1021 1 0 s3316.2.2.length)),(9,(.sref 3009 1 gs3316.length s3316.2.1.length)),(13,(pt 1013)),(53,(qe_aLink_3 a0.fLinks)),(54,(i6 (a0.fLinks.length:Int))),(55,(i6 s2334.1)),(79,(.d (.arr 2 2 (([([x3310.fA,x3310.fB]:List Int),([x3310.fB,x3310.fA]:List Int)]:List (List Int)).map e_A2eIi64)))),(80,(i6 s3316.1)),(103,(bo m3456))]:EL)) (fun m3456:Bool=>([(1003,bd 30 (e_aFabric a0)),(1013,bd 103 (.arr 2 1 (x3439.map (eI .i64)))),(1021,some (wI_3_1 s3316.2.2)),(3009,some (wI_3_1 (gs3316++s3316.2.1)))]:OL)) (fun m3456 h E' O' hmat => ?_) (fun j3457 hjj3457 h => ?_)
            ·apply seqQ_n
             refine AWp.ghost hmat ?_
             refine AWp.cutG h (fun(gm3471:List Int) (m3471:(List Int)×(List Int))=>([(2,(i6 a2)),(3,(pt 1003)),(7,(.sref 1021 1 0 m3471.2.length)),(9,(.sref 3009 1 gm3471.length m3471.1.length)),(53,(qe_aLink_3 a0.fLinks)),(54,(i6 (a0.fLinks.length:Int))),(55,(i6 s2334.1)),(79,(.d (.arr 2 2 (([([x3310.fA,x3310.fB]:List Int),([x3310.fB,x3310.fA]:List Int)]:List (List Int)).map e_A2eIi64)))),(80,(i6 s3316.1))]:EL)) (fun(gm3471:List Int) (m3471:(List Int)×(List Int))=>([(1003,bd 30 (e_aFabric a0)),(1021,some (wI_3_1 m3471.2)),(3009,some (wI_3_1 (gm3471++m3471.1)))]:OL)) (fun gm3471 m3471 h E' O' hmat => ?_) (fun j3472 hjj3472 h => ?_)
             ·apply blkQ_n
              apply seqQ_n
              refine AWp.ghost hmat ?_
              refine rg (SQ tt) ?_
              obtain rfl:=oi h
              exact⟨rfl,gm3471,(Mat.trans (mp [] [(2,(i6 a2)),(3,(pt 1003)),(7,(.sref 1021 1 0 m3471.2.length)),(9,(.sref 3009 1 gm3471.length m3471.1.length)),(53,(qe_aLink_3 a0.fLinks)),(54,(i6 (a0.fLinks.length:Int))),(55,(i6 s2334.1)),(79,(.d (.arr 2 2 (([([x3310.fA,x3310.fB]:List Int),([x3310.fB,x3310.fA]:List Int)]:List (List Int)).map e_A2eIi64)))),(80,(i6 (w64 (s3316.1+1))))] [(1003,bd 30 (e_aFabric a0)),(1021,some (wI_3_1 m3471.2)),(3009,some (wI_3_1 (gm3471++m3471.1)))] hB) (mp [] ((fun(gs3316:List Int) (s3316:Int×(List Int)×(List Int))=>([(2,(i6 a2)),(3,(pt 1003)),(7,(.sref 1021 1 0 s3316.2.2.length)),(9,(.sref 3009 1 gs3316.length s3316.2.1.length)),(53,(qe_aLink_3 a0.fLinks)),(54,(i6 (a0.fLinks.length:Int))),(55,(i6 s2334.1)),(79,(.d (.arr 2 2 (([([x3310.fA,x3310.fB]:List Int),([x3310.fB,x3310.fA]:List Int)]:List (List Int)).map e_A2eIi64)))),(80,(i6 s3316.1))]:EL)) gm3471 ((w64 (s3316.1+1)),m3471.1,m3471.2)) ((fun(gs3316:List Int) (s3316:Int×(List Int)×(List Int))=>([(1003,bd 30 (e_aFabric a0)),(1021,some (wI_3_1 s3316.2.2)),(3009,some (wI_3_1 (gs3316++s3316.2.1)))]:OL)) gm3471 ((w64 (s3316.1+1)),m3471.1,m3471.2)) hB))⟩
             ·apply AWp.cond rfl<;>intro hg3473
              ·have h:=ite_t hg3473 h
               obtain⟨hc3474,h⟩:=chk_some h
               obtain⟨x3475,hx3475,h⟩:=bindS h
               obtain⟨hc3476,h⟩:=chk_some h
               obtain⟨x3477,hx3477,h⟩:=bindS h
               obtain⟨_,hx3478,h⟩:=bindS h
               obtain⟨x3479,hx3479,h⟩:=bindS h
               obtain⟨_,hx3480,h⟩:=bindS h
               obtain⟨_,hx3481,h⟩:=bindS h
               apply sd (c (mv hN (q 7)) rfl (c (ov (.ptr 1013 (0+1*1) [1]) (OpJ.indexPA underlying103 tyS3 (and_l hc3474) (and_r hc3474) (L rfl) (q 13) (ii 1))) rfl (c (lb hN 103 _ _ tyS3 (At.arr1 (eI .i64) (idx_some hx3475).2 (At.here _) (by first | rfl | omega)) (q 105)) rfl (c (mv hN (q 7)) rfl (c (ov (.ptr 1013 (0+0*1) [0]) (OpJ.indexPA underlying103 tyS3 (and_l hc3476) (and_r hc3476) (L rfl) (q 13) (ii 0))) rfl (c (lb hN 103 _ _ tyS3 (At.arr1 (eI .i64) (idx_some hx3477).2 (At.here _) (by first | rfl | omega)) (q 108)) rfl (c (OpJ.val (v':=(.ptr 1021 (x3477.toNat*1) [x3477.toNat])) (by simp) (indexS underlying23 tyS3 (idx_some hx3478).1 (by have:=idx_lt hx3478;first | (simpa using this) | ((try simp only [List.length_map] at this);(try simp only [List.length_map]);omega)) (L rfl) (q 107) (q 109))) rfl (c (loadR (e:=3) (sz:=1) tyS3 (get_map (eI .i64) (idx_some hx3479).2) (o:=0) (At.here _) (by rfl) (by rfl) (by rfl) (L rfl) (q 110)) rfl (c (add6 (L rfl) (q 111) (ii 1)) rfl (c (OpJ.val (v':=(.ptr 1021 (x3475.toNat*1) [x3475.toNat])) (by simp) (indexS underlying23 tyS3 (idx_some hx3480).1 (by have:=idx_lt hx3480;first | (simpa using this) | ((try simp only [List.length_map] at this);(try simp only [List.length_map]);omega)) (L rfl) (q 104) (q 106))) rfl (cg (OpJ.storeR (e:=3) (sz:=1) (es':=(s3316.2.2.set x3475.toNat (w64 (x3479+1))).map (eI .i64)) tyS3 (get_map (eI .i64) (idx_some hx3481).2) (o:=0) (SetAt.here _ _) (by rfl) (map_set _ _ _ _) (by rfl) (by rfl) (q 113) (q 112)) rfl cn))))))))))) (by kernel_rfl) (by kernel_rfl)
               obtain⟨hc3482,h⟩:=chk_some h
               obtain⟨x3483,hx3483,h⟩:=bindS h
               obtain⟨hc3484,h⟩:=chk_some h
               refine AWp.ofLW (LW.cons (mv hN (ot 9 (.sref 3009 1 gs3316.length s3316.2.1.length))) rfl (LW.cons (ov (.ptr 1013 (0+1*1) [1]) (OpJ.indexPA underlying103 tyS3 (obj:=(.box 103 (.d (.arr 2 1 (x3439.map (eI .i64)))))) (and_l hc3482) (and_r hc3482) (L rfl) (ot 13 (pt 1013)) (ii 1))) rfl (LW.cons (lb hN 103 (.d (.arr 2 1 (x3439.map (eI .i64)))) (i6 x3483) tyS3 (At.arr1 (eI .i64) (idx_some hx3483).2 (At.here _) (by first | rfl | omega)) (ot 115 (.ptr 1013 (0+1*1) [1]))) rfl (LW.cons (buildSlice underlying23 tyS3 tyZD3 (by rfl) (by decide) (by decide) (Opds.cons (ot 116 (i6 x3483)) Opds.nil) (by kernel_rfl) (es:=([(.int .i64 x3483)]:List D)) (by rfl) (by rfl) (by kernel_rfl) (by simp) (L rfl)) rfl (LW.app hB underlying23 tyE3 1118 (eI .i64) (pre:=gs3316) (q:=s3316.2.1) (ys:=([x3483]:List Int)) hc3484 (L rfl) (ot 114 (.sref 3009 1 gs3316.length s3316.2.1.length)) (ot 117 (qI_1 ([x3483]:List Int))) rfl (fun g3485=>LW.cons (assign (L rfl) (ot 118 (.sref 1118 1 g3485.length ((s3316.2.1++([x3483]:List Int)).length)))) rfl (LW.nil ?_)))))))
               exact hjj3472 g3485 _ h _ _ (Mat.trans (mp [] [(2,(i6 a2)),(3,(pt 1003)),(7,(.sref 1021 1 0 s3316.2.2.length)),(9,(.sref 1118 1 g3485.length ((s3316.2.1++([x3483]:List Int)).length))),(53,(qe_aLink_3 a0.fLinks)),(54,(i6 (a0.fLinks.length:Int))),(55,(i6 s2334.1)),(79,(.d (.arr 2 2 (([([x3310.fA,x3310.fB]:List Int),([x3310.fB,x3310.fA]:List Int)]:List (List Int)).map e_A2eIi64)))),(80,(i6 s3316.1))] [(1003,bd 30 (e_aFabric a0)),(1021,some (wI_3_1 (s3316.2.2.set x3475.toNat (w64 (x3479+1))))),(1118,some (wI_3_1 (g3485++(s3316.2.1++([x3483]:List Int)))))] hB) (Mat.trans (Mat.lenP (Ts:=[(7,(.sref 1021 1 0 ((s3316.2.2.set x3475.toNat (w64 (x3479+1))).length)))]) (Bs:=[]) (TwT.cons (x:=(.sref 1021 1 0 s3316.2.2.length)) (by rfl) (Tw.leaf ⟨_,_,_,_,_,rfl,rfl,(by first | rfl | (simp;done) | (simp;omega) | omega)⟩) TwT.nil) TwB.nil) (mp [(3009,1118)] _ _ hB)))
              ·have h:=ite_f hg3473 h
               apply AWp.skip
               exact hjj3472 gs3316 _ h _ _ (mp [] _ _ hB)
            ·obtain⟨hc3486,h⟩:=chk_some h
             obtain⟨x3487,hx3487,h⟩:=bindS h
             obtain⟨_,hx3488,h⟩:=bindS h
             obtain⟨x3489,hx3489,h⟩:=bindS h
             rcases bft (x3487==x3489) with hg3490 | hg3490
             ·have h:=ite_t hg3490 h
              obtain⟨hc3491,h⟩:=chk_some h
              obtain⟨x3492,hx3492,h⟩:=bindS h
              rcases bft (decide (x3492<(s3316.2.2.length:Int))) with hg3493 | hg3493
              ·have h:=ite_t hg3493 h
               obtain⟨hc3494,h⟩:=chk_some h
               obtain⟨x3495,hx3495,h⟩:=bindS h
               obtain⟨_,hx3496,h⟩:=bindS h
               obtain⟨_,hx3497,h⟩:=bindS h
               apply dr (c (ov (.ptr 1013 (0+0*1) [0]) (OpJ.indexPA underlying103 tyS3 (and_l hc3486) (and_r hc3486) (L rfl) (q 13) (ii 0))) rfl (c (lb hN 103 _ _ tyS3 (At.arr1 (eI .i64) (idx_some hx3487).2 (At.here _) (by first | rfl | omega)) (q 83)) rfl (c (mv hN (q 9)) rfl (c (indexS underlying23 tyS3 (idx_some hx3488).1 (idx_lt hx3488) (L rfl) (q 85) (ii 0)) rfl (c (loadR (e:=3) (sz:=1) tyS3 (get_map (eI .i64) (idx_que hx3489)) (o:=0) (At.here _) (by rfl) (by rfl) (by rfl) (L rfl) (q 86)) rfl (c (eqlI (L rfl) (q 84) (q 87)) rfl (c (OpJ.val (v':=.d (.bool true)) (by rw [hg3490]<;>rfl) (mv hN (q 88))) rfl (c (gd 89 (ov (.ptr 1013 (0+1*1) [1]) (OpJ.indexPA underlying103 tyS3 (and_l hc3491) (and_r hc3491) (L rfl) (q 13) (ii 1)))) rfl (c (gd 89 (lb hN 103 _ _ tyS3 (At.arr1 (eI .i64) (idx_some hx3492).2 (At.here _) (by first | rfl | omega)) (q 90))) rfl (c (gd 89 (mv hN (q 7))) rfl (c (gd 89 (lenS underlying23 (L rfl) (q 92))) rfl (c (gd 89 (lss (L rfl) (q 91) (q 93))) rfl (c (pickT (L rfl) (q 89) (q 94)) rfl (c (OpJ.val (v':=.d (.bool true)) (by rw [hg3493]<;>rfl) (mv hN (q 95))) rfl (c (gd 96 (mv hN (q 7))) rfl (c (gd 96 (ov (.ptr 1013 (0+1*1) [1]) (OpJ.indexPA underlying103 tyS3 (and_l hc3494) (and_r hc3494) (L rfl) (q 13) (ii 1)))) rfl (c (gd 96 (lb hN 103 _ _ tyS3 (At.arr1 (eI .i64) (idx_some hx3495).2 (At.here _) (by first | rfl | omega)) (q 98))) rfl (c (gd 96 (OpJ.val (v':=(.ptr 1021 (x3495.toNat*1) [x3495.toNat])) (by simp) (indexS underlying23 tyS3 (idx_some hx3496).1 (by have:=idx_lt hx3496;first | (simpa using this) | ((try simp only [List.length_map] at this);(try simp only [List.length_map]);omega)) (L rfl) (q 97) (q 99)))) rfl (c (gd 96 (loadR (e:=3) (sz:=1) tyS3 (get_map (eI .i64) (idx_some hx3497).2) (o:=0) (At.here _) (by rfl) (by rfl) (by rfl) (L rfl) (q 100))) rfl (c (gd 96 (lss (L rfl) (q 101) (ii 0))) rfl (c (pickT (L rfl) (q 96) (q 102)) rfl cn))))))))))))))))))))) (by kernel_rfl) (by kernel_rfl)
               exact hjj3457 _ h _ _ (mp [] _ _ hB)
              ·have h:=ite_f hg3493 h
               apply dr (c (ov (.ptr 1013 (0+0*1) [0]) (OpJ.indexPA underlying103 tyS3 (and_l hc3486) (and_r hc3486) (L rfl) (q 13) (ii 0))) rfl (c (lb hN 103 _ _ tyS3 (At.arr1 (eI .i64) (idx_some hx3487).2 (At.here _) (by first | rfl | omega)) (q 83)) rfl (c (mv hN (q 9)) rfl (c (indexS underlying23 tyS3 (idx_some hx3488).1 (idx_lt hx3488) (L rfl) (q 85) (ii 0)) rfl (c (loadR (e:=3) (sz:=1) tyS3 (get_map (eI .i64) (idx_que hx3489)) (o:=0) (At.here _) (by rfl) (by rfl) (by rfl) (L rfl) (q 86)) rfl (c (eqlI (L rfl) (q 84) (q 87)) rfl (c (OpJ.val (v':=.d (.bool true)) (by rw [hg3490]<;>rfl) (mv hN (q 88))) rfl (c (gd 89 (ov (.ptr 1013 (0+1*1) [1]) (OpJ.indexPA underlying103 tyS3 (and_l hc3491) (and_r hc3491) (L rfl) (q 13) (ii 1)))) rfl (c (gd 89 (lb hN 103 _ _ tyS3 (At.arr1 (eI .i64) (idx_some hx3492).2 (At.here _) (by first | rfl | omega)) (q 90))) rfl (c (gd 89 (mv hN (q 7))) rfl (c (gd 89 (lenS underlying23 (L rfl) (q 92))) rfl (c (gd 89 (lss (L rfl) (q 91) (q 93))) rfl (c (pickT (L rfl) (q 89) (q 94)) rfl (c (OpJ.val (v':=.d (.bool false)) (by rw [hg3493]<;>rfl) (mv hN (q 95))) rfl (ks 96 (L rfl) (ks 96 (L rfl) (ks 96 (L rfl) (ks 96 (L rfl) (ks 96 (L rfl) (ks 96 (L rfl) (c (pickF (L rfl) (q 96) (Opd.bool false)) rfl cn))))))))))))))))))))) (by kernel_rfl) (by kernel_rfl)
               exact hjj3457 _ h _ _ (mp [] _ _ hB)
             ·have h:=ite_f hg3490 h
              apply dr (c (ov (.ptr 1013 (0+0*1) [0]) (OpJ.indexPA underlying103 tyS3 (and_l hc3486) (and_r hc3486) (L rfl) (q 13) (ii 0))) rfl (c (lb hN 103 _ _ tyS3 (At.arr1 (eI .i64) (idx_some hx3487).2 (At.here _) (by first | rfl | omega)) (q 83)) rfl (c (mv hN (q 9)) rfl (c (indexS underlying23 tyS3 (idx_some hx3488).1 (idx_lt hx3488) (L rfl) (q 85) (ii 0)) rfl (c (loadR (e:=3) (sz:=1) tyS3 (get_map (eI .i64) (idx_que hx3489)) (o:=0) (At.here _) (by rfl) (by rfl) (by rfl) (L rfl) (q 86)) rfl (c (eqlI (L rfl) (q 84) (q 87)) rfl (c (OpJ.val (v':=.d (.bool false)) (by rw [hg3490]<;>rfl) (mv hN (q 88))) rfl (ks 89 (L rfl) (ks 89 (L rfl) (ks 89 (L rfl) (ks 89 (L rfl) (ks 89 (L rfl) (c (pickF (L rfl) (q 89) (Opd.bool false)) rfl (c (mv hN (q 95)) rfl (ks 96 (L rfl) (ks 96 (L rfl) (ks 96 (L rfl) (ks 96 (L rfl) (ks 96 (L rfl) (ks 96 (L rfl) (c (pickF (L rfl) (q 96) (Opd.bool false)) rfl cn))))))))))))))))))))) (by kernel_rfl) (by kernel_rfl)
              exact hjj3457 _ h _ _ (mp [] _ _ hB)
           ·have h:=ite_f hg3438 h
            apply AWp.exit
            apply seqQ_e
            obtain rfl:=oi h
            exact⟨(fun hc=>by cases hc),rfl,gs3316,(mp [] ((fun gp3437:List Int=>(fun p3437:(List Int)×(List Int)=>([(2,(i6 a2)),(3,(pt 1003)),(7,(.sref 1021 1 0 p3437.2.length)),(9,(.sref 3009 1 gp3437.length p3437.1.length)),(53,(qe_aLink_3 a0.fLinks)),(54,(i6 (a0.fLinks.length:Int))),(55,(i6 s2334.1))]:EL))) gs3316 (s3316.2.1,s3316.2.2)) ((fun gp3437:List Int=>(fun p3437:(List Int)×(List Int)=>([(1003,bd 30 (e_aFabric a0)),(1021,some (wI_3_1 p3437.2)),(3009,some (wI_3_1 (gp3437++p3437.1)))]:OL))) gs3316 (s3316.2.1,s3316.2.2)) hB)⟩
          ·obtain⟨rfl,gp3437,hmat⟩:=hR
           apply blkQ_hit
           apply blkQ_n
           exact hjj3309 gp3437 _ h _ _ (Mat.trans hmat (mp [] _ _ hB))
        ·rcases bft (s2334.1==a2) with hg3500 | hg3500
         ·have h:=ite_t hg3500 h
          refine rg (SQ (fa hg3500 tt)) ?_
          exact hjj3314 _ h _ _ (mp [] _ _ hB)
         ·have h:=ite_f hg3500 h
          obtain⟨r3501,hr3501,h⟩:=bindS h
          refine rg (SQ (fa hg3500 (fa (cl [] (fabric_Works_ac a0 s2334.1 r3501 hr3501)) tt))) ?_
          exact hjj3314 _ h _ _ (mp [] _ _ hB)
      ·have h:=ite_f hg3114 h
       apply AWp.exit
       apply seqQ_e
       obtain rfl:=oi h
       exact⟨(fun hc=>by cases hc),rfl,gs2334,(mp [] ((fun gp3113:List Int=>(fun p3113:(List Int)×(List Int)=>([(2,(i6 a2)),(3,(pt 1003)),(7,(.sref 1021 1 0 p3113.2.length)),(9,(.sref 3009 1 gp3113.length p3113.1.length))]:EL))) gs2334 (s2334.2.1,s2334.2.2)) ((fun gp3113:List Int=>(fun p3113:(List Int)×(List Int)=>([(1003,bd 30 (e_aFabric a0)),(1021,some (wI_3_1 p3113.2)),(3009,some (wI_3_1 (gp3113++p3113.1)))]:OL))) gs2334 (s2334.2.1,s2334.2.2)) hB)⟩
     ·obtain⟨rfl,gp3113,hmat⟩:=hR
      apply blkQ_hit
      apply blkQ_n
      apply seqQ_n
      refine AWp.ghost hmat ?_
      obtain⟨hc3504,h⟩:=chk_some h
      apply rg (c (mv hN (q 9)) rfl (cg (OpJ.cutQ underlying23 tyS3 (eI .i64) (pre:=gp3113) (q:=p3113.1) (ii 1) (of_decide_eq_true (and_l2 hc3504)) (of_decide_eq_true (and_r2 hc3504)) (L rfl) (q 50)) rfl (c (assign (L rfl) (q 51)) rfl cn)))
      obtain rfl:=oi h
      exact⟨rfl,(gp3113++p3113.1.take 1),(Mat.trans (mp [] [(2,(i6 a2)),(3,(pt 1003)),(7,(.sref 1021 1 0 p3113.2.length)),(9,(.sref 3009 1 ((gp3113++p3113.1.take 1).length) ((p3113.1.drop 1).length)))] [(1003,bd 30 (e_aFabric a0)),(1021,some (wI_3_1 p3113.2)),(3009,some (wI_3_1 ((gp3113++p3113.1.take 1)++(p3113.1.drop 1))))] hB) (mp [] ((fun(gs19:List Int) (s19:(List Int)×(List Int))=>([(2,(i6 a2)),(3,(pt 1003)),(7,(.sref 1021 1 0 s19.2.length)),(9,(.sref 3009 1 gs19.length s19.1.length))]:EL)) (gp3113++p3113.1.take 1) ((p3113.1.drop 1),p3113.2)) ((fun(gs19:List Int) (s19:(List Int)×(List Int))=>([(1003,bd 30 (e_aFabric a0)),(1021,some (wI_3_1 s19.2)),(3009,some (wI_3_1 (gs19++s19.1)))]:OL)) (gp3113++p3113.1.take 1) ((p3113.1.drop 1),p3113.2)) hB))⟩
    ·have h:=ite_f hg2333 h
     apply AWp.exit
     apply seqQ_e
     obtain rfl:=oi h
     exact⟨(fun hc=>by cases hc),rfl,(mp [] _ _ hB)⟩
   ·obtain⟨rfl,hmat⟩:=hR
    apply blkQ_hit
    apply seqQ_n
    refine AWp.ghost hmat ?_
    refine sr (SQ tt) ?_
    apply AWp.ret
    obtain rfl:=oi h
    exact rt (Mat.trans (Mat.freezeP (n:=1021) (e:=3) (sz:=1) (es:=p2332.map (eI .i64)) (Ts:=[(6,(qI_1 p2332))]) (Bs:=[]) (by rfl) (TwT.cons (x:=(.sref 1021 1 0 p2332.length)) (by rfl) (FrzL.all (by first | rfl | (simp;done) | (simp;omega) | omega)) TwT.nil) TwB.nil) (mp [] [(6,(qI_1 p2332))] [] hB)) [(qI_1 p2332)] (Res.tmp (by rfl) (by rfl) Res.nil) rfl
def fabric_Distances (a0:aFabric) (a1:Int):Option ((List Int)) :=
 (fabric_reach a0 a1 (-1)).bind fun r1 =>
 some r1
theorem fabric_Distances_ac (a0:aFabric) (a1:Int) (r:(List Int)) (h:fabric_Distances a0 a1=some r):AC Try.prog 58 [(.d (e_aFabric a0)),(.d (.int .i64 a1))] [] (.d (.list 1 (r.map (eI .i64)))) []:=by
 refine AC.of_code2 Try.func58 rfl rfl (Nat.le_of_ble_eq_true (by rfl)) fun B hB hN => ?_
 delta fabric_Distances at h
 refine sr (SQ tt) ?_
 obtain⟨r1,hr1,h⟩:=bindS h
 refine sr (SQ (fa (cl [] (fabric_reach_ac a0 a1 (-1) r1 hr1)) tt)) ?_
 apply AWp.ret
 obtain rfl:=oi h
 exact rt (kp [(4,_)] [] hB rfl rfl (by rfl)) [(qI_1 r1)] (Res.tmp (by rfl) (by rfl) Res.nil) rfl
def forward_other (a0:aLink) (a1:Int):Option (Int×Bool) :=
 (if (a1==a0.fA)=true then
 some (a0.fB,true)
 else
 (if (a1==a0.fB)=true then
 some (a0.fA,true)
 else
 some (0,false)))
theorem forward_other_ac (a0:aLink) (a1:Int) (r:Int×Bool) (h:forward_other a0 a1=some r):AC Try.prog 59 [(.d (e_aLink a0)),(.d (.int .i64 a1))] [] (.tup [(.d (.int .i64 r.1)),(.d (.bool r.2))]) []:=by
 refine ac2 Try.func59 rfl rfl fun B hB hN L => ?_
 delta forward_other at h
 refine sr (SQ tt) ?_
 apply AWp.seq
 refine sr (SQ tt) ?_
 apply AWp.block
 refine sr (SQ tt) ?_
 apply AWp.cond rfl<;>intro hg1
 ·have h:=ite_t hg1 h
  refine sr (SQ tt) ?_
  apply AWp.ret
  apply blkQ_r
  apply seqQ_r
  obtain rfl:=oi h
  exact rt (kp [(4,_),(5,_)] [] hB rfl rfl (by rfl)) [(i6 a0.fB),(bo true)] (Res.tmp (by rfl) (by rfl) (Res.tmp (by rfl) (by rfl) Res.nil)) rfl
 ·have h:=ite_f hg1 h
  refine sr (SQ tt) ?_
  apply AWp.cond rfl<;>intro hg2
  ·have h:=ite_t hg2 h
   refine sr (SQ tt) ?_
   apply AWp.ret
   apply blkQ_r
   apply seqQ_r
   obtain rfl:=oi h
   exact rt (kp [(4,_),(5,_)] [] hB rfl rfl (by rfl)) [(i6 a0.fA),(bo true)] (Res.tmp (by rfl) (by rfl) (Res.tmp (by rfl) (by rfl) Res.nil)) rfl
  ·have h:=ite_f hg2 h
   apply AWp.skip
   apply blkQ_n
   apply seqQ_n
   refine sr (SQ tt) ?_
   apply AWp.ret
   obtain rfl:=oi h
   exact rt (kp [(4,_),(5,_)] [] hB rfl rfl (by rfl)) [(i6 0),(bo false)] (Res.tmp (by rfl) (by rfl) (Res.tmp (by rfl) (by rfl) Res.nil)) rfl
def forward_Way_L1 (a0:aFabric) (r1:(List Int)) (s7:Int×(List Int)) (s175:Int×(List Int)×(List Int)):Option ((((List Int)×(List Int)))⊕(Int×(List Int)×(List Int))) :=
 (if (decide (s175.1<(a0.fLinks.length:Int)))=true then
 (idx a0.fLinks s175.1).bind fun x224 =>
 (forward_other x224 s7.1).bind fun r225 =>
 jn (fun m231:Bool =>
 jn (fun m236:(List Int)×(List Int) =>
 some (.inr ((w64 (s175.1+1)),m236.1,m236.2))) (fun j237 =>
 (if m231=true then
 chk (decide ((s175.2.2++([s175.1]:List Int)).length≤LIM)) <|
 chk (decide ((s175.2.1++([r225.1]:List Int)).length≤LIM)) <|
 j237 ((s175.2.1++([r225.1]:List Int)),(s175.2.2++([s175.1]:List Int)))
 else
 j237 (s175.2.1,s175.2.2)))) (fun j232 =>
 (if (r225.2&&(decide (r225.1<(r1.length:Int))))=true then
 (fabric_Works a0 s175.1).bind fun r242 =>
 (if r242=true then
 (idx r1 r225.1).bind fun x244 =>
 (idx r1 s7.1).bind fun x245 =>
 j232 (x244==(w64 (x245-1)))
 else
 j232 false)
 else
 j232 false))
 else
 some (.inl (s175.2.1,s175.2.2)))
def forward_Way_L0 (a0:aFabric) (a2:Int) (a3:Int) (r1:(List Int)) (s7:Int×(List Int)):Option (((Unit)⊕((List Int)))⊕(Int×(List Int))) :=
 (if (s7.1 != a2)=true then
 (loop (forward_Way_L1 a0 r1 s7) (0,([]:List Int),([]:List Int))).bind fun p222 =>
 (if ((p222.2.length:Int)==0)=true then
 some (.inl (.inl ()))
 else
 chk (decide ((p222.2.length:Int)≠0)) <|
 (idx p222.2 (Int.tmod (maxI 0 a3) (p222.2.length:Int))).bind fun _ =>
 (idx p222.2 (Int.tmod (maxI 0 a3) (p222.2.length:Int))).bind fun x251 =>
 chk (decide ((s7.2++([x251]:List Int)).length≤LIM)) <|
 (idx p222.1 (Int.tmod (maxI 0 a3) (p222.2.length:Int))).bind fun _ =>
 (idx p222.1 (Int.tmod (maxI 0 a3) (p222.2.length:Int))).bind fun x254 =>
 some (.inr (x254,(s7.2++([x251]:List Int)))))
 else
 some (.inl (.inr s7.2)))
def forward_Way (a0:aFabric) (a1:Int) (a2:Int) (a3:Int):Option ((List Int)×Bool) :=
 (fabric_Distances a0 a2).bind fun r1 =>
 jn (fun m4:Bool =>
 (if m4=true then
 some (([]:List Int),false)
 else
 (loop (forward_Way_L0 a0 a2 a3 r1) (a1,([]:List Int))).bind fun x255=>match x255 with
 | (.inl _) =>
  some (([]:List Int),false)
 | (.inr p173) =>
  some (p173,true))) (fun j5 =>
 (if ((decide (a1<0)) || (decide ((r1.length:Int)≤a1)))=true then
 j5 true
 else
 (idx r1 a1).bind fun x258 =>
 j5 (decide (x258<0))))
theorem forward_Way_ac (a0:aFabric) (a1:Int) (a2:Int) (a3:Int) (r:(List Int)×Bool) (h:forward_Way a0 a1 a2 a3=some r):AC Try.prog 38 [(.d (e_aFabric a0)),(.d (.int .i64 a1)),(.d (.int .i64 a2)),(.d (.int .i64 a3))] [] (.tup [(.d (.list 1 (r.1.map (eI .i64)))),(.d (.bool r.2))]) []:=by
 refine ac2 Try.func38 rfl rfl fun B hB hN L => ?_
 delta forward_Way at h
 refine sr (SQ tt) ?_
 obtain⟨r1,hr1,h⟩:=bindS h
 refine sr (SQ (fa (cl [] (fabric_Distances_ac a0 a2 r1 hr1)) tt)) ?_
 apply AWp.seq
 apply AWp.seq
 refine AWp.cut h (fun m4:Bool=>([(1,(i6 a1)),(2,(i6 a2)),(3,(i6 a3)),(4,(pt 1004)),(10,(qI_1 r1)),(37,(bo m4))]:EL)) (fun m4:Bool=>([(1004,bd 30 (e_aFabric a0))]:OL)) (fun m4 h E' O' hmat => ?_) (fun j5 hjj5 h => ?_)
 ·apply seqQ_n
  refine AWp.ghost hmat ?_
  apply AWp.cond rfl<;>intro hg6
  ·have h:=ite_t hg6 h
   refine sr (SQ tt) ?_
   apply AWp.ret
   apply seqQ_r
   obtain rfl:=oi h
   exact rt (Mat.trans (Mat.coeP (Ts:=[(8,(qI_1 ([]:List Int)))]) (Bs:=[]) (TwT.cons (x:=.nils) (by rfl) (Tw.leaf ⟨_,(Co.nils 1),rfl⟩) TwT.nil) TwB.nil) (mp [] [(8,(qI_1 ([]:List Int))),(9,(bo false))] [] hB)) [(qI_1 ([]:List Int)),(bo false)] (Res.tmp (by rfl) (by rfl) (Res.tmp (by rfl) (by rfl) Res.nil)) rfl
  ·have h:=ite_f hg6 h
   apply AWp.skip
   apply seqQ_n
   refine sr (SQ tt) ?_
   apply AWp.seq
   refine sr (SQ tt) ?_
   apply AWp.block
   obtain⟨x255,hx256,h⟩:=bindS h
   refine lg (forward_Way_L0 a0 a2 a3 r1) (fun s7:Int×(List Int)=>([(2,(i6 a2)),(3,(i6 a3)),(4,(pt 1004)),(10,(qI_1 r1)),(11,(.sref 3011 1 0 s7.2.length)),(12,(i6 s7.1))]:EL)) (fun s7:Int×(List Int)=>([(1004,bd 30 (e_aFabric a0)),(3011,some (wI_3_1 s7.2))]:OL)) (fun(x:(Unit)⊕((List Int))) e E' O'=>match x with | (.inl _p)=>e = .ret∧Mat B E' O' ([(8,.nils),(9,(bo false))]:EL) ([]:OL) | (.inr p173)=>e = .exit 0∧Mat B E' O' ([(11,(.sref 3011 1 0 p173.length))]:EL) ([(3011,some (wI_3_1 p173))]:OL)) hx256 (Mat.trans (Mat.beginP (n:=3011) (e:=3) (sz:=1) (Ts:=[(11,(.sref 3011 1 0 0))]) (Bs:=[]) hB (by decide) (by rfl) (by decide) (TwT.cons (x:=.nils) (by rfl) (Tw.leaf ⟨rfl,rfl⟩) TwT.nil) TwB.nil) (mp [] _ _ hB)) (fun s7 y h => ?_) (fun e E' O' hR => ?_)
   ·unfold forward_Way_L0 at h
    apply AWp.seq
    refine sr (SQ tt) ?_
    apply AWp.cond rfl<;>intro hg174
    ·have h:=ite_t hg174 h
     apply AWp.skip
     apply seqQ_n
     apply AWp.block
     refine sr (SQ tt) ?_
     apply AWp.seq
     refine sr (SQ tt) ?_
     apply AWp.block
     obtain⟨p222,hx247,h⟩:=bindS h
     refine lg (forward_Way_L1 a0 r1 s7) (fun s175:Int×(List Int)×(List Int)=>([(2,(i6 a2)),(3,(i6 a3)),(4,(pt 1004)),(10,(qI_1 r1)),(11,(.sref 3011 1 0 s7.2.length)),(12,(i6 s7.1)),(13,(.sref 3013 1 0 s175.2.2.length)),(14,(.sref 3014 1 0 s175.2.1.length)),(43,(qe_aLink_3 a0.fLinks)),(44,(i6 (a0.fLinks.length:Int))),(45,(i6 s175.1))]:EL)) (fun s175:Int×(List Int)×(List Int)=>([(1004,bd 30 (e_aFabric a0)),(3011,some (wI_3_1 s7.2)),(3013,some (wI_3_1 s175.2.2)),(3014,some (wI_3_1 s175.2.1))]:OL)) (fun(p222:((List Int)×(List Int))) e E' O'=>e = .exit 2∧Mat B E' O' ([(2,(i6 a2)),(3,(i6 a3)),(4,(pt 1004)),(10,(qI_1 r1)),(11,(.sref 3011 1 0 s7.2.length)),(13,(.sref 3013 1 0 p222.2.length)),(14,(.sref 3014 1 0 p222.1.length))]:EL) ([(1004,bd 30 (e_aFabric a0)),(3011,some (wI_3_1 s7.2)),(3013,some (wI_3_1 p222.2)),(3014,some (wI_3_1 p222.1))]:OL)) hx247 (Mat.trans (Mat.beginP (n:=3013) (e:=3) (sz:=1) (Ts:=[(13,(.sref 3013 1 0 0))]) (Bs:=[]) hB (by decide) (by rfl) (by decide) (TwT.cons (x:=.nils) (by rfl) (Tw.leaf ⟨rfl,rfl⟩) TwT.nil) TwB.nil) (Mat.trans (Mat.beginP (n:=3014) (e:=3) (sz:=1) (Ts:=[(14,(.sref 3014 1 0 0))]) (Bs:=[]) hB (by decide) (by rfl) (by decide) (TwT.cons (x:=.nils) (by rfl) (Tw.leaf ⟨rfl,rfl⟩) TwT.nil) TwB.nil) (mp [] _ _ hB))) (fun s175 y h => ?_) (fun e E' O' hR => ?_)
     ·unfold forward_Way_L1 at h
      refine sr (SQ tt) ?_
      apply AWp.seq
      apply AWp.cond rfl<;>intro hg223
      ·have h:=ite_t hg223 h
       apply AWp.skip
       apply seqQ_n
       apply AWp.seq
       apply AWp.block
       obtain⟨x224,hx224,h⟩:=bindS h
       refine sr (SQ (fa hx224 tt)) ?_
       obtain⟨r225,hr225,h⟩:=bindS h
       refine sr (SQ (fa (cl [] (forward_other_ac x224 s7.1 r225 hr225)) tt)) ?_
       apply AWp.seq
       refine AWp.cut h (fun m231:Bool=>([(2,(i6 a2)),(3,(i6 a3)),(4,(pt 1004)),(10,(qI_1 r1)),(11,(.sref 3011 1 0 s7.2.length)),(12,(i6 s7.1)),(13,(.sref 3013 1 0 s175.2.2.length)),(14,(.sref 3014 1 0 s175.2.1.length)),(15,(i6 s175.1)),(17,(i6 r225.1)),(43,(qe_aLink_3 a0.fLinks)),(44,(i6 (a0.fLinks.length:Int))),(45,(i6 s175.1)),(79,(bo m231))]:EL)) (fun m231:Bool=>([(1004,bd 30 (e_aFabric a0)),(3011,some (wI_3_1 s7.2)),(3013,some (wI_3_1 s175.2.2)),(3014,some (wI_3_1 s175.2.1))]:OL)) (fun m231 h E' O' hmat => ?_) (fun j232 hjj232 h => ?_)
       ·apply seqQ_n
        refine AWp.ghost hmat ?_
        refine AWp.cut h (fun m236:(List Int)×(List Int)=>([(2,(i6 a2)),(3,(i6 a3)),(4,(pt 1004)),(10,(qI_1 r1)),(11,(.sref 3011 1 0 s7.2.length)),(12,(i6 s7.1)),(13,(.sref 3013 1 0 m236.2.length)),(14,(.sref 3014 1 0 m236.1.length)),(43,(qe_aLink_3 a0.fLinks)),(44,(i6 (a0.fLinks.length:Int))),(45,(i6 s175.1))]:EL)) (fun m236:(List Int)×(List Int)=>([(1004,bd 30 (e_aFabric a0)),(3011,some (wI_3_1 s7.2)),(3013,some (wI_3_1 m236.2)),(3014,some (wI_3_1 m236.1))]:OL)) (fun m236 h E' O' hmat => ?_) (fun j237 hjj237 h => ?_)
        ·apply blkQ_n
         apply seqQ_n
         refine AWp.ghost hmat ?_
         refine rg (SQ tt) ?_
         obtain rfl:=oi h
         exact⟨rfl,(mp [] _ _ hB)⟩
        ·apply AWp.cond rfl<;>intro hg238
         ·have h:=ite_t hg238 h
          obtain⟨hc239,h⟩:=chk_some h
          obtain⟨hc240,h⟩:=chk_some h
          refine rg (SQ (fa hc239 (fa hc240 tt))) ?_
          exact hjj237 _ h _ _ (mp [(3013,1083),(3014,1087)] _ _ hB)
         ·have h:=ite_f hg238 h
          apply AWp.skip
          exact hjj237 _ h _ _ (mp [] _ _ hB)
       ·rcases bft (r225.2&&(decide (r225.1<(r1.length:Int)))) with hg241 | hg241
        ·have h:=ite_t hg241 h
         obtain⟨r242,hr242,h⟩:=bindS h
         rcases bft r242 with hg243 | hg243
         ·have h:=ite_t hg243 h
          obtain⟨_,hx244,h⟩:=bindS h
          obtain⟨_,hx245,h⟩:=bindS h
          refine drS (SQ (fa hg241 (fa (cl [] (fabric_Works_ac a0 s175.1 r242 hr242)) (fa hg243 (fa hx244 (fa hx245 tt)))))) ?_
          exact hjj232 _ h _ _ (mp [] _ _ hB)
         ·have h:=ite_f hg243 h
          refine drS (SQ (fa hg241 (fa (cl [] (fabric_Works_ac a0 s175.1 r242 hr242)) (fa hg243 tt)))) ?_
          exact hjj232 _ h _ _ (mp [] _ _ hB)
        ·have h:=ite_f hg241 h
         refine drS (SQ (fa hg241 tt)) ?_
         exact hjj232 _ h _ _ (mp [] _ _ hB)
      ·have h:=ite_f hg223 h
       apply AWp.exit
       apply seqQ_e
       obtain rfl:=oi h
       exact⟨(fun hc=>by cases hc),rfl,(mp [] _ _ hB)⟩
     ·obtain⟨rfl,hmat⟩:=hR
      apply blkQ_hit
      apply seqQ_n
      refine AWp.ghost hmat ?_
      apply AWp.seq
      refine sr (SQ tt) ?_
      apply AWp.cond rfl<;>intro hg248
      ·have h:=ite_t hg248 h
       refine sr (SQ tt) ?_
       apply AWp.ret
       apply seqQ_r
       apply blkQ_r
       obtain rfl:=oi h
       exact⟨(fun hc=>by cases hc),rfl,(mp [] _ _ hB)⟩
      ·have h:=ite_f hg248 h
       apply AWp.skip
       apply seqQ_n
       obtain⟨hc249,h⟩:=chk_some h
       refine sr (SQ (fa hc249 tt)) ?_
       obtain⟨_,hx250,h⟩:=bindS h
       obtain⟨_,hx251,h⟩:=bindS h
       obtain⟨hc252,h⟩:=chk_some h
       obtain⟨_,hx253,h⟩:=bindS h
       obtain⟨_,hx254,h⟩:=bindS h
       refine drS (SQ (fa hx250 (fa hx251 (fa hc252 (fa hx253 (fa hx254 tt)))))) ?_
       apply blkQ_n
       obtain rfl:=oi h
       exact⟨rfl,(mp [(3011,1103)] _ _ hB)⟩
    ·have h:=ite_f hg174 h
     apply AWp.exit
     apply seqQ_e
     obtain rfl:=oi h
     exact⟨(fun hc=>by cases hc),rfl,(mp [] _ _ hB)⟩
   ·rcases x255 with _ | p173
    ·obtain⟨rfl,hmat⟩:=hR
     apply blkQ_r
     apply seqQ_r
     obtain rfl:=oi h
     exact rt (Mat.trans hmat (Mat.trans (Mat.coeP (Ts:=[(8,(qI_1 ([]:List Int)))]) (Bs:=[]) (TwT.cons (x:=.nils) (by rfl) (Tw.leaf ⟨_,(Co.nils 1),rfl⟩) TwT.nil) TwB.nil) (mp [] [(8,(qI_1 ([]:List Int))),(9,(bo false))] [] hB))) [(qI_1 ([]:List Int)),(bo false)] (Res.tmp (by rfl) (by rfl) (Res.tmp (by rfl) (by rfl) Res.nil)) rfl
    ·obtain⟨rfl,hmat⟩:=hR
     apply blkQ_hit
     apply seqQ_n
     refine AWp.ghost hmat ?_
     refine sr (SQ tt) ?_
     apply AWp.ret
     obtain rfl:=oi h
     exact rt (Mat.trans (Mat.freezeP (n:=3011) (e:=3) (sz:=1) (es:=p173.map (eI .i64)) (Ts:=[(8,(qI_1 p173))]) (Bs:=[]) (by rfl) (TwT.cons (x:=(.sref 3011 1 0 p173.length)) (by rfl) (FrzL.all (by first | rfl | (simp;done) | (simp;omega) | omega)) TwT.nil) TwB.nil) (mp [] [(8,(qI_1 p173)),(9,(bo true))] [] hB)) [(qI_1 p173),(bo true)] (Res.tmp (by rfl) (by rfl) (Res.tmp (by rfl) (by rfl) Res.nil)) rfl
 ·rcases bft ((decide (a1<0)) || (decide ((r1.length:Int)≤a1))) with hg257 | hg257
  ·have h:=ite_t hg257 h
   refine rg (SQ (fa hg257 tt)) ?_
   exact hjj5 _ h _ _ (mp [] _ _ hB)
  ·have h:=ite_f hg257 h
   obtain⟨_,hx258,h⟩:=bindS h
   refine rg (SQ (fa hg257 (fa hx258 tt))) ?_
   exact hjj5 _ h _ _ (mp [] _ _ hB)
def plan_Shed_1_L0 (a0:(List Int)) (a1:aFabric) (s1:Int):Option (((Unit)⊕(Unit))⊕(Int)) :=
 (if (decide (s1<(a0.length:Int)))=true then
 (idx a0 s1).bind fun _ =>
 (idx a0 s1).bind fun x16 =>
 (idx a1.fLinks s1).bind fun x17 =>
 (if (decide ((w64 (1000*x17.fCapacity))<x16))=true then
 some (.inl (.inl ()))
 else
 some (.inr (w64 (s1+1))))
 else
 some (.inl (.inr ())))
def plan_Shed_1 (a0:(List Int)) (a1:aFabric):Option (Bool×(List Int)) :=
 (loop (plan_Shed_1_L0 a0 a1) 0).bind fun x19=>match x19 with
 | (.inl _) =>
  some (false,a0)
 | (.inr _) =>
  some (true,a0)
theorem plan_Shed_1_ac (a0:(List Int)) (a1:aFabric) (r:Bool×(List Int)) (h:plan_Shed_1 a0 a1=some r):AC Try.prog 39 [(pt 0),(pt 2)] [(0,(.box 23 (.sref 1 1 0 a0.length))),(1,(.row 3 1 (a0.map (eI .i64)))),(2,(.box 30 (.d (e_aFabric a1))))] (.d (.bool r.1)) [(1,none),(0,some (.box 23 (.sref 950000 1 0 r.2.length))),(2,bd 30 (e_aFabric a1)),(950000,some (.row 3 1 (r.2.map (eI .i64))))]:=by
 refine ac2 Try.func39 rfl rfl fun B hB hN L => ?_
 delta plan_Shed_1 at h
 refine sr (SQ tt) ?_
 apply AWp.seq
 refine sr (SQ tt) ?_
 apply AWp.block
 obtain⟨x19,hx20,h⟩:=bindS h
 refine lg (plan_Shed_1_L0 a0 a1) (fun s1:Int=>([(1,(pt 2)),(5,(.sref 1 1 0 a0.length)),(6,(i6 (a0.length:Int))),(7,(i6 s1))]:EL)) (fun s1:Int=>([(0,some (.box 23 (.sref 1 1 0 a0.length))),(1,some (wI_3_1 a0)),(2,bd 30 (e_aFabric a1))]:OL)) (fun(x:(Unit)⊕(Unit)) e E' O'=>match x with | (.inl _p)=>e = .ret∧Mat B E' O' ([(2,(bo false))]:EL) ([(0,some (.box 23 (.sref 1 1 0 a0.length))),(1,some (wI_3_1 a0)),(2,bd 30 (e_aFabric a1))]:OL) | (.inr _p)=>e = .exit 0∧Mat B E' O' ([]:EL) ([(0,some (.box 23 (.sref 1 1 0 a0.length))),(1,some (wI_3_1 a0)),(2,bd 30 (e_aFabric a1))]:OL)) hx20 (mp [] _ _ hB) (fun s1 y h => ?_) (fun e E' O' hR => ?_)
 ·unfold plan_Shed_1_L0 at h
  refine sr (SQ tt) ?_
  apply AWp.seq
  apply AWp.cond rfl<;>intro hg14
  ·have h:=ite_t hg14 h
   apply AWp.skip
   apply seqQ_n
   apply AWp.seq
   apply AWp.block
   obtain⟨_,hx15,h⟩:=bindS h
   obtain⟨_,hx16,h⟩:=bindS h
   refine sr (SQ (fa hx15 (fa hx16 tt))) ?_
   obtain⟨_,hx17,h⟩:=bindS h
   refine sr (SQ (fa hx17 tt)) ?_
   apply AWp.cond rfl<;>intro hg18
   ·have h:=ite_t hg18 h
    refine sr (SQ tt) ?_
    apply AWp.ret
    apply blkQ_r
    apply seqQ_r
    obtain rfl:=oi h
    exact⟨(fun hc=>by cases hc),rfl,(mp [] _ _ hB)⟩
   ·have h:=ite_f hg18 h
    apply AWp.skip
    apply blkQ_n
    apply seqQ_n
    refine rg (SQ tt) ?_
    obtain rfl:=oi h
    exact⟨rfl,(mp [] _ _ hB)⟩
  ·have h:=ite_f hg14 h
   apply AWp.exit
   apply seqQ_e
   obtain rfl:=oi h
   exact⟨(fun hc=>by cases hc),rfl,(mp [] _ _ hB)⟩
 ·rcases x19 with _ | _
  ·obtain⟨rfl,hmat⟩:=hR
   apply blkQ_r
   apply seqQ_r
   obtain rfl:=oi h
   exact rt (Mat.trans hmat (mp [(950000,1)] [(2,(bo false))] [(0,some (.box 23 (.sref 950000 1 0 a0.length))),(2,bd 30 (e_aFabric a1)),(950000,some (wI_3_1 a0))] hB)) [(bo false)] (Res.tmp (by rfl) (by rfl) Res.nil) rfl
  ·obtain⟨rfl,hmat⟩:=hR
   apply blkQ_hit
   apply seqQ_n
   refine AWp.ghost hmat ?_
   refine sr (SQ tt) ?_
   apply AWp.ret
   obtain rfl:=oi h
   exact rt (mp [(950000,1)] [(2,(bo true))] [(0,some (.box 23 (.sref 950000 1 0 a0.length))),(2,bd 30 (e_aFabric a1)),(950000,some (wI_3_1 a0))] hB) [(bo true)] (Res.tmp (by rfl) (by rfl) Res.nil) rfl
def plan_Shed_L1 (x75:aLoad) (r76:(List Int)×Bool) (s81:Int×(List Int)):Option ((((List Int)))⊕(Int×(List Int))) :=
 (if (decide (s81.1<(r76.1.length:Int)))=true then
 (idx r76.1 s81.1).bind fun x96 =>
 (idx s81.2 x96).bind fun _ =>
 (idx s81.2 x96).bind fun x98 =>
 (idx s81.2 x96).bind fun _ =>
 (idx s81.2 x96).bind fun _ =>
 some (.inr ((w64 (s81.1+1)),(s81.2.set x96.toNat (w64 (x98+x75.fRate)))))
 else
 some (.inl s81.2))
def plan_Shed_L0 (a1:(List aLoad)) (r8:aFabric) (s12:Int×(List Int)×(List (List Int))×(List Bool)):Option ((((List Int)×(List (List Int))×(List Bool)))⊕(Int×(List Int)×(List (List Int))×(List Bool))) :=
 (if (decide (s12.1<(a1.length:Int)))=true then
 (idx a1 s12.1).bind fun x75 =>
 (forward_Way r8 x75.fA x75.fB s12.1).bind fun r76 =>
 (idx s12.2.2.1 s12.1).bind fun _ =>
 (idx s12.2.2.1 s12.1).bind fun _ =>
 (idx s12.2.2.2 s12.1).bind fun _ =>
 (idx s12.2.2.2 s12.1).bind fun _ =>
 (loop (plan_Shed_L1 x75 r76) (0,s12.2.1)).bind fun p94 =>
 some (.inr ((w64 (s12.1+1)),p94,(s12.2.2.1.set s12.1.toNat r76.1),(s12.2.2.2.set s12.1.toNat (!r76.2))))
 else
 some (.inl (s12.2.1,s12.2.2.1,s12.2.2.2)))
def plan_Shed_L3 (a1:(List aLoad)) (x296:Int) (x305:(List Int)) (s306:Int×(List Int)):Option ((((List Int)))⊕(Int×(List Int))) :=
 (if (decide (s306.1<(x305.length:Int)))=true then
 (idx x305 s306.1).bind fun x323 =>
 (idx s306.2 x323).bind fun _ =>
 (idx s306.2 x323).bind fun x325 =>
 (idx a1 x296).bind fun x326 =>
 (idx s306.2 x323).bind fun _ =>
 (idx s306.2 x323).bind fun _ =>
 some (.inr ((w64 (s306.1+1)),(s306.2.set x323.toNat (w64 (x325-x326.fRate)))))
 else
 some (.inl s306.2))
def plan_Shed_L2 (a0:aFabric) (a1:(List aLoad)) (a2:(List Int)) (p73:(List Int)×(List (List Int))×(List Bool)) (s105:Int×(List Int)×(List Bool)):Option ((((List Bool)))⊕(Int×(List Int)×(List Bool))) :=
 (if (decide (s105.1<(a2.length:Int)))=true then
 jn (fun m294:(List Int)×(List Bool) =>
 some (.inr ((w64 (s105.1+1)),m294.1,m294.2))) (fun j295 =>
 (idx a2 s105.1).bind fun x296 =>
 (idx s105.2.2 x296).bind fun _ =>
 (idx s105.2.2 x296).bind fun x298 =>
 (if x298=true then
 j295 (s105.2.1,s105.2.2)
 else
 (plan_Shed_1 s105.2.1 a0).bind fun r300 =>
 (if r300.1=true then
 some (.inl s105.2.2)
 else
 (idx s105.2.2 x296).bind fun _ =>
 (idx s105.2.2 x296).bind fun _ =>
 (idx p73.2.1 x296).bind fun _ =>
 (idx p73.2.1 x296).bind fun x305 =>
 (loop (plan_Shed_L3 a1 x296 x305) (0,r300.2)).bind fun p321 =>
 j295 (p321,(s105.2.2.set x296.toNat true)))))
 else
 some (.inl s105.2.2))
def plan_Shed_L4 (p256:(List Bool)) (s333:Int×(List Int)):Option ((((List Int)))⊕(Int×(List Int))) :=
 (if (decide (s333.1<(p256.length:Int)))=true then
 (idx p256 s333.1).bind fun _ =>
 (idx p256 s333.1).bind fun x355 =>
 jn (fun m358:(List Int) =>
 some (.inr ((w64 (s333.1+1)),m358))) (fun j359 =>
 (if x355=true then
 chk (decide ((s333.2++([s333.1]:List Int)).length≤LIM)) <|
 j359 (s333.2++([s333.1]:List Int))
 else
 j359 s333.2))
 else
 some (.inl s333.2))
def plan_Shed (a0:aFabric) (a1:(List aLoad)) (a2:(List Int)) (a3:(List aItem)):Option ((List Int)×Int) :=
 jn (fun m5:Bool =>
 (if m5=true then
 some (([]:List Int),1)
 else
 (drain_Without a0 a3).bind fun r8 =>
 chk ((decide (0≤(a1.length:Int))&&decide ((a1.length:Int)≤(a1.length:Int))&&decide ((a1.length:Int)≤(LIM:Int)))) <|
 chk ((decide (0≤(a1.length:Int))&&decide ((a1.length:Int)≤(a1.length:Int))&&decide ((a1.length:Int)≤(LIM:Int)))) <|
 chk ((decide (0≤(a0.fLinks.length:Int))&&decide ((a0.fLinks.length:Int)≤(a0.fLinks.length:Int))&&decide ((a0.fLinks.length:Int)≤(LIM:Int)))) <|
 (loop (plan_Shed_L0 a1 r8) (0,(List.replicate (a0.fLinks.length:Int).toNat 0),(List.replicate (a1.length:Int).toNat ([]:List Int)),(List.replicate (a1.length:Int).toNat false))).bind fun p73 =>
 (loop (plan_Shed_L2 a0 a1 a2 p73) (0,p73.1,p73.2.2)).bind fun p256 =>
 (loop (plan_Shed_L4 p256) (0,([]:List Int))).bind fun p352 =>
 some (p352,0))) (fun j6 =>
 (drain_Valid a0 a1 a3).bind fun r364 =>
 (if (!r364)=true then
 j6 true
 else
 (plan_permitted a1 a2).bind fun r366 =>
 j6 (!r366)))
theorem plan_Shed_ac (a0:aFabric) (a1:(List aLoad)) (a2:(List Int)) (a3:(List aItem)) (r:(List Int)×Int) (h:plan_Shed a0 a1 a2 a3=some r):AC Try.prog 14 [(.d (e_aFabric a0)),(.d (.list 3 (a1.map e_aLoad))),(.d (.list 1 (a2.map (eI .i64)))),(.d (.list 2 (a3.map e_aItem)))] [] (.tup [(.d (.list 1 (r.1.map (eI .i64)))),(.d (.int .i64 r.2))]) []:=by
 refine ac2 Try.func14 rfl rfl fun B hB hN L => ?_
 delta plan_Shed at h
 refine sr (SQ tt) ?_
 apply AWp.seq
 apply AWp.seq
 refine AWp.cut h (fun m5:Bool=>([(1,(qe_aLoad_3 a1)),(2,(qI_1 a2)),(3,(qe_aItem_2 a3)),(4,(pt 1004)),(38,(bo m5))]:EL)) (fun m5:Bool=>([(1004,bd 30 (e_aFabric a0))]:OL)) (fun m5 h E' O' hmat => ?_) (fun j6 hjj6 h => ?_)
 ·apply seqQ_n
  refine AWp.ghost hmat ?_
  apply AWp.cond rfl<;>intro hg7
  ·have h:=ite_t hg7 h
   refine sr (SQ tt) ?_
   apply AWp.ret
   apply seqQ_r
   obtain rfl:=oi h
   exact rt (Mat.trans (Mat.coeP (Ts:=[(8,(qI_1 ([]:List Int)))]) (Bs:=[]) (TwT.cons (x:=.nils) (by rfl) (Tw.leaf ⟨_,(Co.nils 1),rfl⟩) TwT.nil) TwB.nil) (mp [] [(8,(qI_1 ([]:List Int))),(9,(i6 1))] [] hB)) [(qI_1 ([]:List Int)),(i6 1)] (Res.tmp (by rfl) (by rfl) (Res.tmp (by rfl) (by rfl) Res.nil)) rfl
  ·have h:=ite_f hg7 h
   apply AWp.skip
   apply seqQ_n
   obtain⟨r8,hr8,h⟩:=bindS h
   refine sr (SQ (fa (cl [] (drain_Without_ac a0 a3 r8 hr8)) tt)) ?_
   obtain⟨hc9,h⟩:=chk_some h
   refine sr (SQ (fa hc9 tt)) ?_
   obtain⟨hc10,h⟩:=chk_some h
   apply sr (c (mv hN (q 1)) rfl (c (OpJ.val (v':=(i6 (a1.length:Int))) (by simp) (lenD underlying31 (L rfl) (q 45))) rfl (cg (OpJ.make hB underlying38 tyE23 tyZD23 (by rfl) (nm:=1047) (by decide) (of_decide_eq_true (and_l2 (and_l2 hc10))) (of_decide_eq_true (and_r2 (and_l2 hc10))) (lim_mul (of_decide_eq_true (and_r2 hc10)) (by decide)) (lim_le (of_decide_eq_true (and_r2 hc10))) (L rfl) (es:=(List.replicate (a1.length:Int).toNat ([]:List Int)).map e_LeIi64) (by rw [List.map_replicate];rfl) (len:=(List.replicate (a1.length:Int).toNat ([]:List Int)).length) (by simp) (q 46) (q 46)) rfl (c (assign (L rfl) (q 47)) rfl cn))))
   obtain⟨hc11,h⟩:=chk_some h
   refine sr (SQ (fa hc11 tt)) ?_
   apply AWp.seq
   refine sr (SQ tt) ?_
   apply AWp.block
   obtain⟨p73,hx104,h⟩:=bindS h
   refine lg (plan_Shed_L0 a1 r8) (fun s12:Int×(List Int)×(List (List Int))×(List Bool)=>([(1,(qe_aLoad_3 a1)),(2,(qI_1 a2)),(4,(pt 1004)),(10,(pt 1010)),(11,(.sref 1044 1 0 s12.2.2.2.length)),(12,(.sref 1047 1 0 s12.2.2.1.length)),(13,(pt 1013)),(52,(qe_aLoad_3 a1)),(53,(i6 (a1.length:Int))),(54,(i6 s12.1))]:EL)) (fun s12:Int×(List Int)×(List (List Int))×(List Bool)=>([(1004,bd 30 (e_aFabric a0)),(1010,bd 30 (e_aFabric r8)),(1013,some (.box 23 (.sref 1051 1 0 s12.2.1.length))),(1044,some (.row 4 1 (s12.2.2.2.map eB))),(1047,some (.row 23 1 (s12.2.2.1.map e_LeIi64))),(1051,some (wI_3_1 s12.2.1))]:OL)) (fun(p73:((List Int)×(List (List Int))×(List Bool))) e E' O'=>e = .exit 0∧Mat B E' O' ([(1,(qe_aLoad_3 a1)),(2,(qI_1 a2)),(4,(pt 1004)),(11,(.sref 1044 1 0 p73.2.2.length)),(12,(.sref 1047 1 0 p73.2.1.length)),(13,(pt 1013))]:EL) ([(1004,bd 30 (e_aFabric a0)),(1013,some (.box 23 (.sref 1051 1 0 p73.1.length))),(1044,some (.row 4 1 (p73.2.2.map eB))),(1047,some (.row 23 1 (p73.2.1.map e_LeIi64))),(1051,some (wI_3_1 p73.1))]:OL)) hx104 (mp [] _ _ hB) (fun s12 y h => ?_) (fun e E' O' hR => ?_)
   ·unfold plan_Shed_L0 at h
    refine sr (SQ tt) ?_
    apply AWp.seq
    apply AWp.cond rfl<;>intro hg74
    ·have h:=ite_t hg74 h
     apply AWp.skip
     apply seqQ_n
     apply AWp.seq
     apply AWp.block
     obtain⟨x75,hx75,h⟩:=bindS h
     refine sr (SQ (fa hx75 tt)) ?_
     obtain⟨r76,hr76,h⟩:=bindS h
     refine sr (SQ (fa (cl [] (forward_Way_ac r8 x75.fA x75.fB s12.1 r76 hr76)) tt)) ?_
     obtain⟨_,hx77,h⟩:=bindS h
     obtain⟨_,hx78,h⟩:=bindS h
     obtain⟨_,hx79,h⟩:=bindS h
     obtain⟨_,hx80,h⟩:=bindS h
     apply sr (c (mv hN (q 12)) rfl (c (mv hN (q 14)) rfl (c (mv hN (q 11)) rfl (c (mv hN (q 14)) rfl (c (mv hN (q 16)) rfl (c (mv hN (q 17)) rfl (c (OpJ.not (L rfl) (q 74)) rfl (c (OpJ.val (v':=(.ptr 1047 (s12.1.toNat*1) [s12.1.toNat])) (by simp) (indexS underlying38 tyS23 (idx_some hx77).1 (by have:=idx_lt hx77;first | (simpa using this) | ((try simp only [List.length_map] at this);(try simp only [List.length_map]);omega)) (L rfl) (q 69) (q 70))) rfl (cg (OpJ.storeR (e:=23) (sz:=1) (es':=(s12.2.2.1.set s12.1.toNat r76.1).map e_LeIi64) tyS23 (get_map e_LeIi64 (idx_some hx78).2) (o:=0) (SetAt.here _ _) (by rfl) (map_set _ _ _ _) (by rfl) (by rfl) (q 76) (q 73)) rfl (c (OpJ.val (v':=(.ptr 1044 (s12.1.toNat*1) [s12.1.toNat])) (by simp) (indexS underlying28 tyS4 (idx_some hx79).1 (by have:=idx_lt hx79;first | (simpa using this) | ((try simp only [List.length_map] at this);(try simp only [List.length_map]);omega)) (L rfl) (q 71) (q 72))) rfl (cg (OpJ.storeR (e:=4) (sz:=1) (es':=(s12.2.2.2.set s12.1.toNat (!r76.2)).map eB) tyS4 (get_map eB (idx_some hx80).2) (o:=0) (SetAt.here _ _) (by rfl) (map_set _ _ _ _) (by rfl) (by rfl) (q 77) (q 75)) rfl cn)))))))))))
     refine sr (SQ tt) ?_
     apply AWp.block
     obtain⟨p94,hx102,h⟩:=bindS h
     refine lg (plan_Shed_L1 x75 r76) (fun s81:Int×(List Int)=>([(1,(qe_aLoad_3 a1)),(2,(qI_1 a2)),(4,(pt 1004)),(10,(pt 1010)),(11,(.sref 1044 1 0 ((s12.2.2.2.set s12.1.toNat (!r76.2)).length))),(12,(.sref 1047 1 0 ((s12.2.2.1.set s12.1.toNat r76.1).length))),(13,(pt 1013)),(15,(pt 1015)),(52,(qe_aLoad_3 a1)),(53,(i6 (a1.length:Int))),(54,(i6 s12.1)),(78,(qI_1 r76.1)),(79,(i6 (r76.1.length:Int))),(80,(i6 s81.1))]:EL)) (fun s81:Int×(List Int)=>([(1004,bd 30 (e_aFabric a0)),(1010,bd 30 (e_aFabric r8)),(1013,some (.box 23 (.sref 1051 1 0 s81.2.length))),(1015,bd 59 (e_aLoad x75)),(1044,some (.row 4 1 ((s12.2.2.2.set s12.1.toNat (!r76.2)).map eB))),(1047,some (.row 23 1 ((s12.2.2.1.set s12.1.toNat r76.1).map e_LeIi64))),(1051,some (wI_3_1 s81.2))]:OL)) (fun(p94:((List Int))) e E' O'=>e = .exit 2∧Mat B E' O' ([(1,(qe_aLoad_3 a1)),(2,(qI_1 a2)),(4,(pt 1004)),(10,(pt 1010)),(11,(.sref 1044 1 0 ((s12.2.2.2.set s12.1.toNat (!r76.2)).length))),(12,(.sref 1047 1 0 ((s12.2.2.1.set s12.1.toNat r76.1).length))),(13,(pt 1013)),(52,(qe_aLoad_3 a1)),(53,(i6 (a1.length:Int))),(54,(i6 s12.1))]:EL) ([(1004,bd 30 (e_aFabric a0)),(1010,bd 30 (e_aFabric r8)),(1013,some (.box 23 (.sref 1051 1 0 p94.length))),(1044,some (.row 4 1 ((s12.2.2.2.set s12.1.toNat (!r76.2)).map eB))),(1047,some (.row 23 1 ((s12.2.2.1.set s12.1.toNat r76.1).map e_LeIi64))),(1051,some (wI_3_1 p94))]:OL)) hx102 (Mat.trans (Mat.lenP (Ts:=[(11,(.sref 1044 1 0 ((s12.2.2.2.set s12.1.toNat (!r76.2)).length)))]) (Bs:=[]) (TwT.cons (x:=(.sref 1044 1 0 s12.2.2.2.length)) (by rfl) (Tw.leaf ⟨_,_,_,_,_,rfl,rfl,(by first | rfl | (simp;done) | (simp;omega) | omega)⟩) TwT.nil) TwB.nil) (Mat.trans (Mat.lenP (Ts:=[(12,(.sref 1047 1 0 ((s12.2.2.1.set s12.1.toNat r76.1).length)))]) (Bs:=[]) (TwT.cons (x:=(.sref 1047 1 0 s12.2.2.1.length)) (by rfl) (Tw.leaf ⟨_,_,_,_,_,rfl,rfl,(by first | rfl | (simp;done) | (simp;omega) | omega)⟩) TwT.nil) TwB.nil) (mp [] _ _ hB))) (fun s81 y h => ?_) (fun e E' O' hR => ?_)
     ·unfold plan_Shed_L1 at h
      refine sr (SQ tt) ?_
      apply AWp.seq
      apply AWp.cond rfl<;>intro hg95
      ·have h:=ite_t hg95 h
       apply AWp.skip
       apply seqQ_n
       apply AWp.seq
       apply AWp.block
       obtain⟨x96,hx96,h⟩:=bindS h
       refine sr (SQ (fa hx96 tt)) ?_
       obtain⟨_,hx97,h⟩:=bindS h
       obtain⟨x98,hx98,h⟩:=bindS h
       obtain⟨_,hx99,h⟩:=bindS h
       obtain⟨_,hx100,h⟩:=bindS h
       refine drS (SQ (fa hx97 (fa hx98 (fa hx99 (fa hx100 (fa (sv (w64 (x98+x75.fRate))) tt)))))) ?_
       apply blkQ_n
       apply seqQ_n
       refine rg (SQ tt) ?_
       obtain rfl:=oi h
       exact⟨rfl,(Mat.trans (mp [] [(1,(qe_aLoad_3 a1)),(2,(qI_1 a2)),(4,(pt 1004)),(10,(pt 1010)),(11,(.sref 1044 1 0 ((s12.2.2.2.set s12.1.toNat (!r76.2)).length))),(12,(.sref 1047 1 0 ((s12.2.2.1.set s12.1.toNat r76.1).length))),(13,(pt 1013)),(15,(pt 1015)),(52,(qe_aLoad_3 a1)),(53,(i6 (a1.length:Int))),(54,(i6 s12.1)),(78,(qI_1 r76.1)),(79,(i6 (r76.1.length:Int))),(80,(i6 (w64 (s81.1+1))))] [(1004,bd 30 (e_aFabric a0)),(1010,bd 30 (e_aFabric r8)),(1013,some (.box 23 (.sref 1051 1 0 s81.2.length))),(1015,bd 59 (e_aLoad x75)),(1044,some (.row 4 1 ((s12.2.2.2.set s12.1.toNat (!r76.2)).map eB))),(1047,some (.row 23 1 ((s12.2.2.1.set s12.1.toNat r76.1).map e_LeIi64))),(1051,some (wI_3_1 (s81.2.set x96.toNat (w64 (x98+x75.fRate)))))] hB) (Mat.trans (Mat.lenP (Ts:=[]) (Bs:=[(1013,some (.box 23 (.sref 1051 1 0 ((s81.2.set x96.toNat (w64 (x98+x75.fRate))).length))))]) TwT.nil (TwB.cons (x:=(.sref 1051 1 0 s81.2.length)) (by rfl) (Tw.leaf ⟨_,_,_,_,_,rfl,rfl,(by first | rfl | (simp;done) | (simp;omega) | omega)⟩) TwB.nil)) (mp [] _ _ hB)))⟩
      ·have h:=ite_f hg95 h
       apply AWp.exit
       apply seqQ_e
       obtain rfl:=oi h
       exact⟨(fun hc=>by cases hc),rfl,(mp [] _ _ hB)⟩
     ·obtain⟨rfl,hmat⟩:=hR
      apply blkQ_hit
      apply blkQ_n
      apply seqQ_n
      refine AWp.ghost hmat ?_
      refine rg (SQ tt) ?_
      obtain rfl:=oi h
      exact⟨rfl,(mp [] _ _ hB)⟩
    ·have h:=ite_f hg74 h
     apply AWp.exit
     apply seqQ_e
     obtain rfl:=oi h
     exact⟨(fun hc=>by cases hc),rfl,(mp [] _ _ hB)⟩
   ·obtain⟨rfl,hmat⟩:=hR
    apply blkQ_hit
    apply seqQ_n
    refine AWp.ghost hmat ?_
    apply sr (cg (OpJ.makeF (OpdL.cons (q 13) (OpdL.cons (q 4) OpdL.nil)) rfl rfl (L rfl)) rfl (c (assign (L rfl) (q 94)) rfl cn))
    apply AWp.seq
    refine sr (SQ tt) ?_
    apply AWp.block
    obtain⟨p256,hx332,h⟩:=bindS h
    refine lg (plan_Shed_L2 a0 a1 a2 p73) (fun s105:Int×(List Int)×(List Bool)=>([(1,(qe_aLoad_3 a1)),(11,(.sref 1044 1 0 s105.2.2.length)),(12,(.sref 1047 1 0 p73.2.1.length)),(13,(pt 1013)),(20,(.func 39 [(pt 1013),(pt 1004)])),(95,(qI_1 a2)),(96,(i6 (a2.length:Int))),(97,(i6 s105.1))]:EL)) (fun s105:Int×(List Int)×(List Bool)=>([(1004,bd 30 (e_aFabric a0)),(1013,some (.box 23 (.sref 4013 1 0 s105.2.1.length))),(1044,some (.row 4 1 (s105.2.2.map eB))),(1047,some (.row 23 1 (p73.2.1.map e_LeIi64))),(4013,some (wI_3_1 s105.2.1))]:OL)) (fun(p256:((List Bool))) e E' O'=>e = .exit 4∧Mat B E' O' ([(11,(.sref 1044 1 0 p256.length))]:EL) ([(1044,some (.row 4 1 (p256.map eB)))]:OL)) hx332 (mp [(4013,1051)] _ _ hB) (fun s105 y h => ?_) (fun e E' O' hR => ?_)
    ·unfold plan_Shed_L2 at h
     refine sr (SQ tt) ?_
     apply AWp.seq
     apply AWp.cond rfl<;>intro hg257
     ·have h:=ite_t hg257 h
      apply AWp.skip
      apply seqQ_n
      apply AWp.seq
      refine AWp.cut h (fun m294:(List Int)×(List Bool)=>([(1,(qe_aLoad_3 a1)),(11,(.sref 1044 1 0 m294.2.length)),(12,(.sref 1047 1 0 p73.2.1.length)),(13,(pt 1013)),(20,(.func 39 [(pt 1013),(pt 1004)])),(95,(qI_1 a2)),(96,(i6 (a2.length:Int))),(97,(i6 s105.1))]:EL)) (fun m294:(List Int)×(List Bool)=>([(1004,bd 30 (e_aFabric a0)),(1013,some (.box 23 (.sref 4013 1 0 m294.1.length))),(1044,some (.row 4 1 (m294.2.map eB))),(1047,some (.row 23 1 (p73.2.1.map e_LeIi64))),(4013,some (wI_3_1 m294.1))]:OL)) (fun m294 h E' O' hmat => ?_) (fun j295 hjj295 h => ?_)
      ·apply seqQ_n
       refine AWp.ghost hmat ?_
       refine rg (SQ tt) ?_
       obtain rfl:=oi h
       exact⟨rfl,(mp [] _ _ hB)⟩
      ·apply AWp.block
       obtain⟨x296,hx296,h⟩:=bindS h
       refine sr (SQ (fa hx296 tt)) ?_
       apply AWp.seq
       obtain⟨_,hx297,h⟩:=bindS h
       obtain⟨_,hx298,h⟩:=bindS h
       refine sr (SQ (fa hx297 (fa hx298 tt))) ?_
       apply AWp.cond rfl<;>intro hg299
       ·have h:=ite_t hg299 h
        apply AWp.exit
        apply seqQ_e
        apply blkQ_hit
        exact hjj295 _ h _ _ (mp [] _ _ hB)
       ·have h:=ite_f hg299 h
        apply AWp.skip
        apply seqQ_n
        apply AWp.seq
        apply AWp.seq
        obtain⟨r300,hr300,h⟩:=bindS h
        refine rg (SQ (fa (cl [(0,1013),(1,4013),(2,1004),(950000,100400)] (plan_Shed_1_ac s105.2.1 a0 r300 hr300)) tt)) ?_
        apply seqQ_n
        refine AWp.ghost (mp [] [(1,(qe_aLoad_3 a1)),(11,(.sref 1044 1 0 s105.2.2.length)),(12,(.sref 1047 1 0 p73.2.1.length)),(13,(pt 1013)),(20,(.func 39 [(pt 1013),(pt 1004)])),(22,(i6 x296)),(95,(qI_1 a2)),(96,(i6 (a2.length:Int))),(97,(i6 s105.1)),(106,(bo r300.1))] [(1004,bd 30 (e_aFabric a0)),(1013,some (.box 23 (.sref 100400 1 0 r300.2.length))),(1044,some (.row 4 1 (s105.2.2.map eB))),(1047,some (.row 23 1 (p73.2.1.map e_LeIi64))),(100400,some (wI_3_1 r300.2))] hB) ?_
        apply AWp.cond rfl<;>intro hg301
        ·have h:=ite_t hg301 h
         apply AWp.exit
         apply seqQ_e
         refine blkQ_miss (by rfl) ?_
         apply seqQ_e
         obtain rfl:=oi h
         exact⟨(fun hc=>by cases hc),rfl,(mp [] _ _ hB)⟩
        ·have h:=ite_f hg301 h
         apply AWp.skip
         apply seqQ_n
         obtain⟨_,hx302,h⟩:=bindS h
         obtain⟨_,hx303,h⟩:=bindS h
         refine sr (SQ (fa hx302 (fa hx303 (fa (sv true) tt)))) ?_
         obtain⟨_,hx304,h⟩:=bindS h
         obtain⟨x305,hx305,h⟩:=bindS h
         refine sr (SQ (fa hx304 (fa hx305 tt))) ?_
         apply AWp.block
         obtain⟨p321,hx330,h⟩:=bindS h
         refine lg (plan_Shed_L3 a1 x296 x305) (fun s306:Int×(List Int)=>([(1,(qe_aLoad_3 a1)),(11,(.sref 1044 1 0 ((s105.2.2.set x296.toNat true).length))),(12,(.sref 1047 1 0 p73.2.1.length)),(13,(pt 1013)),(20,(.func 39 [(pt 1013),(pt 1004)])),(22,(i6 x296)),(95,(qI_1 a2)),(96,(i6 (a2.length:Int))),(97,(i6 s105.1)),(113,(qI_1 x305)),(114,(i6 (x305.length:Int))),(115,(i6 s306.1))]:EL)) (fun s306:Int×(List Int)=>([(1004,bd 30 (e_aFabric a0)),(1013,some (.box 23 (.sref 100400 1 0 s306.2.length))),(1044,some (.row 4 1 ((s105.2.2.set x296.toNat true).map eB))),(1047,some (.row 23 1 (p73.2.1.map e_LeIi64))),(100400,some (wI_3_1 s306.2))]:OL)) (fun(p321:((List Int))) e E' O'=>e = .exit 6∧Mat B E' O' ([(1,(qe_aLoad_3 a1)),(11,(.sref 1044 1 0 ((s105.2.2.set x296.toNat true).length))),(12,(.sref 1047 1 0 p73.2.1.length)),(13,(pt 1013)),(20,(.func 39 [(pt 1013),(pt 1004)])),(95,(qI_1 a2)),(96,(i6 (a2.length:Int))),(97,(i6 s105.1))]:EL) ([(1004,bd 30 (e_aFabric a0)),(1013,some (.box 23 (.sref 100400 1 0 p321.length))),(1044,some (.row 4 1 ((s105.2.2.set x296.toNat true).map eB))),(1047,some (.row 23 1 (p73.2.1.map e_LeIi64))),(100400,some (wI_3_1 p321))]:OL)) hx330 (Mat.trans (Mat.lenP (Ts:=[(11,(.sref 1044 1 0 ((s105.2.2.set x296.toNat true).length)))]) (Bs:=[]) (TwT.cons (x:=(.sref 1044 1 0 s105.2.2.length)) (by rfl) (Tw.leaf ⟨_,_,_,_,_,rfl,rfl,(by first | rfl | (simp;done) | (simp;omega) | omega)⟩) TwT.nil) TwB.nil) (mp [] _ _ hB)) (fun s306 y h => ?_) (fun e E' O' hR => ?_)
         ·unfold plan_Shed_L3 at h
          refine sr (SQ tt) ?_
          apply AWp.seq
          apply AWp.cond rfl<;>intro hg322
          ·have h:=ite_t hg322 h
           apply AWp.skip
           apply seqQ_n
           apply AWp.seq
           apply AWp.block
           obtain⟨x323,hx323,h⟩:=bindS h
           refine sr (SQ (fa hx323 tt)) ?_
           obtain⟨_,hx324,h⟩:=bindS h
           obtain⟨x325,hx325,h⟩:=bindS h
           obtain⟨x326,hx326,h⟩:=bindS h
           obtain⟨_,hx327,h⟩:=bindS h
           obtain⟨_,hx328,h⟩:=bindS h
           refine drS (SQ (fa hx324 (fa hx325 (fa hx326 (fa hx327 (fa hx328 (fa (sv (w64 (x325-x326.fRate))) tt))))))) ?_
           apply blkQ_n
           apply seqQ_n
           refine rg (SQ tt) ?_
           obtain rfl:=oi h
           exact⟨rfl,(Mat.trans (mp [] [(1,(qe_aLoad_3 a1)),(11,(.sref 1044 1 0 ((s105.2.2.set x296.toNat true).length))),(12,(.sref 1047 1 0 p73.2.1.length)),(13,(pt 1013)),(20,(.func 39 [(pt 1013),(pt 1004)])),(22,(i6 x296)),(95,(qI_1 a2)),(96,(i6 (a2.length:Int))),(97,(i6 s105.1)),(113,(qI_1 x305)),(114,(i6 (x305.length:Int))),(115,(i6 (w64 (s306.1+1))))] [(1004,bd 30 (e_aFabric a0)),(1013,some (.box 23 (.sref 100400 1 0 s306.2.length))),(1044,some (.row 4 1 ((s105.2.2.set x296.toNat true).map eB))),(1047,some (.row 23 1 (p73.2.1.map e_LeIi64))),(100400,some (wI_3_1 (s306.2.set x323.toNat (w64 (x325-x326.fRate)))))] hB) (Mat.trans (Mat.lenP (Ts:=[]) (Bs:=[(1013,some (.box 23 (.sref 100400 1 0 ((s306.2.set x323.toNat (w64 (x325-x326.fRate))).length))))]) TwT.nil (TwB.cons (x:=(.sref 100400 1 0 s306.2.length)) (by rfl) (Tw.leaf ⟨_,_,_,_,_,rfl,rfl,(by first | rfl | (simp;done) | (simp;omega) | omega)⟩) TwB.nil)) (mp [] _ _ hB)))⟩
          ·have h:=ite_f hg322 h
           apply AWp.exit
           apply seqQ_e
           obtain rfl:=oi h
           exact⟨(fun hc=>by cases hc),rfl,(mp [] _ _ hB)⟩
         ·obtain⟨rfl,hmat⟩:=hR
          apply blkQ_hit
          apply blkQ_n
          exact hjj295 _ h _ _ (Mat.trans hmat (mp [(4013,100400)] _ _ hB))
     ·have h:=ite_f hg257 h
      apply AWp.exit
      apply seqQ_e
      obtain rfl:=oi h
      exact⟨(fun hc=>by cases hc),rfl,(mp [] _ _ hB)⟩
    ·obtain⟨rfl,hmat⟩:=hR
     apply blkQ_hit
     apply seqQ_n
     refine AWp.ghost hmat ?_
     refine sr (SQ tt) ?_
     apply AWp.seq
     refine sr (SQ tt) ?_
     apply AWp.block
     obtain⟨p352,hx363,h⟩:=bindS h
     refine lg (plan_Shed_L4 p256) (fun s333:Int×(List Int)=>([(25,(.sref 3025 1 0 s333.2.length)),(132,(.sref 1044 1 0 p256.length)),(133,(i6 (p256.length:Int))),(134,(i6 s333.1))]:EL)) (fun s333:Int×(List Int)=>([(1044,some (.row 4 1 (p256.map eB))),(3025,some (wI_3_1 s333.2))]:OL)) (fun(p352:((List Int))) e E' O'=>e = .exit 8∧Mat B E' O' ([(25,(.sref 3025 1 0 p352.length))]:EL) ([(3025,some (wI_3_1 p352))]:OL)) hx363 (Mat.trans (Mat.beginP (n:=3025) (e:=3) (sz:=1) (Ts:=[(25,(.sref 3025 1 0 0))]) (Bs:=[]) hB (by decide) (by rfl) (by decide) (TwT.cons (x:=.nils) (by rfl) (Tw.leaf ⟨rfl,rfl⟩) TwT.nil) TwB.nil) (mp [] _ _ hB)) (fun s333 y h => ?_) (fun e E' O' hR => ?_)
     ·unfold plan_Shed_L4 at h
      refine sr (SQ tt) ?_
      apply AWp.seq
      apply AWp.cond rfl<;>intro hg353
      ·have h:=ite_t hg353 h
       apply AWp.skip
       apply seqQ_n
       apply AWp.seq
       apply AWp.block
       obtain⟨_,hx354,h⟩:=bindS h
       obtain⟨_,hx355,h⟩:=bindS h
       refine sr (SQ (fa hx354 (fa hx355 tt))) ?_
       refine sr (SQ tt) ?_
       refine gh [(25,_),(26,_),(132,_),(133,_),(134,_),(139,_)] [(1044,some _),(3025,some _)] hB rfl rfl (by rfl) ?_
       refine AWp.cut h (fun m358:(List Int)=>([(25,(.sref 3025 1 0 m358.length)),(132,(.sref 1044 1 0 p256.length)),(133,(i6 (p256.length:Int))),(134,(i6 s333.1))]:EL)) (fun m358:(List Int)=>([(1044,some (.row 4 1 (p256.map eB))),(3025,some (wI_3_1 m358))]:OL)) (fun m358 h E' O' hmat => ?_) (fun j359 hjj359 h => ?_)
       ·apply blkQ_n
        apply seqQ_n
        refine AWp.ghost hmat ?_
        refine rg (SQ tt) ?_
        obtain rfl:=oi h
        exact⟨rfl,(mp [] _ _ hB)⟩
       ·apply AWp.cond rfl<;>intro hg360
        ·have h:=ite_t hg360 h
         obtain⟨hc361,h⟩:=chk_some h
         refine rg (SQ (fa hc361 tt)) ?_
         exact hjj359 _ h _ _ (mp [(3025,1143)] _ _ hB)
        ·have h:=ite_f hg360 h
         apply AWp.skip
         exact hjj359 _ h _ _ (mp [] _ _ hB)
      ·have h:=ite_f hg353 h
       apply AWp.exit
       apply seqQ_e
       obtain rfl:=oi h
       exact⟨(fun hc=>by cases hc),rfl,(mp [] _ _ hB)⟩
     ·obtain⟨rfl,hmat⟩:=hR
      apply blkQ_hit
      apply seqQ_n
      refine AWp.ghost hmat ?_
      refine sr (SQ tt) ?_
      apply AWp.ret
      obtain rfl:=oi h
      exact rt (Mat.trans (Mat.freezeP (n:=3025) (e:=3) (sz:=1) (es:=p352.map (eI .i64)) (Ts:=[(8,(qI_1 p352))]) (Bs:=[]) (by rfl) (TwT.cons (x:=(.sref 3025 1 0 p352.length)) (by rfl) (FrzL.all (by first | rfl | (simp;done) | (simp;omega) | omega)) TwT.nil) TwB.nil) (mp [] [(8,(qI_1 p352)),(9,(i6 0))] [] hB)) [(qI_1 p352),(i6 0)] (Res.tmp (by rfl) (by rfl) (Res.tmp (by rfl) (by rfl) Res.nil)) rfl
 ·obtain⟨r364,hr364,h⟩:=bindS h
  rcases bft (!r364) with hg365 | hg365
  ·have h:=ite_t hg365 h
   refine rg (SQ (fa (cl [] (drain_Valid_ac a0 a1 a3 r364 hr364)) (fa hg365 tt))) ?_
   exact hjj6 _ h _ _ (mp [] _ _ hB)
  ·have h:=ite_f hg365 h
   obtain⟨r366,hr366,h⟩:=bindS h
   refine rg (SQ (fa (cl [] (drain_Valid_ac a0 a1 a3 r364 hr364)) (fa hg365 (fa (cl [] (plan_permitted_ac a1 a2 r366 hr366)) tt)))) ?_
   exact hjj6 _ h _ _ (mp [] _ _ hB)
def plan_Failures_L0 (a0:aFabric) (s3:Int×(List aItem)):Option ((((List aItem)))⊕(Int×(List aItem))) :=
 (if (decide (s3.1<(a0.fLinks.length:Int)))=true then
 chk (decide ((s3.2++[(aItem.mk false s3.1)]).length≤LIM)) <|
 some (.inr ((w64 (s3.1+1)),(s3.2++[(aItem.mk false s3.1)])))
 else
 some (.inl s3.2))
def plan_Failures_L1 (a0:aFabric) (s13:Int×(List aItem)):Option ((((List aItem)))⊕(Int×(List aItem))) :=
 (if (decide (s13.1<a0.fSwitches))=true then
 chk (decide ((s13.2++[(aItem.mk true s13.1)]).length≤LIM)) <|
 some (.inr ((w64 (s13.1+1)),(s13.2++[(aItem.mk true s13.1)])))
 else
 some (.inl s13.2))
def plan_Failures_L2 (p18:(List aItem)) (s23:Int×(List (List aItem))):Option ((((List (List aItem))))⊕(Int×(List (List aItem)))) :=
 (if (decide (s23.1<(p18.length:Int)))=true then
 (idx p18 s23.1).bind fun _ =>
 (idx p18 s23.1).bind fun x35 =>
 chk (decide ((s23.2++([[x35]]:List (List aItem))).length≤LIM)) <|
 some (.inr ((w64 (s23.1+1)),(s23.2++([[x35]]:List (List aItem)))))
 else
 some (.inl s23.2))
def plan_Failures_L4 (p18:(List aItem)) (s39:Int×(List (List aItem))) (s144:Int×(List (List aItem))):Option ((((List (List aItem))))⊕(Int×(List (List aItem)))) :=
 (if (decide (s144.1<(p18.length:Int)))=true then
 jn (fun m183:(List (List aItem)) =>
 some (.inr ((w64 (s144.1+1)),m183))) (fun j184 =>
 (if (decide (s39.1<s144.1))=true then
 (idx p18 s39.1).bind fun _ =>
 (idx p18 s39.1).bind fun x187 =>
 (idx p18 s144.1).bind fun _ =>
 (idx p18 s144.1).bind fun x189 =>
 chk (decide ((s144.2++([[x187,x189]]:List (List aItem))).length≤LIM)) <|
 j184 (s144.2++([[x187,x189]]:List (List aItem)))
 else
 j184 s144.2))
 else
 some (.inl s144.2))
def plan_Failures_L3 (p18:(List aItem)) (s39:Int×(List (List aItem))):Option ((((List (List aItem))))⊕(Int×(List (List aItem)))) :=
 (if (decide (s39.1<(p18.length:Int)))=true then
 (loop (plan_Failures_L4 p18 s39) (0,s39.2)).bind fun p175 =>
 some (.inr ((w64 (s39.1+1)),p175))
 else
 some (.inl s39.2))
def plan_Failures (a0:aFabric):Option ((List (List aItem))) :=
 (fabric_Valid a0).bind fun r1 =>
 (if ((!r1) || (decide (12<(w64 ((a0.fLinks.length:Int)+a0.fSwitches)))))=true then
 some ([]:List (List aItem))
 else
 (loop (plan_Failures_L0 a0) (0,([]:List aItem))).bind fun p8 =>
 (loop (plan_Failures_L1 a0) (0,p8)).bind fun p18 =>
 (loop (plan_Failures_L2 p18) (0,([]:List (List aItem)))).bind fun p32 =>
 (loop (plan_Failures_L3 p18) (0,p32)).bind fun p142 =>
 some p142)
theorem plan_Failures_ac (a0:aFabric) (r:(List (List aItem))) (h:plan_Failures a0=some r):AC Try.prog 10 [(.d (e_aFabric a0))] [] (.d (.list 1 (r.map e_LeapiItem))) []:=by
 refine ac2 Try.func10 rfl rfl fun B hB hN L => ?_
 delta plan_Failures at h
 refine sr (SQ tt) ?_
 apply AWp.seq
 obtain⟨r1,hr1,h⟩:=bindS h
 refine sr (SQ (fa (cl [] (fabric_Valid_ac a0 r1 hr1)) tt)) ?_
 apply AWp.cond rfl<;>intro hg2
 ·have h:=ite_t hg2 h
  refine sr (SQ tt) ?_
  apply AWp.ret
  apply seqQ_r
  obtain rfl:=oi h
  exact rt (Mat.trans (Mat.coeP (Ts:=[(2,(.d (.list 1 (([]:List (List aItem)).map e_LeapiItem))))]) (Bs:=[]) (TwT.cons (x:=.nils) (by rfl) (Tw.leaf ⟨_,(Co.nils 1),rfl⟩) TwT.nil) TwB.nil) (mp [] [(2,(.d (.list 1 (([]:List (List aItem)).map e_LeapiItem))))] [] hB)) [(.d (.list 1 (([]:List (List aItem)).map e_LeapiItem)))] (Res.tmp (by rfl) (by rfl) Res.nil) rfl
 ·have h:=ite_f hg2 h
  apply AWp.skip
  apply seqQ_n
  refine sr (SQ tt) ?_
  apply AWp.seq
  refine sr (SQ tt) ?_
  apply AWp.block
  obtain⟨p8,hx12,h⟩:=bindS h
  refine lg (plan_Failures_L0 a0) (fun s3:Int×(List aItem)=>([(1,(pt 1001)),(3,(.sref 3003 2 0 s3.2.length)),(25,(i6 (a0.fLinks.length:Int))),(26,(i6 s3.1))]:EL)) (fun s3:Int×(List aItem)=>([(1001,bd 30 (e_aFabric a0)),(3003,some (we_aItem_63_2 s3.2))]:OL)) (fun(p8:((List aItem))) e E' O'=>e = .exit 0∧Mat B E' O' ([(1,(pt 1001)),(3,(.sref 3003 2 0 p8.length))]:EL) ([(1001,bd 30 (e_aFabric a0)),(3003,some (we_aItem_63_2 p8))]:OL)) hx12 (Mat.trans (Mat.beginP (n:=3003) (e:=63) (sz:=2) (Ts:=[(3,(.sref 3003 2 0 0))]) (Bs:=[]) hB (by decide) (by rfl) (by decide) (TwT.cons (x:=.nils) (by rfl) (Tw.leaf ⟨rfl,rfl⟩) TwT.nil) TwB.nil) (mp [] _ _ hB)) (fun s3 y h => ?_) (fun e E' O' hR => ?_)
  ·unfold plan_Failures_L0 at h
   refine sr (SQ tt) ?_
   apply AWp.seq
   apply AWp.cond rfl<;>intro hg9
   ·have h:=ite_t hg9 h
    apply AWp.skip
    apply seqQ_n
    apply AWp.seq
    apply AWp.block
    refine sr (SQ tt) ?_
    obtain⟨hc10,h⟩:=chk_some h
    refine rg (SQ (fa hc10 tt)) ?_
    apply blkQ_n
    apply seqQ_n
    refine rg (SQ tt) ?_
    obtain rfl:=oi h
    exact⟨rfl,(mp [(3003,1033)] _ _ hB)⟩
   ·have h:=ite_f hg9 h
    apply AWp.exit
    apply seqQ_e
    obtain rfl:=oi h
    exact⟨(fun hc=>by cases hc),rfl,(mp [] _ _ hB)⟩
  ·obtain⟨rfl,hmat⟩:=hR
   apply blkQ_hit
   apply seqQ_n
   refine AWp.ghost hmat ?_
   apply AWp.seq
   refine sr (SQ tt) ?_
   apply AWp.block
   obtain⟨p18,hx22,h⟩:=bindS h
   refine lg (plan_Failures_L1 a0) (fun s13:Int×(List aItem)=>([(3,(.sref 3003 2 0 s13.2.length)),(36,(i6 a0.fSwitches)),(37,(i6 s13.1))]:EL)) (fun s13:Int×(List aItem)=>([(3003,some (we_aItem_63_2 s13.2))]:OL)) (fun(p18:((List aItem))) e E' O'=>e = .exit 2∧Mat B E' O' ([(3,(.sref 3003 2 0 p18.length))]:EL) ([(3003,some (we_aItem_63_2 p18))]:OL)) hx22 (mp [] _ _ hB) (fun s13 y h => ?_) (fun e E' O' hR => ?_)
   ·unfold plan_Failures_L1 at h
    refine sr (SQ tt) ?_
    apply AWp.seq
    apply AWp.cond rfl<;>intro hg19
    ·have h:=ite_t hg19 h
     apply AWp.skip
     apply seqQ_n
     apply AWp.seq
     apply AWp.block
     refine sr (SQ tt) ?_
     obtain⟨hc20,h⟩:=chk_some h
     refine rg (SQ (fa hc20 tt)) ?_
     apply blkQ_n
     apply seqQ_n
     refine rg (SQ tt) ?_
     obtain rfl:=oi h
     exact⟨rfl,(mp [(3003,1044)] _ _ hB)⟩
    ·have h:=ite_f hg19 h
     apply AWp.exit
     apply seqQ_e
     obtain rfl:=oi h
     exact⟨(fun hc=>by cases hc),rfl,(mp [] _ _ hB)⟩
   ·obtain⟨rfl,hmat⟩:=hR
    apply blkQ_hit
    apply seqQ_n
    refine AWp.ghost hmat ?_
    refine sr (SQ tt) ?_
    apply AWp.seq
    refine sr (SQ tt) ?_
    apply AWp.block
    obtain⟨p32,hx38,h⟩:=bindS h
    refine lg (plan_Failures_L2 p18) (fun s23:Int×(List (List aItem))=>([(3,(.sref 3003 2 0 p18.length)),(6,(.sref 3006 1 0 s23.2.length)),(46,(.sref 3003 2 0 p18.length)),(47,(i6 (p18.length:Int))),(48,(i6 s23.1))]:EL)) (fun s23:Int×(List (List aItem))=>([(3003,some (we_aItem_63_2 p18)),(3006,some (.row 22 1 (s23.2.map e_LeapiItem)))]:OL)) (fun(p32:((List (List aItem)))) e E' O'=>e = .exit 4∧Mat B E' O' ([(3,(.sref 3003 2 0 p18.length)),(6,(.sref 3006 1 0 p32.length))]:EL) ([(3003,some (we_aItem_63_2 p18)),(3006,some (.row 22 1 (p32.map e_LeapiItem)))]:OL)) hx38 (Mat.trans (Mat.beginP (n:=3006) (e:=22) (sz:=1) (Ts:=[(6,(.sref 3006 1 0 0))]) (Bs:=[]) hB (by decide) (by rfl) (by decide) (TwT.cons (x:=.nils) (by rfl) (Tw.leaf ⟨rfl,rfl⟩) TwT.nil) TwB.nil) (mp [] _ _ hB)) (fun s23 y h => ?_) (fun e E' O' hR => ?_)
    ·unfold plan_Failures_L2 at h
     refine sr (SQ tt) ?_
     apply AWp.seq
     apply AWp.cond rfl<;>intro hg33
     ·have h:=ite_t hg33 h
      apply AWp.skip
      apply seqQ_n
      apply AWp.seq
      apply AWp.block
      obtain⟨_,hx34,h⟩:=bindS h
      obtain⟨_,hx35,h⟩:=bindS h
      refine sr (SQ (fa hx34 (fa hx35 tt))) ?_
      obtain⟨hc36,h⟩:=chk_some h
      refine rg (SQ (fa hc36 tt)) ?_
      apply blkQ_n
      apply seqQ_n
      refine rg (SQ tt) ?_
      obtain rfl:=oi h
      exact⟨rfl,(mp [(3006,1056)] _ _ hB)⟩
     ·have h:=ite_f hg33 h
      apply AWp.exit
      apply seqQ_e
      obtain rfl:=oi h
      exact⟨(fun hc=>by cases hc),rfl,(mp [] _ _ hB)⟩
    ·obtain⟨rfl,hmat⟩:=hR
     apply blkQ_hit
     apply seqQ_n
     refine AWp.ghost hmat ?_
     apply AWp.seq
     refine sr (SQ tt) ?_
     apply AWp.block
     obtain⟨p142,hx194,h⟩:=bindS h
     refine lg (plan_Failures_L3 p18) (fun s39:Int×(List (List aItem))=>([(3,(.sref 3003 2 0 p18.length)),(6,(.sref 3006 1 0 s39.2.length)),(59,(i6 (p18.length:Int))),(60,(i6 s39.1))]:EL)) (fun s39:Int×(List (List aItem))=>([(3003,some (we_aItem_63_2 p18)),(3006,some (.row 22 1 (s39.2.map e_LeapiItem)))]:OL)) (fun(p142:((List (List aItem)))) e E' O'=>e = .exit 6∧Mat B E' O' ([(6,(.sref 3006 1 0 p142.length))]:EL) ([(3006,some (.row 22 1 (p142.map e_LeapiItem)))]:OL)) hx194 (mp [] _ _ hB) (fun s39 y h => ?_) (fun e E' O' hR => ?_)
     ·unfold plan_Failures_L3 at h
      refine sr (SQ tt) ?_
      apply AWp.seq
      apply AWp.cond rfl<;>intro hg143
      ·have h:=ite_t hg143 h
       apply AWp.skip
       apply seqQ_n
       apply AWp.seq
       apply AWp.block
       refine sr (SQ tt) ?_
       refine sr (SQ tt) ?_
       apply AWp.block
       obtain⟨p175,hx192,h⟩:=bindS h
       refine lg (plan_Failures_L4 p18 s39) (fun s144:Int×(List (List aItem))=>([(3,(.sref 3003 2 0 p18.length)),(6,(.sref 3006 1 0 s144.2.length)),(9,(i6 s39.1)),(59,(i6 (p18.length:Int))),(60,(i6 s39.1)),(64,(i6 (p18.length:Int))),(65,(i6 s144.1))]:EL)) (fun s144:Int×(List (List aItem))=>([(3003,some (we_aItem_63_2 p18)),(3006,some (.row 22 1 (s144.2.map e_LeapiItem)))]:OL)) (fun(p175:((List (List aItem)))) e E' O'=>e = .exit 8∧Mat B E' O' ([(3,(.sref 3003 2 0 p18.length)),(6,(.sref 3006 1 0 p175.length)),(59,(i6 (p18.length:Int))),(60,(i6 s39.1))]:EL) ([(3003,some (we_aItem_63_2 p18)),(3006,some (.row 22 1 (p175.map e_LeapiItem)))]:OL)) hx192 (mp [] _ _ hB) (fun s144 y h => ?_) (fun e E' O' hR => ?_)
       ·unfold plan_Failures_L4 at h
        refine sr (SQ tt) ?_
        apply AWp.seq
        apply AWp.cond rfl<;>intro hg176
        ·have h:=ite_t hg176 h
         apply AWp.skip
         apply seqQ_n
         apply AWp.seq
         apply AWp.block
         refine sr (SQ tt) ?_
         refine sr (SQ tt) ?_
         refine gh [(3,_),(6,_),(9,_),(10,_),(59,_),(60,_),(64,_),(65,_),(70,_)] [(3003,some _),(3006,some _)] hB rfl rfl (by rfl) ?_
         refine AWp.cut h (fun m183:(List (List aItem))=>([(3,(.sref 3003 2 0 p18.length)),(6,(.sref 3006 1 0 m183.length)),(9,(i6 s39.1)),(59,(i6 (p18.length:Int))),(60,(i6 s39.1)),(64,(i6 (p18.length:Int))),(65,(i6 s144.1))]:EL)) (fun m183:(List (List aItem))=>([(3003,some (we_aItem_63_2 p18)),(3006,some (.row 22 1 (m183.map e_LeapiItem)))]:OL)) (fun m183 h E' O' hmat => ?_) (fun j184 hjj184 h => ?_)
         ·apply blkQ_n
          apply seqQ_n
          refine AWp.ghost hmat ?_
          refine rg (SQ tt) ?_
          obtain rfl:=oi h
          exact⟨rfl,(mp [] _ _ hB)⟩
         ·apply AWp.cond rfl<;>intro hg185
          ·have h:=ite_t hg185 h
           obtain⟨_,hx186,h⟩:=bindS h
           obtain⟨_,hx187,h⟩:=bindS h
           obtain⟨_,hx188,h⟩:=bindS h
           obtain⟨_,hx189,h⟩:=bindS h
           obtain⟨hc190,h⟩:=chk_some h
           refine drS (SQ (fa hx186 (fa hx187 (fa hx188 (fa hx189 (fa hc190 tt)))))) ?_
           exact hjj184 _ h _ _ (mp [(3006,1082)] _ _ hB)
          ·have h:=ite_f hg185 h
           apply AWp.skip
           exact hjj184 _ h _ _ (mp [] _ _ hB)
        ·have h:=ite_f hg176 h
         apply AWp.exit
         apply seqQ_e
         obtain rfl:=oi h
         exact⟨(fun hc=>by cases hc),rfl,(mp [] _ _ hB)⟩
       ·obtain⟨rfl,hmat⟩:=hR
        apply blkQ_hit
        apply blkQ_n
        apply seqQ_n
        refine AWp.ghost hmat ?_
        refine rg (SQ tt) ?_
        obtain rfl:=oi h
        exact⟨rfl,(mp [] _ _ hB)⟩
      ·have h:=ite_f hg143 h
       apply AWp.exit
       apply seqQ_e
       obtain rfl:=oi h
       exact⟨(fun hc=>by cases hc),rfl,(mp [] _ _ hB)⟩
     ·obtain⟨rfl,hmat⟩:=hR
      apply blkQ_hit
      apply seqQ_n
      refine AWp.ghost hmat ?_
      refine sr (SQ tt) ?_
      apply AWp.ret
      obtain rfl:=oi h
      exact rt (Mat.trans (Mat.freezeP (n:=3006) (e:=22) (sz:=1) (es:=p142.map e_LeapiItem) (Ts:=[(2,(.d (.list 1 (p142.map e_LeapiItem))))]) (Bs:=[]) (by rfl) (TwT.cons (x:=(.sref 3006 1 0 p142.length)) (by rfl) (FrzL.all (by first | rfl | (simp;done) | (simp;omega) | omega)) TwT.nil) TwB.nil) (mp [] [(2,(.d (.list 1 (p142.map e_LeapiItem))))] [] hB)) [(.d (.list 1 (p142.map e_LeapiItem)))] (Res.tmp (by rfl) (by rfl) Res.nil) rfl
def xlaw43_awake:Option (Bool) :=
 chk ((decide (0≤2)&&decide (2≤2)&&decide (2≤(LIM:Int)))) <|
 (plan_Shed (aFabric.mk 2 [(aLink.mk 0 1 1)] ([false]:List Bool) (List.replicate 2 false)) [(aLoad.mk 0 1 600),(aLoad.mk 0 1 500)] ([1,0]:List Int) ([]:List aItem)).bind fun r2 =>
 (plan_Shed (aFabric.mk 2 [(aLink.mk 0 1 1)] ([false]:List Bool) (List.replicate 2 false)) [(aLoad.mk 0 1 600),(aLoad.mk 0 1 500)] ([1,0]:List Int) [(aItem.mk false 0)]).bind fun r3 =>
 jn (fun m8:Bool =>
 some m8) (fun j9 =>
 (if (((r2.2==0)&&(r3.2==0))&&((r2.1.length:Int)==1))=true then
 (idx r2.1 0).bind fun x11 =>
 (if ((x11==1)&&((r3.1.length:Int)==2))=true then
 (plan_Failures (aFabric.mk 2 [(aLink.mk 0 1 1)] ([false]:List Bool) (List.replicate 2 false))).bind fun r13 =>
 j9 ((r13.length:Int)==6)
 else
 j9 false)
 else
 j9 false))
theorem xlaw43_awake_ac (r:Bool) (h:xlaw43_awake=some r):AC Try.prog 7 [] [] (.d (.bool r)) []:=by
 refine ac2 Try.func7 rfl rfl fun B hB hN L => ?_
 delta xlaw43_awake at h
 refine sr (SQ tt) ?_
 obtain⟨hc1,h⟩:=chk_some h
 refine sr (SQ (fa hc1 tt)) ?_
 refine sr (SQ tt) ?_
 apply AWp.seq
 refine AWp.ghost (Mat.freezeP (n:=1010) (e:=4) (sz:=1) (es:=(List.replicate 2 false).map eB) (Ts:=[]) (Bs:=[(1001,some (.box 30 (.st [(i6 2),(qe_aLink_3 [(aLink.mk 0 1 1)]),(.d (.list 1 (([false]:List Bool).map eB))),(.d (.list 1 ((List.replicate 2 false).map eB)))])))]) (by rfl) TwT.nil (TwB.cons (x:=(.st [(i6 2),(qe_aLink_3 [(aLink.mk 0 1 1)]),(.d (.list 1 (([false]:List Bool).map eB))),(.sref 1010 1 0 ((List.replicate 2 false).length))])) (by rfl) (Tw.st (TwL.cons (Tw.same _) (TwL.cons (Tw.same _) (TwL.cons (Tw.same _) (TwL.cons (FrzL.all (by first | rfl | (simp;done) | (simp;omega) | omega)) TwL.nil))))) TwB.nil)) ?_
 obtain⟨r2,hr2,h⟩:=bindS h
 refine rg (SQ (fa (cl [] (plan_Shed_ac (aFabric.mk 2 [(aLink.mk 0 1 1)] ([false]:List Bool) (List.replicate 2 false)) [(aLoad.mk 0 1 600),(aLoad.mk 0 1 500)] ([1,0]:List Int) ([]:List aItem) r2 hr2)) tt)) ?_
 apply seqQ_n
 obtain⟨r3,hr3,h⟩:=bindS h
 refine sr (SQ (fa (cl [] (plan_Shed_ac (aFabric.mk 2 [(aLink.mk 0 1 1)] ([false]:List Bool) (List.replicate 2 false)) [(aLoad.mk 0 1 600),(aLoad.mk 0 1 500)] ([1,0]:List Int) [(aItem.mk false 0)] r3 hr3)) tt)) ?_
 apply AWp.seq
 refine AWp.cut h (fun m8:Bool=>([(0,(bo m8))]:EL)) (fun m8:Bool=>([]:OL)) (fun m8 h E' O' hmat => ?_) (fun j9 hjj9 h => ?_)
 ·apply seqQ_n
  refine AWp.ghost hmat ?_
  apply AWp.ret
  obtain rfl:=oi h
  exact rt (kp [(0,_)] [] hB rfl rfl (by rfl)) [(bo m8)] (Res.tmp (by rfl) (by rfl) Res.nil) rfl
 ·rcases bft (((r2.2==0)&&(r3.2==0))&&((r2.1.length:Int)==1)) with hg10 | hg10
  ·have h:=ite_t hg10 h
   obtain⟨x11,hx11,h⟩:=bindS h
   rcases bft ((x11==1)&&((r3.1.length:Int)==2)) with hg12 | hg12
   ·have h:=ite_t hg12 h
    obtain⟨r13,hr13,h⟩:=bindS h
    refine rg (SQ (fa hg10 (fa hx11 (fa hg12 (fa (cl [] (plan_Failures_ac (aFabric.mk 2 [(aLink.mk 0 1 1)] ([false]:List Bool) (List.replicate 2 false)) r13 hr13)) tt))))) ?_
    exact hjj9 _ h _ _ (mp [] _ _ hB)
   ·have h:=ite_f hg12 h
    refine rg (SQ (fa hg10 (fa hx11 (fa hg12 tt)))) ?_
    exact hjj9 _ h _ _ (mp [] _ _ hB)
  ·have h:=ite_f hg10 h
   refine rg (SQ (fa hg10 tt)) ?_
   exact hjj9 _ h _ _ (mp [] _ _ hB)
def exchangepointmill_New (a0:(List Int)):Option (exchangepointmill_Deck) :=
 some (exchangepointmill_Deck.mk a0 0)
theorem exchangepointmill_New_ac (a0:(List Int)) (r:exchangepointmill_Deck) (h:exchangepointmill_New a0=some r):AC Try.prog 8 [(.d (.list 1 (a0.map (eI .i64))))] [] (pt 1005) [(1005,bd 68 (e_exchangepointmill_Deck r))]:=by
 refine AC.of_code2 Try.func8 rfl rfl (Nat.le_of_ble_eq_true (by rfl)) fun B hB hN => ?_
 delta exchangepointmill_New at h
 refine sr (SQ tt) ?_
 refine sr (SQ tt) ?_
 apply AWp.ret
 obtain rfl:=oi h
 exact rt (kp [(2,_)] [(1005,some _)] hB rfl rfl (by rfl)) [(pt 1005)] (Res.tmp (by rfl) (by rfl) Res.nil) rfl
def exchangepointmill_Mod (a0:Int) (a1:Int):Option (Int) :=
 chk (decide (a1≠0)) <|
 jn (fun m3:Int =>
 some m3) (fun j4 =>
 (if (decide ((Int.tmod a0 a1)<0))=true then
 j4 (w64 ((Int.tmod a0 a1)+a1))
 else
 j4 (Int.tmod a0 a1)))
theorem exchangepointmill_Mod_ac (a0:Int) (a1:Int) (r:Int) (h:exchangepointmill_Mod a0 a1=some r):AC Try.prog 24 [(.d (.int .i64 a0)),(.d (.int .i64 a1))] [] (.d (.int .i64 r)) []:=by
 refine AC.of_code2 Try.func24 rfl rfl (Nat.le_of_ble_eq_true (by rfl)) fun B hB hN => ?_
 delta exchangepointmill_Mod at h
 refine sr (SQ tt) ?_
 obtain⟨hc1,h⟩:=chk_some h
 refine sr (SQ (fa hc1 tt)) ?_
 apply AWp.seq
 refine sr (SQ tt) ?_
 refine gh [(1,_),(5,_),(10,_)] [] hB rfl rfl (by rfl) ?_
 refine AWp.cut h (fun m3:Int=>([(5,(i6 m3))]:EL)) (fun m3:Int=>([]:OL)) (fun m3 h E' O' hmat => ?_) (fun j4 hjj4 h => ?_)
 ·apply seqQ_n
  refine AWp.ghost hmat ?_
  refine sr (SQ tt) ?_
  apply AWp.ret
  obtain rfl:=oi h
  exact rt (kp [(4,_)] [] hB rfl rfl (by rfl)) [(i6 m3)] (Res.tmp (by rfl) (by rfl) Res.nil) rfl
 ·apply AWp.cond rfl<;>intro hg5
  ·have h:=ite_t hg5 h
   refine rg (SQ tt) ?_
   exact hjj4 _ h _ _ (mp [] _ _ hB)
  ·have h:=ite_f hg5 h
   apply AWp.skip
   exact hjj4 _ h _ _ (mp [] _ _ hB)
def exchangepointmill_Deck_Next (a0:exchangepointmill_Deck) (a1:Int):Option (Int×exchangepointmill_Deck) :=
 (if (decide ((a0.fL.length:Int)≤a0.fAt))=true then
 some (0,a0)
 else
 (idx a0.fL (w64 ((w64 (a0.fAt+1))-1))).bind fun x2 =>
 (exchangepointmill_Mod x2 a1).bind fun r3 =>
 some (r3,(exchangepointmill_Deck.mk a0.fL (w64 (a0.fAt+1)))))
theorem exchangepointmill_Deck_Next_ac (a0:exchangepointmill_Deck) (a1:Int) (r:Int×exchangepointmill_Deck) (h:exchangepointmill_Deck_Next a0 a1=some r):AC Try.prog 34 [(pt 0),(.d (.int .i64 a1))] [(0,(.box 68 (.d (e_exchangepointmill_Deck a0))))] (.d (.int .i64 r.1)) [(0,bd 68 (e_exchangepointmill_Deck r.2))]:=by
 refine ac2 Try.func34 rfl rfl fun B hB hN L => ?_
 delta exchangepointmill_Deck_Next at h
 refine sr (SQ tt) ?_
 apply AWp.seq
 refine sdS (SQ tt) ?_
 apply AWp.cond rfl<;>intro hg1
 ·have h:=ite_t hg1 h
  refine sr (SQ tt) ?_
  apply AWp.ret
  apply seqQ_r
  obtain rfl:=oi h
  exact rt (kp [(4,_)] [(0,some _)] hB rfl rfl (by rfl)) [(i6 0)] (Res.tmp (by rfl) (by rfl) Res.nil) rfl
 ·have h:=ite_f hg1 h
  apply AWp.skip
  apply seqQ_n
  refine sr (SQ tt) ?_
  obtain⟨x2,hx2,h⟩:=bindS h
  obtain⟨r3,hr3,h⟩:=bindS h
  refine sdS (SQ (fa hx2 (fa (cl [] (exchangepointmill_Mod_ac x2 a1 r3 hr3)) tt))) ?_
  apply AWp.ret
  obtain rfl:=oi h
  exact rt (kp [(4,_)] [(0,some _)] hB rfl rfl (by rfl)) [(i6 r3)] (Res.tmp (by rfl) (by rfl) Res.nil) rfl
end
end Go.Proofs.Ytkcpjnjneehecaa
