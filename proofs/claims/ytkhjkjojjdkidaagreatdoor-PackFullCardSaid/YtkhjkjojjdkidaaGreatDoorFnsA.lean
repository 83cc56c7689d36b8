/- Printed by gen.py: the Go functions as plain functions, and that the code does what they say. -/
import Derived.Test.YtkhjkjojjdkidaaGreatDoorChecked
import Derived.Test.YtkhjkjojjdkidaaGreatDoorVcYB
import Derived.Test.YtkhjkjojjdkidaaGreatDoorVcZ
import Derived.Test.YtkhjkjojjdkidaaGreatDoorVcGC
import Derived.KernelRfl
import Derived.Test.YtkhjkjojjdkidaaGreatDoorVcMD
import Derived.Test.YtkhjkjojjdkidaaGreatDoorVcMQ
import Derived.Test.YtkhjkjojjdkidaaGreatDoorVcSG
import Derived.Test.YtkhjkjojjdkidaaGreatDoorExt
import Derived.Test.YtkhjkjojjdkidaaGreatDoorVcPm
import Derived.Test.YtkhjkjojjdkidaaGreatDoorVcRg
import Derived.Test.YtkhjkjojjdkidaaGreatDoorVcSt
import Derived.Test.YtkhjkjojjdkidaaGreatDoorVcMR
namespace Go.Proofs.YtkhjkjojjdkidaaGreatDoor
open Go Go.Vc
open Tryz
open Go.Vc.OpJ (assign alloc lss pickT pickF extract lenD indexD loadD eqlI gtr callVal leq geq loadR nilP indexS buildSlice lenS fieldD neqI pickAnd pickOr)
set_option maxHeartbeats 4000000
set_option maxRecDepth 100000
noncomputable section
structure aAddr where
 fV6:Bool
 fHi:Int
 fLo:Int
def e_aAddr (x:aAddr):D:=.st [(.bool x.fV6),(.int .u64 x.fHi),(.int .u64 x.fLo)]
structure aPrefix where
 fAddr:aAddr
 fLen:Int
def e_aPrefix (x:aPrefix):D:=.st [(e_aAddr x.fAddr),(.int .i64 x.fLen)]
def e_LeIi64 (x:(List Int)):D:=(.list 1 (x.map (eI .i64)))
structure aSegment where
 fSet:Bool
 fASNs:(List Int)
def e_aSegment (x:aSegment):D:=.st [(.bool x.fSet),(.list 1 (x.fASNs.map (eI .i64)))]
def e_LeapiSegment (x:(List aSegment)):D:=(.list 2 (x.map e_aSegment))
structure aCommunity where
 fA:Int
 fB:Int
def e_aCommunity (x:aCommunity):D:=.st [(.int .i64 x.fA),(.int .i64 x.fB)]
def e_LeapiCommunity (x:(List aCommunity)):D:=(.list 2 (x.map e_aCommunity))
structure aLarge where
 fA:Int
 fB:Int
 fC:Int
def e_aLarge (x:aLarge):D:=.st [(.int .i64 x.fA),(.int .i64 x.fB),(.int .i64 x.fC)]
def e_LeapiLarge (x:(List aLarge)):D:=(.list 3 (x.map e_aLarge))
def e_LeIu8 (x:(List Int)):D:=(.list 1 (x.map (eI .u8)))
structure aUnknown where
 fFlags:Int
 fType:Int
 fData:(List Int)
def e_aUnknown (x:aUnknown):D:=.st [(.int .i64 x.fFlags),(.int .i64 x.fType),(.list 1 (x.fData.map (eI .u8)))]
def e_LeapiUnknown (x:(List aUnknown)):D:=(.list 3 (x.map e_aUnknown))
structure aAttrs where
 fOrigin:Int
 fPath:(List aSegment)
 fNext:aAddr
 fMED:Int
 fPref:Int
 fOTC:Int
 fCommunities:(List aCommunity)
 fLarge:(List aLarge)
 fOther:(List aUnknown)
def e_aAttrs (x:aAttrs):D:=.st [(.int .i64 x.fOrigin),(.list 2 (x.fPath.map e_aSegment)),(e_aAddr x.fNext),(.int .i64 x.fMED),(.int .i64 x.fPref),(.int .i64 x.fOTC),(.list 2 (x.fCommunities.map e_aCommunity)),(.list 3 (x.fLarge.map e_aLarge)),(.list 3 (x.fOther.map e_aUnknown))]
structure aRoute where
 fPrefix:aPrefix
 fFrom:Int
 fAttrs:aAttrs
def e_aRoute (x:aRoute):D:=.st [(e_aPrefix x.fPrefix),(.int .i64 x.fFrom),(e_aAttrs x.fAttrs)]
structure aChange where
 fTo:Int
 fPrefix:aPrefix
 fHas:Bool
 fRoute:aRoute
def e_aChange (x:aChange):D:=.st [(.int .i64 x.fTo),(e_aPrefix x.fPrefix),(.bool x.fHas),(e_aRoute x.fRoute)]
def gv0:List (Int×Int):=[(1,64),(2,64),(3,64),(4,128),(5,64),(8,192),(32,192),(35,192)]
def e_LeapiPrefix (x:(List aPrefix)):D:=(.list 4 (x.map e_aPrefix))
structure aUpdate where
 fWithdraw:(List aPrefix)
 fAttrs:aAttrs
 fAnnounce:(List aPrefix)
def e_aUpdate (x:aUpdate):D:=.st [(.list 4 (x.fWithdraw.map e_aPrefix)),(e_aAttrs x.fAttrs),(.list 4 (x.fAnnounce.map e_aPrefix))]
def keq3 (a b:Int):Bool:=(a==b)
structure pack_group where
 fattrs:aAttrs
 fprefixes:(List aPrefix)
def e_pack_group (x:pack_group):D:=.st [(e_aAttrs x.fattrs),(.list 4 (x.fprefixes.map e_aPrefix))]
structure exchangepointmill_Deck where
 fL:(List Int)
 fAt:Int
def e_exchangepointmill_Deck (x:exchangepointmill_Deck):D:=.st [(.list 1 (x.fL.map (eI .i64))),(.int .i64 x.fAt)]
def e_LeapiChange (x:(List aChange)):D:=(.list 22 (x.map e_aChange))
@[reducible] def qI_1 (x:List Int):V:=.d (.list 1 (x.map (eI .i64)))
@[reducible] def wI_3_1 (x:List Int):Ob:=.row 3 1 (x.map (eI .i64))
@[reducible] def qe_aCommunity_2 (x:List aCommunity):V:=.d (.list 2 (x.map e_aCommunity))
@[reducible] def we_aCommunity_98_2 (x:List aCommunity):Ob:=.row 98 2 (x.map e_aCommunity)
@[reducible] def qe_aLarge_3 (x:List aLarge):V:=.d (.list 3 (x.map e_aLarge))
@[reducible] def we_aLarge_100_3 (x:List aLarge):Ob:=.row 100 3 (x.map e_aLarge)
@[reducible] def qe_aSegment_2 (x:List aSegment):V:=.d (.list 2 (x.map e_aSegment))
@[reducible] def qe_aUnknown_3 (x:List aUnknown):V:=.d (.list 3 (x.map e_aUnknown))
@[reducible] def we_aSegment_66_2 (x:List aSegment):Ob:=.row 66 2 (x.map e_aSegment)
@[reducible] def we_aUnknown_69_3 (x:List aUnknown):Ob:=.row 69 3 (x.map e_aUnknown)
@[reducible] def qe_aPrefix_4 (x:List aPrefix):V:=.d (.list 4 (x.map e_aPrefix))
@[reducible] def we_aPrefix_29_4 (x:List aPrefix):Ob:=.row 29 4 (x.map e_aPrefix)
@[reducible] def we_aUpdate_61_13 (x:List aUpdate):Ob:=.row 61 13 (x.map e_aUpdate)
@[reducible] def qe_aUpdate_13 (x:List aUpdate):V:=.d (.list 13 (x.map e_aUpdate))
@[reducible] def qe_aChange_22 (x:List aChange):V:=.d (.list 22 (x.map e_aChange))
@[reducible] def we_aChange_39_22 (x:List aChange):Ob:=.row 39 22 (x.map e_aChange)
theorem tyZS27:TyZ Tryz.prog 27 (.st [(.d (.bool false)),(.d (.int .u64 0)),(.d (.int .u64 0))]):=⟨by kernel_rfl,fun w=>by kernel_rfl⟩
theorem tyZS29:TyZ Tryz.prog 29 (.st [(.d (.st [(.bool false),(.int .u64 0),(.int .u64 0)])),(.d (.int .i64 0))]):=⟨by kernel_rfl,fun w=>by kernel_rfl⟩
theorem tyZ29:TyZ Tryz.prog 29 (.d (.st [(.st [(.bool false),(.int .u64 0),(.int .u64 0)]),(.int .i64 0)])):=⟨by kernel_rfl,fun w=>by kernel_rfl⟩
theorem tyS29:TyS Tryz.prog 29 4 true:=⟨by kernel_rfl,by kernel_rfl⟩
theorem tyZS39:TyZ Tryz.prog 39 (.st [(.d (.int .i64 0)),(.d (.st [(.st [(.bool false),(.int .u64 0),(.int .u64 0)]),(.int .i64 0)])),(.d (.bool false)),(.st [(.d (.st [(.st [(.bool false),(.int .u64 0),(.int .u64 0)]),(.int .i64 0)])),(.d (.int .i64 0)),(.st [(.d (.int .i64 0)),.nils,(.d (.st [(.bool false),(.int .u64 0),(.int .u64 0)])),(.d (.int .i64 0)),(.d (.int .i64 0)),(.d (.int .i64 0)),.nils,.nils,.nils])])]):=⟨by kernel_rfl,fun w=>by kernel_rfl⟩
theorem tyS39:TyS Tryz.prog 39 22 true:=⟨by kernel_rfl,by kernel_rfl⟩
theorem tyZD39:TyZ Tryz.prog 39 (.d (.st [(.int .i64 0),(.st [(.st [(.bool false),(.int .u64 0),(.int .u64 0)]),(.int .i64 0)]),(.bool false),(.st [(.st [(.st [(.bool false),(.int .u64 0),(.int .u64 0)]),(.int .i64 0)]),(.int .i64 0),(.st [(.int .i64 0),(.list 2 (([]:List aSegment).map e_aSegment)),(.st [(.bool false),(.int .u64 0),(.int .u64 0)]),(.int .i64 0),(.int .i64 0),(.int .i64 0),(.list 2 (([]:List aCommunity).map e_aCommunity)),(.list 3 (([]:List aLarge).map e_aLarge)),(.list 3 (([]:List aUnknown).map e_aUnknown))])])])):=⟨by kernel_rfl,fun w=>by kernel_rfl⟩
theorem tyZ79:TyZ Tryz.prog 79 (.st [(.st [(.d (.int .i64 0)),.nils,(.d (.st [(.bool false),(.int .u64 0),(.int .u64 0)])),(.d (.int .i64 0)),(.d (.int .i64 0)),(.d (.int .i64 0)),.nils,.nils,.nils]),.nils]):=⟨by kernel_rfl,fun w=>by kernel_rfl⟩
theorem tyZ39:TyZ Tryz.prog 39 (.st [(.d (.int .i64 0)),(.d (.st [(.st [(.bool false),(.int .u64 0),(.int .u64 0)]),(.int .i64 0)])),(.d (.bool false)),(.st [(.d (.st [(.st [(.bool false),(.int .u64 0),(.int .u64 0)]),(.int .i64 0)])),(.d (.int .i64 0)),(.st [(.d (.int .i64 0)),.nils,(.d (.st [(.bool false),(.int .u64 0),(.int .u64 0)])),(.d (.int .i64 0)),(.d (.int .i64 0)),(.d (.int .i64 0)),.nils,.nils,.nils])])]):=⟨by kernel_rfl,fun w=>by kernel_rfl⟩
theorem tyS27:TyS Tryz.prog 27 3 true:=⟨by kernel_rfl,by kernel_rfl⟩
theorem tyS4:TyS Tryz.prog 4 1 false:=⟨by kernel_rfl,by kernel_rfl⟩
theorem tyS25:TyS Tryz.prog 25 1 false:=⟨by kernel_rfl,by kernel_rfl⟩
theorem fnOk86:FnOk Tryz.prog 86:=⟨by kernel_rfl⟩
theorem tyS3:TyS Tryz.prog 3 1 false:=⟨by kernel_rfl,by kernel_rfl⟩
theorem fnOk87:FnOk Tryz.prog 87:=⟨by kernel_rfl⟩
theorem tyZ27:TyZ Tryz.prog 27 (.d (.st [(.bool false),(.int .u64 0),(.int .u64 0)])):=⟨by kernel_rfl,fun w=>by kernel_rfl⟩
theorem fnOk107:FnOk Tryz.prog 107:=⟨by kernel_rfl⟩
theorem fnOk88:FnOk Tryz.prog 88:=⟨by kernel_rfl⟩
theorem held27:Program.stoodInHeld Tryz.prog 27=false:=by kernel_rfl
theorem eqg27:Program.eqGuardType Tryz.prog (Program.depth Tryz.prog) 27=false:=by kernel_rfl
theorem fnOk51:FnOk Tryz.prog 51:=⟨by kernel_rfl⟩
theorem tyS37:TyS Tryz.prog 37 16 true:=⟨by kernel_rfl,by kernel_rfl⟩
theorem held29:Program.stoodInHeld Tryz.prog 29=false:=by kernel_rfl
theorem eqg29:Program.eqGuardType Tryz.prog (Program.depth Tryz.prog) 29=false:=by kernel_rfl
theorem tyS35:TyS Tryz.prog 35 11 true:=⟨by kernel_rfl,by kernel_rfl⟩
theorem tyZD29:TyZ Tryz.prog 29 (.d (.st [(.st [(.bool false),(.int .u64 0),(.int .u64 0)]),(.int .i64 0)])):=⟨by kernel_rfl,fun w=>by kernel_rfl⟩
theorem tyZ61:TyZ Tryz.prog 61 (.st [.nils,(.st [(.d (.int .i64 0)),.nils,(.d (.st [(.bool false),(.int .u64 0),(.int .u64 0)])),(.d (.int .i64 0)),(.d (.int .i64 0)),(.d (.int .i64 0)),.nils,.nils,.nils]),.nils]):=⟨by kernel_rfl,fun w=>by kernel_rfl⟩
theorem tyZ35:TyZ Tryz.prog 35 (.st [(.d (.int .i64 0)),.nils,(.d (.st [(.bool false),(.int .u64 0),(.int .u64 0)])),(.d (.int .i64 0)),(.d (.int .i64 0)),(.d (.int .i64 0)),.nils,.nils,.nils]):=⟨by kernel_rfl,fun w=>by kernel_rfl⟩
theorem tyS30:TyS Tryz.prog 30 1 false:=⟨by kernel_rfl,by kernel_rfl⟩
theorem tyS33:TyS Tryz.prog 33 1 false:=⟨by kernel_rfl,by kernel_rfl⟩
theorem tyS66:TyS Tryz.prog 66 2 true:=⟨by kernel_rfl,by kernel_rfl⟩
theorem tyZ66:TyZ Tryz.prog 66 (.st [(.d (.bool false)),.nils]):=⟨by kernel_rfl,fun w=>by kernel_rfl⟩
theorem tyS23:TyS Tryz.prog 23 1 false:=⟨by kernel_rfl,by kernel_rfl⟩
theorem tyE3:TyE Tryz.prog 3 1 8:=⟨by kernel_rfl,by decide⟩
theorem fnOk67:FnOk Tryz.prog 67:=⟨by kernel_rfl⟩
theorem tyZS66:TyZ Tryz.prog 66 (.st [(.d (.bool false)),.nils]):=⟨by kernel_rfl,fun w=>by kernel_rfl⟩
theorem tyZD66:TyZ Tryz.prog 66 (.d (.st [(.bool false),(.list 1 (([]:List Int).map (eI .i64)))])):=⟨by kernel_rfl,fun w=>by kernel_rfl⟩
theorem tyE66:TyE Tryz.prog 66 2 32:=⟨by kernel_rfl,by decide⟩
theorem tyS69:TyS Tryz.prog 69 3 true:=⟨by kernel_rfl,by kernel_rfl⟩
theorem tyZ69:TyZ Tryz.prog 69 (.st [(.d (.int .i64 0)),(.d (.int .i64 0)),.nils]):=⟨by kernel_rfl,fun w=>by kernel_rfl⟩
theorem tyS67:TyS Tryz.prog 67 1 false:=⟨by kernel_rfl,by kernel_rfl⟩
theorem tyE5:TyE Tryz.prog 5 1 1:=⟨by kernel_rfl,by decide⟩
theorem fnOk68:FnOk Tryz.prog 68:=⟨by kernel_rfl⟩
theorem tyZS69:TyZ Tryz.prog 69 (.st [(.d (.int .i64 0)),(.d (.int .i64 0)),.nils]):=⟨by kernel_rfl,fun w=>by kernel_rfl⟩
theorem tyZD69:TyZ Tryz.prog 69 (.d (.st [(.int .i64 0),(.int .i64 0),(.list 1 (([]:List Int).map (eI .u8)))])):=⟨by kernel_rfl,fun w=>by kernel_rfl⟩
theorem tyE69:TyE Tryz.prog 69 3 40:=⟨by kernel_rfl,by decide⟩
theorem tyS31:TyS Tryz.prog 31 1 false:=⟨by kernel_rfl,by kernel_rfl⟩
theorem tyE98:TyE Tryz.prog 98 2 16:=⟨by kernel_rfl,by decide⟩
theorem fnOk69:FnOk Tryz.prog 69:=⟨by kernel_rfl⟩
theorem tyS32:TyS Tryz.prog 32 1 false:=⟨by kernel_rfl,by kernel_rfl⟩
theorem tyE100:TyE Tryz.prog 100 3 24:=⟨by kernel_rfl,by decide⟩
theorem fnOk70:FnOk Tryz.prog 70:=⟨by kernel_rfl⟩
theorem fnOk40:FnOk Tryz.prog 40:=⟨by kernel_rfl⟩
theorem tyE29:TyE Tryz.prog 29 4 32:=⟨by kernel_rfl,by decide⟩
theorem fnOk93:FnOk Tryz.prog 93:=⟨by kernel_rfl⟩
theorem tyZS61:TyZ Tryz.prog 61 (.st [.nils,(.st [(.d (.int .i64 0)),.nils,(.d (.st [(.bool false),(.int .u64 0),(.int .u64 0)])),(.d (.int .i64 0)),(.d (.int .i64 0)),(.d (.int .i64 0)),.nils,.nils,.nils]),.nils]):=⟨by kernel_rfl,fun w=>by kernel_rfl⟩
theorem tyS61:TyS Tryz.prog 61 13 true:=⟨by kernel_rfl,by kernel_rfl⟩
theorem tyZS35:TyZ Tryz.prog 35 (.st [(.d (.int .i64 0)),.nils,(.d (.st [(.bool false),(.int .u64 0),(.int .u64 0)])),(.d (.int .i64 0)),(.d (.int .i64 0)),(.d (.int .i64 0)),.nils,.nils,.nils]):=⟨by kernel_rfl,fun w=>by kernel_rfl⟩
theorem fnOk94:FnOk Tryz.prog 94:=⟨by kernel_rfl⟩
theorem fnOk53:FnOk Tryz.prog 53:=⟨by kernel_rfl⟩
theorem tyS59:TyS Tryz.prog 59 1 false:=⟨by kernel_rfl,by kernel_rfl⟩
theorem fnOk89:FnOk Tryz.prog 89:=⟨by kernel_rfl⟩
theorem fnOk108:FnOk Tryz.prog 108:=⟨by kernel_rfl⟩
theorem fnOk90:FnOk Tryz.prog 90:=⟨by kernel_rfl⟩
theorem fnOk109:FnOk Tryz.prog 109:=⟨by kernel_rfl⟩
theorem fnOk117:FnOk Tryz.prog 117:=⟨by kernel_rfl⟩
theorem fnOk98:FnOk Tryz.prog 98:=⟨by kernel_rfl⟩
theorem fnOk66:FnOk Tryz.prog 66:=⟨by kernel_rfl⟩
theorem tyS98:TyS Tryz.prog 98 2 true:=⟨by kernel_rfl,by kernel_rfl⟩
theorem tyZ98:TyZ Tryz.prog 98 (.d (.st [(.int .i64 0),(.int .i64 0)])):=⟨by kernel_rfl,fun w=>by kernel_rfl⟩
theorem tyZD3:TyZ Tryz.prog 3 (.d (.int .i64 0)):=⟨by kernel_rfl,fun w=>by kernel_rfl⟩
theorem fnOk152:FnOk Tryz.prog 152:=⟨by kernel_rfl⟩
theorem fnOk153:FnOk Tryz.prog 153:=⟨by kernel_rfl⟩
theorem fnOk141:FnOk Tryz.prog 141:=⟨by kernel_rfl⟩
theorem fnOk126:FnOk Tryz.prog 126:=⟨by kernel_rfl⟩
theorem fnOk97:FnOk Tryz.prog 97:=⟨by kernel_rfl⟩
theorem fnOk56:FnOk Tryz.prog 56:=⟨by kernel_rfl⟩
theorem fnOk54:FnOk Tryz.prog 54:=⟨by kernel_rfl⟩
theorem fnOk127:FnOk Tryz.prog 127:=⟨by kernel_rfl⟩
theorem fnOk125:FnOk Tryz.prog 125:=⟨by kernel_rfl⟩
theorem fnOk118:FnOk Tryz.prog 118:=⟨by kernel_rfl⟩
theorem tyS100:TyS Tryz.prog 100 3 true:=⟨by kernel_rfl,by kernel_rfl⟩
theorem tyZ100:TyZ Tryz.prog 100 (.d (.st [(.int .i64 0),(.int .i64 0),(.int .i64 0)])):=⟨by kernel_rfl,fun w=>by kernel_rfl⟩
theorem fnOk129:FnOk Tryz.prog 129:=⟨by kernel_rfl⟩
theorem fnOk130:FnOk Tryz.prog 130:=⟨by kernel_rfl⟩
theorem fnOk128:FnOk Tryz.prog 128:=⟨by kernel_rfl⟩
theorem fnOk119:FnOk Tryz.prog 119:=⟨by kernel_rfl⟩
theorem tyS164:TyS Tryz.prog 164 1 false:=⟨by kernel_rfl,by kernel_rfl⟩
theorem keyEq3:KeyEq Tryz.prog 3 (eI .i64) keq3:=⟨⟨1,by decide,fun a b=>(FitE.int (h:=0) a b underlying3)⟩,fun a b h=>by
 unfold keq3 at h
 simp at h
 simp [eI,h]⟩
theorem tyU164:Tryz.prog.underlying 164=some (.map 3 3):=by kernel_rfl
theorem fnOk131:FnOk Tryz.prog 131:=⟨by kernel_rfl⟩
theorem fnOk120:FnOk Tryz.prog 120:=⟨by kernel_rfl⟩
theorem fnOk111:FnOk Tryz.prog 111:=⟨by kernel_rfl⟩
theorem fnOk110:FnOk Tryz.prog 110:=⟨by kernel_rfl⟩
theorem fnOk91:FnOk Tryz.prog 91:=⟨by kernel_rfl⟩
theorem tyZ33:TyZ Tryz.prog 33 .nils:=⟨by kernel_rfl,fun w=>by kernel_rfl⟩
theorem tyS5:TyS Tryz.prog 5 1 false:=⟨by kernel_rfl,by kernel_rfl⟩
theorem tyZD5:TyZ Tryz.prog 5 (.d (.int .u8 0)):=⟨by kernel_rfl,fun w=>by kernel_rfl⟩
theorem fnOk132:FnOk Tryz.prog 132:=⟨by kernel_rfl⟩
theorem fnOk134:FnOk Tryz.prog 134:=⟨by kernel_rfl⟩
theorem fnOk133:FnOk Tryz.prog 133:=⟨by kernel_rfl⟩
theorem fnOk122:FnOk Tryz.prog 122:=⟨by kernel_rfl⟩
theorem fnOk135:FnOk Tryz.prog 135:=⟨by kernel_rfl⟩
theorem fnOk136:FnOk Tryz.prog 136:=⟨by kernel_rfl⟩
theorem fnOk137:FnOk Tryz.prog 137:=⟨by kernel_rfl⟩
theorem fnOk138:FnOk Tryz.prog 138:=⟨by kernel_rfl⟩
theorem fnOk123:FnOk Tryz.prog 123:=⟨by kernel_rfl⟩
theorem fnOk121:FnOk Tryz.prog 121:=⟨by kernel_rfl⟩
theorem fnOk114:FnOk Tryz.prog 114:=⟨by kernel_rfl⟩
theorem fnOk124:FnOk Tryz.prog 124:=⟨by kernel_rfl⟩
theorem fnOk113:FnOk Tryz.prog 113:=⟨by kernel_rfl⟩
theorem fnOk112:FnOk Tryz.prog 112:=⟨by kernel_rfl⟩
theorem fnOk115:FnOk Tryz.prog 115:=⟨by kernel_rfl⟩
theorem fnOk92:FnOk Tryz.prog 92:=⟨by kernel_rfl⟩
theorem fnOk52:FnOk Tryz.prog 52:=⟨by kernel_rfl⟩
theorem fnOk28:FnOk Tryz.prog 28:=⟨by kernel_rfl⟩
theorem fnOk95:FnOk Tryz.prog 95:=⟨by kernel_rfl⟩
theorem fnOk116:FnOk Tryz.prog 116:=⟨by kernel_rfl⟩
theorem fnOk96:FnOk Tryz.prog 96:=⟨by kernel_rfl⟩
theorem fnOk55:FnOk Tryz.prog 55:=⟨by kernel_rfl⟩
theorem fnOk29:FnOk Tryz.prog 29:=⟨by kernel_rfl⟩
theorem tyS79:TyS Tryz.prog 79 12 true:=⟨by kernel_rfl,by kernel_rfl⟩
theorem fnOk58:FnOk Tryz.prog 58:=⟨by kernel_rfl⟩
theorem fnOk57:FnOk Tryz.prog 57:=⟨by kernel_rfl⟩
theorem fnOk61:FnOk Tryz.prog 61:=⟨by kernel_rfl⟩
theorem held98:Program.stoodInHeld Tryz.prog 98=false:=by kernel_rfl
theorem eqg98:Program.eqGuardType Tryz.prog (Program.depth Tryz.prog) 98=false:=by kernel_rfl
theorem fnOk62:FnOk Tryz.prog 62:=⟨by kernel_rfl⟩
theorem held100:Program.stoodInHeld Tryz.prog 100=false:=by kernel_rfl
theorem eqg100:Program.eqGuardType Tryz.prog (Program.depth Tryz.prog) 100=false:=by kernel_rfl
theorem fnOk63:FnOk Tryz.prog 63:=⟨by kernel_rfl⟩
theorem fnOk60:FnOk Tryz.prog 60:=⟨by kernel_rfl⟩
theorem fnOk59:FnOk Tryz.prog 59:=⟨by kernel_rfl⟩
theorem fnOk64:FnOk Tryz.prog 64:=⟨by kernel_rfl⟩
theorem fnOk32:FnOk Tryz.prog 32:=⟨by kernel_rfl⟩
theorem fnOk31:FnOk Tryz.prog 31:=⟨by kernel_rfl⟩
theorem fnOk30:FnOk Tryz.prog 30:=⟨by kernel_rfl⟩
theorem tyZS79:TyZ Tryz.prog 79 (.st [(.st [(.d (.int .i64 0)),.nils,(.d (.st [(.bool false),(.int .u64 0),(.int .u64 0)])),(.d (.int .i64 0)),(.d (.int .i64 0)),(.d (.int .i64 0)),.nils,.nils,.nils]),.nils]):=⟨by kernel_rfl,fun w=>by kernel_rfl⟩
theorem tyZD79:TyZ Tryz.prog 79 (.d (.st [(.st [(.int .i64 0),(.list 2 (([]:List aSegment).map e_aSegment)),(.st [(.bool false),(.int .u64 0),(.int .u64 0)]),(.int .i64 0),(.int .i64 0),(.int .i64 0),(.list 2 (([]:List aCommunity).map e_aCommunity)),(.list 3 (([]:List aLarge).map e_aLarge)),(.list 3 (([]:List aUnknown).map e_aUnknown))]),(.list 4 (([]:List aPrefix).map e_aPrefix))])):=⟨by kernel_rfl,fun w=>by kernel_rfl⟩
theorem tyE79:TyE Tryz.prog 79 12 176:=⟨by kernel_rfl,by decide⟩
theorem tyZD61:TyZ Tryz.prog 61 (.d (.st [(.list 4 (([]:List aPrefix).map e_aPrefix)),(.st [(.int .i64 0),(.list 2 (([]:List aSegment).map e_aSegment)),(.st [(.bool false),(.int .u64 0),(.int .u64 0)]),(.int .i64 0),(.int .i64 0),(.int .i64 0),(.list 2 (([]:List aCommunity).map e_aCommunity)),(.list 3 (([]:List aLarge).map e_aLarge)),(.list 3 (([]:List aUnknown).map e_aUnknown))]),(.list 4 (([]:List aPrefix).map e_aPrefix))])):=⟨by kernel_rfl,fun w=>by kernel_rfl⟩
theorem tyE61:TyE Tryz.prog 61 13 200:=⟨by kernel_rfl,by decide⟩
theorem fnOk33:FnOk Tryz.prog 33:=⟨by kernel_rfl⟩
theorem fnOk12:FnOk Tryz.prog 12:=⟨by kernel_rfl⟩
theorem tyE39:TyE Tryz.prog 39 22 240:=⟨by kernel_rfl,by decide⟩
theorem fnOk39:FnOk Tryz.prog 39:=⟨by kernel_rfl⟩
theorem tyZS37:TyZ Tryz.prog 37 (.st [(.d (.st [(.st [(.bool false),(.int .u64 0),(.int .u64 0)]),(.int .i64 0)])),(.d (.int .i64 0)),(.st [(.d (.int .i64 0)),.nils,(.d (.st [(.bool false),(.int .u64 0),(.int .u64 0)])),(.d (.int .i64 0)),(.d (.int .i64 0)),(.d (.int .i64 0)),.nils,.nils,.nils])]):=⟨by kernel_rfl,fun w=>by kernel_rfl⟩
theorem fnOk16:FnOk Tryz.prog 16:=⟨by kernel_rfl⟩
theorem fnOk7:FnOk Tryz.prog 7:=⟨by kernel_rfl⟩
theorem tyZS71:TyZ Tryz.prog 71 (.st [.nils,(.d (.int .i64 0))]):=⟨by kernel_rfl,fun w=>by kernel_rfl⟩
theorem fnOk9:FnOk Tryz.prog 9:=⟨by kernel_rfl⟩
theorem fnOk11:FnOk Tryz.prog 11:=⟨by kernel_rfl⟩
theorem fnOk24:FnOk Tryz.prog 24:=⟨by kernel_rfl⟩
theorem fnOk25:FnOk Tryz.prog 25:=⟨by kernel_rfl⟩
theorem fnOk47:FnOk Tryz.prog 47:=⟨by kernel_rfl⟩
theorem tyU67:Tryz.prog.underlying 67=some (.slice 5):=by kernel_rfl
theorem fnOk22:FnOk Tryz.prog 22:=⟨by kernel_rfl⟩
theorem fnOk78:FnOk Tryz.prog 78:=⟨by kernel_rfl⟩
theorem fnOk99:FnOk Tryz.prog 99:=⟨by kernel_rfl⟩
theorem fnOk84:FnOk Tryz.prog 84:=⟨by kernel_rfl⟩
theorem fnOk100:FnOk Tryz.prog 100:=⟨by kernel_rfl⟩
theorem fnOk72:FnOk Tryz.prog 72:=⟨by kernel_rfl⟩
theorem fnOk42:FnOk Tryz.prog 42:=⟨by kernel_rfl⟩
theorem fnOk73:FnOk Tryz.prog 73:=⟨by kernel_rfl⟩
theorem fnOk74:FnOk Tryz.prog 74:=⟨by kernel_rfl⟩
theorem fnOk75:FnOk Tryz.prog 75:=⟨by kernel_rfl⟩
theorem fnOk76:FnOk Tryz.prog 76:=⟨by kernel_rfl⟩
theorem fnOk43:FnOk Tryz.prog 43:=⟨by kernel_rfl⟩
theorem fnOk101:FnOk Tryz.prog 101:=⟨by kernel_rfl⟩
theorem fnOk77:FnOk Tryz.prog 77:=⟨by kernel_rfl⟩
theorem fnOk71:FnOk Tryz.prog 71:=⟨by kernel_rfl⟩
theorem fnOk102:FnOk Tryz.prog 102:=⟨by kernel_rfl⟩
theorem fnOk103:FnOk Tryz.prog 103:=⟨by kernel_rfl⟩
theorem fnOk79:FnOk Tryz.prog 79:=⟨by kernel_rfl⟩
theorem fnOk104:FnOk Tryz.prog 104:=⟨by kernel_rfl⟩
theorem fnOk105:FnOk Tryz.prog 105:=⟨by kernel_rfl⟩
theorem fnOk80:FnOk Tryz.prog 80:=⟨by kernel_rfl⟩
theorem fnOk44:FnOk Tryz.prog 44:=⟨by kernel_rfl⟩
theorem tyU147:Tryz.prog.underlying 147=some (.map 3 67):=by kernel_rfl
theorem fnOk106:FnOk Tryz.prog 106:=⟨by kernel_rfl⟩
theorem tyZ67:TyZ Tryz.prog 67 .nils:=⟨by kernel_rfl,fun w=>by kernel_rfl⟩
theorem tyZD67:TyZ Tryz.prog 67 (.d (.list 1 (([]:List Int).map (eI .u8)))):=⟨by kernel_rfl,fun w=>by kernel_rfl⟩
theorem fnOk81:FnOk Tryz.prog 81:=⟨by kernel_rfl⟩
theorem fnOk82:FnOk Tryz.prog 82:=⟨by kernel_rfl⟩
theorem fnOk83:FnOk Tryz.prog 83:=⟨by kernel_rfl⟩
theorem fnOk85:FnOk Tryz.prog 85:=⟨by kernel_rfl⟩
theorem fnOk45:FnOk Tryz.prog 45:=⟨by kernel_rfl⟩
theorem fnOk20:FnOk Tryz.prog 20:=⟨by kernel_rfl⟩
theorem fnOk18:FnOk Tryz.prog 18:=⟨by kernel_rfl⟩
instance iS29:TS Tryz.prog 29 4 true:=⟨tyS29⟩
instance iS39:TS Tryz.prog 39 22 true:=⟨tyS39⟩
instance iS27:TS Tryz.prog 27 3 true:=⟨tyS27⟩
instance iS4:TS Tryz.prog 4 1 false:=⟨tyS4⟩
instance iS25:TS Tryz.prog 25 1 false:=⟨tyS25⟩
instance iS3:TS Tryz.prog 3 1 false:=⟨tyS3⟩
instance iS37:TS Tryz.prog 37 16 true:=⟨tyS37⟩
instance iS35:TS Tryz.prog 35 11 true:=⟨tyS35⟩
instance iS30:TS Tryz.prog 30 1 false:=⟨tyS30⟩
instance iS33:TS Tryz.prog 33 1 false:=⟨tyS33⟩
instance iS66:TS Tryz.prog 66 2 true:=⟨tyS66⟩
instance iS23:TS Tryz.prog 23 1 false:=⟨tyS23⟩
instance iS69:TS Tryz.prog 69 3 true:=⟨tyS69⟩
instance iS67:TS Tryz.prog 67 1 false:=⟨tyS67⟩
instance iS31:TS Tryz.prog 31 1 false:=⟨tyS31⟩
instance iS32:TS Tryz.prog 32 1 false:=⟨tyS32⟩
instance iS61:TS Tryz.prog 61 13 true:=⟨tyS61⟩
instance iS59:TS Tryz.prog 59 1 false:=⟨tyS59⟩
instance iS98:TS Tryz.prog 98 2 true:=⟨tyS98⟩
instance iS100:TS Tryz.prog 100 3 true:=⟨tyS100⟩
instance iS164:TS Tryz.prog 164 1 false:=⟨tyS164⟩
instance iS5:TS Tryz.prog 5 1 false:=⟨tyS5⟩
instance iS79:TS Tryz.prog 79 12 true:=⟨tyS79⟩
instance iZ29:TZ Tryz.prog 29 (.d (.st [(.st [(.bool false),(.int .u64 0),(.int .u64 0)]),(.int .i64 0)])):=⟨tyZ29⟩
instance iZ79:TZ Tryz.prog 79 (.st [(.st [(.d (.int .i64 0)),.nils,(.d (.st [(.bool false),(.int .u64 0),(.int .u64 0)])),(.d (.int .i64 0)),(.d (.int .i64 0)),(.d (.int .i64 0)),.nils,.nils,.nils]),.nils]):=⟨tyZ79⟩
instance iZ39:TZ Tryz.prog 39 (.st [(.d (.int .i64 0)),(.d (.st [(.st [(.bool false),(.int .u64 0),(.int .u64 0)]),(.int .i64 0)])),(.d (.bool false)),(.st [(.d (.st [(.st [(.bool false),(.int .u64 0),(.int .u64 0)]),(.int .i64 0)])),(.d (.int .i64 0)),(.st [(.d (.int .i64 0)),.nils,(.d (.st [(.bool false),(.int .u64 0),(.int .u64 0)])),(.d (.int .i64 0)),(.d (.int .i64 0)),(.d (.int .i64 0)),.nils,.nils,.nils])])]):=⟨tyZ39⟩
instance iZ27:TZ Tryz.prog 27 (.d (.st [(.bool false),(.int .u64 0),(.int .u64 0)])):=⟨tyZ27⟩
instance iZ61:TZ Tryz.prog 61 (.st [.nils,(.st [(.d (.int .i64 0)),.nils,(.d (.st [(.bool false),(.int .u64 0),(.int .u64 0)])),(.d (.int .i64 0)),(.d (.int .i64 0)),(.d (.int .i64 0)),.nils,.nils,.nils]),.nils]):=⟨tyZ61⟩
instance iZ35:TZ Tryz.prog 35 (.st [(.d (.int .i64 0)),.nils,(.d (.st [(.bool false),(.int .u64 0),(.int .u64 0)])),(.d (.int .i64 0)),(.d (.int .i64 0)),(.d (.int .i64 0)),.nils,.nils,.nils]):=⟨tyZ35⟩
instance iZ66:TZ Tryz.prog 66 (.st [(.d (.bool false)),.nils]):=⟨tyZ66⟩
instance iZ69:TZ Tryz.prog 69 (.st [(.d (.int .i64 0)),(.d (.int .i64 0)),.nils]):=⟨tyZ69⟩
instance iZ98:TZ Tryz.prog 98 (.d (.st [(.int .i64 0),(.int .i64 0)])):=⟨tyZ98⟩
instance iZ100:TZ Tryz.prog 100 (.d (.st [(.int .i64 0),(.int .i64 0),(.int .i64 0)])):=⟨tyZ100⟩
instance iZ33:TZ Tryz.prog 33 .nils:=⟨tyZ33⟩
instance iZ67:TZ Tryz.prog 67 .nils:=⟨tyZ67⟩
instance iL27:TZL Tryz.prog 27 [(.d (.bool false)),(.d (.int .u64 0)),(.d (.int .u64 0))]:=⟨tyZS27⟩
instance iP27:TP Tryz.prog 27 [(0,1),(1,1),(2,1)]:=⟨⟨_,underlying27,fun w=>by kernel_rfl⟩⟩
instance iL29:TZL Tryz.prog 29 [(.d (.st [(.bool false),(.int .u64 0),(.int .u64 0)])),(.d (.int .i64 0))]:=⟨tyZS29⟩
instance iP29:TP Tryz.prog 29 [(0,3),(3,1)]:=⟨⟨_,underlying29,fun w=>by kernel_rfl⟩⟩
instance iL39:TZL Tryz.prog 39 [(.d (.int .i64 0)),(.d (.st [(.st [(.bool false),(.int .u64 0),(.int .u64 0)]),(.int .i64 0)])),(.d (.bool false)),(.st [(.d (.st [(.st [(.bool false),(.int .u64 0),(.int .u64 0)]),(.int .i64 0)])),(.d (.int .i64 0)),(.st [(.d (.int .i64 0)),.nils,(.d (.st [(.bool false),(.int .u64 0),(.int .u64 0)])),(.d (.int .i64 0)),(.d (.int .i64 0)),(.d (.int .i64 0)),.nils,.nils,.nils])])]:=⟨tyZS39⟩
instance iP39:TP Tryz.prog 39 [(0,1),(1,4),(5,1),(6,16)]:=⟨⟨_,underlying39,fun w=>by kernel_rfl⟩⟩
instance iL66:TZL Tryz.prog 66 [(.d (.bool false)),.nils]:=⟨tyZS66⟩
instance iP66:TP Tryz.prog 66 [(0,1),(1,1)]:=⟨⟨_,underlying66,fun w=>by kernel_rfl⟩⟩
instance iL69:TZL Tryz.prog 69 [(.d (.int .i64 0)),(.d (.int .i64 0)),.nils]:=⟨tyZS69⟩
instance iP69:TP Tryz.prog 69 [(0,1),(1,1),(2,1)]:=⟨⟨_,underlying69,fun w=>by kernel_rfl⟩⟩
instance iL61:TZL Tryz.prog 61 [.nils,(.st [(.d (.int .i64 0)),.nils,(.d (.st [(.bool false),(.int .u64 0),(.int .u64 0)])),(.d (.int .i64 0)),(.d (.int .i64 0)),(.d (.int .i64 0)),.nils,.nils,.nils]),.nils]:=⟨tyZS61⟩
instance iP61:TP Tryz.prog 61 [(0,1),(1,11),(12,1)]:=⟨⟨_,underlying61,fun w=>by kernel_rfl⟩⟩
instance iL35:TZL Tryz.prog 35 [(.d (.int .i64 0)),.nils,(.d (.st [(.bool false),(.int .u64 0),(.int .u64 0)])),(.d (.int .i64 0)),(.d (.int .i64 0)),(.d (.int .i64 0)),.nils,.nils,.nils]:=⟨tyZS35⟩
instance iP35:TP Tryz.prog 35 [(0,1),(1,1),(2,3),(5,1),(6,1),(7,1),(8,1),(9,1),(10,1)]:=⟨⟨_,underlying35,fun w=>by kernel_rfl⟩⟩
instance iL79:TZL Tryz.prog 79 [(.st [(.d (.int .i64 0)),.nils,(.d (.st [(.bool false),(.int .u64 0),(.int .u64 0)])),(.d (.int .i64 0)),(.d (.int .i64 0)),(.d (.int .i64 0)),.nils,.nils,.nils]),.nils]:=⟨tyZS79⟩
instance iP79:TP Tryz.prog 79 [(0,11),(11,1)]:=⟨⟨_,underlying79,fun w=>by kernel_rfl⟩⟩
instance iL37:TZL Tryz.prog 37 [(.d (.st [(.st [(.bool false),(.int .u64 0),(.int .u64 0)]),(.int .i64 0)])),(.d (.int .i64 0)),(.st [(.d (.int .i64 0)),.nils,(.d (.st [(.bool false),(.int .u64 0),(.int .u64 0)])),(.d (.int .i64 0)),(.d (.int .i64 0)),(.d (.int .i64 0)),.nils,.nils,.nils])]:=⟨tyZS37⟩
instance iP37:TP Tryz.prog 37 [(0,4),(4,1),(5,11)]:=⟨⟨_,underlying37,fun w=>by kernel_rfl⟩⟩
instance iL71:TZL Tryz.prog 71 [.nils,(.d (.int .i64 0))]:=⟨tyZS71⟩
instance iP71:TP Tryz.prog 71 [(0,1),(1,1)]:=⟨⟨_,underlying71,fun w=>by kernel_rfl⟩⟩
instance iD39:TZD Tryz.prog 39 (.st [(.int .i64 0),(.st [(.st [(.bool false),(.int .u64 0),(.int .u64 0)]),(.int .i64 0)]),(.bool false),(.st [(.st [(.st [(.bool false),(.int .u64 0),(.int .u64 0)]),(.int .i64 0)]),(.int .i64 0),(.st [(.int .i64 0),(.list 2 (([]:List aSegment).map e_aSegment)),(.st [(.bool false),(.int .u64 0),(.int .u64 0)]),(.int .i64 0),(.int .i64 0),(.int .i64 0),(.list 2 (([]:List aCommunity).map e_aCommunity)),(.list 3 (([]:List aLarge).map e_aLarge)),(.list 3 (([]:List aUnknown).map e_aUnknown))])])]):=⟨tyZD39⟩
instance iD29:TZD Tryz.prog 29 (.st [(.st [(.bool false),(.int .u64 0),(.int .u64 0)]),(.int .i64 0)]):=⟨tyZD29⟩
instance iD66:TZD Tryz.prog 66 (.st [(.bool false),(.list 1 (([]:List Int).map (eI .i64)))]):=⟨tyZD66⟩
instance iD69:TZD Tryz.prog 69 (.st [(.int .i64 0),(.int .i64 0),(.list 1 (([]:List Int).map (eI .u8)))]):=⟨tyZD69⟩
instance iD3:TZD Tryz.prog 3 (.int .i64 0):=⟨tyZD3⟩
instance iD5:TZD Tryz.prog 5 (.int .u8 0):=⟨tyZD5⟩
instance iD79:TZD Tryz.prog 79 (.st [(.st [(.int .i64 0),(.list 2 (([]:List aSegment).map e_aSegment)),(.st [(.bool false),(.int .u64 0),(.int .u64 0)]),(.int .i64 0),(.int .i64 0),(.int .i64 0),(.list 2 (([]:List aCommunity).map e_aCommunity)),(.list 3 (([]:List aLarge).map e_aLarge)),(.list 3 (([]:List aUnknown).map e_aUnknown))]),(.list 4 (([]:List aPrefix).map e_aPrefix))]):=⟨tyZD79⟩
instance iD61:TZD Tryz.prog 61 (.st [(.list 4 (([]:List aPrefix).map e_aPrefix)),(.st [(.int .i64 0),(.list 2 (([]:List aSegment).map e_aSegment)),(.st [(.bool false),(.int .u64 0),(.int .u64 0)]),(.int .i64 0),(.int .i64 0),(.int .i64 0),(.list 2 (([]:List aCommunity).map e_aCommunity)),(.list 3 (([]:List aLarge).map e_aLarge)),(.list 3 (([]:List aUnknown).map e_aUnknown))]),(.list 4 (([]:List aPrefix).map e_aPrefix))]):=⟨tyZD61⟩
instance iD67:TZD Tryz.prog 67 (.list 1 (([]:List Int).map (eI .u8))):=⟨tyZD67⟩
instance iE3:TE Tryz.prog 3 1 8:=⟨tyE3⟩
instance iE66:TE Tryz.prog 66 2 32:=⟨tyE66⟩
instance iE5:TE Tryz.prog 5 1 1:=⟨tyE5⟩
instance iE69:TE Tryz.prog 69 3 40:=⟨tyE69⟩
instance iE98:TE Tryz.prog 98 2 16:=⟨tyE98⟩
instance iE100:TE Tryz.prog 100 3 24:=⟨tyE100⟩
instance iE29:TE Tryz.prog 29 4 32:=⟨tyE29⟩
instance iE79:TE Tryz.prog 79 12 176:=⟨tyE79⟩
instance iE61:TE Tryz.prog 61 13 200:=⟨tyE61⟩
instance iE39:TE Tryz.prog 39 22 240:=⟨tyE39⟩
instance iF86:FO Tryz.prog 86:=⟨fnOk86⟩
instance iF87:FO Tryz.prog 87:=⟨fnOk87⟩
instance iF107:FO Tryz.prog 107:=⟨fnOk107⟩
instance iF88:FO Tryz.prog 88:=⟨fnOk88⟩
instance iF51:FO Tryz.prog 51:=⟨fnOk51⟩
instance iF67:FO Tryz.prog 67:=⟨fnOk67⟩
instance iF68:FO Tryz.prog 68:=⟨fnOk68⟩
instance iF69:FO Tryz.prog 69:=⟨fnOk69⟩
instance iF70:FO Tryz.prog 70:=⟨fnOk70⟩
instance iF40:FO Tryz.prog 40:=⟨fnOk40⟩
instance iF93:FO Tryz.prog 93:=⟨fnOk93⟩
instance iF94:FO Tryz.prog 94:=⟨fnOk94⟩
instance iF53:FO Tryz.prog 53:=⟨fnOk53⟩
instance iF89:FO Tryz.prog 89:=⟨fnOk89⟩
instance iF108:FO Tryz.prog 108:=⟨fnOk108⟩
instance iF90:FO Tryz.prog 90:=⟨fnOk90⟩
instance iF109:FO Tryz.prog 109:=⟨fnOk109⟩
instance iF117:FO Tryz.prog 117:=⟨fnOk117⟩
instance iF98:FO Tryz.prog 98:=⟨fnOk98⟩
instance iF66:FO Tryz.prog 66:=⟨fnOk66⟩
instance iF152:FO Tryz.prog 152:=⟨fnOk152⟩
instance iF153:FO Tryz.prog 153:=⟨fnOk153⟩
instance iF141:FO Tryz.prog 141:=⟨fnOk141⟩
instance iF126:FO Tryz.prog 126:=⟨fnOk126⟩
instance iF97:FO Tryz.prog 97:=⟨fnOk97⟩
instance iF56:FO Tryz.prog 56:=⟨fnOk56⟩
instance iF54:FO Tryz.prog 54:=⟨fnOk54⟩
instance iF127:FO Tryz.prog 127:=⟨fnOk127⟩
instance iF125:FO Tryz.prog 125:=⟨fnOk125⟩
instance iF118:FO Tryz.prog 118:=⟨fnOk118⟩
instance iF129:FO Tryz.prog 129:=⟨fnOk129⟩
instance iF130:FO Tryz.prog 130:=⟨fnOk130⟩
instance iF128:FO Tryz.prog 128:=⟨fnOk128⟩
instance iF119:FO Tryz.prog 119:=⟨fnOk119⟩
instance iF131:FO Tryz.prog 131:=⟨fnOk131⟩
instance iF120:FO Tryz.prog 120:=⟨fnOk120⟩
instance iF111:FO Tryz.prog 111:=⟨fnOk111⟩
instance iF110:FO Tryz.prog 110:=⟨fnOk110⟩
instance iF91:FO Tryz.prog 91:=⟨fnOk91⟩
instance iF132:FO Tryz.prog 132:=⟨fnOk132⟩
instance iF134:FO Tryz.prog 134:=⟨fnOk134⟩
instance iF133:FO Tryz.prog 133:=⟨fnOk133⟩
instance iF122:FO Tryz.prog 122:=⟨fnOk122⟩
instance iF135:FO Tryz.prog 135:=⟨fnOk135⟩
instance iF136:FO Tryz.prog 136:=⟨fnOk136⟩
instance iF137:FO Tryz.prog 137:=⟨fnOk137⟩
instance iF138:FO Tryz.prog 138:=⟨fnOk138⟩
instance iF123:FO Tryz.prog 123:=⟨fnOk123⟩
instance iF121:FO Tryz.prog 121:=⟨fnOk121⟩
instance iF114:FO Tryz.prog 114:=⟨fnOk114⟩
instance iF124:FO Tryz.prog 124:=⟨fnOk124⟩
instance iF113:FO Tryz.prog 113:=⟨fnOk113⟩
instance iF112:FO Tryz.prog 112:=⟨fnOk112⟩
instance iF115:FO Tryz.prog 115:=⟨fnOk115⟩
instance iF92:FO Tryz.prog 92:=⟨fnOk92⟩
instance iF52:FO Tryz.prog 52:=⟨fnOk52⟩
instance iF28:FO Tryz.prog 28:=⟨fnOk28⟩
instance iF95:FO Tryz.prog 95:=⟨fnOk95⟩
instance iF116:FO Tryz.prog 116:=⟨fnOk116⟩
instance iF96:FO Tryz.prog 96:=⟨fnOk96⟩
instance iF55:FO Tryz.prog 55:=⟨fnOk55⟩
instance iF29:FO Tryz.prog 29:=⟨fnOk29⟩
instance iF58:FO Tryz.prog 58:=⟨fnOk58⟩
instance iF57:FO Tryz.prog 57:=⟨fnOk57⟩
instance iF61:FO Tryz.prog 61:=⟨fnOk61⟩
instance iF62:FO Tryz.prog 62:=⟨fnOk62⟩
instance iF63:FO Tryz.prog 63:=⟨fnOk63⟩
instance iF60:FO Tryz.prog 60:=⟨fnOk60⟩
instance iF59:FO Tryz.prog 59:=⟨fnOk59⟩
instance iF64:FO Tryz.prog 64:=⟨fnOk64⟩
instance iF32:FO Tryz.prog 32:=⟨fnOk32⟩
instance iF31:FO Tryz.prog 31:=⟨fnOk31⟩
instance iF30:FO Tryz.prog 30:=⟨fnOk30⟩
instance iF33:FO Tryz.prog 33:=⟨fnOk33⟩
instance iF12:FO Tryz.prog 12:=⟨fnOk12⟩
instance iF39:FO Tryz.prog 39:=⟨fnOk39⟩
instance iF16:FO Tryz.prog 16:=⟨fnOk16⟩
instance iF7:FO Tryz.prog 7:=⟨fnOk7⟩
instance iF9:FO Tryz.prog 9:=⟨fnOk9⟩
instance iF11:FO Tryz.prog 11:=⟨fnOk11⟩
instance iF24:FO Tryz.prog 24:=⟨fnOk24⟩
instance iF25:FO Tryz.prog 25:=⟨fnOk25⟩
instance iF47:FO Tryz.prog 47:=⟨fnOk47⟩
instance iF22:FO Tryz.prog 22:=⟨fnOk22⟩
instance iF78:FO Tryz.prog 78:=⟨fnOk78⟩
instance iF99:FO Tryz.prog 99:=⟨fnOk99⟩
instance iF84:FO Tryz.prog 84:=⟨fnOk84⟩
instance iF100:FO Tryz.prog 100:=⟨fnOk100⟩
instance iF72:FO Tryz.prog 72:=⟨fnOk72⟩
instance iF42:FO Tryz.prog 42:=⟨fnOk42⟩
instance iF73:FO Tryz.prog 73:=⟨fnOk73⟩
instance iF74:FO Tryz.prog 74:=⟨fnOk74⟩
instance iF75:FO Tryz.prog 75:=⟨fnOk75⟩
instance iF76:FO Tryz.prog 76:=⟨fnOk76⟩
instance iF43:FO Tryz.prog 43:=⟨fnOk43⟩
instance iF101:FO Tryz.prog 101:=⟨fnOk101⟩
instance iF77:FO Tryz.prog 77:=⟨fnOk77⟩
instance iF71:FO Tryz.prog 71:=⟨fnOk71⟩
instance iF102:FO Tryz.prog 102:=⟨fnOk102⟩
instance iF103:FO Tryz.prog 103:=⟨fnOk103⟩
instance iF79:FO Tryz.prog 79:=⟨fnOk79⟩
instance iF104:FO Tryz.prog 104:=⟨fnOk104⟩
instance iF105:FO Tryz.prog 105:=⟨fnOk105⟩
instance iF80:FO Tryz.prog 80:=⟨fnOk80⟩
instance iF44:FO Tryz.prog 44:=⟨fnOk44⟩
instance iF106:FO Tryz.prog 106:=⟨fnOk106⟩
instance iF81:FO Tryz.prog 81:=⟨fnOk81⟩
instance iF82:FO Tryz.prog 82:=⟨fnOk82⟩
instance iF83:FO Tryz.prog 83:=⟨fnOk83⟩
instance iF85:FO Tryz.prog 85:=⟨fnOk85⟩
instance iF45:FO Tryz.prog 45:=⟨fnOk45⟩
instance iF20:FO Tryz.prog 20:=⟨fnOk20⟩
instance iF18:FO Tryz.prog 18:=⟨fnOk18⟩
instance iU3:Und Tryz.prog 3 (.int .i64):=⟨underlying3⟩
instance iU4:Und Tryz.prog 4 .bool:=⟨underlying4⟩
instance iU5:Und Tryz.prog 5 (.int .u8):=⟨underlying5⟩
instance iU9:Und Tryz.prog 9 .string:=⟨underlying9⟩
instance iU22:Und Tryz.prog 22 (.slice 39):=⟨underlying22⟩
instance iU23:Und Tryz.prog 23 (.slice 3):=⟨underlying23⟩
instance iU25:Und Tryz.prog 25 (.int .u64):=⟨underlying25⟩
instance iU27:UF Tryz.prog 27 [(4,0),(25,1),(25,2)]:=⟨⟨_,underlying27,rfl⟩⟩
instance iU29:UF Tryz.prog 29 [(27,0),(3,3)]:=⟨⟨_,underlying29,rfl⟩⟩
instance iU30:Und Tryz.prog 30 (.slice 66):=⟨underlying30⟩
instance iU31:Und Tryz.prog 31 (.slice 98):=⟨underlying31⟩
instance iU32:Und Tryz.prog 32 (.slice 100):=⟨underlying32⟩
instance iU33:Und Tryz.prog 33 (.slice 69):=⟨underlying33⟩
instance iU35:UF Tryz.prog 35 [(3,0),(30,1),(27,2),(3,5),(3,6),(3,7),(31,8),(32,9),(33,10)]:=⟨⟨_,underlying35,rfl⟩⟩
instance iU37:UF Tryz.prog 37 [(29,0),(3,4),(35,5)]:=⟨⟨_,underlying37,rfl⟩⟩
instance iU39:UF Tryz.prog 39 [(3,0),(29,1),(4,5),(37,6)]:=⟨⟨_,underlying39,rfl⟩⟩
instance iU47:Und Tryz.prog 47 (.slice 61):=⟨underlying47⟩
instance iU59:Und Tryz.prog 59 (.slice 29):=⟨underlying59⟩
instance iU61:UF Tryz.prog 61 [(59,0),(35,1),(59,12)]:=⟨⟨_,underlying61,rfl⟩⟩
instance iU66:UF Tryz.prog 66 [(4,0),(23,1)]:=⟨⟨_,underlying66,rfl⟩⟩
instance iU67:Und Tryz.prog 67 (.slice 5):=⟨underlying67⟩
instance iU69:UF Tryz.prog 69 [(3,0),(3,1),(67,2)]:=⟨⟨_,underlying69,rfl⟩⟩
instance iU71:UF Tryz.prog 71 [(23,0),(3,1)]:=⟨⟨_,underlying71,rfl⟩⟩
instance iU79:UF Tryz.prog 79 [(35,0),(59,11)]:=⟨⟨_,underlying79,rfl⟩⟩
instance iU80:Und Tryz.prog 80 (.slice 79):=⟨underlying80⟩
instance iU92:Und Tryz.prog 92 (.int .u64):=⟨underlying92⟩
instance iU98:UF Tryz.prog 98 [(3,0),(3,1)]:=⟨⟨_,underlying98,rfl⟩⟩
instance iU100:UF Tryz.prog 100 [(3,0),(3,1),(3,2)]:=⟨⟨_,underlying100,rfl⟩⟩
instance iM3:Emb Tryz.prog 3 Int (eI .i64):=⟨fun _ _=>rfl⟩
instance iM5:Emb Tryz.prog 5 Int (eI .u8):=⟨fun _ _=>rfl⟩
instance iM29:Emb Tryz.prog 29 aPrefix e_aPrefix:=⟨fun _ _=>rfl⟩
instance iM39:Emb Tryz.prog 39 aChange e_aChange:=⟨fun _ _=>rfl⟩
instance iM61:Emb Tryz.prog 61 aUpdate e_aUpdate:=⟨fun _ _=>rfl⟩
instance iM66:Emb Tryz.prog 66 aSegment e_aSegment:=⟨fun _ _=>rfl⟩
instance iM69:Emb Tryz.prog 69 aUnknown e_aUnknown:=⟨fun _ _=>rfl⟩
instance iM79:Emb Tryz.prog 79 pack_group e_pack_group:=⟨fun _ _=>rfl⟩
instance iM98:Emb Tryz.prog 98 aCommunity e_aCommunity:=⟨fun _ _=>rfl⟩
instance iM100:Emb Tryz.prog 100 aLarge e_aLarge:=⟨fun _ _=>rfl⟩
def addr_Valid (a0:aAddr):Option (Bool) :=
 jn (fun m2:Bool =>
 some m2) (fun j3 =>
 (if a0.fV6=true then
 j3 true
 else
 j3 ((a0.fHi==0)&&(decide (a0.fLo<4294967296)))))
theorem addr_Valid_ac (a0:aAddr) (r:Bool) (h:addr_Valid a0=some r):AC Tryz.prog 86 [(.d (e_aAddr a0))] [] (.d (.bool r)) []:=by
 refine ac2 Tryz.func86 rfl rfl fun B hB hN L => ?_
 delta addr_Valid at h
 refine sr (SQ tt) ?_
 apply AWp.seq
 refine AWp.cut h (fun m2:Bool=>([(2,(bo m2))]:EL)) (fun m2:Bool=>([]:OL)) (fun m2 h E' O' hmat => ?_) (fun j3 hjj3 h => ?_)
 ·apply seqQ_n
  refine AWp.ghost hmat ?_
  apply AWp.ret
  obtain rfl:=oi h
  exact rt (kp [(2,_)] [] hB rfl rfl (by rfl)) [(bo m2)] (Res.tmp (by rfl) (by rfl) Res.nil) rfl
 ·rcases bft a0.fV6 with hg4 | hg4
  ·have h:=ite_t hg4 h
   refine rg (SQ (fa hg4 tt)) ?_
   exact hjj3 _ h _ _ (mp [] _ _ hB)
  ·have h:=ite_f hg4 h
   refine rg (SQ (fa hg4 tt)) ?_
   exact hjj3 _ h _ _ (mp [] _ _ hB)
def prefix_width (a0:aAddr):Option (Int) :=
 (if a0.fV6=true then
 some 128
 else
 some 32)
theorem prefix_width_ac (a0:aAddr) (r:Int) (h:prefix_width a0=some r):AC Tryz.prog 87 [(.d (e_aAddr a0))] [] (.d (.int .i64 r)) []:=by
 refine AC.of_code2 Tryz.func87 rfl rfl (Nat.le_of_ble_eq_true (by rfl)) fun B hB hN => ?_
 delta prefix_width at h
 refine sr (SQ tt) ?_
 apply AWp.seq
 refine sr (SQ tt) ?_
 apply AWp.cond rfl<;>intro hg1
 ·have h:=ite_t hg1 h
  refine sr (SQ tt) ?_
  apply AWp.ret
  apply seqQ_r
  obtain rfl:=oi h
  exact rt (kp [(2,_)] [] hB rfl rfl (by rfl)) [(i6 128)] (Res.tmp (by rfl) (by rfl) Res.nil) rfl
 ·have h:=ite_f hg1 h
  apply AWp.skip
  apply seqQ_n
  refine sr (SQ tt) ?_
  apply AWp.ret
  obtain rfl:=oi h
  exact rt (kp [(2,_)] [] hB rfl rfl (by rfl)) [(i6 32)] (Res.tmp (by rfl) (by rfl) Res.nil) rfl
def prefix_masks (a0:Int):Option (Int×Int) :=
 (if (decide (64<a0))=true then
 some ((IntKind.u64.wrap ((shlI .u64 1 (IntKind.u64.wrap (w64 (a0-64))))-1)),18446744073709551615)
 else
 some (0,(IntKind.u64.wrap ((shlI .u64 1 (IntKind.u64.wrap a0))-1))))
theorem prefix_masks_ac (a0:Int) (r:Int×Int) (h:prefix_masks a0=some r):AC Tryz.prog 107 [(.d (.int .i64 a0))] [] (.tup [(.d (.int .u64 r.1)),(.d (.int .u64 r.2))]) []:=by
 refine ac2 Tryz.func107 rfl rfl fun B hB hN L => ?_
 delta prefix_masks at h
 refine sr (SQ tt) ?_
 apply AWp.seq
 refine sr (SQ tt) ?_
 apply AWp.cond rfl<;>intro hg1
 ·have h:=ite_t hg1 h
  refine sr (SQ tt) ?_
  apply AWp.ret
  apply seqQ_r
  obtain rfl:=oi h
  exact rt (kp [(2,_),(3,_)] [] hB rfl rfl (by rfl)) [(.d (.int .u64 (IntKind.u64.wrap ((shlI .u64 1 (IntKind.u64.wrap (w64 (a0-64))))-1)))),(.d (.int .u64 18446744073709551615))] (Res.tmp (by rfl) (by rfl) (Res.tmp (by rfl) (by rfl) Res.nil)) rfl
 ·have h:=ite_f hg1 h
  apply AWp.skip
  apply seqQ_n
  refine sr (SQ tt) ?_
  apply AWp.ret
  obtain rfl:=oi h
  exact rt (kp [(2,_),(3,_)] [] hB rfl rfl (by rfl)) [(.d (.int .u64 0)),(.d (.int .u64 (IntKind.u64.wrap ((shlI .u64 1 (IntKind.u64.wrap a0))-1))))] (Res.tmp (by rfl) (by rfl) (Res.tmp (by rfl) (by rfl) Res.nil)) rfl
def prefix_first (a0:aAddr) (a1:Int):Option (aAddr) :=
 (prefix_width a0).bind fun r1 =>
 (prefix_masks (w64 (r1-a1))).bind fun r2 =>
 some (aAddr.mk a0.fV6 (bitI .andNot .u64 a0.fHi r2.1) (bitI .andNot .u64 a0.fLo r2.2))
theorem prefix_first_ac (a0:aAddr) (a1:Int) (r:aAddr) (h:prefix_first a0 a1=some r):AC Tryz.prog 88 [(.d (e_aAddr a0)),(.d (.int .i64 a1))] [] (.d (e_aAddr r)) []:=by
 refine AC.of_code2 Tryz.func88 rfl rfl (Nat.le_of_ble_eq_true (by rfl)) fun B hB hN => ?_
 delta prefix_first at h
 refine sr (SQ tt) ?_
 obtain⟨r1,hr1,h⟩:=bindS h
 obtain⟨r2,hr2,h⟩:=bindS h
 refine sr (SQ (fa (cl [] (prefix_width_ac a0 r1 hr1)) (fa (cl [] (prefix_masks_ac (w64 (r1-a1)) r2 hr2)) tt))) ?_
 refine sr (SQ tt) ?_
 refine sr (SQ tt) ?_
 refine sr (SQ tt) ?_
 apply AWp.ret
 obtain rfl:=oi h
 exact rt (kp [(4,_)] [(1004,some _)] hB rfl rfl (by rfl)) [(.d (.st [(.bool a0.fV6),(.int .u64 (bitI .andNot .u64 a0.fHi r2.1)),(.int .u64 (bitI .andNot .u64 a0.fLo r2.2))]))] (Res.cell (c:=(.d (.st [(.bool a0.fV6),(.int .u64 (bitI .andNot .u64 a0.fHi r2.1)),(.int .u64 (bitI .andNot .u64 a0.fLo r2.2))]))) (by rfl) (by rfl) tyS27 (by rfl) (by rfl) (by rfl) Res.nil) rfl
def prefix_Valid (a0:aPrefix):Option (Bool) :=
 jn (fun m7:Bool =>
 some m7) (fun j8 =>
 (addr_Valid a0.fAddr).bind fun r9 =>
 (if (r9&&(decide (0≤a0.fLen)))=true then
 (prefix_width a0.fAddr).bind fun r11 =>
 (if (decide (a0.fLen≤r11))=true then
 (prefix_first a0.fAddr a0.fLen).bind fun r13 =>
 j8 ((r13.fV6==a0.fAddr.fV6)&&((r13.fHi==a0.fAddr.fHi)&&((r13.fLo==a0.fAddr.fLo)&&true)))
 else
 j8 false)
 else
 j8 false))
theorem prefix_Valid_ac (a0:aPrefix) (r:Bool) (h:prefix_Valid a0=some r):AC Tryz.prog 51 [(.d (e_aPrefix a0))] [] (.d (.bool r)) []:=by
 refine ac2 Tryz.func51 rfl rfl fun B hB hN L => ?_
 delta prefix_Valid at h
 refine sr (SQ tt) ?_
 apply AWp.seq
 refine AWp.cut h (fun m7:Bool=>([(2,(bo m7))]:EL)) (fun m7:Bool=>([]:OL)) (fun m7 h E' O' hmat => ?_) (fun j8 hjj8 h => ?_)
 ·apply seqQ_n
  refine AWp.ghost hmat ?_
  apply AWp.ret
  obtain rfl:=oi h
  exact rt (kp [(2,_)] [] hB rfl rfl (by rfl)) [(bo m7)] (Res.tmp (by rfl) (by rfl) Res.nil) rfl
 ·obtain⟨r9,hr9,h⟩:=bindS h
  rcases bft (r9&&(decide (0≤a0.fLen))) with hg10 | hg10
  ·have h:=ite_t hg10 h
   obtain⟨r11,hr11,h⟩:=bindS h
   rcases bft (decide (a0.fLen≤r11)) with hg12 | hg12
   ·have h:=ite_t hg12 h
    obtain⟨r13,hr13,h⟩:=bindS h
    apply dr (c (fo 1001 0 [0] hN underlying29 0 tyS27 (q 1)) rfl (c (la hN 29 tyS27 (q 3)) rfl (cg (cf hB fnOk86 (addr_Valid_ac a0.fAddr r9 hr9) (L rfl) (OpdL.cons (q 4) OpdL.nil)) rfl (c (mv hN (q 5)) rfl (c (oq hN 6 (fo 1001 3 [1] hN underlying29 3 tyS3 (q 1)) (OptL.keep (by rfl) OptL.nil) (GuardV.plain _)) rfl (c (oq hN 6 (la hN 29 tyS3 (q 7)) (OptL.opt OptL.nil) (GuardV.plain _)) rfl (c (oq hN 6 (geq (L rfl) (q 8) (ii 0)) (OptL.opt OptL.nil) (GuardV.plain _)) rfl (c (pickAnd rfl (L rfl) (q 6) (q 9)) rfl (c (OpJ.val (v':=.d (.bool true)) (by rw [hg10]<;>rfl) (mv hN (q 10))) rfl (c (gd 11 (fo 1001 3 [1] hN underlying29 3 tyS3 (q 1))) rfl (c (gd 11 (la hN 29 tyS3 (q 12))) rfl (c (gd 11 (fo 1001 0 [0] hN underlying29 0 tyS27 (q 1))) rfl (c (gd 11 (la hN 29 tyS27 (q 14))) rfl (cg (gd 11 (cf hB fnOk87 (prefix_width_ac a0.fAddr r11 hr11) (L rfl) (OpdL.cons (q 15) OpdL.nil))) rfl (c (gd 11 (leq (L rfl) (q 13) (q 16))) rfl (c (pickT (L rfl) (q 11) (q 17)) rfl (c (OpJ.val (v':=.d (.bool true)) (by rw [hg12]<;>rfl) (mv hN (q 18))) rfl (c (gd 19 (fo 1001 0 [0] hN underlying29 0 tyS27 (q 1))) rfl (c (gd 19 (la hN 29 tyS27 (q 20))) rfl (c (gd 19 (fo 1001 3 [1] hN underlying29 3 tyS3 (q 1))) rfl (c (gd 19 (la hN 29 tyS3 (q 22))) rfl (cg (gd 19 (cf hB fnOk88 (prefix_first_ac a0.fAddr a0.fLen r13 hr13) (L rfl) (OpdL.cons (q 21) (OpdL.cons (q 23) OpdL.nil)))) rfl (c (gd 19 (fo 1001 0 [0] hN underlying29 0 tyS27 (q 1))) rfl (c (gd 19 (la hN 29 tyS27 (q 25))) rfl (c (gd 19 (OpJ.eqlD (h:=2) (FitE.st underlying27 rfl held27 (FitF.cons (x:=(.bool r13.fV6)) (y:=(.bool a0.fAddr.fV6)) (by decide) rfl tyS4 ⟨rfl,rfl⟩ ⟨rfl,rfl⟩ (FitE.bool (h:=0) r13.fV6 a0.fAddr.fV6 underlying4) (FitF.cons (x:=(.int .u64 r13.fHi)) (y:=(.int .u64 a0.fAddr.fHi)) (by decide) rfl tyS25 ⟨rfl,rfl⟩ ⟨rfl,rfl⟩ (FitE.int (h:=0) r13.fHi a0.fAddr.fHi underlying25) (FitF.cons (x:=(.int .u64 r13.fLo)) (y:=(.int .u64 a0.fAddr.fLo)) (by decide) rfl tyS25 ⟨rfl,rfl⟩ ⟨rfl,rfl⟩ (FitE.int (h:=0) r13.fLo a0.fAddr.fLo underlying25) FitF.nil)))) eqg27 ⟨rfl,rfl⟩ (by rfl) (L rfl) (q 24) (q 26))) rfl (c (pickT (L rfl) (q 19) (q 27)) rfl (c (assign (L rfl) (q 28)) rfl cn))))))))))))))))))))))))))) (by kernel_rfl) (by kernel_rfl)
    exact hjj8 _ h _ _ (mp [] _ _ hB)
   ·have h:=ite_f hg12 h
    refine drS (SQ (fa (cl [] (addr_Valid_ac a0.fAddr r9 hr9)) (fa hg10 (fa (cl [] (prefix_width_ac a0.fAddr r11 hr11)) (fa hg12 tt))))) ?_
    exact hjj8 _ h _ _ (mp [] _ _ hB)
  ·have h:=ite_f hg10 h
   refine drS (SQ (fa (cl [] (addr_Valid_ac a0.fAddr r9 hr9)) (fa hg10 tt))) ?_
   exact hjj8 _ h _ _ (mp [] _ _ hB)
def clone_List (a0:(List Int)):Option ((List Int)) :=
 chk (decide (a0.length≤LIM)) <|
 some a0
theorem clone_List_ac (a0:(List Int)) (r:(List Int)) (h:clone_List a0=some r):AC Tryz.prog 67 [(.d (.list 1 (a0.map (eI .i64))))] [] (.d (.list 1 (r.map (eI .i64)))) []:=by
 refine AC.of_code2 Tryz.func67 rfl rfl (Nat.le_of_ble_eq_true (by rfl)) fun B hB hN => ?_
 delta clone_List at h
 refine sr (SQ tt) ?_
 obtain⟨hc1,h⟩:=chk_some h
 refine sr (SQ (fa hc1 tt)) ?_
 apply AWp.ret
 obtain rfl:=oi h
 exact rt (Mat.trans (Mat.freezeP (n:=1004) (e:=3) (sz:=1) (es:=a0.map (eI .i64)) (Ts:=[(2,(qI_1 a0))]) (Bs:=[]) (by rfl) (TwT.cons (x:=(.sref 1004 1 0 a0.length)) (by rfl) (FrzL.all (by first | rfl | (simp;done) | (simp;omega) | omega)) TwT.nil) TwB.nil) (mp [] [(2,(qI_1 a0))] [] hB)) [(qI_1 a0)] (Res.tmp (by rfl) (by rfl) Res.nil) rfl
def clone_List_2 (a0:(List Int)):Option ((List Int)) :=
 chk (decide (a0.length≤LIM)) <|
 some a0
theorem clone_List_2_ac (a0:(List Int)) (r:(List Int)) (h:clone_List_2 a0=some r):AC Tryz.prog 68 [(.d (.list 1 (a0.map (eI .u8))))] [] (.d (.list 1 (r.map (eI .u8)))) []:=by
 refine AC.of_code2 Tryz.func68 rfl rfl (Nat.le_of_ble_eq_true (by rfl)) fun B hB hN => ?_
 delta clone_List_2 at h
 refine sr (SQ tt) ?_
 obtain⟨hc1,h⟩:=chk_some h
 refine sr (SQ (fa hc1 tt)) ?_
 apply AWp.ret
 obtain rfl:=oi h
 exact rt (Mat.trans (Mat.freezeP (n:=1004) (e:=5) (sz:=1) (es:=a0.map (eI .u8)) (Ts:=[(2,(.d (.list 1 (a0.map (eI .u8)))))]) (Bs:=[]) (by rfl) (TwT.cons (x:=(.sref 1004 1 0 a0.length)) (by rfl) (FrzL.all (by first | rfl | (simp;done) | (simp;omega) | omega)) TwT.nil) TwB.nil) (mp [] [(2,(.d (.list 1 (a0.map (eI .u8)))))] [] hB)) [(.d (.list 1 (a0.map (eI .u8))))] (Res.tmp (by rfl) (by rfl) Res.nil) rfl
def clone_List_3 (a0:(List aCommunity)):Option ((List aCommunity)) :=
 chk (decide (a0.length≤LIM)) <|
 some a0
theorem clone_List_3_ac (a0:(List aCommunity)) (r:(List aCommunity)) (h:clone_List_3 a0=some r):AC Tryz.prog 69 [(.d (.list 2 (a0.map e_aCommunity)))] [] (.d (.list 2 (r.map e_aCommunity))) []:=by
 refine AC.of_code2 Tryz.func69 rfl rfl (Nat.le_of_ble_eq_true (by rfl)) fun B hB hN => ?_
 delta clone_List_3 at h
 refine sr (SQ tt) ?_
 obtain⟨hc1,h⟩:=chk_some h
 refine sr (SQ (fa hc1 tt)) ?_
 apply AWp.ret
 obtain rfl:=oi h
 exact rt (Mat.trans (Mat.freezeP (n:=1004) (e:=98) (sz:=2) (es:=a0.map e_aCommunity) (Ts:=[(2,(qe_aCommunity_2 a0))]) (Bs:=[]) (by rfl) (TwT.cons (x:=(.sref 1004 2 0 a0.length)) (by rfl) (FrzL.all (by first | rfl | (simp;done) | (simp;omega) | omega)) TwT.nil) TwB.nil) (mp [] [(2,(qe_aCommunity_2 a0))] [] hB)) [(qe_aCommunity_2 a0)] (Res.tmp (by rfl) (by rfl) Res.nil) rfl
def clone_List_4 (a0:(List aLarge)):Option ((List aLarge)) :=
 chk (decide (a0.length≤LIM)) <|
 some a0
theorem clone_List_4_ac (a0:(List aLarge)) (r:(List aLarge)) (h:clone_List_4 a0=some r):AC Tryz.prog 70 [(.d (.list 3 (a0.map e_aLarge)))] [] (.d (.list 3 (r.map e_aLarge))) []:=by
 refine AC.of_code2 Tryz.func70 rfl rfl (Nat.le_of_ble_eq_true (by rfl)) fun B hB hN => ?_
 delta clone_List_4 at h
 refine sr (SQ tt) ?_
 obtain⟨hc1,h⟩:=chk_some h
 refine sr (SQ (fa hc1 tt)) ?_
 apply AWp.ret
 obtain rfl:=oi h
 exact rt (Mat.trans (Mat.freezeP (n:=1004) (e:=100) (sz:=3) (es:=a0.map e_aLarge) (Ts:=[(2,(qe_aLarge_3 a0))]) (Bs:=[]) (by rfl) (TwT.cons (x:=(.sref 1004 3 0 a0.length)) (by rfl) (FrzL.all (by first | rfl | (simp;done) | (simp;omega) | omega)) TwT.nil) TwB.nil) (mp [] [(2,(qe_aLarge_3 a0))] [] hB)) [(qe_aLarge_3 a0)] (Res.tmp (by rfl) (by rfl) Res.nil) rfl
def clone_Attrs_L0 (a0:aAttrs) (s1:Int×(List aSegment)):Option ((((List aSegment)))⊕(Int×(List aSegment))) :=
 (if (decide (s1.1<(a0.fPath.length:Int)))=true then
 (idx a0.fPath s1.1).bind fun x12 =>
 (clone_List x12.fASNs).bind fun r13 =>
 chk (decide ((s1.2++[(aSegment.mk x12.fSet r13)]).length≤LIM)) <|
 some (.inr ((w64 (s1.1+1)),(s1.2++[(aSegment.mk x12.fSet r13)])))
 else
 some (.inl s1.2))
def clone_Attrs_L1 (a0:aAttrs) (s17:Int×(List aUnknown)):Option ((((List aUnknown)))⊕(Int×(List aUnknown))) :=
 (if (decide (s17.1<(a0.fOther.length:Int)))=true then
 (idx a0.fOther s17.1).bind fun x28 =>
 (clone_List_2 x28.fData).bind fun r29 =>
 chk (decide ((s17.2++[(aUnknown.mk x28.fFlags x28.fType r29)]).length≤LIM)) <|
 some (.inr ((w64 (s17.1+1)),(s17.2++[(aUnknown.mk x28.fFlags x28.fType r29)])))
 else
 some (.inl s17.2))
def clone_Attrs (a0:aAttrs):Option (aAttrs) :=
 (loop (clone_Attrs_L0 a0) (0,([]:List aSegment))).bind fun p10 =>
 (loop (clone_Attrs_L1 a0) (0,([]:List aUnknown))).bind fun p26 =>
 (clone_List_3 a0.fCommunities).bind fun r33 =>
 (clone_List_4 a0.fLarge).bind fun r34 =>
 some (aAttrs.mk a0.fOrigin p10 a0.fNext a0.fMED a0.fPref a0.fOTC r33 r34 p26)
theorem clone_Attrs_ac (a0:aAttrs) (r:aAttrs) (h:clone_Attrs a0=some r):AC Tryz.prog 40 [(.d (e_aAttrs a0))] [] (.d (e_aAttrs r)) []:=by
 refine ac2 Tryz.func40 rfl rfl fun B hB hN L => ?_
 delta clone_Attrs at h
 refine sr (SQ tt) ?_
 refine sdS (SQ tt) ?_
 refine sr (SQ tt) ?_
 apply AWp.seq
 refine sr (SQ tt) ?_
 apply AWp.block
 obtain⟨p10,hx16,h⟩:=bindS h
 refine lg (clone_Attrs_L0 a0) (fun s1:Int×(List aSegment)=>([(1,(pt 1001)),(2,(pt 1002)),(4,(qe_aUnknown_3 a0.fOther)),(15,(qe_aSegment_2 a0.fPath)),(16,(i6 (a0.fPath.length:Int))),(17,(i6 s1.1))]:EL)) (fun s1:Int×(List aSegment)=>([(1001,some (.box 35 (.st [(i6 a0.fOrigin),(.sref 13011 2 0 s1.2.length),(.d (e_aAddr a0.fNext)),(i6 a0.fMED),(i6 a0.fPref),(i6 a0.fOTC),(qe_aCommunity_2 a0.fCommunities),(qe_aLarge_3 a0.fLarge),.nils]))),(1002,some (.box 35 (.st [(i6 0),.nils,(.d (.st [(.bool false),(.int .u64 0),(.int .u64 0)])),(i6 0),(i6 0),(i6 0),.nils,.nils,.nils]))),(13011,some (we_aSegment_66_2 s1.2))]:OL)) (fun(p10:((List aSegment))) e E' O'=>e = .exit 0∧Mat B E' O' ([(1,(pt 1001)),(2,(pt 1002)),(4,(qe_aUnknown_3 a0.fOther))]:EL) ([(1001,some (.box 35 (.st [(i6 a0.fOrigin),(.sref 13011 2 0 p10.length),(.d (e_aAddr a0.fNext)),(i6 a0.fMED),(i6 a0.fPref),(i6 a0.fOTC),(qe_aCommunity_2 a0.fCommunities),(qe_aLarge_3 a0.fLarge),.nils]))),(1002,some (.box 35 (.st [(i6 0),.nils,(.d (.st [(.bool false),(.int .u64 0),(.int .u64 0)])),(i6 0),(i6 0),(i6 0),.nils,.nils,.nils]))),(13011,some (we_aSegment_66_2 p10))]:OL)) hx16 (Mat.trans (Mat.beginP (n:=13011) (e:=66) (sz:=2) (Ts:=[]) (Bs:=[(1001,some (.box 35 (.st [(i6 a0.fOrigin),(.sref 13011 2 0 0),(.d (e_aAddr a0.fNext)),(i6 a0.fMED),(i6 a0.fPref),(i6 a0.fOTC),(qe_aCommunity_2 a0.fCommunities),(qe_aLarge_3 a0.fLarge),.nils])))]) hB (by decide) (by rfl) (by decide) TwT.nil (TwB.cons (x:=(.st [(i6 a0.fOrigin),.nils,(.d (e_aAddr a0.fNext)),(i6 a0.fMED),(i6 a0.fPref),(i6 a0.fOTC),(qe_aCommunity_2 a0.fCommunities),(qe_aLarge_3 a0.fLarge),.nils])) (by rfl) (Tw.st (TwL.cons (Tw.same _) (TwL.cons (Tw.leaf ⟨rfl,rfl⟩) (TwL.cons (Tw.same _) (TwL.cons (Tw.same _) (TwL.cons (Tw.same _) (TwL.cons (Tw.same _) (TwL.cons (Tw.same _) (TwL.cons (Tw.same _) (TwL.cons (Tw.same _) TwL.nil)))))))))) TwB.nil)) (mp [] _ _ hB)) (fun s1 y h => ?_) (fun e E' O' hR => ?_)
 ·unfold clone_Attrs_L0 at h
  refine sr (SQ tt) ?_
  apply AWp.seq
  apply AWp.cond rfl<;>intro hg11
  ·have h:=ite_t hg11 h
   apply AWp.skip
   apply seqQ_n
   apply AWp.seq
   apply AWp.block
   obtain⟨x12,hx12,h⟩:=bindS h
   refine sr (SQ (fa hx12 tt)) ?_
   obtain⟨r13,hr13,h⟩:=bindS h
   obtain⟨hc14,h⟩:=chk_some h
   refine drS (SQ (fa (cl [] (clone_List_ac x12.fASNs r13 hr13)) (fa hc14 tt))) ?_
   apply blkQ_n
   apply seqQ_n
   refine rg (SQ tt) ?_
   obtain rfl:=oi h
   exact⟨rfl,(mp [(13011,1030)] _ _ hB)⟩
  ·have h:=ite_f hg11 h
   apply AWp.exit
   apply seqQ_e
   obtain rfl:=oi h
   exact⟨(fun hc=>by cases hc),rfl,(mp [] _ _ hB)⟩
 ·obtain⟨rfl,hmat⟩:=hR
  apply blkQ_hit
  apply seqQ_n
  refine AWp.ghost hmat ?_
  apply AWp.seq
  refine sr (SQ tt) ?_
  apply AWp.block
  obtain⟨p26,hx32,h⟩:=bindS h
  refine lg (clone_Attrs_L1 a0) (fun s17:Int×(List aUnknown)=>([(1,(pt 1001)),(2,(pt 1002)),(33,(qe_aUnknown_3 a0.fOther)),(34,(i6 (a0.fOther.length:Int))),(35,(i6 s17.1))]:EL)) (fun s17:Int×(List aUnknown)=>([(1001,some (.box 35 (.st [(i6 a0.fOrigin),(.sref 13011 2 0 p10.length),(.d (e_aAddr a0.fNext)),(i6 a0.fMED),(i6 a0.fPref),(i6 a0.fOTC),(qe_aCommunity_2 a0.fCommunities),(qe_aLarge_3 a0.fLarge),(.sref 13018 3 0 s17.2.length)]))),(1002,some (.box 35 (.st [(i6 0),.nils,(.d (.st [(.bool false),(.int .u64 0),(.int .u64 0)])),(i6 0),(i6 0),(i6 0),.nils,.nils,.nils]))),(13011,some (we_aSegment_66_2 p10)),(13018,some (we_aUnknown_69_3 s17.2))]:OL)) (fun(p26:((List aUnknown))) e E' O'=>e = .exit 2∧Mat B E' O' ([(1,(pt 1001)),(2,(pt 1002))]:EL) ([(1001,some (.box 35 (.st [(i6 a0.fOrigin),(.sref 13011 2 0 p10.length),(.d (e_aAddr a0.fNext)),(i6 a0.fMED),(i6 a0.fPref),(i6 a0.fOTC),(qe_aCommunity_2 a0.fCommunities),(qe_aLarge_3 a0.fLarge),(.sref 13018 3 0 p26.length)]))),(1002,some (.box 35 (.st [(i6 0),.nils,(.d (.st [(.bool false),(.int .u64 0),(.int .u64 0)])),(i6 0),(i6 0),(i6 0),.nils,.nils,.nils]))),(13011,some (we_aSegment_66_2 p10)),(13018,some (we_aUnknown_69_3 p26))]:OL)) hx32 (Mat.trans (Mat.beginP (n:=13018) (e:=69) (sz:=3) (Ts:=[]) (Bs:=[(1001,some (.box 35 (.st [(i6 a0.fOrigin),(.sref 13011 2 0 p10.length),(.d (e_aAddr a0.fNext)),(i6 a0.fMED),(i6 a0.fPref),(i6 a0.fOTC),(qe_aCommunity_2 a0.fCommunities),(qe_aLarge_3 a0.fLarge),(.sref 13018 3 0 0)])))]) hB (by decide) (by rfl) (by decide) TwT.nil (TwB.cons (x:=(.st [(i6 a0.fOrigin),(.sref 13011 2 0 p10.length),(.d (e_aAddr a0.fNext)),(i6 a0.fMED),(i6 a0.fPref),(i6 a0.fOTC),(qe_aCommunity_2 a0.fCommunities),(qe_aLarge_3 a0.fLarge),.nils])) (by rfl) (Tw.st (TwL.cons (Tw.same _) (TwL.cons (Tw.same _) (TwL.cons (Tw.same _) (TwL.cons (Tw.same _) (TwL.cons (Tw.same _) (TwL.cons (Tw.same _) (TwL.cons (Tw.same _) (TwL.cons (Tw.same _) (TwL.cons (Tw.leaf ⟨rfl,rfl⟩) TwL.nil)))))))))) TwB.nil)) (mp [] _ _ hB)) (fun s17 y h => ?_) (fun e E' O' hR => ?_)
  ·unfold clone_Attrs_L1 at h
   refine sr (SQ tt) ?_
   apply AWp.seq
   apply AWp.cond rfl<;>intro hg27
   ·have h:=ite_t hg27 h
    apply AWp.skip
    apply seqQ_n
    apply AWp.seq
    apply AWp.block
    obtain⟨x28,hx28,h⟩:=bindS h
    refine sr (SQ (fa hx28 tt)) ?_
    obtain⟨r29,hr29,h⟩:=bindS h
    obtain⟨hc30,h⟩:=chk_some h
    refine drS (SQ (fa (cl [] (clone_List_2_ac x28.fData r29 hr29)) (fa hc30 tt))) ?_
    apply blkQ_n
    apply seqQ_n
    refine rg (SQ tt) ?_
    obtain rfl:=oi h
    exact⟨rfl,(mp [(13018,1050)] _ _ hB)⟩
   ·have h:=ite_f hg27 h
    apply AWp.exit
    apply seqQ_e
    obtain rfl:=oi h
    exact⟨(fun hc=>by cases hc),rfl,(mp [] _ _ hB)⟩
  ·obtain⟨rfl,hmat⟩:=hR
   apply blkQ_hit
   apply seqQ_n
   refine AWp.ghost hmat ?_
   obtain⟨r33,hr33,h⟩:=bindS h
   obtain⟨r34,hr34,h⟩:=bindS h
   refine sdS (SQ (fa (cl [] (clone_List_3_ac a0.fCommunities r33 hr33)) (fa (cl [] (clone_List_4_ac a0.fLarge r34 hr34)) tt))) ?_
   refine sr (SQ tt) ?_
   apply AWp.ret
   obtain rfl:=oi h
   exact rt (Mat.trans (Mat.freezeP (n:=13011) (e:=66) (sz:=2) (es:=p10.map e_aSegment) (Ts:=[]) (Bs:=[(1002,some (.box 35 (.st [(i6 a0.fOrigin),(qe_aSegment_2 p10),(.d (e_aAddr a0.fNext)),(i6 a0.fMED),(i6 a0.fPref),(i6 a0.fOTC),(qe_aCommunity_2 r33),(qe_aLarge_3 r34),(.sref 13018 3 0 p26.length)])))]) (by rfl) TwT.nil (TwB.cons (x:=(.st [(i6 a0.fOrigin),(.sref 13011 2 0 p10.length),(.d (e_aAddr a0.fNext)),(i6 a0.fMED),(i6 a0.fPref),(i6 a0.fOTC),(qe_aCommunity_2 r33),(qe_aLarge_3 r34),(.sref 13018 3 0 p26.length)])) (by rfl) (Tw.st (TwL.cons (Tw.same _) (TwL.cons (FrzL.all (by first | rfl | (simp;done) | (simp;omega) | omega)) (TwL.cons (Tw.same _) (TwL.cons (Tw.same _) (TwL.cons (Tw.same _) (TwL.cons (Tw.same _) (TwL.cons (Tw.same _) (TwL.cons (Tw.same _) (TwL.cons (Tw.same _) TwL.nil)))))))))) TwB.nil)) (Mat.trans (Mat.freezeP (n:=13018) (e:=69) (sz:=3) (es:=p26.map e_aUnknown) (Ts:=[]) (Bs:=[(1002,some (.box 35 (.st [(i6 a0.fOrigin),(qe_aSegment_2 p10),(.d (e_aAddr a0.fNext)),(i6 a0.fMED),(i6 a0.fPref),(i6 a0.fOTC),(qe_aCommunity_2 r33),(qe_aLarge_3 r34),(qe_aUnknown_3 p26)])))]) (by rfl) TwT.nil (TwB.cons (x:=(.st [(i6 a0.fOrigin),(qe_aSegment_2 p10),(.d (e_aAddr a0.fNext)),(i6 a0.fMED),(i6 a0.fPref),(i6 a0.fOTC),(qe_aCommunity_2 r33),(qe_aLarge_3 r34),(.sref 13018 3 0 p26.length)])) (by rfl) (Tw.st (TwL.cons (Tw.same _) (TwL.cons (Tw.same _) (TwL.cons (Tw.same _) (TwL.cons (Tw.same _) (TwL.cons (Tw.same _) (TwL.cons (Tw.same _) (TwL.cons (Tw.same _) (TwL.cons (Tw.same _) (TwL.cons (FrzL.all (by first | rfl | (simp;done) | (simp;omega) | omega)) TwL.nil)))))))))) TwB.nil)) (Mat.trans (Mat.coeP (Ts:=[]) (Bs:=[(1002,bd 35 (.st [(.int .i64 a0.fOrigin),(.list 2 (p10.map e_aSegment)),(e_aAddr a0.fNext),(.int .i64 a0.fMED),(.int .i64 a0.fPref),(.int .i64 a0.fOTC),(.list 2 (r33.map e_aCommunity)),(.list 3 (r34.map e_aLarge)),(.list 3 (p26.map e_aUnknown))]))]) TwT.nil (TwB.cons (x:=(.st [(i6 a0.fOrigin),(qe_aSegment_2 p10),(.d (e_aAddr a0.fNext)),(i6 a0.fMED),(i6 a0.fPref),(i6 a0.fOTC),(qe_aCommunity_2 r33),(qe_aLarge_3 r34),(qe_aUnknown_3 p26)])) (by rfl) (Tw.leaf ⟨_,(Co.st (CoL.cons (Co.d _) (CoL.cons (Co.d _) (CoL.cons (Co.d _) (CoL.cons (Co.d _) (CoL.cons (Co.d _) (CoL.cons (Co.d _) (CoL.cons (Co.d _) (CoL.cons (Co.d _) (CoL.cons (Co.d _) CoL.nil)))))))))),rfl⟩) TwB.nil)) (mp [] [(2,(pt 1002))] [(1002,bd 35 (.st [(.int .i64 a0.fOrigin),(.list 2 (p10.map e_aSegment)),(e_aAddr a0.fNext),(.int .i64 a0.fMED),(.int .i64 a0.fPref),(.int .i64 a0.fOTC),(.list 2 (r33.map e_aCommunity)),(.list 3 (r34.map e_aLarge)),(.list 3 (p26.map e_aUnknown))]))] hB)))) [(.d (.st [(.int .i64 a0.fOrigin),(.list 2 (p10.map e_aSegment)),(e_aAddr a0.fNext),(.int .i64 a0.fMED),(.int .i64 a0.fPref),(.int .i64 a0.fOTC),(.list 2 (r33.map e_aCommunity)),(.list 3 (r34.map e_aLarge)),(.list 3 (p26.map e_aUnknown))]))] (Res.cell (c:=(.d (.st [(.int .i64 a0.fOrigin),(.list 2 (p10.map e_aSegment)),(e_aAddr a0.fNext),(.int .i64 a0.fMED),(.int .i64 a0.fPref),(.int .i64 a0.fOTC),(.list 2 (r33.map e_aCommunity)),(.list 3 (r34.map e_aLarge)),(.list 3 (p26.map e_aUnknown))]))) (by rfl) (by rfl) tyS35 (by rfl) (by rfl) (by rfl) Res.nil) rfl
def clone_List_5 (a0:(List aPrefix)):Option ((List aPrefix)) :=
 chk (decide (a0.length≤LIM)) <|
 some a0
theorem clone_List_5_ac (a0:(List aPrefix)) (r:(List aPrefix)) (h:clone_List_5 a0=some r):AC Tryz.prog 93 [(.d (.list 4 (a0.map e_aPrefix)))] [] (.d (.list 4 (r.map e_aPrefix))) []:=by
 refine AC.of_code2 Tryz.func93 rfl rfl (Nat.le_of_ble_eq_true (by rfl)) fun B hB hN => ?_
 delta clone_List_5 at h
 refine sr (SQ tt) ?_
 obtain⟨hc1,h⟩:=chk_some h
 refine sr (SQ (fa hc1 tt)) ?_
 apply AWp.ret
 obtain rfl:=oi h
 exact rt (Mat.trans (Mat.freezeP (n:=1004) (e:=29) (sz:=4) (es:=a0.map e_aPrefix) (Ts:=[(2,(qe_aPrefix_4 a0))]) (Bs:=[]) (by rfl) (TwT.cons (x:=(.sref 1004 4 0 a0.length)) (by rfl) (FrzL.all (by first | rfl | (simp;done) | (simp;omega) | omega)) TwT.nil) TwB.nil) (mp [] [(2,(qe_aPrefix_4 a0))] [] hB)) [(qe_aPrefix_4 a0)] (Res.tmp (by rfl) (by rfl) Res.nil) rfl
def attribute_Empty:Option (aAttrs) :=
 some (aAttrs.mk (-1) ([]:List aSegment) (aAddr.mk false 0 0) (-1) (-1) (-1) ([]:List aCommunity) ([]:List aLarge) ([]:List aUnknown))
theorem attribute_Empty_ac (r:aAttrs) (h:attribute_Empty=some r):AC Tryz.prog 94 [] [] (.d (e_aAttrs r)) []:=by
 refine AC.of_code2 Tryz.func94 rfl rfl (Nat.le_of_ble_eq_true (by rfl)) fun B hB hN => ?_
 delta attribute_Empty at h
 refine sr (SQ tt) ?_
 refine sr (SQ tt) ?_
 apply AWp.ret
 obtain rfl:=oi h
 exact rt (Mat.trans (Mat.coeP (Ts:=[]) (Bs:=[(1000,bd 35 (.st [(.int .i64 (-1)),(.list 2 (([]:List aSegment).map e_aSegment)),(.st [(.bool false),(.int .u64 0),(.int .u64 0)]),(.int .i64 (-1)),(.int .i64 (-1)),(.int .i64 (-1)),(.list 2 (([]:List aCommunity).map e_aCommunity)),(.list 3 (([]:List aLarge).map e_aLarge)),(.list 3 (([]:List aUnknown).map e_aUnknown))]))]) TwT.nil (TwB.cons (x:=(.st [(i6 (-1)),.nils,(.d (.st [(.bool false),(.int .u64 0),(.int .u64 0)])),(i6 (-1)),(i6 (-1)),(i6 (-1)),.nils,.nils,.nils])) (by rfl) (Tw.leaf ⟨_,(Co.st (CoL.cons (Co.d _) (CoL.cons (Co.nils 2) (CoL.cons (Co.d _) (CoL.cons (Co.d _) (CoL.cons (Co.d _) (CoL.cons (Co.d _) (CoL.cons (Co.nils 2) (CoL.cons (Co.nils 3) (CoL.cons (Co.nils 3) CoL.nil)))))))))),rfl⟩) TwB.nil)) (mp [] [(0,(pt 1000))] [(1000,bd 35 (.st [(.int .i64 (-1)),(.list 2 (([]:List aSegment).map e_aSegment)),(.st [(.bool false),(.int .u64 0),(.int .u64 0)]),(.int .i64 (-1)),(.int .i64 (-1)),(.int .i64 (-1)),(.list 2 (([]:List aCommunity).map e_aCommunity)),(.list 3 (([]:List aLarge).map e_aLarge)),(.list 3 (([]:List aUnknown).map e_aUnknown))]))] hB)) [(.d (.st [(.int .i64 (-1)),(.list 2 (([]:List aSegment).map e_aSegment)),(.st [(.bool false),(.int .u64 0),(.int .u64 0)]),(.int .i64 (-1)),(.int .i64 (-1)),(.int .i64 (-1)),(.list 2 (([]:List aCommunity).map e_aCommunity)),(.list 3 (([]:List aLarge).map e_aLarge)),(.list 3 (([]:List aUnknown).map e_aUnknown))]))] (Res.cell (c:=(.d (.st [(.int .i64 (-1)),(.list 2 (([]:List aSegment).map e_aSegment)),(.st [(.bool false),(.int .u64 0),(.int .u64 0)]),(.int .i64 (-1)),(.int .i64 (-1)),(.int .i64 (-1)),(.list 2 (([]:List aCommunity).map e_aCommunity)),(.list 3 (([]:List aLarge).map e_aLarge)),(.list 3 (([]:List aUnknown).map e_aUnknown))]))) (by rfl) (by rfl) tyS35 (by rfl) (by rfl) (by rfl) Res.nil) rfl
def pack_message (a0:aAttrs) (a1:(List aPrefix)) (a2:Bool):Option (aUpdate) :=
 (if a2=true then
 (clone_Attrs a0).bind fun r2 =>
 (clone_List_5 a1).bind fun r3 =>
 some (aUpdate.mk ([]:List aPrefix) r2 r3)
 else
 (attribute_Empty).bind fun r4 =>
 (clone_List_5 a1).bind fun r5 =>
 some (aUpdate.mk r5 r4 ([]:List aPrefix)))
theorem pack_message_ac (a0:aAttrs) (a1:(List aPrefix)) (a2:Bool) (r:aUpdate) (h:pack_message a0 a1 a2=some r):AC Tryz.prog 53 [(.d (e_aAttrs a0)),(.d (.list 4 (a1.map e_aPrefix))),(.d (.bool a2))] [] (.d (e_aUpdate r)) []:=by
 refine AC.of_code2 Tryz.func53 rfl rfl (Nat.le_of_ble_eq_true (by rfl)) fun B hB hN => ?_
 delta pack_message at h
 refine sr (SQ tt) ?_
 apply AWp.seq
 refine sr (SQ tt) ?_
 apply AWp.cond rfl<;>intro hg1
 ·have h:=ite_t hg1 h
  obtain⟨r2,hr2,h⟩:=bindS h
  obtain⟨r3,hr3,h⟩:=bindS h
  refine sr (SQ (fa (cl [] (clone_Attrs_ac a0 r2 hr2)) (fa (cl [] (clone_List_5_ac a1 r3 hr3)) tt))) ?_
  apply AWp.ret
  apply seqQ_r
  obtain rfl:=oi h
  exact rt (Mat.trans (Mat.coeP (Ts:=[]) (Bs:=[(1006,bd 61 (.st [(.list 4 (([]:List aPrefix).map e_aPrefix)),(e_aAttrs r2),(.list 4 (r3.map e_aPrefix))]))]) TwT.nil (TwB.cons (x:=(.st [.nils,(.d (e_aAttrs r2)),(qe_aPrefix_4 r3)])) (by rfl) (Tw.leaf ⟨_,(Co.st (CoL.cons (Co.nils 4) (CoL.cons (Co.d _) (CoL.cons (Co.d _) CoL.nil)))),rfl⟩) TwB.nil)) (mp [] [(6,(pt 1006))] [(1006,bd 61 (.st [(.list 4 (([]:List aPrefix).map e_aPrefix)),(e_aAttrs r2),(.list 4 (r3.map e_aPrefix))]))] hB)) [(.d (.st [(.list 4 (([]:List aPrefix).map e_aPrefix)),(e_aAttrs r2),(.list 4 (r3.map e_aPrefix))]))] (Res.cell (c:=(.d (.st [(.list 4 (([]:List aPrefix).map e_aPrefix)),(e_aAttrs r2),(.list 4 (r3.map e_aPrefix))]))) (by rfl) (by rfl) tyS61 (by rfl) (by rfl) (by rfl) Res.nil) rfl
 ·have h:=ite_f hg1 h
  apply AWp.skip
  apply seqQ_n
  obtain⟨r4,hr4,h⟩:=bindS h
  obtain⟨r5,hr5,h⟩:=bindS h
  refine sr (SQ (fa (cl [] (attribute_Empty_ac r4 hr4)) (fa (cl [] (clone_List_5_ac a1 r5 hr5)) tt))) ?_
  apply AWp.ret
  obtain rfl:=oi h
  exact rt (Mat.trans (Mat.coeP (Ts:=[]) (Bs:=[(1006,bd 61 (.st [(.list 4 (r5.map e_aPrefix)),(e_aAttrs r4),(.list 4 (([]:List aPrefix).map e_aPrefix))]))]) TwT.nil (TwB.cons (x:=(.st [(qe_aPrefix_4 r5),(.d (e_aAttrs r4)),.nils])) (by rfl) (Tw.leaf ⟨_,(Co.st (CoL.cons (Co.d _) (CoL.cons (Co.d _) (CoL.cons (Co.nils 4) CoL.nil)))),rfl⟩) TwB.nil)) (mp [] [(6,(pt 1006))] [(1006,bd 61 (.st [(.list 4 (r5.map e_aPrefix)),(e_aAttrs r4),(.list 4 (([]:List aPrefix).map e_aPrefix))]))] hB)) [(.d (.st [(.list 4 (r5.map e_aPrefix)),(e_aAttrs r4),(.list 4 (([]:List aPrefix).map e_aPrefix))]))] (Res.cell (c:=(.d (.st [(.list 4 (r5.map e_aPrefix)),(e_aAttrs r4),(.list 4 (([]:List aPrefix).map e_aPrefix))]))) (by rfl) (by rfl) tyS61 (by rfl) (by rfl) (by rfl) Res.nil) rfl
def update_Valid_1 (a0:aPrefix):Option (Bool) :=
 (prefix_Valid a0).bind fun r1 =>
 some (!r1)
theorem update_Valid_1_ac (a0:aPrefix) (r:Bool) (h:update_Valid_1 a0=some r):AC Tryz.prog 89 [(.d (e_aPrefix a0))] [] (.d (.bool r)) []:=by
 refine AC.of_code2 Tryz.func89 rfl rfl (Nat.le_of_ble_eq_true (by rfl)) fun B hB hN => ?_
 delta update_Valid_1 at h
 refine sr (SQ tt) ?_
 obtain⟨r1,hr1,h⟩:=bindS h
 refine sr (SQ (fa (cl [] (prefix_Valid_ac a0 r1 hr1)) tt)) ?_
 apply AWp.ret
 obtain rfl:=oi h
 exact rt (kp [(2,_)] [] hB rfl rfl (by rfl)) [(bo (!r1))] (Res.tmp (by rfl) (by rfl) Res.nil) rfl
def slices_IndexFunc_L0 (a0:(List aPrefix)) (s1:Int):Option (((Int)⊕(Unit))⊕(Int)) :=
 (if (decide (s1<(a0.length:Int)))=true then
 (idx a0 s1).bind fun x13 =>
 (update_Valid_1 x13).bind fun r14 =>
 (if r14=true then
 some (.inl (.inl s1))
 else
 some (.inr (w64 (s1+1))))
 else
 some (.inl (.inr ())))
def slices_IndexFunc (a0:(List aPrefix)):Option (Int) :=
 (loop (slices_IndexFunc_L0 a0) 0).bind fun x16=>match x16 with
 | (.inl p10) =>
  some p10
 | (.inr _) =>
  some (-1)
theorem slices_IndexFunc_ac (a0:(List aPrefix)) (r:Int) (h:slices_IndexFunc a0=some r):AC Tryz.prog 108 [(.d (.list 4 (a0.map e_aPrefix))),(.func 89 [])] [] (.d (.int .i64 r)) []:=by
 refine AC.of_code2 Tryz.func108 rfl rfl (Nat.le_of_ble_eq_true (by rfl)) fun B hB hN => ?_
 delta slices_IndexFunc at h
 refine sr (SQ tt) ?_
 apply AWp.seq
 refine sr (SQ tt) ?_
 apply AWp.block
 obtain⟨x16,hx17,h⟩:=bindS h
 refine lg (slices_IndexFunc_L0 a0) (fun s1:Int=>([(0,(qe_aPrefix_4 a0)),(1,(.func 89 [])),(7,(i6 (a0.length:Int))),(8,(i6 s1))]:EL)) (fun s1:Int=>([]:OL)) (fun(x:(Int)⊕(Unit)) e E' O'=>match x with | (.inl p10)=>e = .ret∧Mat B E' O' ([(4,(i6 p10))]:EL) ([]:OL) | (.inr _p)=>e = .exit 0∧Mat B E' O' ([]:EL) ([]:OL)) hx17 (mp [] _ _ hB) (fun s1 y h => ?_) (fun e E' O' hR => ?_)
 ·unfold slices_IndexFunc_L0 at h
  refine sr (SQ tt) ?_
  apply AWp.seq
  apply AWp.cond rfl<;>intro hg12
  ·have h:=ite_t hg12 h
   apply AWp.skip
   apply seqQ_n
   apply AWp.seq
   apply AWp.block
   refine sr (SQ tt) ?_
   obtain⟨x13,hx13,h⟩:=bindS h
   obtain⟨r14,hr14,h⟩:=bindS h
   refine sr (SQ (fa hx13 (fa (cl [] (update_Valid_1_ac x13 r14 hr14)) tt))) ?_
   apply AWp.cond rfl<;>intro hg15
   ·have h:=ite_t hg15 h
    refine sr (SQ tt) ?_
    apply AWp.ret
    apply blkQ_r
    apply seqQ_r
    obtain rfl:=oi h
    exact⟨(fun hc=>by cases hc),rfl,(mp [] _ _ hB)⟩
   ·have h:=ite_f hg15 h
    apply AWp.skip
    apply blkQ_n
    apply seqQ_n
    refine rg (SQ tt) ?_
    obtain rfl:=oi h
    exact⟨rfl,(mp [] _ _ hB)⟩
  ·have h:=ite_f hg12 h
   apply AWp.exit
   apply seqQ_e
   obtain rfl:=oi h
   exact⟨(fun hc=>by cases hc),rfl,(mp [] _ _ hB)⟩
 ·rcases x16 with p10 | _
  ·obtain⟨rfl,hmat⟩:=hR
   apply blkQ_r
   apply seqQ_r
   obtain rfl:=oi h
   exact rt (Mat.trans hmat (mp [] [(4,(i6 p10))] [] hB)) [(i6 p10)] (Res.tmp (by rfl) (by rfl) Res.nil) rfl
  ·obtain⟨rfl,hmat⟩:=hR
   apply blkQ_hit
   apply seqQ_n
   refine AWp.ghost hmat ?_
   refine sr (SQ tt) ?_
   apply AWp.ret
   obtain rfl:=oi h
   exact rt (kp [(4,_)] [] hB rfl rfl (by rfl)) [(i6 (-1))] (Res.tmp (by rfl) (by rfl) Res.nil) rfl
def slices_ContainsFunc (a0:(List aPrefix)):Option (Bool) :=
 (slices_IndexFunc a0).bind fun r1 =>
 some (decide (0≤r1))
theorem slices_ContainsFunc_ac (a0:(List aPrefix)) (r:Bool) (h:slices_ContainsFunc a0=some r):AC Tryz.prog 90 [(.d (.list 4 (a0.map e_aPrefix))),(.func 89 [])] [] (.d (.bool r)) []:=by
 refine AC.of_code2 Tryz.func90 rfl rfl (Nat.le_of_ble_eq_true (by rfl)) fun B hB hN => ?_
 delta slices_ContainsFunc at h
 refine sr (SQ tt) ?_
 obtain⟨r1,hr1,h⟩:=bindS h
 refine sr (SQ (fa (cl [] (slices_IndexFunc_ac a0 r1 hr1)) tt)) ?_
 apply AWp.ret
 obtain rfl:=oi h
 exact rt (kp [(4,_)] [] hB rfl rfl (by rfl)) [(bo (decide (0≤r1)))] (Res.tmp (by rfl) (by rfl) Res.nil) rfl
def update_empty (a0:aAttrs):Option (Bool) :=
 (attribute_Empty).bind fun r1 =>
 some ((((((a0.fOrigin==r1.fOrigin)&&(a0.fMED==r1.fMED))&&(a0.fPref==r1.fPref))&&(a0.fOTC==r1.fOTC))&&((a0.fNext.fV6==r1.fNext.fV6)&&((a0.fNext.fHi==r1.fNext.fHi)&&((a0.fNext.fLo==r1.fNext.fLo)&&true))))&&((w64 ((w64 ((w64 ((a0.fPath.length:Int)+(a0.fCommunities.length:Int)))+(a0.fLarge.length:Int)))+(a0.fOther.length:Int)))==0))
theorem update_empty_ac (a0:aAttrs) (r:Bool) (h:update_empty a0=some r):AC Tryz.prog 109 [(.d (e_aAttrs a0))] [] (.d (.bool r)) []:=by
 refine ac2 Tryz.func109 rfl rfl fun B hB hN L => ?_
 delta update_empty at h
 refine sr (SQ tt) ?_
 obtain⟨r1,hr1,h⟩:=bindS h
 refine sr (SQ (fa (cl [] (attribute_Empty_ac r1 hr1)) tt)) ?_
 apply sr (c (fo 1001 0 [0] hN underlying35 0 tyS3 (q 1)) rfl (c (la hN 35 tyS3 (q 5)) rfl (c (fo 1003 0 [0] hN underlying35 0 tyS3 (q 3)) rfl (c (la hN 35 tyS3 (q 7)) rfl (c (eqlI (L rfl) (q 6) (q 8)) rfl (c (mv hN (q 9)) rfl (c (oq hN 10 (fo 1001 5 [3] hN underlying35 5 tyS3 (q 1)) (OptL.keep (by rfl) OptL.nil) (GuardV.plain _)) rfl (c (oq hN 10 (la hN 35 tyS3 (q 11)) (OptL.opt OptL.nil) (GuardV.plain _)) rfl (c (oq hN 10 (fo 1003 5 [3] hN underlying35 5 tyS3 (q 3)) (OptL.keep (by rfl) OptL.nil) (GuardV.plain _)) rfl (c (oq hN 10 (la hN 35 tyS3 (q 13)) (OptL.opt OptL.nil) (GuardV.plain _)) rfl (c (oq hN 10 (eqlI (L rfl) (q 12) (q 14)) (OptL.opt (OptL.opt OptL.nil)) (GuardV.plain _)) rfl (c (pickAnd rfl (L rfl) (q 10) (q 15)) rfl (c (mv hN (q 16)) rfl (c (oq hN 17 (fo 1001 6 [4] hN underlying35 6 tyS3 (q 1)) (OptL.keep (by rfl) OptL.nil) (GuardV.plain _)) rfl (c (oq hN 17 (la hN 35 tyS3 (q 18)) (OptL.opt OptL.nil) (GuardV.plain _)) rfl (c (oq hN 17 (fo 1003 6 [4] hN underlying35 6 tyS3 (q 3)) (OptL.keep (by rfl) OptL.nil) (GuardV.plain _)) rfl (c (oq hN 17 (la hN 35 tyS3 (q 20)) (OptL.opt OptL.nil) (GuardV.plain _)) rfl (c (oq hN 17 (eqlI (L rfl) (q 19) (q 21)) (OptL.opt (OptL.opt OptL.nil)) (GuardV.plain _)) rfl (c (pickAnd rfl (L rfl) (q 17) (q 22)) rfl (c (mv hN (q 23)) rfl (c (oq hN 24 (fo 1001 7 [5] hN underlying35 7 tyS3 (q 1)) (OptL.keep (by rfl) OptL.nil) (GuardV.plain _)) rfl (c (oq hN 24 (la hN 35 tyS3 (q 25)) (OptL.opt OptL.nil) (GuardV.plain _)) rfl (c (oq hN 24 (fo 1003 7 [5] hN underlying35 7 tyS3 (q 3)) (OptL.keep (by rfl) OptL.nil) (GuardV.plain _)) rfl (c (oq hN 24 (la hN 35 tyS3 (q 27)) (OptL.opt OptL.nil) (GuardV.plain _)) rfl (c (oq hN 24 (eqlI (L rfl) (q 26) (q 28)) (OptL.opt (OptL.opt OptL.nil)) (GuardV.plain _)) rfl (c (pickAnd rfl (L rfl) (q 24) (q 29)) rfl (c (mv hN (q 30)) rfl (c (oq hN 31 (fo 1001 2 [2] hN underlying35 2 tyS27 (q 1)) (OptL.keep (by rfl) OptL.nil) (GuardV.plain _)) rfl (c (oq hN 31 (la hN 35 tyS27 (q 32)) (OptL.opt OptL.nil) (GuardV.plain _)) rfl (c (oq hN 31 (fo 1003 2 [2] hN underlying35 2 tyS27 (q 3)) (OptL.keep (by rfl) OptL.nil) (GuardV.plain _)) rfl (c (oq hN 31 (la hN 35 tyS27 (q 34)) (OptL.opt OptL.nil) (GuardV.plain _)) rfl (c (oq hN 31 (OpJ.eqlD (h:=2) (FitE.st underlying27 rfl held27 (FitF.cons (x:=(.bool a0.fNext.fV6)) (y:=(.bool r1.fNext.fV6)) (by decide) rfl tyS4 ⟨rfl,rfl⟩ ⟨rfl,rfl⟩ (FitE.bool (h:=0) a0.fNext.fV6 r1.fNext.fV6 underlying4) (FitF.cons (x:=(.int .u64 a0.fNext.fHi)) (y:=(.int .u64 r1.fNext.fHi)) (by decide) rfl tyS25 ⟨rfl,rfl⟩ ⟨rfl,rfl⟩ (FitE.int (h:=0) a0.fNext.fHi r1.fNext.fHi underlying25) (FitF.cons (x:=(.int .u64 a0.fNext.fLo)) (y:=(.int .u64 r1.fNext.fLo)) (by decide) rfl tyS25 ⟨rfl,rfl⟩ ⟨rfl,rfl⟩ (FitE.int (h:=0) a0.fNext.fLo r1.fNext.fLo underlying25) FitF.nil)))) eqg27 ⟨rfl,rfl⟩ (by rfl) (L rfl) (q 33) (q 35)) (OptL.opt (OptL.opt OptL.nil)) (GuardV.plain _)) rfl (c (pickAnd rfl (L rfl) (q 31) (q 36)) rfl (c (mv hN (q 37)) rfl (c (oq hN 38 (fo 1001 1 [1] hN underlying35 1 tyS30 (q 1)) (OptL.keep (by rfl) OptL.nil) (GuardV.plain _)) rfl (c (oq hN 38 (la hN 35 tyS30 (q 39)) (OptL.opt OptL.nil) (GuardV.plain _)) rfl (c (oq hN 38 (OpJ.val (v':=(i6 (a0.fPath.length:Int))) (by simp) (lenD underlying30 (L rfl) (q 40))) (OptL.opt OptL.nil) (GuardV.plain _)) rfl (c (oq hN 38 (fo 1001 8 [6] hN underlying35 8 tyS31 (q 1)) (OptL.keep (by rfl) OptL.nil) (GuardV.plain _)) rfl (c (oq hN 38 (la hN 35 tyS31 (q 42)) (OptL.opt OptL.nil) (GuardV.plain _)) rfl (c (oq hN 38 (OpJ.val (v':=(i6 (a0.fCommunities.length:Int))) (by simp) (lenD underlying31 (L rfl) (q 43))) (OptL.opt OptL.nil) (GuardV.plain _)) rfl (c (oq hN 38 (add6 (L rfl) (q 41) (q 44)) (OptL.opt (OptL.opt OptL.nil)) (GuardV.plain _)) rfl (c (oq hN 38 (fo 1001 9 [7] hN underlying35 9 tyS32 (q 1)) (OptL.keep (by rfl) OptL.nil) (GuardV.plain _)) rfl (c (oq hN 38 (la hN 35 tyS32 (q 46)) (OptL.opt OptL.nil) (GuardV.plain _)) rfl (c (oq hN 38 (OpJ.val (v':=(i6 (a0.fLarge.length:Int))) (by simp) (lenD underlying32 (L rfl) (q 47))) (OptL.opt OptL.nil) (GuardV.plain _)) rfl (c (oq hN 38 (add6 (L rfl) (q 45) (q 48)) (OptL.opt (OptL.opt OptL.nil)) (GuardV.plain _)) rfl (c (oq hN 38 (fo 1001 10 [8] hN underlying35 10 tyS33 (q 1)) (OptL.keep (by rfl) OptL.nil) (GuardV.plain _)) rfl (c (oq hN 38 (la hN 35 tyS33 (q 50)) (OptL.opt OptL.nil) (GuardV.plain _)) rfl (c (oq hN 38 (OpJ.val (v':=(i6 (a0.fOther.length:Int))) (by simp) (lenD underlying33 (L rfl) (q 51))) (OptL.opt OptL.nil) (GuardV.plain _)) rfl (c (oq hN 38 (add6 (L rfl) (q 49) (q 52)) (OptL.opt (OptL.opt OptL.nil)) (GuardV.plain _)) rfl (c (oq hN 38 (eqlI (L rfl) (q 53) (ii 0)) (OptL.opt OptL.nil) (GuardV.plain _)) rfl (c (pickAnd rfl (L rfl) (q 38) (q 54)) rfl (c (assign (L rfl) (q 55)) rfl cn))))))))))))))))))))))))))))))))))))))))))))))))))))
 apply AWp.ret
 obtain rfl:=oi h
 exact rt (kp [(2,_)] [] hB rfl rfl (by rfl)) [(bo ((((((a0.fOrigin==r1.fOrigin)&&(a0.fMED==r1.fMED))&&(a0.fPref==r1.fPref))&&(a0.fOTC==r1.fOTC))&&((a0.fNext.fV6==r1.fNext.fV6)&&((a0.fNext.fHi==r1.fNext.fHi)&&((a0.fNext.fLo==r1.fNext.fLo)&&true))))&&((w64 ((w64 ((w64 ((a0.fPath.length:Int)+(a0.fCommunities.length:Int)))+(a0.fLarge.length:Int)))+(a0.fOther.length:Int)))==0)))] (Res.tmp (by rfl) (by rfl) Res.nil) rfl
def attribute_within (a0:Int) (a1:Int) (a2:Int):Option (Bool) :=
 some ((decide (a1≤a0))&&(decide (a0≤a2)))
theorem attribute_within_ac (a0:Int) (a1:Int) (a2:Int) (r:Bool) (h:attribute_within a0 a1 a2=some r):AC Tryz.prog 117 [(.d (.int .i64 a0)),(.d (.int .i64 a1)),(.d (.int .i64 a2))] [] (.d (.bool r)) []:=by
 refine AC.of_code2 Tryz.func117 rfl rfl (Nat.le_of_ble_eq_true (by rfl)) fun B hB hN => ?_
 delta attribute_within at h
 refine sr (SQ tt) ?_
 refine sr (SQ tt) ?_
 apply AWp.ret
 obtain rfl:=oi h
 exact rt (kp [(6,_)] [] hB rfl rfl (by rfl)) [(bo ((decide (a1≤a0))&&(decide (a0≤a2))))] (Res.tmp (by rfl) (by rfl) Res.nil) rfl
def aspath_Number (a0:Int):Option (Bool) :=
 some ((decide (1≤a0))&&(decide (a0≤4294967295)))
theorem aspath_Number_ac (a0:Int) (r:Bool) (h:aspath_Number a0=some r):AC Tryz.prog 98 [(.d (.int .i64 a0))] [] (.d (.bool r)) []:=by
 refine AC.of_code2 Tryz.func98 rfl rfl (Nat.le_of_ble_eq_true (by rfl)) fun B hB hN => ?_
 delta aspath_Number at h
 refine sr (SQ tt) ?_
 refine sr (SQ tt) ?_
 apply AWp.ret
 obtain rfl:=oi h
 exact rt (kp [(2,_)] [] hB rfl rfl (by rfl)) [(bo ((decide (1≤a0))&&(decide (a0≤4294967295))))] (Res.tmp (by rfl) (by rfl) Res.nil) rfl
def aspath_Valid_L1 (x123:aSegment) (s130:Int):Option (((Unit)⊕(Unit))⊕(Int)) :=
 (if (decide (s130<(x123.fASNs.length:Int)))=true then
 (idx x123.fASNs s130).bind fun x162 =>
 jn (fun m168:Bool =>
 (if m168=true then
 some (.inl (.inl ()))
 else
 some (.inr (w64 (s130+1))))) (fun j169 =>
 (aspath_Number x162).bind fun r171 =>
 (if (!r171)=true then
 j169 true
 else
 (if (x123.fSet&&(decide (0<s130)))=true then
 (idx x123.fASNs (w64 (s130-1))).bind fun x174 =>
 j169 (decide (x162≤x174))
 else
 j169 false)))
 else
 some (.inl (.inr ())))
def aspath_Valid_L0 (a0:(List aSegment)) (s1:Int×Int):Option (((Unit)⊕(Int))⊕(Int×Int)) :=
 (if (decide (s1.2<(a0.length:Int)))=true then
 (idx a0 s1.2).bind fun x123 =>
 jn (fun m127:Bool =>
 (if m127=true then
 some (.inl (.inl ()))
 else
 (loop (aspath_Valid_L1 x123) 0).bind fun x175=>match x175 with
 | (.inl _) =>
  some (.inl (.inl ()))
 | (.inr _) =>
  some (.inr ((w64 (s1.1+(x123.fASNs.length:Int))),(w64 (s1.2+1)))))) (fun j128 =>
 (if ((x123.fASNs.length:Int)==0)=true then
 j128 true
 else
 (if ((decide (0<s1.2))&&(!x123.fSet))=true then
 (idx a0 (w64 (s1.2-1))).bind fun x179 =>
 j128 (!x179.fSet)
 else
 j128 false)))
 else
 some (.inl (.inr s1.1)))
def aspath_Valid (a0:(List aSegment)):Option (Bool) :=
 (loop (aspath_Valid_L0 a0) (0,0)).bind fun x180=>match x180 with
 | (.inl _) =>
  some false
 | (.inr p121) =>
  some (decide (p121≤64))
theorem aspath_Valid_ac (a0:(List aSegment)) (r:Bool) (h:aspath_Valid a0=some r):AC Tryz.prog 66 [(.d (.list 2 (a0.map e_aSegment)))] [] (.d (.bool r)) []:=by
 refine ac2 Tryz.func66 rfl rfl fun B hB hN L => ?_
 delta aspath_Valid at h
 refine sr (SQ tt) ?_
 refine sr (SQ tt) ?_
 apply AWp.seq
 refine sr (SQ tt) ?_
 apply AWp.block
 obtain⟨x180,hx181,h⟩:=bindS h
 refine lg (aspath_Valid_L0 a0) (fun s1:Int×Int=>([(0,(qe_aSegment_2 a0)),(3,(i6 s1.1)),(8,(qe_aSegment_2 a0)),(9,(i6 (a0.length:Int))),(10,(i6 s1.2))]:EL)) (fun s1:Int×Int=>([]:OL)) (fun(x:(Unit)⊕(Int)) e E' O'=>match x with | (.inl _p)=>e = .ret∧Mat B E' O' ([(2,(bo false))]:EL) ([]:OL) | (.inr p121)=>e = .exit 0∧Mat B E' O' ([(3,(i6 p121))]:EL) ([]:OL)) hx181 (mp [] _ _ hB) (fun s1 y h => ?_) (fun e E' O' hR => ?_)
 ·unfold aspath_Valid_L0 at h
  refine sr (SQ tt) ?_
  apply AWp.seq
  apply AWp.cond rfl<;>intro hg122
  ·have h:=ite_t hg122 h
   apply AWp.skip
   apply seqQ_n
   apply AWp.seq
   apply AWp.block
   obtain⟨x123,hx123,h⟩:=bindS h
   refine sr (SQ (fa hx123 tt)) ?_
   apply AWp.seq
   apply AWp.seq
   refine AWp.cut h (fun m127:Bool=>([(0,(qe_aSegment_2 a0)),(3,(i6 s1.1)),(5,(pt 1005)),(8,(qe_aSegment_2 a0)),(9,(i6 (a0.length:Int))),(10,(i6 s1.2)),(36,(bo m127))]:EL)) (fun m127:Bool=>([(1005,bd 66 (e_aSegment x123))]:OL)) (fun m127 h E' O' hmat => ?_) (fun j128 hjj128 h => ?_)
   ·apply seqQ_n
    refine AWp.ghost hmat ?_
    apply AWp.cond rfl<;>intro hg129
    ·have h:=ite_t hg129 h
     refine sr (SQ tt) ?_
     apply AWp.ret
     apply seqQ_r
     apply blkQ_r
     apply seqQ_r
     obtain rfl:=oi h
     exact⟨(fun hc=>by cases hc),rfl,(mp [] _ _ hB)⟩
    ·have h:=ite_f hg129 h
     apply AWp.skip
     apply seqQ_n
     apply AWp.seq
     refine sr (SQ tt) ?_
     apply AWp.block
     obtain⟨x175,hx176,h⟩:=bindS h
     refine lg (aspath_Valid_L1 x123) (fun s130:Int=>([(0,(qe_aSegment_2 a0)),(3,(i6 s1.1)),(5,(pt 1005)),(8,(qe_aSegment_2 a0)),(9,(i6 (a0.length:Int))),(10,(i6 s1.2)),(38,(qI_1 x123.fASNs)),(39,(i6 (x123.fASNs.length:Int))),(40,(i6 s130))]:EL)) (fun s130:Int=>([(1005,bd 66 (e_aSegment x123))]:OL)) (fun(x:(Unit)⊕(Unit)) e E' O'=>match x with | (.inl _p)=>e = .ret∧Mat B E' O' ([(2,(bo false))]:EL) ([]:OL) | (.inr _p)=>e = .exit 2∧Mat B E' O' ([(0,(qe_aSegment_2 a0)),(3,(i6 s1.1)),(5,(pt 1005)),(8,(qe_aSegment_2 a0)),(9,(i6 (a0.length:Int))),(10,(i6 s1.2))]:EL) ([(1005,bd 66 (e_aSegment x123))]:OL)) hx176 (mp [] _ _ hB) (fun s130 y h => ?_) (fun e E' O' hR => ?_)
     ·unfold aspath_Valid_L1 at h
      refine sr (SQ tt) ?_
      apply AWp.seq
      apply AWp.cond rfl<;>intro hg161
      ·have h:=ite_t hg161 h
       apply AWp.skip
       apply seqQ_n
       apply AWp.seq
       apply AWp.block
       obtain⟨x162,hx162,h⟩:=bindS h
       refine sr (SQ (fa hx162 tt)) ?_
       apply AWp.seq
       refine AWp.cut h (fun m168:Bool=>([(0,(qe_aSegment_2 a0)),(3,(i6 s1.1)),(5,(pt 1005)),(8,(qe_aSegment_2 a0)),(9,(i6 (a0.length:Int))),(10,(i6 s1.2)),(38,(qI_1 x123.fASNs)),(39,(i6 (x123.fASNs.length:Int))),(40,(i6 s130)),(65,(bo m168))]:EL)) (fun m168:Bool=>([(1005,bd 66 (e_aSegment x123))]:OL)) (fun m168 h E' O' hmat => ?_) (fun j169 hjj169 h => ?_)
       ·apply seqQ_n
        refine AWp.ghost hmat ?_
        apply AWp.cond rfl<;>intro hg170
        ·have h:=ite_t hg170 h
         refine sr (SQ tt) ?_
         apply AWp.ret
         apply blkQ_r
         apply seqQ_r
         obtain rfl:=oi h
         exact⟨(fun hc=>by cases hc),rfl,(mp [] _ _ hB)⟩
        ·have h:=ite_f hg170 h
         apply AWp.skip
         apply blkQ_n
         apply seqQ_n
         refine rg (SQ tt) ?_
         obtain rfl:=oi h
         exact⟨rfl,(mp [] _ _ hB)⟩
       ·obtain⟨r171,hr171,h⟩:=bindS h
        rcases bft (!r171) with hg172 | hg172
        ·have h:=ite_t hg172 h
         refine rg (SQ (fa (cl [] (aspath_Number_ac x162 r171 hr171)) (fa hg172 tt))) ?_
         exact hjj169 _ h _ _ (mp [] _ _ hB)
        ·have h:=ite_f hg172 h
         rcases bft (x123.fSet&&(decide (0<s130))) with hg173 | hg173
         ·have h:=ite_t hg173 h
          obtain⟨_,hx174,h⟩:=bindS h
          refine rg (SQ (fa (cl [] (aspath_Number_ac x162 r171 hr171)) (fa hg172 (fa hg173 (fa hx174 tt))))) ?_
          exact hjj169 _ h _ _ (mp [] _ _ hB)
         ·have h:=ite_f hg173 h
          refine rg (SQ (fa (cl [] (aspath_Number_ac x162 r171 hr171)) (fa hg172 (fa hg173 tt)))) ?_
          exact hjj169 _ h _ _ (mp [] _ _ hB)
      ·have h:=ite_f hg161 h
       apply AWp.exit
       apply seqQ_e
       obtain rfl:=oi h
       exact⟨(fun hc=>by cases hc),rfl,(mp [] _ _ hB)⟩
     ·rcases x175 with _ | _
      ·obtain⟨rfl,hmat⟩:=hR
       apply blkQ_r
       apply seqQ_r
       apply blkQ_r
       apply seqQ_r
       obtain rfl:=oi h
       exact⟨(fun hc=>by cases hc),rfl,(Mat.trans hmat (mp [] _ _ hB))⟩
      ·obtain⟨rfl,hmat⟩:=hR
       apply blkQ_hit
       apply seqQ_n
       refine AWp.ghost hmat ?_
       refine rg (SQ tt) ?_
       apply blkQ_n
       apply seqQ_n
       refine rg (SQ tt) ?_
       obtain rfl:=oi h
       exact⟨rfl,(mp [] _ _ hB)⟩
   ·rcases bft ((x123.fASNs.length:Int)==0) with hg177 | hg177
    ·have h:=ite_t hg177 h
     refine rg (SQ (fa hg177 tt)) ?_
     exact hjj128 _ h _ _ (mp [] _ _ hB)
    ·have h:=ite_f hg177 h
     rcases bft ((decide (0<s1.2))&&(!x123.fSet)) with hg178 | hg178
     ·have h:=ite_t hg178 h
      obtain⟨_,hx179,h⟩:=bindS h
      refine rg (SQ (fa hg177 (fa hg178 (fa hx179 tt)))) ?_
      exact hjj128 _ h _ _ (mp [] _ _ hB)
     ·have h:=ite_f hg178 h
      refine rg (SQ (fa hg177 (fa hg178 tt))) ?_
      exact hjj128 _ h _ _ (mp [] _ _ hB)
  ·have h:=ite_f hg122 h
   apply AWp.exit
   apply seqQ_e
   obtain rfl:=oi h
   exact⟨(fun hc=>by cases hc),rfl,(mp [] _ _ hB)⟩
 ·rcases x180 with _ | p121
  ·obtain⟨rfl,hmat⟩:=hR
   apply blkQ_r
   apply seqQ_r
   obtain rfl:=oi h
   exact rt (Mat.trans hmat (mp [] [(2,(bo false))] [] hB)) [(bo false)] (Res.tmp (by rfl) (by rfl) Res.nil) rfl
  ·obtain⟨rfl,hmat⟩:=hR
   apply blkQ_hit
   apply seqQ_n
   refine AWp.ghost hmat ?_
   refine sr (SQ tt) ?_
   apply AWp.ret
   obtain rfl:=oi h
   exact rt (kp [(2,_)] [] hB rfl rfl (by rfl)) [(bo (decide (p121≤64)))] (Res.tmp (by rfl) (by rfl) Res.nil) rfl
def slices_Min_L0 (a0:(List Int)) (s4:Int×Int):Option (((Int))⊕(Int×Int)) :=
 (if (decide (s4.2<(a0.length:Int)))=true then
 (idx a0 s4.2).bind fun x11 =>
 some (.inr ((minI s4.1 x11),(w64 (s4.2+1))))
 else
 some (.inl s4.1))
def slices_Min (a0:(List Int)):Option (Int) :=
 (if (decide ((a0.length:Int)<1))=true then
 none
 else
 (idx a0 0).bind fun x3 =>
 (loop (slices_Min_L0 a0) (x3,1)).bind fun p9 =>
 some p9)
theorem slices_Min_ac (a0:(List Int)) (r:Int) (h:slices_Min a0=some r):AC Tryz.prog 152 [(.d (.list 1 (a0.map (eI .i64))))] [] (.d (.int .i64 r)) []:=by
 refine ac2 Tryz.func152 rfl rfl fun B hB hN L => ?_
 delta slices_Min at h
 refine sr (SQ tt) ?_
 apply AWp.seq
 refine sr (SQ tt) ?_
 apply AWp.cond rfl<;>intro hg2
 ·have h:=ite_t hg2 h
  cases h
 ·have h:=ite_f hg2 h
  apply AWp.skip
  apply seqQ_n
  obtain⟨_,hx3,h⟩:=bindS h
  refine sr (SQ (fa hx3 tt)) ?_
  apply AWp.seq
  refine sr (SQ tt) ?_
  apply AWp.block
  obtain⟨p9,hx13,h⟩:=bindS h
  refine lg (slices_Min_L0 a0) (fun s4:Int×Int=>([(0,(qI_1 a0)),(3,(i6 s4.1)),(4,(i6 s4.2))]:EL)) (fun s4:Int×Int=>([]:OL)) (fun(p9:(Int)) e E' O'=>e = .exit 0∧Mat B E' O' ([(3,(i6 p9))]:EL) ([]:OL)) hx13 (mp [] _ _ hB) (fun s4 y h => ?_) (fun e E' O' hR => ?_)
  ·unfold slices_Min_L0 at h
   apply AWp.seq
   refine sr (SQ tt) ?_
   apply AWp.cond rfl<;>intro hg10
   ·have h:=ite_t hg10 h
    apply AWp.skip
    apply seqQ_n
    apply AWp.seq
    apply AWp.block
    obtain⟨_,hx11,h⟩:=bindS h
    refine rg (SQ (fa hx11 tt)) ?_
    apply blkQ_n
    apply seqQ_n
    refine rg (SQ tt) ?_
    obtain rfl:=oi h
    exact⟨rfl,(mp [] _ _ hB)⟩
   ·have h:=ite_f hg10 h
    apply AWp.exit
    apply seqQ_e
    obtain rfl:=oi h
    exact⟨(fun hc=>by cases hc),rfl,(mp [] _ _ hB)⟩
  ·obtain⟨rfl,hmat⟩:=hR
   apply blkQ_hit
   apply seqQ_n
   refine AWp.ghost hmat ?_
   refine sr (SQ tt) ?_
   apply AWp.ret
   obtain rfl:=oi h
   exact rt (kp [(2,_)] [] hB rfl rfl (by rfl)) [(i6 p9)] (Res.tmp (by rfl) (by rfl) Res.nil) rfl
def slices_Max_L0 (a0:(List Int)) (s4:Int×Int):Option (((Int))⊕(Int×Int)) :=
 (if (decide (s4.2<(a0.length:Int)))=true then
 (idx a0 s4.2).bind fun x11 =>
 some (.inr ((maxI s4.1 x11),(w64 (s4.2+1))))
 else
 some (.inl s4.1))
def slices_Max (a0:(List Int)):Option (Int) :=
 (if (decide ((a0.length:Int)<1))=true then
 none
 else
 (idx a0 0).bind fun x3 =>
 (loop (slices_Max_L0 a0) (x3,1)).bind fun p9 =>
 some p9)
theorem slices_Max_ac (a0:(List Int)) (r:Int) (h:slices_Max a0=some r):AC Tryz.prog 153 [(.d (.list 1 (a0.map (eI .i64))))] [] (.d (.int .i64 r)) []:=by
 refine ac2 Tryz.func153 rfl rfl fun B hB hN L => ?_
 delta slices_Max at h
 refine sr (SQ tt) ?_
 apply AWp.seq
 refine sr (SQ tt) ?_
 apply AWp.cond rfl<;>intro hg2
 ·have h:=ite_t hg2 h
  cases h
 ·have h:=ite_f hg2 h
  apply AWp.skip
  apply seqQ_n
  obtain⟨_,hx3,h⟩:=bindS h
  refine sr (SQ (fa hx3 tt)) ?_
  apply AWp.seq
  refine sr (SQ tt) ?_
  apply AWp.block
  obtain⟨p9,hx13,h⟩:=bindS h
  refine lg (slices_Max_L0 a0) (fun s4:Int×Int=>([(0,(qI_1 a0)),(3,(i6 s4.1)),(4,(i6 s4.2))]:EL)) (fun s4:Int×Int=>([]:OL)) (fun(p9:(Int)) e E' O'=>e = .exit 0∧Mat B E' O' ([(3,(i6 p9))]:EL) ([]:OL)) hx13 (mp [] _ _ hB) (fun s4 y h => ?_) (fun e E' O' hR => ?_)
  ·unfold slices_Max_L0 at h
   apply AWp.seq
   refine sr (SQ tt) ?_
   apply AWp.cond rfl<;>intro hg10
   ·have h:=ite_t hg10 h
    apply AWp.skip
    apply seqQ_n
    apply AWp.seq
    apply AWp.block
    obtain⟨_,hx11,h⟩:=bindS h
    refine rg (SQ (fa hx11 tt)) ?_
    apply blkQ_n
    apply seqQ_n
    refine rg (SQ tt) ?_
    obtain rfl:=oi h
    exact⟨rfl,(mp [] _ _ hB)⟩
   ·have h:=ite_f hg10 h
    apply AWp.exit
    apply seqQ_e
    obtain rfl:=oi h
    exact⟨(fun hc=>by cases hc),rfl,(mp [] _ _ hB)⟩
  ·obtain⟨rfl,hmat⟩:=hR
   apply blkQ_hit
   apply seqQ_n
   refine AWp.ghost hmat ?_
   refine sr (SQ tt) ?_
   apply AWp.ret
   obtain rfl:=oi h
   exact rt (kp [(2,_)] [] hB rfl rfl (by rfl)) [(i6 p9)] (Res.tmp (by rfl) (by rfl) Res.nil) rfl
def community_within (a0:Int) (a1:(List Int)):Option (Bool) :=
 jn (fun m5:Bool =>
 some m5) (fun j6 =>
 (slices_Min a1).bind fun r7 =>
 (if (decide (0≤r7))=true then
 (slices_Max a1).bind fun r9 =>
 j6 (decide (r9≤a0))
 else
 j6 false))
theorem community_within_ac (a0:Int) (a1:(List Int)) (r:Bool) (h:community_within a0 a1=some r):AC Tryz.prog 141 [(.d (.int .i64 a0)),(.d (.list 1 (a1.map (eI .i64))))] [] (.d (.bool r)) []:=by
 refine ac2 Tryz.func141 rfl rfl fun B hB hN L => ?_
 delta community_within at h
 refine sr (SQ tt) ?_
 apply AWp.seq
 refine AWp.cut h (fun m5:Bool=>([(4,(bo m5))]:EL)) (fun m5:Bool=>([]:OL)) (fun m5 h E' O' hmat => ?_) (fun j6 hjj6 h => ?_)
 ·apply seqQ_n
  refine AWp.ghost hmat ?_
  apply AWp.ret
  obtain rfl:=oi h
  exact rt (kp [(4,_)] [] hB rfl rfl (by rfl)) [(bo m5)] (Res.tmp (by rfl) (by rfl) Res.nil) rfl
 ·obtain⟨r7,hr7,h⟩:=bindS h
  rcases bft (decide (0≤r7)) with hg8 | hg8
  ·have h:=ite_t hg8 h
   obtain⟨r9,hr9,h⟩:=bindS h
   refine rg (SQ (fa (cl [] (slices_Min_ac a1 r7 hr7)) (fa hg8 (fa (cl [] (slices_Max_ac a1 r9 hr9)) tt)))) ?_
   exact hjj6 _ h _ _ (mp [] _ _ hB)
  ·have h:=ite_f hg8 h
   refine rg (SQ (fa (cl [] (slices_Min_ac a1 r7 hr7)) (fa hg8 tt))) ?_
   exact hjj6 _ h _ _ (mp [] _ _ hB)
def community_fits (a0:aCommunity):Option (Bool) :=
 (community_within 65535 ([a0.fA,a0.fB]:List Int)).bind fun r1 =>
 some r1
theorem community_fits_ac (a0:aCommunity) (r:Bool) (h:community_fits a0=some r):AC Tryz.prog 126 [(.d (e_aCommunity a0))] [] (.d (.bool r)) []:=by
 refine AC.of_code2 Tryz.func126 rfl rfl (Nat.le_of_ble_eq_true (by rfl)) fun B hB hN => ?_
 delta community_fits at h
 refine sr (SQ tt) ?_
 obtain⟨r1,hr1,h⟩:=bindS h
 refine sr (SQ (fa (cl [] (community_within_ac 65535 ([a0.fA,a0.fB]:List Int) r1 hr1)) tt)) ?_
 apply AWp.ret
 obtain rfl:=oi h
 exact rt (kp [(2,_)] [] hB rfl rfl (by rfl)) [(bo r1)] (Res.tmp (by rfl) (by rfl) Res.nil) rfl
def cmp_isNaN (a0:Int):Option (Bool) :=
 some (a0 != a0)
theorem cmp_isNaN_ac (a0:Int) (r:Bool) (h:cmp_isNaN a0=some r):AC Tryz.prog 97 [(.d (.int .i64 a0))] [] (.d (.bool r)) []:=by
 refine AC.of_code2 Tryz.func97 rfl rfl (Nat.le_of_ble_eq_true (by rfl)) fun B hB hN => ?_
 delta cmp_isNaN at h
 refine sr (SQ tt) ?_
 refine sr (SQ tt) ?_
 apply AWp.ret
 obtain rfl:=oi h
 exact rt (kp [(2,_)] [] hB rfl rfl (by rfl)) [(bo (a0 != a0))] (Res.tmp (by rfl) (by rfl) Res.nil) rfl
def cmp_Compare (a0:Int) (a1:Int):Option (Int) :=
 (cmp_isNaN a0).bind fun r1 =>
 (cmp_isNaN a1).bind fun r2 =>
 (if r1=true then
 (if r2=true then
 some 0
 else
 some (-1))
 else
 (if r2=true then
 some 1
 else
 (if (decide (a0<a1))=true then
 some (-1)
 else
 (if (decide (a1<a0))=true then
 some 1
 else
 some 0))))
theorem cmp_Compare_ac (a0:Int) (a1:Int) (r:Int) (h:cmp_Compare a0 a1=some r):AC Tryz.prog 56 [(.d (.int .i64 a0)),(.d (.int .i64 a1))] [] (.d (.int .i64 r)) []:=by
 refine ac2 Tryz.func56 rfl rfl fun B hB hN L => ?_
 delta cmp_Compare at h
 refine sr (SQ tt) ?_
 obtain⟨r1,hr1,h⟩:=bindS h
 refine sr (SQ (fa (cl [] (cmp_isNaN_ac a0 r1 hr1)) tt)) ?_
 obtain⟨r2,hr2,h⟩:=bindS h
 refine sr (SQ (fa (cl [] (cmp_isNaN_ac a1 r2 hr2)) tt)) ?_
 apply AWp.seq
 refine sr (SQ tt) ?_
 apply AWp.cond rfl<;>intro hg3
 ·have h:=ite_t hg3 h
  apply AWp.seq
  refine sr (SQ tt) ?_
  apply AWp.cond rfl<;>intro hg4
  ·have h:=ite_t hg4 h
   refine sr (SQ tt) ?_
   apply AWp.ret
   apply seqQ_r
   apply seqQ_r
   obtain rfl:=oi h
   exact rt (kp [(4,_)] [] hB rfl rfl (by rfl)) [(i6 0)] (Res.tmp (by rfl) (by rfl) Res.nil) rfl
  ·have h:=ite_f hg4 h
   apply AWp.skip
   apply seqQ_n
   refine sr (SQ tt) ?_
   apply AWp.ret
   apply seqQ_r
   obtain rfl:=oi h
   exact rt (kp [(4,_)] [] hB rfl rfl (by rfl)) [(i6 (-1))] (Res.tmp (by rfl) (by rfl) Res.nil) rfl
 ·have h:=ite_f hg3 h
  apply AWp.skip
  apply seqQ_n
  apply AWp.seq
  refine sr (SQ tt) ?_
  apply AWp.cond rfl<;>intro hg5
  ·have h:=ite_t hg5 h
   refine sr (SQ tt) ?_
   apply AWp.ret
   apply seqQ_r
   obtain rfl:=oi h
   exact rt (kp [(4,_)] [] hB rfl rfl (by rfl)) [(i6 1)] (Res.tmp (by rfl) (by rfl) Res.nil) rfl
  ·have h:=ite_f hg5 h
   apply AWp.skip
   apply seqQ_n
   apply AWp.seq
   refine sr (SQ tt) ?_
   apply AWp.cond rfl<;>intro hg6
   ·have h:=ite_t hg6 h
    refine sr (SQ tt) ?_
    apply AWp.ret
    apply seqQ_r
    obtain rfl:=oi h
    exact rt (kp [(4,_)] [] hB rfl rfl (by rfl)) [(i6 (-1))] (Res.tmp (by rfl) (by rfl) Res.nil) rfl
   ·have h:=ite_f hg6 h
    apply AWp.skip
    apply seqQ_n
    apply AWp.seq
    refine sr (SQ tt) ?_
    apply AWp.cond rfl<;>intro hg7
    ·have h:=ite_t hg7 h
     refine sr (SQ tt) ?_
     apply AWp.ret
     apply seqQ_r
     obtain rfl:=oi h
     exact rt (kp [(4,_)] [] hB rfl rfl (by rfl)) [(i6 1)] (Res.tmp (by rfl) (by rfl) Res.nil) rfl
    ·have h:=ite_f hg7 h
     apply AWp.skip
     apply seqQ_n
     refine sr (SQ tt) ?_
     apply AWp.ret
     obtain rfl:=oi h
     exact rt (kp [(4,_)] [] hB rfl rfl (by rfl)) [(i6 0)] (Res.tmp (by rfl) (by rfl) Res.nil) rfl
def cmp_Or_L0 (a0:(List Int)) (s1:Int):Option (((Int)⊕(Unit))⊕(Int)) :=
 (if (decide (s1<(a0.length:Int)))=true then
 (idx a0 s1).bind fun x11 =>
 (if (x11 != 0)=true then
 some (.inl (.inl x11))
 else
 some (.inr (w64 (s1+1))))
 else
 some (.inl (.inr ())))
def cmp_Or (a0:(List Int)):Option (Int) :=
 (loop (cmp_Or_L0 a0) 0).bind fun x13=>match x13 with
 | (.inl p8) =>
  some p8
 | (.inr _) =>
  some 0
theorem cmp_Or_ac (a0:(List Int)) (r:Int) (h:cmp_Or a0=some r):AC Tryz.prog 54 [(.d (.list 1 (a0.map (eI .i64))))] [] (.d (.int .i64 r)) []:=by
 refine AC.of_code2 Tryz.func54 rfl rfl (Nat.le_of_ble_eq_true (by rfl)) fun B hB hN => ?_
 delta cmp_Or at h
 refine sr (SQ tt) ?_
 refine sr (SQ tt) ?_
 apply AWp.seq
 refine sr (SQ tt) ?_
 apply AWp.block
 obtain⟨x13,hx14,h⟩:=bindS h
 refine lg (cmp_Or_L0 a0) (fun s1:Int=>([(3,(i6 0)),(6,(qI_1 a0)),(7,(i6 (a0.length:Int))),(8,(i6 s1))]:EL)) (fun s1:Int=>([]:OL)) (fun(x:(Int)⊕(Unit)) e E' O'=>match x with | (.inl p8)=>e = .ret∧Mat B E' O' ([(2,(i6 p8))]:EL) ([]:OL) | (.inr _p)=>e = .exit 0∧Mat B E' O' ([(3,(i6 0))]:EL) ([]:OL)) hx14 (mp [] _ _ hB) (fun s1 y h => ?_) (fun e E' O' hR => ?_)
 ·unfold cmp_Or_L0 at h
  refine sr (SQ tt) ?_
  apply AWp.seq
  apply AWp.cond rfl<;>intro hg10
  ·have h:=ite_t hg10 h
   apply AWp.skip
   apply seqQ_n
   apply AWp.seq
   apply AWp.block
   obtain⟨_,hx11,h⟩:=bindS h
   refine sr (SQ (fa hx11 tt)) ?_
   refine sr (SQ tt) ?_
   apply AWp.cond rfl<;>intro hg12
   ·have h:=ite_t hg12 h
    refine sr (SQ tt) ?_
    apply AWp.ret
    apply blkQ_r
    apply seqQ_r
    obtain rfl:=oi h
    exact⟨(fun hc=>by cases hc),rfl,(mp [] _ _ hB)⟩
   ·have h:=ite_f hg12 h
    apply AWp.skip
    apply blkQ_n
    apply seqQ_n
    refine rg (SQ tt) ?_
    obtain rfl:=oi h
    exact⟨rfl,(mp [] _ _ hB)⟩
  ·have h:=ite_f hg10 h
   apply AWp.exit
   apply seqQ_e
   obtain rfl:=oi h
   exact⟨(fun hc=>by cases hc),rfl,(mp [] _ _ hB)⟩
 ·rcases x13 with p8 | _
  ·obtain⟨rfl,hmat⟩:=hR
   apply blkQ_r
   apply seqQ_r
   obtain rfl:=oi h
   exact rt (Mat.trans hmat (mp [] [(2,(i6 p8))] [] hB)) [(i6 p8)] (Res.tmp (by rfl) (by rfl) Res.nil) rfl
  ·obtain⟨rfl,hmat⟩:=hR
   apply blkQ_hit
   apply seqQ_n
   refine AWp.ghost hmat ?_
   refine sr (SQ tt) ?_
   apply AWp.ret
   obtain rfl:=oi h
   exact rt (kp [(2,_)] [] hB rfl rfl (by rfl)) [(i6 0)] (Res.tmp (by rfl) (by rfl) Res.nil) rfl
def community_compare (a0:aCommunity) (a1:aCommunity):Option (Int) :=
 (cmp_Compare a0.fA a1.fA).bind fun r1 =>
 (cmp_Compare a0.fB a1.fB).bind fun r2 =>
 (cmp_Or ([r1,r2]:List Int)).bind fun r3 =>
 some r3
theorem community_compare_ac (a0:aCommunity) (a1:aCommunity) (r:Int) (h:community_compare a0 a1=some r):AC Tryz.prog 127 [(.d (e_aCommunity a0)),(.d (e_aCommunity a1))] [] (.d (.int .i64 r)) []:=by
 refine AC.of_code2 Tryz.func127 rfl rfl (Nat.le_of_ble_eq_true (by rfl)) fun B hB hN => ?_
 delta community_compare at h
 refine sr (SQ tt) ?_
 obtain⟨r1,hr1,h⟩:=bindS h
 obtain⟨r2,hr2,h⟩:=bindS h
 obtain⟨r3,hr3,h⟩:=bindS h
 refine sdS (SQ (fa (cl [] (cmp_Compare_ac a0.fA a1.fA r1 hr1)) (fa (cl [] (cmp_Compare_ac a0.fB a1.fB r2 hr2)) (fa (cl [] (cmp_Or_ac ([r1,r2]:List Int) r3 hr3)) tt)))) ?_
 apply AWp.ret
 obtain rfl:=oi h
 exact rt (kp [(4,_)] [] hB rfl rfl (by rfl)) [(i6 r3)] (Res.tmp (by rfl) (by rfl) Res.nil) rfl
def community_ascends_L0 (a0:(List aCommunity)) (s1:Int):Option (((Unit)⊕(Unit))⊕(Int)) :=
 (if (decide (s1<(a0.length:Int)))=true then
 (idx a0 s1).bind fun x37 =>
 jn (fun m44:Bool =>
 (if m44=true then
 some (.inl (.inl ()))
 else
 some (.inr (w64 (s1+1))))) (fun j45 =>
 (community_fits x37).bind fun r47 =>
 (if (!r47)=true then
 j45 true
 else
 (if (decide (0<s1))=true then
 (idx a0 (w64 (s1-1))).bind fun x50 =>
 (community_compare x50 x37).bind fun r51 =>
 j45 (decide (0≤r51))
 else
 j45 false)))
 else
 some (.inl (.inr ())))
def community_ascends (a0:(List aCommunity)):Option (Bool) :=
 (loop (community_ascends_L0 a0) 0).bind fun x52=>match x52 with
 | (.inl _) =>
  some false
 | (.inr _) =>
  some (decide ((a0.length:Int)≤64))
theorem community_ascends_ac (a0:(List aCommunity)) (r:Bool) (h:community_ascends a0=some r):AC Tryz.prog 125 [(.d (.list 2 (a0.map e_aCommunity))),(.func 126 []),(.func 127 [])] [] (.d (.bool r)) []:=by
 refine ac2 Tryz.func125 rfl rfl fun B hB hN L => ?_
 delta community_ascends at h
 refine sr (SQ tt) ?_
 apply AWp.seq
 refine sr (SQ tt) ?_
 apply AWp.block
 obtain⟨x52,hx53,h⟩:=bindS h
 refine lg (community_ascends_L0 a0) (fun s1:Int=>([(0,(qe_aCommunity_2 a0)),(1,(.func 126 [])),(2,(.func 127 [])),(9,(qe_aCommunity_2 a0)),(10,(i6 (a0.length:Int))),(11,(i6 s1))]:EL)) (fun s1:Int=>([]:OL)) (fun(x:(Unit)⊕(Unit)) e E' O'=>match x with | (.inl _p)=>e = .ret∧Mat B E' O' ([(6,(bo false))]:EL) ([]:OL) | (.inr _p)=>e = .exit 0∧Mat B E' O' ([(0,(qe_aCommunity_2 a0))]:EL) ([]:OL)) hx53 (mp [] _ _ hB) (fun s1 y h => ?_) (fun e E' O' hR => ?_)
 ·unfold community_ascends_L0 at h
  refine sr (SQ tt) ?_
  apply AWp.seq
  apply AWp.cond rfl<;>intro hg36
  ·have h:=ite_t hg36 h
   apply AWp.skip
   apply seqQ_n
   apply AWp.seq
   apply AWp.block
   obtain⟨x37,hx37,h⟩:=bindS h
   refine sr (SQ (fa hx37 tt)) ?_
   apply AWp.seq
   refine AWp.cut h (fun m44:Bool=>([(0,(qe_aCommunity_2 a0)),(1,(.func 126 [])),(2,(.func 127 [])),(9,(qe_aCommunity_2 a0)),(10,(i6 (a0.length:Int))),(11,(i6 s1)),(34,(bo m44))]:EL)) (fun m44:Bool=>([]:OL)) (fun m44 h E' O' hmat => ?_) (fun j45 hjj45 h => ?_)
   ·apply seqQ_n
    refine AWp.ghost hmat ?_
    apply AWp.cond rfl<;>intro hg46
    ·have h:=ite_t hg46 h
     refine sr (SQ tt) ?_
     apply AWp.ret
     apply blkQ_r
     apply seqQ_r
     obtain rfl:=oi h
     exact⟨(fun hc=>by cases hc),rfl,(mp [] _ _ hB)⟩
    ·have h:=ite_f hg46 h
     apply AWp.skip
     apply blkQ_n
     apply seqQ_n
     refine rg (SQ tt) ?_
     obtain rfl:=oi h
     exact⟨rfl,(mp [] _ _ hB)⟩
   ·obtain⟨r47,hr47,h⟩:=bindS h
    rcases bft (!r47) with hg48 | hg48
    ·have h:=ite_t hg48 h
     refine drS (SQ (fa (cl [] (community_fits_ac x37 r47 hr47)) (fa hg48 tt))) ?_
     exact hjj45 _ h _ _ (mp [] _ _ hB)
    ·have h:=ite_f hg48 h
     rcases bft (decide (0<s1)) with hg49 | hg49
     ·have h:=ite_t hg49 h
      obtain⟨x50,hx50,h⟩:=bindS h
      obtain⟨r51,hr51,h⟩:=bindS h
      refine drS (SQ (fa (cl [] (community_fits_ac x37 r47 hr47)) (fa hg48 (fa hg49 (fa hx50 (fa (cl [] (community_compare_ac x50 x37 r51 hr51)) tt)))))) ?_
      exact hjj45 _ h _ _ (mp [] _ _ hB)
     ·have h:=ite_f hg49 h
      refine drS (SQ (fa (cl [] (community_fits_ac x37 r47 hr47)) (fa hg48 (fa hg49 tt)))) ?_
      exact hjj45 _ h _ _ (mp [] _ _ hB)
  ·have h:=ite_f hg36 h
   apply AWp.exit
   apply seqQ_e
   obtain rfl:=oi h
   exact⟨(fun hc=>by cases hc),rfl,(mp [] _ _ hB)⟩
 ·rcases x52 with _ | _
  ·obtain⟨rfl,hmat⟩:=hR
   apply blkQ_r
   apply seqQ_r
   obtain rfl:=oi h
   exact rt (Mat.trans hmat (mp [] [(6,(bo false))] [] hB)) [(bo false)] (Res.tmp (by rfl) (by rfl) Res.nil) rfl
  ·obtain⟨rfl,hmat⟩:=hR
   apply blkQ_hit
   apply seqQ_n
   refine AWp.ghost hmat ?_
   refine sr (SQ tt) ?_
   apply AWp.ret
   obtain rfl:=oi h
   exact rt (kp [(6,_)] [] hB rfl rfl (by rfl)) [(bo (decide ((a0.length:Int)≤64)))] (Res.tmp (by rfl) (by rfl) Res.nil) rfl
def community_Valid (a0:(List aCommunity)):Option (Bool) :=
 (community_ascends a0).bind fun r1 =>
 some r1
theorem community_Valid_ac (a0:(List aCommunity)) (r:Bool) (h:community_Valid a0=some r):AC Tryz.prog 118 [(.d (.list 2 (a0.map e_aCommunity)))] [] (.d (.bool r)) []:=by
 refine AC.of_code2 Tryz.func118 rfl rfl (Nat.le_of_ble_eq_true (by rfl)) fun B hB hN => ?_
 delta community_Valid at h
 refine sr (SQ tt) ?_
 obtain⟨r1,hr1,h⟩:=bindS h
 refine sr (SQ (fa (cl [] (community_ascends_ac a0 r1 hr1)) tt)) ?_
 apply AWp.ret
 obtain rfl:=oi h
 exact rt (kp [(2,_)] [] hB rfl rfl (by rfl)) [(bo r1)] (Res.tmp (by rfl) (by rfl) Res.nil) rfl
def community_fitsLarge (a0:aLarge):Option (Bool) :=
 (community_within 4294967295 ([a0.fA,a0.fB,a0.fC]:List Int)).bind fun r1 =>
 some r1
theorem community_fitsLarge_ac (a0:aLarge) (r:Bool) (h:community_fitsLarge a0=some r):AC Tryz.prog 129 [(.d (e_aLarge a0))] [] (.d (.bool r)) []:=by
 refine AC.of_code2 Tryz.func129 rfl rfl (Nat.le_of_ble_eq_true (by rfl)) fun B hB hN => ?_
 delta community_fitsLarge at h
 refine sr (SQ tt) ?_
 obtain⟨r1,hr1,h⟩:=bindS h
 refine sr (SQ (fa (cl [] (community_within_ac 4294967295 ([a0.fA,a0.fB,a0.fC]:List Int) r1 hr1)) tt)) ?_
 apply AWp.ret
 obtain rfl:=oi h
 exact rt (kp [(2,_)] [] hB rfl rfl (by rfl)) [(bo r1)] (Res.tmp (by rfl) (by rfl) Res.nil) rfl
def community_compareLarge (a0:aLarge) (a1:aLarge):Option (Int) :=
 (cmp_Compare a0.fA a1.fA).bind fun r1 =>
 (cmp_Compare a0.fB a1.fB).bind fun r2 =>
 (cmp_Compare a0.fC a1.fC).bind fun r3 =>
 (cmp_Or ([r1,r2,r3]:List Int)).bind fun r4 =>
 some r4
theorem community_compareLarge_ac (a0:aLarge) (a1:aLarge) (r:Int) (h:community_compareLarge a0 a1=some r):AC Tryz.prog 130 [(.d (e_aLarge a0)),(.d (e_aLarge a1))] [] (.d (.int .i64 r)) []:=by
 refine AC.of_code2 Tryz.func130 rfl rfl (Nat.le_of_ble_eq_true (by rfl)) fun B hB hN => ?_
 delta community_compareLarge at h
 refine sr (SQ tt) ?_
 obtain⟨r1,hr1,h⟩:=bindS h
 obtain⟨r2,hr2,h⟩:=bindS h
 obtain⟨r3,hr3,h⟩:=bindS h
 obtain⟨r4,hr4,h⟩:=bindS h
 refine sdS (SQ (fa (cl [] (cmp_Compare_ac a0.fA a1.fA r1 hr1)) (fa (cl [] (cmp_Compare_ac a0.fB a1.fB r2 hr2)) (fa (cl [] (cmp_Compare_ac a0.fC a1.fC r3 hr3)) (fa (cl [] (cmp_Or_ac ([r1,r2,r3]:List Int) r4 hr4)) tt))))) ?_
 apply AWp.ret
 obtain rfl:=oi h
 exact rt (kp [(4,_)] [] hB rfl rfl (by rfl)) [(i6 r4)] (Res.tmp (by rfl) (by rfl) Res.nil) rfl
def community_ascends_2_L0 (a0:(List aLarge)) (s1:Int):Option (((Unit)⊕(Unit))⊕(Int)) :=
 (if (decide (s1<(a0.length:Int)))=true then
 (idx a0 s1).bind fun x37 =>
 jn (fun m44:Bool =>
 (if m44=true then
 some (.inl (.inl ()))
 else
 some (.inr (w64 (s1+1))))) (fun j45 =>
 (community_fitsLarge x37).bind fun r47 =>
 (if (!r47)=true then
 j45 true
 else
 (if (decide (0<s1))=true then
 (idx a0 (w64 (s1-1))).bind fun x50 =>
 (community_compareLarge x50 x37).bind fun r51 =>
 j45 (decide (0≤r51))
 else
 j45 false)))
 else
 some (.inl (.inr ())))
def community_ascends_2 (a0:(List aLarge)):Option (Bool) :=
 (loop (community_ascends_2_L0 a0) 0).bind fun x52=>match x52 with
 | (.inl _) =>
  some false
 | (.inr _) =>
  some (decide ((a0.length:Int)≤64))
theorem community_ascends_2_ac (a0:(List aLarge)) (r:Bool) (h:community_ascends_2 a0=some r):AC Tryz.prog 128 [(.d (.list 3 (a0.map e_aLarge))),(.func 129 []),(.func 130 [])] [] (.d (.bool r)) []:=by
 refine ac2 Tryz.func128 rfl rfl fun B hB hN L => ?_
 delta community_ascends_2 at h
 refine sr (SQ tt) ?_
 apply AWp.seq
 refine sr (SQ tt) ?_
 apply AWp.block
 obtain⟨x52,hx53,h⟩:=bindS h
 refine lg (community_ascends_2_L0 a0) (fun s1:Int=>([(0,(qe_aLarge_3 a0)),(1,(.func 129 [])),(2,(.func 130 [])),(9,(qe_aLarge_3 a0)),(10,(i6 (a0.length:Int))),(11,(i6 s1))]:EL)) (fun s1:Int=>([]:OL)) (fun(x:(Unit)⊕(Unit)) e E' O'=>match x with | (.inl _p)=>e = .ret∧Mat B E' O' ([(6,(bo false))]:EL) ([]:OL) | (.inr _p)=>e = .exit 0∧Mat B E' O' ([(0,(qe_aLarge_3 a0))]:EL) ([]:OL)) hx53 (mp [] _ _ hB) (fun s1 y h => ?_) (fun e E' O' hR => ?_)
 ·unfold community_ascends_2_L0 at h
  refine sr (SQ tt) ?_
  apply AWp.seq
  apply AWp.cond rfl<;>intro hg36
  ·have h:=ite_t hg36 h
   apply AWp.skip
   apply seqQ_n
   apply AWp.seq
   apply AWp.block
   obtain⟨x37,hx37,h⟩:=bindS h
   refine sr (SQ (fa hx37 tt)) ?_
   apply AWp.seq
   refine AWp.cut h (fun m44:Bool=>([(0,(qe_aLarge_3 a0)),(1,(.func 129 [])),(2,(.func 130 [])),(9,(qe_aLarge_3 a0)),(10,(i6 (a0.length:Int))),(11,(i6 s1)),(34,(bo m44))]:EL)) (fun m44:Bool=>([]:OL)) (fun m44 h E' O' hmat => ?_) (fun j45 hjj45 h => ?_)
   ·apply seqQ_n
    refine AWp.ghost hmat ?_
    apply AWp.cond rfl<;>intro hg46
    ·have h:=ite_t hg46 h
     refine sr (SQ tt) ?_
     apply AWp.ret
     apply blkQ_r
     apply seqQ_r
     obtain rfl:=oi h
     exact⟨(fun hc=>by cases hc),rfl,(mp [] _ _ hB)⟩
    ·have h:=ite_f hg46 h
     apply AWp.skip
     apply blkQ_n
     apply seqQ_n
     refine rg (SQ tt) ?_
     obtain rfl:=oi h
     exact⟨rfl,(mp [] _ _ hB)⟩
   ·obtain⟨r47,hr47,h⟩:=bindS h
    rcases bft (!r47) with hg48 | hg48
    ·have h:=ite_t hg48 h
     refine drS (SQ (fa (cl [] (community_fitsLarge_ac x37 r47 hr47)) (fa hg48 tt))) ?_
     exact hjj45 _ h _ _ (mp [] _ _ hB)
    ·have h:=ite_f hg48 h
     rcases bft (decide (0<s1)) with hg49 | hg49
     ·have h:=ite_t hg49 h
      obtain⟨x50,hx50,h⟩:=bindS h
      obtain⟨r51,hr51,h⟩:=bindS h
      refine drS (SQ (fa (cl [] (community_fitsLarge_ac x37 r47 hr47)) (fa hg48 (fa hg49 (fa hx50 (fa (cl [] (community_compareLarge_ac x50 x37 r51 hr51)) tt)))))) ?_
      exact hjj45 _ h _ _ (mp [] _ _ hB)
     ·have h:=ite_f hg49 h
      refine drS (SQ (fa (cl [] (community_fitsLarge_ac x37 r47 hr47)) (fa hg48 (fa hg49 tt)))) ?_
      exact hjj45 _ h _ _ (mp [] _ _ hB)
  ·have h:=ite_f hg36 h
   apply AWp.exit
   apply seqQ_e
   obtain rfl:=oi h
   exact⟨(fun hc=>by cases hc),rfl,(mp [] _ _ hB)⟩
 ·rcases x52 with _ | _
  ·obtain⟨rfl,hmat⟩:=hR
   apply blkQ_r
   apply seqQ_r
   obtain rfl:=oi h
   exact rt (Mat.trans hmat (mp [] [(6,(bo false))] [] hB)) [(bo false)] (Res.tmp (by rfl) (by rfl) Res.nil) rfl
  ·obtain⟨rfl,hmat⟩:=hR
   apply blkQ_hit
   apply seqQ_n
   refine AWp.ghost hmat ?_
   refine sr (SQ tt) ?_
   apply AWp.ret
   obtain rfl:=oi h
   exact rt (kp [(6,_)] [] hB rfl rfl (by rfl)) [(bo (decide ((a0.length:Int)≤64)))] (Res.tmp (by rfl) (by rfl) Res.nil) rfl
def community_ValidLarge (a0:(List aLarge)):Option (Bool) :=
 (community_ascends_2 a0).bind fun r1 =>
 some r1
theorem community_ValidLarge_ac (a0:(List aLarge)) (r:Bool) (h:community_ValidLarge a0=some r):AC Tryz.prog 119 [(.d (.list 3 (a0.map e_aLarge)))] [] (.d (.bool r)) []:=by
 refine AC.of_code2 Tryz.func119 rfl rfl (Nat.le_of_ble_eq_true (by rfl)) fun B hB hN => ?_
 delta community_ValidLarge at h
 refine sr (SQ tt) ?_
 obtain⟨r1,hr1,h⟩:=bindS h
 refine sr (SQ (fa (cl [] (community_ascends_2_ac a0 r1 hr1)) tt)) ?_
 apply AWp.ret
 obtain rfl:=oi h
 exact rt (kp [(2,_)] [] hB rfl rfl (by rfl)) [(bo r1)] (Res.tmp (by rfl) (by rfl) Res.nil) rfl
def attribute_unknown (a0:Int):Option (Bool) :=
 some ((((ilk gv0 a0)==0)&&(a0 != 14))&&(a0 != 15))
theorem attribute_unknown_ac (a0:Int) (r:Bool) (h:attribute_unknown a0=some r):AC Tryz.prog 131 [(.d (.int .i64 a0))] [(500,(.know (globD 0 (.imap gv0))))] (.d (.bool r)) [(500,some (.know (globD 0 (.imap gv0))))]:=by
 refine AC.of_code2 Tryz.func131 rfl rfl (Nat.le_of_ble_eq_true (by rfl)) fun B hB hN => ?_
 delta attribute_unknown at h
 refine sr (SQ tt) ?_
 apply sr (cg (OpJ.loadGD (nm:=500) (.imap gv0) tyS164 (by rfl) (by rfl) (by simp) (ltN hN rfl)) rfl (c (mv hN (q 0)) rfl (cg (OpJ.ilook tyU164 underlying3 keyEq3 tyZD3 (ltN hN rfl) (q 3) (q 4)) rfl (c (eqlI (ltN hN rfl) (q 5) (ii 0)) rfl (c (mv hN (q 6)) rfl (c (oq hN 7 (mv hN (q 0)) (OptL.keep (by rfl) OptL.nil) (GuardV.plain _)) rfl (c (oq hN 7 (neqI (ltN hN rfl) (q 8) (ii 14)) (OptL.opt OptL.nil) (GuardV.plain _)) rfl (c (pickAnd rfl (ltN hN rfl) (q 7) (q 9)) rfl (c (mv hN (q 10)) rfl (c (oq hN 11 (mv hN (q 0)) (OptL.keep (by rfl) OptL.nil) (GuardV.plain _)) rfl (c (oq hN 11 (neqI (ltN hN rfl) (q 12) (ii 15)) (OptL.opt OptL.nil) (GuardV.plain _)) rfl (c (pickAnd rfl (ltN hN rfl) (q 11) (q 13)) rfl (c (assign (ltN hN rfl) (q 14)) rfl cn)))))))))))))
 apply AWp.ret
 obtain rfl:=oi h
 exact rt (kp [(2,_)] [(500,some _)] hB rfl rfl (by rfl)) [(bo ((((ilk gv0 a0)==0)&&(a0 != 14))&&(a0 != 15)))] (Res.tmp (by rfl) (by rfl) Res.nil) rfl
def attribute_others_L0 (a0:(List aUnknown)) (s1:Int):Option (((Unit)⊕(Unit))⊕(Int)) :=
 (if (decide (s1<(a0.length:Int)))=true then
 (idx a0 s1).bind fun x41 =>
 jn (fun m49:Bool =>
 (if m49=true then
 some (.inl (.inl ()))
 else
 some (.inr (w64 (s1+1))))) (fun j50 =>
 (attribute_unknown x41.fType).bind fun r52 =>
 (if (!r52)=true then
 j50 true
 else
 (attribute_within x41.fType 1 255).bind fun r54 =>
 (if (((!r54) || (x41.fFlags != 224)) || (decide (255<(x41.fData.length:Int))))=true then
 j50 true
 else
 (if (decide (0<s1))=true then
 (idx a0 (w64 (s1-1))).bind fun x57 =>
 j50 (decide (x41.fType≤x57.fType))
 else
 j50 false))))
 else
 some (.inl (.inr ())))
def attribute_others (a0:(List aUnknown)):Option (Bool) :=
 (loop (attribute_others_L0 a0) 0).bind fun x58=>match x58 with
 | (.inl _) =>
  some false
 | (.inr _) =>
  some (decide ((a0.length:Int)≤8))
theorem attribute_others_ac (a0:(List aUnknown)) (r:Bool) (h:attribute_others a0=some r):AC Tryz.prog 120 [(.d (.list 3 (a0.map e_aUnknown)))] [(500,(.know (globD 0 (.imap gv0))))] (.d (.bool r)) [(500,some (.know (globD 0 (.imap gv0))))]:=by
 refine ac2 Tryz.func120 rfl rfl fun B hB hN L => ?_
 delta attribute_others at h
 refine sr (SQ tt) ?_
 apply AWp.seq
 refine sr (SQ tt) ?_
 apply AWp.block
 obtain⟨x58,hx59,h⟩:=bindS h
 refine lg (attribute_others_L0 a0) (fun s1:Int=>([(0,(qe_aUnknown_3 a0)),(5,(qe_aUnknown_3 a0)),(6,(i6 (a0.length:Int))),(7,(i6 s1))]:EL)) (fun s1:Int=>([(500,some (.know (globD 0 (.imap gv0))))]:OL)) (fun(x:(Unit)⊕(Unit)) e E' O'=>match x with | (.inl _p)=>e = .ret∧Mat B E' O' ([(2,(bo false))]:EL) ([(500,some (.know (globD 0 (.imap gv0))))]:OL) | (.inr _p)=>e = .exit 0∧Mat B E' O' ([(0,(qe_aUnknown_3 a0))]:EL) ([(500,some (.know (globD 0 (.imap gv0))))]:OL)) hx59 (mp [] _ _ hB) (fun s1 y h => ?_) (fun e E' O' hR => ?_)
 ·unfold attribute_others_L0 at h
  refine sr (SQ tt) ?_
  apply AWp.seq
  apply AWp.cond rfl<;>intro hg40
  ·have h:=ite_t hg40 h
   apply AWp.skip
   apply seqQ_n
   apply AWp.seq
   apply AWp.block
   obtain⟨x41,hx41,h⟩:=bindS h
   refine sr (SQ (fa hx41 tt)) ?_
   apply AWp.seq
   refine AWp.cut h (fun m49:Bool=>([(0,(qe_aUnknown_3 a0)),(5,(qe_aUnknown_3 a0)),(6,(i6 (a0.length:Int))),(7,(i6 s1)),(47,(bo m49))]:EL)) (fun m49:Bool=>([(500,some (.know (globD 0 (.imap gv0))))]:OL)) (fun m49 h E' O' hmat => ?_) (fun j50 hjj50 h => ?_)
   ·apply seqQ_n
    refine AWp.ghost hmat ?_
    apply AWp.cond rfl<;>intro hg51
    ·have h:=ite_t hg51 h
     refine sr (SQ tt) ?_
     apply AWp.ret
     apply blkQ_r
     apply seqQ_r
     obtain rfl:=oi h
     exact⟨(fun hc=>by cases hc),rfl,(mp [] _ _ hB)⟩
    ·have h:=ite_f hg51 h
     apply AWp.skip
     apply blkQ_n
     apply seqQ_n
     refine rg (SQ tt) ?_
     obtain rfl:=oi h
     exact⟨rfl,(mp [] _ _ hB)⟩
   ·obtain⟨r52,hr52,h⟩:=bindS h
    rcases bft (!r52) with hg53 | hg53
    ·have h:=ite_t hg53 h
     refine drS (SQ (fa (cl [(500,500)] (attribute_unknown_ac x41.fType r52 hr52)) (fa hg53 tt))) ?_
     exact hjj50 _ h _ _ (mp [] _ _ hB)
    ·have h:=ite_f hg53 h
     obtain⟨r54,hr54,h⟩:=bindS h
     rcases bft (((!r54) || (x41.fFlags != 224)) || (decide (255<(x41.fData.length:Int)))) with hg55 | hg55
     ·have h:=ite_t hg55 h
      refine drS (SQ (fa (cl [(500,500)] (attribute_unknown_ac x41.fType r52 hr52)) (fa hg53 (fa (cl [] (attribute_within_ac x41.fType 1 255 r54 hr54)) (fa hg55 tt))))) ?_
      exact hjj50 _ h _ _ (mp [] _ _ hB)
     ·have h:=ite_f hg55 h
      rcases bft (decide (0<s1)) with hg56 | hg56
      ·have h:=ite_t hg56 h
       obtain⟨_,hx57,h⟩:=bindS h
       refine drS (SQ (fa (cl [(500,500)] (attribute_unknown_ac x41.fType r52 hr52)) (fa hg53 (fa (cl [] (attribute_within_ac x41.fType 1 255 r54 hr54)) (fa hg55 (fa hg56 (fa hx57 tt))))))) ?_
       exact hjj50 _ h _ _ (mp [] _ _ hB)
      ·have h:=ite_f hg56 h
       refine drS (SQ (fa (cl [(500,500)] (attribute_unknown_ac x41.fType r52 hr52)) (fa hg53 (fa (cl [] (attribute_within_ac x41.fType 1 255 r54 hr54)) (fa hg55 (fa hg56 tt)))))) ?_
       exact hjj50 _ h _ _ (mp [] _ _ hB)
  ·have h:=ite_f hg40 h
   apply AWp.exit
   apply seqQ_e
   obtain rfl:=oi h
   exact⟨(fun hc=>by cases hc),rfl,(mp [] _ _ hB)⟩
 ·rcases x58 with _ | _
  ·obtain⟨rfl,hmat⟩:=hR
   apply blkQ_r
   apply seqQ_r
   obtain rfl:=oi h
   exact rt (Mat.trans hmat (mp [] [(2,(bo false))] [(500,some (.know (globD 0 (.imap gv0))))] hB)) [(bo false)] (Res.tmp (by rfl) (by rfl) Res.nil) rfl
  ·obtain⟨rfl,hmat⟩:=hR
   apply blkQ_hit
   apply seqQ_n
   refine AWp.ghost hmat ?_
   refine sr (SQ tt) ?_
   apply AWp.ret
   obtain rfl:=oi h
   exact rt (kp [(2,_)] [(500,some _)] hB rfl rfl (by rfl)) [(bo (decide ((a0.length:Int)≤8)))] (Res.tmp (by rfl) (by rfl) Res.nil) rfl
def attribute_Valid (a0:aAttrs):Option (Bool) :=
 jn (fun m25:Bool =>
 some m25) (fun j26 =>
 (attribute_within a0.fOrigin (-1) 2).bind fun r27 =>
 (if r27=true then
 (aspath_Valid a0.fPath).bind fun r29 =>
 (if r29=true then
 (addr_Valid a0.fNext).bind fun r31 =>
 (if r31=true then
 (attribute_within a0.fMED (-1) 4294967295).bind fun r33 =>
 (if r33=true then
 (attribute_within a0.fPref (-1) 4294967295).bind fun r35 =>
 (if r35=true then
 (if (a0.fOTC==(-1))=true then
 (community_Valid a0.fCommunities).bind fun r38 =>
 (if r38=true then
 (community_ValidLarge a0.fLarge).bind fun r40 =>
 (if r40=true then
 (attribute_others a0.fOther).bind fun r42 =>
 j26 r42
 else
 j26 false)
 else
 j26 false)
 else
 (aspath_Number a0.fOTC).bind fun r43 =>
 (if r43=true then
 (community_Valid a0.fCommunities).bind fun r45 =>
 (if r45=true then
 (community_ValidLarge a0.fLarge).bind fun r47 =>
 (if r47=true then
 (attribute_others a0.fOther).bind fun r49 =>
 j26 r49
 else
 j26 false)
 else
 j26 false)
 else
 j26 false))
 else
 j26 false)
 else
 j26 false)
 else
 j26 false)
 else
 j26 false)
 else
 j26 false))
theorem attribute_Valid_ac (a0:aAttrs) (r:Bool) (h:attribute_Valid a0=some r):AC Tryz.prog 111 [(.d (e_aAttrs a0))] [(500,(.know (globD 0 (.imap gv0))))] (.d (.bool r)) [(500,some (.know (globD 0 (.imap gv0))))]:=by
 refine ac2 Tryz.func111 rfl rfl fun B hB hN L => ?_
 delta attribute_Valid at h
 refine sr (SQ tt) ?_
 apply AWp.seq
 refine AWp.cut h (fun m25:Bool=>([(2,(bo m25))]:EL)) (fun m25:Bool=>([(500,some (.know (globD 0 (.imap gv0))))]:OL)) (fun m25 h E' O' hmat => ?_) (fun j26 hjj26 h => ?_)
 ·apply seqQ_n
  refine AWp.ghost hmat ?_
  apply AWp.ret
  obtain rfl:=oi h
  exact rt (kp [(2,_)] [(500,some _)] hB rfl rfl (by rfl)) [(bo m25)] (Res.tmp (by rfl) (by rfl) Res.nil) rfl
 ·obtain⟨r27,hr27,h⟩:=bindS h
  rcases bft r27 with hg28 | hg28
  ·have h:=ite_t hg28 h
   obtain⟨r29,hr29,h⟩:=bindS h
   rcases bft r29 with hg30 | hg30
   ·have h:=ite_t hg30 h
    obtain⟨r31,hr31,h⟩:=bindS h
    rcases bft r31 with hg32 | hg32
    ·have h:=ite_t hg32 h
     obtain⟨r33,hr33,h⟩:=bindS h
     rcases bft r33 with hg34 | hg34
     ·have h:=ite_t hg34 h
      obtain⟨r35,hr35,h⟩:=bindS h
      rcases bft r35 with hg36 | hg36
      ·have h:=ite_t hg36 h
       rcases bft (a0.fOTC==(-1)) with hg37 | hg37
       ·have h:=ite_t hg37 h
        obtain⟨r38,hr38,h⟩:=bindS h
        rcases bft r38 with hg39 | hg39
        ·have h:=ite_t hg39 h
         obtain⟨r40,hr40,h⟩:=bindS h
         rcases bft r40 with hg41 | hg41
         ·have h:=ite_t hg41 h
          obtain⟨r42,hr42,h⟩:=bindS h
          refine rg (SQ (fa (cl [] (attribute_within_ac a0.fOrigin (-1) 2 r27 hr27)) (fa hg28 (fa (cl [] (aspath_Valid_ac a0.fPath r29 hr29)) (fa hg30 (fa (cl [] (addr_Valid_ac a0.fNext r31 hr31)) (fa hg32 (fa (cl [] (attribute_within_ac a0.fMED (-1) 4294967295 r33 hr33)) (fa hg34 (fa (cl [] (attribute_within_ac a0.fPref (-1) 4294967295 r35 hr35)) (fa hg36 (fa hg37 (fa (cl [] (community_Valid_ac a0.fCommunities r38 hr38)) (fa hg39 (fa (cl [] (community_ValidLarge_ac a0.fLarge r40 hr40)) (fa hg41 (fa (cl [(500,500)] (attribute_others_ac a0.fOther r42 hr42)) tt))))))))))))))))) ?_
          exact hjj26 _ h _ _ (mp [] _ _ hB)
         ·have h:=ite_f hg41 h
          refine rg (SQ (fa (cl [] (attribute_within_ac a0.fOrigin (-1) 2 r27 hr27)) (fa hg28 (fa (cl [] (aspath_Valid_ac a0.fPath r29 hr29)) (fa hg30 (fa (cl [] (addr_Valid_ac a0.fNext r31 hr31)) (fa hg32 (fa (cl [] (attribute_within_ac a0.fMED (-1) 4294967295 r33 hr33)) (fa hg34 (fa (cl [] (attribute_within_ac a0.fPref (-1) 4294967295 r35 hr35)) (fa hg36 (fa hg37 (fa (cl [] (community_Valid_ac a0.fCommunities r38 hr38)) (fa hg39 (fa (cl [] (community_ValidLarge_ac a0.fLarge r40 hr40)) (fa hg41 tt)))))))))))))))) ?_
          exact hjj26 _ h _ _ (mp [] _ _ hB)
        ·have h:=ite_f hg39 h
         refine rg (SQ (fa (cl [] (attribute_within_ac a0.fOrigin (-1) 2 r27 hr27)) (fa hg28 (fa (cl [] (aspath_Valid_ac a0.fPath r29 hr29)) (fa hg30 (fa (cl [] (addr_Valid_ac a0.fNext r31 hr31)) (fa hg32 (fa (cl [] (attribute_within_ac a0.fMED (-1) 4294967295 r33 hr33)) (fa hg34 (fa (cl [] (attribute_within_ac a0.fPref (-1) 4294967295 r35 hr35)) (fa hg36 (fa hg37 (fa (cl [] (community_Valid_ac a0.fCommunities r38 hr38)) (fa hg39 tt)))))))))))))) ?_
         exact hjj26 _ h _ _ (mp [] _ _ hB)
       ·have h:=ite_f hg37 h
        obtain⟨r43,hr43,h⟩:=bindS h
        rcases bft r43 with hg44 | hg44
        ·have h:=ite_t hg44 h
         obtain⟨r45,hr45,h⟩:=bindS h
         rcases bft r45 with hg46 | hg46
         ·have h:=ite_t hg46 h
          obtain⟨r47,hr47,h⟩:=bindS h
          rcases bft r47 with hg48 | hg48
          ·have h:=ite_t hg48 h
           obtain⟨r49,hr49,h⟩:=bindS h
           refine rg (SQ (fa (cl [] (attribute_within_ac a0.fOrigin (-1) 2 r27 hr27)) (fa hg28 (fa (cl [] (aspath_Valid_ac a0.fPath r29 hr29)) (fa hg30 (fa (cl [] (addr_Valid_ac a0.fNext r31 hr31)) (fa hg32 (fa (cl [] (attribute_within_ac a0.fMED (-1) 4294967295 r33 hr33)) (fa hg34 (fa (cl [] (attribute_within_ac a0.fPref (-1) 4294967295 r35 hr35)) (fa hg36 (fa hg37 (fa (cl [] (aspath_Number_ac a0.fOTC r43 hr43)) (fa hg44 (fa (cl [] (community_Valid_ac a0.fCommunities r45 hr45)) (fa hg46 (fa (cl [] (community_ValidLarge_ac a0.fLarge r47 hr47)) (fa hg48 (fa (cl [(500,500)] (attribute_others_ac a0.fOther r49 hr49)) tt))))))))))))))))))) ?_
           exact hjj26 _ h _ _ (mp [] _ _ hB)
          ·have h:=ite_f hg48 h
           refine rg (SQ (fa (cl [] (attribute_within_ac a0.fOrigin (-1) 2 r27 hr27)) (fa hg28 (fa (cl [] (aspath_Valid_ac a0.fPath r29 hr29)) (fa hg30 (fa (cl [] (addr_Valid_ac a0.fNext r31 hr31)) (fa hg32 (fa (cl [] (attribute_within_ac a0.fMED (-1) 4294967295 r33 hr33)) (fa hg34 (fa (cl [] (attribute_within_ac a0.fPref (-1) 4294967295 r35 hr35)) (fa hg36 (fa hg37 (fa (cl [] (aspath_Number_ac a0.fOTC r43 hr43)) (fa hg44 (fa (cl [] (community_Valid_ac a0.fCommunities r45 hr45)) (fa hg46 (fa (cl [] (community_ValidLarge_ac a0.fLarge r47 hr47)) (fa hg48 tt)))))))))))))))))) ?_
           exact hjj26 _ h _ _ (mp [] _ _ hB)
         ·have h:=ite_f hg46 h
          refine rg (SQ (fa (cl [] (attribute_within_ac a0.fOrigin (-1) 2 r27 hr27)) (fa hg28 (fa (cl [] (aspath_Valid_ac a0.fPath r29 hr29)) (fa hg30 (fa (cl [] (addr_Valid_ac a0.fNext r31 hr31)) (fa hg32 (fa (cl [] (attribute_within_ac a0.fMED (-1) 4294967295 r33 hr33)) (fa hg34 (fa (cl [] (attribute_within_ac a0.fPref (-1) 4294967295 r35 hr35)) (fa hg36 (fa hg37 (fa (cl [] (aspath_Number_ac a0.fOTC r43 hr43)) (fa hg44 (fa (cl [] (community_Valid_ac a0.fCommunities r45 hr45)) (fa hg46 tt)))))))))))))))) ?_
          exact hjj26 _ h _ _ (mp [] _ _ hB)
        ·have h:=ite_f hg44 h
         refine rg (SQ (fa (cl [] (attribute_within_ac a0.fOrigin (-1) 2 r27 hr27)) (fa hg28 (fa (cl [] (aspath_Valid_ac a0.fPath r29 hr29)) (fa hg30 (fa (cl [] (addr_Valid_ac a0.fNext r31 hr31)) (fa hg32 (fa (cl [] (attribute_within_ac a0.fMED (-1) 4294967295 r33 hr33)) (fa hg34 (fa (cl [] (attribute_within_ac a0.fPref (-1) 4294967295 r35 hr35)) (fa hg36 (fa hg37 (fa (cl [] (aspath_Number_ac a0.fOTC r43 hr43)) (fa hg44 tt)))))))))))))) ?_
         exact hjj26 _ h _ _ (mp [] _ _ hB)
      ·have h:=ite_f hg36 h
       refine rg (SQ (fa (cl [] (attribute_within_ac a0.fOrigin (-1) 2 r27 hr27)) (fa hg28 (fa (cl [] (aspath_Valid_ac a0.fPath r29 hr29)) (fa hg30 (fa (cl [] (addr_Valid_ac a0.fNext r31 hr31)) (fa hg32 (fa (cl [] (attribute_within_ac a0.fMED (-1) 4294967295 r33 hr33)) (fa hg34 (fa (cl [] (attribute_within_ac a0.fPref (-1) 4294967295 r35 hr35)) (fa hg36 tt))))))))))) ?_
       exact hjj26 _ h _ _ (mp [] _ _ hB)
     ·have h:=ite_f hg34 h
      refine rg (SQ (fa (cl [] (attribute_within_ac a0.fOrigin (-1) 2 r27 hr27)) (fa hg28 (fa (cl [] (aspath_Valid_ac a0.fPath r29 hr29)) (fa hg30 (fa (cl [] (addr_Valid_ac a0.fNext r31 hr31)) (fa hg32 (fa (cl [] (attribute_within_ac a0.fMED (-1) 4294967295 r33 hr33)) (fa hg34 tt))))))))) ?_
      exact hjj26 _ h _ _ (mp [] _ _ hB)
    ·have h:=ite_f hg32 h
     refine rg (SQ (fa (cl [] (attribute_within_ac a0.fOrigin (-1) 2 r27 hr27)) (fa hg28 (fa (cl [] (aspath_Valid_ac a0.fPath r29 hr29)) (fa hg30 (fa (cl [] (addr_Valid_ac a0.fNext r31 hr31)) (fa hg32 tt))))))) ?_
     exact hjj26 _ h _ _ (mp [] _ _ hB)
   ·have h:=ite_f hg30 h
    refine rg (SQ (fa (cl [] (attribute_within_ac a0.fOrigin (-1) 2 r27 hr27)) (fa hg28 (fa (cl [] (aspath_Valid_ac a0.fPath r29 hr29)) (fa hg30 tt))))) ?_
    exact hjj26 _ h _ _ (mp [] _ _ hB)
  ·have h:=ite_f hg28 h
   refine rg (SQ (fa (cl [] (attribute_within_ac a0.fOrigin (-1) 2 r27 hr27)) (fa hg28 tt))) ?_
   exact hjj26 _ h _ _ (mp [] _ _ hB)
def update_fits_1 (a0:aPrefix) (a1:aUpdate):Option (Bool) :=
 some (a0.fAddr.fV6 != a1.fAttrs.fNext.fV6)
theorem update_fits_1_ac (a0:aPrefix) (a1:aUpdate) (r:Bool) (h:update_fits_1 a0 a1=some r):AC Tryz.prog 110 [(.d (e_aPrefix a0)),(pt 0)] [(0,(.box 61 (.d (e_aUpdate a1))))] (.d (.bool r)) [(0,bd 61 (e_aUpdate a1))]:=by
 refine AC.of_code2 Tryz.func110 rfl rfl (Nat.le_of_ble_eq_true (by rfl)) fun B hB hN => ?_
 delta update_fits_1 at h
 refine sr (SQ tt) ?_
 refine sr (SQ tt) ?_
 apply AWp.ret
 obtain rfl:=oi h
 exact rt (kp [(3,_)] [(0,some _)] hB rfl rfl (by rfl)) [(bo (a0.fAddr.fV6 != a1.fAttrs.fNext.fV6))] (Res.tmp (by rfl) (by rfl) Res.nil) rfl
def slices_IndexFunc_2_L0 (a0:(List aPrefix)) (a1:aUpdate) (s1:Int):Option (((Int)⊕(Unit))⊕(Int)) :=
 (if (decide (s1<(a0.length:Int)))=true then
 (idx a0 s1).bind fun x13 =>
 (update_fits_1 x13 a1).bind fun r14 =>
 (if r14=true then
 some (.inl (.inl s1))
 else
 some (.inr (w64 (s1+1))))
 else
 some (.inl (.inr ())))
def slices_IndexFunc_2 (a0:(List aPrefix)) (a1:aUpdate):Option (Int) :=
 (loop (slices_IndexFunc_2_L0 a0 a1) 0).bind fun x16=>match x16 with
 | (.inl p10) =>
  some p10
 | (.inr _) =>
  some (-1)
theorem slices_IndexFunc_2_ac (a0:(List aPrefix)) (a1:aUpdate) (r:Int) (h:slices_IndexFunc_2 a0 a1=some r):AC Tryz.prog 108 [(.d (.list 4 (a0.map e_aPrefix))),(.func 110 [(pt 0)])] [(0,(.box 61 (.d (e_aUpdate a1))))] (.d (.int .i64 r)) [(0,bd 61 (e_aUpdate a1))]:=by
 refine AC.of_code2 Tryz.func108 rfl rfl (Nat.le_of_ble_eq_true (by rfl)) fun B hB hN => ?_
 delta slices_IndexFunc_2 at h
 refine sr (SQ tt) ?_
 apply AWp.seq
 refine sr (SQ tt) ?_
 apply AWp.block
 obtain⟨x16,hx17,h⟩:=bindS h
 refine lg (slices_IndexFunc_2_L0 a0 a1) (fun s1:Int=>([(0,(qe_aPrefix_4 a0)),(1,(.func 110 [(pt 0)])),(7,(i6 (a0.length:Int))),(8,(i6 s1))]:EL)) (fun s1:Int=>([(0,bd 61 (e_aUpdate a1))]:OL)) (fun(x:(Int)⊕(Unit)) e E' O'=>match x with | (.inl p10)=>e = .ret∧Mat B E' O' ([(4,(i6 p10))]:EL) ([(0,bd 61 (e_aUpdate a1))]:OL) | (.inr _p)=>e = .exit 0∧Mat B E' O' ([]:EL) ([(0,bd 61 (e_aUpdate a1))]:OL)) hx17 (mp [] _ _ hB) (fun s1 y h => ?_) (fun e E' O' hR => ?_)
 ·unfold slices_IndexFunc_2_L0 at h
  refine sr (SQ tt) ?_
  apply AWp.seq
  apply AWp.cond rfl<;>intro hg12
  ·have h:=ite_t hg12 h
   apply AWp.skip
   apply seqQ_n
   apply AWp.seq
   apply AWp.block
   refine sr (SQ tt) ?_
   apply AWp.seq
   obtain⟨x13,hx13,h⟩:=bindS h
   obtain⟨r14,hr14,h⟩:=bindS h
   refine rg (SQ (fa hx13 (fa (cl [(0,0)] (update_fits_1_ac x13 a1 r14 hr14)) tt))) ?_
   apply seqQ_n
   refine AWp.ghost (mp [] [(0,(qe_aPrefix_4 a0)),(1,(.func 110 [(pt 0)])),(5,(i6 s1)),(7,(i6 (a0.length:Int))),(8,(i6 s1)),(16,(bo r14))] [(0,bd 61 (e_aUpdate a1))] hB) ?_
   apply AWp.cond rfl<;>intro hg15
   ·have h:=ite_t hg15 h
    refine sr (SQ tt) ?_
    apply AWp.ret
    apply blkQ_r
    apply seqQ_r
    obtain rfl:=oi h
    exact⟨(fun hc=>by cases hc),rfl,(mp [] _ _ hB)⟩
   ·have h:=ite_f hg15 h
    apply AWp.skip
    apply blkQ_n
    apply seqQ_n
    refine rg (SQ tt) ?_
    obtain rfl:=oi h
    exact⟨rfl,(mp [] _ _ hB)⟩
  ·have h:=ite_f hg12 h
   apply AWp.exit
   apply seqQ_e
   obtain rfl:=oi h
   exact⟨(fun hc=>by cases hc),rfl,(mp [] _ _ hB)⟩
 ·rcases x16 with p10 | _
  ·obtain⟨rfl,hmat⟩:=hR
   apply blkQ_r
   apply seqQ_r
   obtain rfl:=oi h
   exact rt (Mat.trans hmat (mp [] [(4,(i6 p10))] [(0,bd 61 (e_aUpdate a1))] hB)) [(i6 p10)] (Res.tmp (by rfl) (by rfl) Res.nil) rfl
  ·obtain⟨rfl,hmat⟩:=hR
   apply blkQ_hit
   apply seqQ_n
   refine AWp.ghost hmat ?_
   refine sr (SQ tt) ?_
   apply AWp.ret
   obtain rfl:=oi h
   exact rt (kp [(4,_)] [(0,some _)] hB rfl rfl (by rfl)) [(i6 (-1))] (Res.tmp (by rfl) (by rfl) Res.nil) rfl
def slices_ContainsFunc_2 (a0:(List aPrefix)) (a1:aUpdate):Option (Bool) :=
 (slices_IndexFunc_2 a0 a1).bind fun r1 =>
 some (decide (0≤r1))
theorem slices_ContainsFunc_2_ac (a0:(List aPrefix)) (a1:aUpdate) (r:Bool) (h:slices_ContainsFunc_2 a0 a1=some r):AC Tryz.prog 90 [(.d (.list 4 (a0.map e_aPrefix))),(.func 110 [(pt 0)])] [(0,(.box 61 (.d (e_aUpdate a1))))] (.d (.bool r)) [(0,bd 61 (e_aUpdate a1))]:=by
 refine AC.of_code2 Tryz.func90 rfl rfl (Nat.le_of_ble_eq_true (by rfl)) fun B hB hN => ?_
 delta slices_ContainsFunc_2 at h
 refine sr (SQ tt) ?_
 apply AWp.seq
 obtain⟨r1,hr1,h⟩:=bindS h
 refine rg (SQ (fa (cl [(0,0)] (slices_IndexFunc_2_ac a0 a1 r1 hr1)) tt)) ?_
 apply seqQ_n
 refine AWp.ghost (mp [] [(4,(bo (decide (0≤r1))))] [(0,bd 61 (e_aUpdate a1))] hB) ?_
 apply AWp.ret
 obtain rfl:=oi h
 exact rt (kp [(4,_)] [(0,some _)] hB rfl rfl (by rfl)) [(bo (decide (0≤r1)))] (Res.tmp (by rfl) (by rfl) Res.nil) rfl
def update_fits (a0:aUpdate):Option (Bool) :=
 (if ((a0.fAnnounce.length:Int)==0)=true then
 (update_empty a0.fAttrs).bind fun r2 =>
 some r2
 else
 jn (fun m7:Bool =>
 some m7) (fun j8 =>
 (attribute_Valid a0.fAttrs).bind fun r9 =>
 (if ((r9&&(a0.fAttrs.fOrigin != (-1)))&&(!((a0.fAttrs.fNext.fV6==false)&&((a0.fAttrs.fNext.fHi==0)&&((a0.fAttrs.fNext.fLo==0)&&true)))))=true then
 (slices_ContainsFunc_2 a0.fAnnounce a0).bind fun r11 =>
 j8 (!r11)
 else
 j8 false)))
theorem update_fits_ac (a0:aUpdate) (r:Bool) (h:update_fits a0=some r):AC Tryz.prog 91 [(.d (e_aUpdate a0))] [(500,(.know (globD 0 (.imap gv0))))] (.d (.bool r)) [(500,some (.know (globD 0 (.imap gv0))))]:=by
 refine ac2 Tryz.func91 rfl rfl fun B hB hN L => ?_
 delta update_fits at h
 refine sr (SQ tt) ?_
 apply AWp.seq
 refine sr (SQ tt) ?_
 apply AWp.cond rfl<;>intro hg1
 ·have h:=ite_t hg1 h
  obtain⟨r2,hr2,h⟩:=bindS h
  refine sr (SQ (fa (cl [] (update_empty_ac a0.fAttrs r2 hr2)) tt)) ?_
  apply AWp.ret
  apply seqQ_r
  obtain rfl:=oi h
  exact rt (kp [(2,_)] [(500,some _)] hB rfl rfl (by rfl)) [(bo r2)] (Res.tmp (by rfl) (by rfl) Res.nil) rfl
 ·have h:=ite_f hg1 h
  apply AWp.skip
  apply seqQ_n
  apply sr (cg (OpJ.makeF (OpdL.cons (q 1) OpdL.nil) rfl rfl (L rfl)) rfl (c (assign (L rfl) (q 11)) rfl cn))
  apply AWp.seq
  refine AWp.cut h (fun m7:Bool=>([(2,(bo m7))]:EL)) (fun m7:Bool=>([(500,some (.know (globD 0 (.imap gv0))))]:OL)) (fun m7 h E' O' hmat => ?_) (fun j8 hjj8 h => ?_)
  ·apply seqQ_n
   refine AWp.ghost hmat ?_
   apply AWp.ret
   obtain rfl:=oi h
   exact rt (kp [(2,_)] [(500,some _)] hB rfl rfl (by rfl)) [(bo m7)] (Res.tmp (by rfl) (by rfl) Res.nil) rfl
  ·obtain⟨r9,hr9,h⟩:=bindS h
   rcases bft ((r9&&(a0.fAttrs.fOrigin != (-1)))&&(!((a0.fAttrs.fNext.fV6==false)&&((a0.fAttrs.fNext.fHi==0)&&((a0.fAttrs.fNext.fLo==0)&&true))))) with hg10 | hg10
   ·have h:=ite_t hg10 h
    obtain⟨r11,hr11,h⟩:=bindS h
    refine AWp.region (oc (ov (.ptr 1001 1 [1]) (fp hN underlying61 1 tyS35 (.box 61 (.d (e_aUpdate a0))) (ot 1 (pt 1001))))
     (oc (lb hN 61 (.d (e_aUpdate a0)) (.d (e_aAttrs a0.fAttrs)) tyS35 (ad (e_aAttrs a0.fAttrs)) (ot 12 (.ptr 1001 1 [1])))
     (oc (OpJ.callFn hB fnOk111 (attribute_Valid_ac a0.fAttrs r9 hr9) [(500,500)] (by kernel_rfl) (L rfl) (by kernel_rfl) (OpdL.cons (ot 13 (.d (e_aAttrs a0.fAttrs))) OpdL.nil))
     (oc (mv hN (ot 14 (bo r9)))
     (oc (op hN 15 (.ptr 1001 1 [1]) (ov (.ptr 1001 1 [1]) (fp hN underlying61 1 tyS35 (.box 61 (.d (e_aUpdate a0))) (ot 1 (pt 1001)))) (OptL.keep rfl OptL.nil) (GuardV.plain _))
     (oc (op hN 15 (.ptr 1001 1 [1,0]) (ov (.ptr 1001 1 [1,0]) (fp hN underlying35 0 tyS3 (.box 61 (.d (e_aUpdate a0))) (ot 16 (.ptr 1001 1 [1])))) (OptL.opt OptL.nil) (GuardV.plain _))
     (oc (op hN 15 (i6 a0.fAttrs.fOrigin) (lb hN 61 (.d (e_aUpdate a0)) (i6 a0.fAttrs.fOrigin) tyS3 (At.dst1 (f:=(e_aAttrs a0.fAttrs)) (by rfl) (by rfl) (ad (.int .i64 a0.fAttrs.fOrigin)) (by first | rfl | omega)) (ot 17 (.ptr 1001 1 [1,0]))) (OptL.opt OptL.nil) (GuardV.plain _))
     (oc (op hN 15 (bo (a0.fAttrs.fOrigin != (-1))) (neqI (L rfl) (ot 18 (i6 a0.fAttrs.fOrigin)) (ii (-1))) (OptL.opt OptL.nil) (GuardV.plain _))
     (oc (pickAnd rfl (L rfl) (ot 15 (bo r9)) (ot 19 (.opt (r9==true) (bo (a0.fAttrs.fOrigin != (-1))))))
     (oc (mv hN (ot 20 (bo (r9&&(a0.fAttrs.fOrigin != (-1))))))
     (oc (op hN 21 (.ptr 1001 1 [1]) (ov (.ptr 1001 1 [1]) (fp hN underlying61 1 tyS35 (.box 61 (.d (e_aUpdate a0))) (ot 1 (pt 1001)))) (OptL.keep rfl OptL.nil) (GuardV.plain _))
     (oc (op hN 21 (.ptr 1001 3 [1,2]) (ov (.ptr 1001 3 [1,2]) (fp hN underlying35 2 tyS27 (.box 61 (.d (e_aUpdate a0))) (ot 22 (.ptr 1001 1 [1])))) (OptL.opt OptL.nil) (GuardV.plain _))
     (oc (op hN 21 (.d (e_aAddr a0.fAttrs.fNext)) (lb hN 61 (.d (e_aUpdate a0)) (.d (e_aAddr a0.fAttrs.fNext)) tyS27 (At.dst1 (f:=(e_aAttrs a0.fAttrs)) (by rfl) (by rfl) (ad (e_aAddr a0.fAttrs.fNext)) (by first | rfl | omega)) (ot 23 (.ptr 1001 3 [1,2]))) (OptL.opt OptL.nil) (GuardV.plain _))
     (oc (op hN 21 (.d (.st [(.bool false),(.int .u64 0),(.int .u64 0)])) (OpJ.coe (v:=(.st [(bo false),(.d (.int .u64 0)),(.d (.int .u64 0))])) (y:=(.st [(.bool false),(.int .u64 0),(.int .u64 0)])) (Co.st (CoL.cons (Co.d _) (CoL.cons (Co.d _) (CoL.cons (Co.d _) CoL.nil)))) rfl (OpJ.build (places:=[(0,1),(1,1),(2,1)]) ⟨underlying27,fun w=>by kernel_rfl⟩ tyZS27 Opds.nil (by kernel_rfl) (r:=(.st [(bo false),(.d (.int .u64 0)),(.d (.int .u64 0))])) (by rfl) (L rfl))) OptL.nil (GuardV.plain _))
     (oc (op hN 21 (bo (!((a0.fAttrs.fNext.fV6==false)&&((a0.fAttrs.fNext.fHi==0)&&((a0.fAttrs.fNext.fLo==0)&&true))))) (OpJ.neqD (h:=2) (FitE.st underlying27 rfl held27 (FitF.cons (x:=(.bool a0.fAttrs.fNext.fV6)) (y:=(.bool false)) (by decide) rfl tyS4 ⟨rfl,rfl⟩ ⟨rfl,rfl⟩ (FitE.bool (h:=0) a0.fAttrs.fNext.fV6 false underlying4) (FitF.cons (x:=(.int .u64 a0.fAttrs.fNext.fHi)) (y:=(.int .u64 0)) (by decide) rfl tyS25 ⟨rfl,rfl⟩ ⟨rfl,rfl⟩ (FitE.int (h:=0) a0.fAttrs.fNext.fHi 0 underlying25) (FitF.cons (x:=(.int .u64 a0.fAttrs.fNext.fLo)) (y:=(.int .u64 0)) (by decide) rfl tyS25 ⟨rfl,rfl⟩ ⟨rfl,rfl⟩ (FitE.int (h:=0) a0.fAttrs.fNext.fLo 0 underlying25) FitF.nil)))) eqg27 ⟨rfl,rfl⟩ (by rfl) (L rfl) (ot 24 (.d (e_aAddr a0.fAttrs.fNext))) (ot 25 (.d (.st [(.bool false),(.int .u64 0),(.int .u64 0)])))) (OptL.opt (OptL.opt OptL.nil)) (GuardV.plain _))
     (oc (pickAnd rfl (L rfl) (ot 21 (bo (r9&&(a0.fAttrs.fOrigin != (-1))))) (ot 26 (.opt ((r9&&(a0.fAttrs.fOrigin != (-1)))==true) (bo (!((a0.fAttrs.fNext.fV6==false)&&((a0.fAttrs.fNext.fHi==0)&&((a0.fAttrs.fNext.fLo==0)&&true))))))))
     (oc (OpJ.val (v':=.d (.bool true)) (by rw [hg10]<;>rfl) (mv hN (ot 27 (bo ((r9&&(a0.fAttrs.fOrigin != (-1)))&&(!((a0.fAttrs.fNext.fV6==false)&&((a0.fAttrs.fNext.fHi==0)&&((a0.fAttrs.fNext.fLo==0)&&true)))))))))
     (oc (gd 28 (ov (.ptr 1001 12 [2]) (fp hN underlying61 12 tyS59 (.box 61 (.d (e_aUpdate a0))) (ot 1 (pt 1001)))))
     (oc (gd 28 (lb hN 61 (.d (e_aUpdate a0)) (qe_aPrefix_4 a0.fAnnounce) tyS59 (ad (.list 4 (a0.fAnnounce.map e_aPrefix))) (ot 29 (.ptr 1001 12 [2]))))
     (oc (gd 28 (mv hN (ot 3 (.func 110 [(pt 1001)]))))
     (oc (gd 28 (OpJ.callFn hB fnOk90 (slices_ContainsFunc_2_ac a0.fAnnounce a0 r11 hr11) [(0,1001)] (by kernel_rfl) (L rfl) (by kernel_rfl) (OpdL.cons (ot 30 (qe_aPrefix_4 a0.fAnnounce)) (OpdL.cons (ot 31 (.func 110 [(pt 1001)])) OpdL.nil))))
     (oc (gd 28 (OpJ.not (L rfl) (ot 32 (bo r11))))
     (oc (pickT (L rfl) (ot 28 (bo true)) (ot 33 (bo (!r11))))
     (oc (assign (L rfl) (ot 34 (bo (!r11))))
     (OpJs.nil))))))))))))))))))))))))) (by rfl) (by rfl) ?_
    exact hjj8 _ h _ _ (mp [] _ _ hB)
   ·have h:=ite_f hg10 h
    refine AWp.region (oc (ov (.ptr 1001 1 [1]) (fp hN underlying61 1 tyS35 (.box 61 (.d (e_aUpdate a0))) (ot 1 (pt 1001))))
     (oc (lb hN 61 (.d (e_aUpdate a0)) (.d (e_aAttrs a0.fAttrs)) tyS35 (ad (e_aAttrs a0.fAttrs)) (ot 12 (.ptr 1001 1 [1])))
     (oc (OpJ.callFn hB fnOk111 (attribute_Valid_ac a0.fAttrs r9 hr9) [(500,500)] (by kernel_rfl) (L rfl) (by kernel_rfl) (OpdL.cons (ot 13 (.d (e_aAttrs a0.fAttrs))) OpdL.nil))
     (oc (mv hN (ot 14 (bo r9)))
     (oc (op hN 15 (.ptr 1001 1 [1]) (ov (.ptr 1001 1 [1]) (fp hN underlying61 1 tyS35 (.box 61 (.d (e_aUpdate a0))) (ot 1 (pt 1001)))) (OptL.keep rfl OptL.nil) (GuardV.plain _))
     (oc (op hN 15 (.ptr 1001 1 [1,0]) (ov (.ptr 1001 1 [1,0]) (fp hN underlying35 0 tyS3 (.box 61 (.d (e_aUpdate a0))) (ot 16 (.ptr 1001 1 [1])))) (OptL.opt OptL.nil) (GuardV.plain _))
     (oc (op hN 15 (i6 a0.fAttrs.fOrigin) (lb hN 61 (.d (e_aUpdate a0)) (i6 a0.fAttrs.fOrigin) tyS3 (At.dst1 (f:=(e_aAttrs a0.fAttrs)) (by rfl) (by rfl) (ad (.int .i64 a0.fAttrs.fOrigin)) (by first | rfl | omega)) (ot 17 (.ptr 1001 1 [1,0]))) (OptL.opt OptL.nil) (GuardV.plain _))
     (oc (op hN 15 (bo (a0.fAttrs.fOrigin != (-1))) (neqI (L rfl) (ot 18 (i6 a0.fAttrs.fOrigin)) (ii (-1))) (OptL.opt OptL.nil) (GuardV.plain _))
     (oc (pickAnd rfl (L rfl) (ot 15 (bo r9)) (ot 19 (.opt (r9==true) (bo (a0.fAttrs.fOrigin != (-1))))))
     (oc (mv hN (ot 20 (bo (r9&&(a0.fAttrs.fOrigin != (-1))))))
     (oc (op hN 21 (.ptr 1001 1 [1]) (ov (.ptr 1001 1 [1]) (fp hN underlying61 1 tyS35 (.box 61 (.d (e_aUpdate a0))) (ot 1 (pt 1001)))) (OptL.keep rfl OptL.nil) (GuardV.plain _))
     (oc (op hN 21 (.ptr 1001 3 [1,2]) (ov (.ptr 1001 3 [1,2]) (fp hN underlying35 2 tyS27 (.box 61 (.d (e_aUpdate a0))) (ot 22 (.ptr 1001 1 [1])))) (OptL.opt OptL.nil) (GuardV.plain _))
     (oc (op hN 21 (.d (e_aAddr a0.fAttrs.fNext)) (lb hN 61 (.d (e_aUpdate a0)) (.d (e_aAddr a0.fAttrs.fNext)) tyS27 (At.dst1 (f:=(e_aAttrs a0.fAttrs)) (by rfl) (by rfl) (ad (e_aAddr a0.fAttrs.fNext)) (by first | rfl | omega)) (ot 23 (.ptr 1001 3 [1,2]))) (OptL.opt OptL.nil) (GuardV.plain _))
     (oc (op hN 21 (.d (.st [(.bool false),(.int .u64 0),(.int .u64 0)])) (OpJ.coe (v:=(.st [(bo false),(.d (.int .u64 0)),(.d (.int .u64 0))])) (y:=(.st [(.bool false),(.int .u64 0),(.int .u64 0)])) (Co.st (CoL.cons (Co.d _) (CoL.cons (Co.d _) (CoL.cons (Co.d _) CoL.nil)))) rfl (OpJ.build (places:=[(0,1),(1,1),(2,1)]) ⟨underlying27,fun w=>by kernel_rfl⟩ tyZS27 Opds.nil (by kernel_rfl) (r:=(.st [(bo false),(.d (.int .u64 0)),(.d (.int .u64 0))])) (by rfl) (L rfl))) OptL.nil (GuardV.plain _))
     (oc (op hN 21 (bo (!((a0.fAttrs.fNext.fV6==false)&&((a0.fAttrs.fNext.fHi==0)&&((a0.fAttrs.fNext.fLo==0)&&true))))) (OpJ.neqD (h:=2) (FitE.st underlying27 rfl held27 (FitF.cons (x:=(.bool a0.fAttrs.fNext.fV6)) (y:=(.bool false)) (by decide) rfl tyS4 ⟨rfl,rfl⟩ ⟨rfl,rfl⟩ (FitE.bool (h:=0) a0.fAttrs.fNext.fV6 false underlying4) (FitF.cons (x:=(.int .u64 a0.fAttrs.fNext.fHi)) (y:=(.int .u64 0)) (by decide) rfl tyS25 ⟨rfl,rfl⟩ ⟨rfl,rfl⟩ (FitE.int (h:=0) a0.fAttrs.fNext.fHi 0 underlying25) (FitF.cons (x:=(.int .u64 a0.fAttrs.fNext.fLo)) (y:=(.int .u64 0)) (by decide) rfl tyS25 ⟨rfl,rfl⟩ ⟨rfl,rfl⟩ (FitE.int (h:=0) a0.fAttrs.fNext.fLo 0 underlying25) FitF.nil)))) eqg27 ⟨rfl,rfl⟩ (by rfl) (L rfl) (ot 24 (.d (e_aAddr a0.fAttrs.fNext))) (ot 25 (.d (.st [(.bool false),(.int .u64 0),(.int .u64 0)])))) (OptL.opt (OptL.opt OptL.nil)) (GuardV.plain _))
     (oc (pickAnd rfl (L rfl) (ot 21 (bo (r9&&(a0.fAttrs.fOrigin != (-1))))) (ot 26 (.opt ((r9&&(a0.fAttrs.fOrigin != (-1)))==true) (bo (!((a0.fAttrs.fNext.fV6==false)&&((a0.fAttrs.fNext.fHi==0)&&((a0.fAttrs.fNext.fLo==0)&&true))))))))
     (oc (OpJ.val (v':=.d (.bool false)) (by rw [hg10]<;>rfl) (mv hN (ot 27 (bo ((r9&&(a0.fAttrs.fOrigin != (-1)))&&(!((a0.fAttrs.fNext.fV6==false)&&((a0.fAttrs.fNext.fHi==0)&&((a0.fAttrs.fNext.fLo==0)&&true)))))))))
     (oc (sU 28 (L rfl))
     (oc (sU 28 (L rfl))
     (oc (sU 28 (L rfl))
     (oc (sU 28 (L rfl))
     (oc (sU 28 (L rfl))
     (oc (pickF (L rfl) (ot 28 (bo false)) (Opd.bool false))
     (oc (assign (L rfl) (ot 34 (bo false)))
     (OpJs.nil))))))))))))))))))))))))) (by rfl) (by rfl) ?_
    exact hjj8 _ h _ _ (mp [] _ _ hB)
def attribute_Write_1 (a0:Bool) (a1:Int) (a2:(List Int)):Option ((List aUnknown)) :=
 jn (fun m3:(List aUnknown) =>
 some m3) (fun j4 =>
 (if a0=true then
 chk (decide ([(aUnknown.mk (ilk gv0 a1) a1 a2)].length≤LIM)) <|
 j4 [(aUnknown.mk (ilk gv0 a1) a1 a2)]
 else
 j4 ([]:List aUnknown)))
theorem attribute_Write_1_ac (a0:Bool) (a1:Int) (a2:(List Int)) (r:(List aUnknown)) (h:attribute_Write_1 a0 a1 a2=some r):AC Tryz.prog 132 [(.d (.bool a0)),(.d (.int .i64 a1)),(.d (.list 1 (a2.map (eI .u8)))),(pt 0)] [(0,(.box 33 .nils)),(500,(.know (globD 0 (.imap gv0))))] (.tup []) [(0,some (.box 33 (.sref 950000 3 0 r.length))),(500,some (.know (globD 0 (.imap gv0)))),(950000,some (.row 69 3 (r.map e_aUnknown)))]:=by
 refine AC.of_code2 Tryz.func132 rfl rfl (Nat.le_of_ble_eq_true (by rfl)) fun B hB hN => ?_
 delta attribute_Write_1 at h
 refine sr (SQ tt) ?_
 refine gh [(1,_),(2,_),(3,_),(7,_)] [(0,some _),(500,some _)] hB rfl rfl (by rfl) ?_
 refine AWp.cut h (fun m3:(List aUnknown)=>([]:EL)) (fun m3:(List aUnknown)=>([(0,some (.box 33 (.sref 3000 3 0 m3.length))),(500,some (.know (globD 0 (.imap gv0)))),(3000,some (we_aUnknown_69_3 m3))]:OL)) (fun m3 h E' O' hmat => ?_) (fun j4 hjj4 h => ?_)
 ·obtain rfl:=oi h
  exact⟨.inr rfl,_,_,(Mat.trans hmat (mp [(950000,3000)] [] [(0,some (.box 33 (.sref 950000 3 0 m3.length))),(500,some (.know (globD 0 (.imap gv0)))),(950000,some (we_aUnknown_69_3 m3))] hB)),[],Res.nil,rfl,by rfl,by rfl,by rfl⟩
 ·apply AWp.cond rfl<;>intro hg5
  ·have h:=ite_t hg5 h
   obtain⟨hc6,h⟩:=chk_some h
   apply rg (c (lb hN 33 _ _ tyS33 (At.here _) (q 3)) rfl (cg (OpJ.loadGD (nm:=500) (.imap gv0) tyS164 (by rfl) (by rfl) (by simp) (ltN hN rfl)) rfl (c (mv hN (q 1)) rfl (cg (OpJ.ilook tyU164 underlying3 keyEq3 tyZD3 (ltN hN rfl) (q 9) (q 10)) rfl (c (mv hN (q 1)) rfl (c (mv hN (q 2)) rfl (c (OpJ.coe (v:=(.st [(i6 (ilk gv0 a1)),(i6 a1),(.d (.list 1 (a2.map (eI .u8))))])) (y:=(.st [(.int .i64 (ilk gv0 a1)),(.int .i64 a1),(.list 1 (a2.map (eI .u8)))])) (Co.st (CoL.cons (Co.d _) (CoL.cons (Co.d _) (CoL.cons (Co.d _) CoL.nil)))) rfl (OpJ.build (places:=[(0,1),(1,1),(2,1)]) ⟨underlying69,fun w=>by kernel_rfl⟩ tyZS69 (Opds.cons (q 11) (Opds.cons (q 12) (Opds.cons (q 13) Opds.nil))) (by kernel_rfl) (r:=(.st [(i6 (ilk gv0 a1)),(i6 a1),(.d (.list 1 (a2.map (eI .u8))))])) (by rfl) (ltN hN rfl))) rfl (c (buildSlice underlying33 tyS69 tyZD69 (by rfl) (by decide) (by decide) (Opds.cons (q 14) Opds.nil) (by kernel_rfl) (es:=([(.st [(.int .i64 (ilk gv0 a1)),(.int .i64 a1),(.list 1 (a2.map (eI .u8)))])]:List D)) (by rfl) (by rfl) (by kernel_rfl) (by simp) (ltN hN rfl)) rfl (cg (OpJ.appendN hB underlying33 tyE69 (nm:=1016) (by decide) (ys:=[(aUnknown.mk (ilk gv0 a1) a1 a2)].map e_aUnknown) (len:=[(aUnknown.mk (ilk gv0 a1) a1 a2)].length) (by simp) (map_sz (f:=e_aUnknown) (fun _=>rfl)) (by rw [List.length_map];exact lim_mulN hc6 (by decide)) (by rw [List.length_map];exact lim_leN hc6) (ltN hN rfl) (q 8) (q 15)) rfl (cg (sB tyS33 (q 3) (q 16)) rfl cn))))))))))
   exact hjj4 _ h _ _ (mp [(3000,1016)] _ _ hB)
  ·have h:=ite_f hg5 h
   apply AWp.skip
   exact hjj4 _ h _ _ (Mat.trans (Mat.beginP (n:=3000) (e:=69) (sz:=3) (Ts:=[]) (Bs:=[(0,some (.box 33 (.sref 3000 3 0 0)))]) hB (by decide) (by rfl) (by decide) TwT.nil (TwB.cons (x:=.nils) (by rfl) (Tw.leaf ⟨rfl,rfl⟩) TwB.nil)) (mp [] _ _ hB))
def attribute_put_2_L0 (a1:(List Int)) (s1:Int×(List Int)):Option ((((List Int)))⊕(Int×(List Int))) :=
 (if (decide (s1.1<(a1.length:Int)))=true then
 (idx a1 s1.1).bind fun x10 =>
 chk (decide ((s1.2++([(IntKind.u8.wrap (shrI .i64 x10 24)),(IntKind.u8.wrap (shrI .i64 x10 16)),(IntKind.u8.wrap (shrI .i64 x10 8)),(IntKind.u8.wrap x10)]:List Int)).length≤LIM)) <|
 some (.inr ((w64 (s1.1+1)),(s1.2++([(IntKind.u8.wrap (shrI .i64 x10 24)),(IntKind.u8.wrap (shrI .i64 x10 16)),(IntKind.u8.wrap (shrI .i64 x10 8)),(IntKind.u8.wrap x10)]:List Int))))
 else
 some (.inl s1.2))
def attribute_put_2 (a0:(List Int)) (a1:(List Int)):Option ((List Int)) :=
 (loop (attribute_put_2_L0 a1) (0,a0)).bind fun p8 =>
 some p8
theorem attribute_put_2_ac (a0:(List Int)) (a1:(List Int)) (r:(List Int)) (h:attribute_put_2 a0 a1=some r):AC Tryz.prog 134 [(.sref 0 1 0 a0.length),(.d (.list 1 (a1.map (eI .i64))))] [(0,(.row 5 1 (a0.map (eI .u8))))] (.sref 900000 1 0 r.length) [(0,none),(900000,some (.row 5 1 (r.map (eI .u8))))]:=by
 refine ac2 Tryz.func134 rfl rfl fun B hB hN L => ?_
 delta attribute_put_2 at h
 refine sr (SQ tt) ?_
 apply AWp.seq
 refine sr (SQ tt) ?_
 apply AWp.block
 obtain⟨p8,hx13,h⟩:=bindS h
 refine lg (attribute_put_2_L0 a1) (fun s1:Int×(List Int)=>([(0,(.sref 3000 1 0 s1.2.length)),(7,(qI_1 a1)),(8,(i6 (a1.length:Int))),(9,(i6 s1.1))]:EL)) (fun s1:Int×(List Int)=>([(3000,some (.row 5 1 (s1.2.map (eI .u8))))]:OL)) (fun(p8:((List Int))) e E' O'=>e = .exit 0∧Mat B E' O' ([(0,(.sref 3000 1 0 p8.length))]:EL) ([(3000,some (.row 5 1 (p8.map (eI .u8))))]:OL)) hx13 (mp [(3000,0)] _ _ hB) (fun s1 y h => ?_) (fun e E' O' hR => ?_)
 ·unfold attribute_put_2_L0 at h
  refine sr (SQ tt) ?_
  apply AWp.seq
  apply AWp.cond rfl<;>intro hg9
  ·have h:=ite_t hg9 h
   apply AWp.skip
   apply seqQ_n
   apply AWp.seq
   apply AWp.block
   obtain⟨_,hx10,h⟩:=bindS h
   refine sr (SQ (fa hx10 tt)) ?_
   obtain⟨hc11,h⟩:=chk_some h
   have hc11_o:=hc11
   simp only [Bool.and_eq_true,decide_eq_true_eq] at hc11_o
   refine rg (SQ (fa hc11 tt)) ?_
   apply blkQ_n
   apply seqQ_n
   refine rg (SQ tt) ?_
   obtain rfl:=oi h
   exact⟨rfl,(mp [(3000,1026)] _ _ hB)⟩
  ·have h:=ite_f hg9 h
   apply AWp.exit
   apply seqQ_e
   obtain rfl:=oi h
   exact⟨(fun hc=>by cases hc),rfl,(mp [] _ _ hB)⟩
 ·obtain⟨rfl,hmat⟩:=hR
  apply blkQ_hit
  apply seqQ_n
  refine AWp.ghost hmat ?_
  refine sr (SQ tt) ?_
  apply AWp.ret
  obtain rfl:=oi h
  exact rt (mp [(900000,3000)] [(4,(.sref 900000 1 0 p8.length))] [(900000,some (.row 5 1 (p8.map (eI .u8))))] hB) [(.sref 900000 1 0 p8.length)] (Res.tmp (by rfl) (by rfl) Res.nil) rfl
def attribute_path_L0 (a0:(List aSegment)) (s1:Int×(List Int)):Option ((((List Int)))⊕(Int×(List Int))) :=
 (if (decide (s1.1<(a0.length:Int)))=true then
 (idx a0 s1.1).bind fun x20 =>
 jn (fun m22:Int =>
 chk (decide ((s1.2++([m22,(IntKind.u8.wrap (x20.fASNs.length:Int))]:List Int)).length≤LIM)) <|
 (attribute_put_2 (s1.2++([m22,(IntKind.u8.wrap (x20.fASNs.length:Int))]:List Int)) x20.fASNs).bind fun r25 =>
 some (.inr ((w64 (s1.1+1)),r25))) (fun j23 =>
 (if x20.fSet=true then
 j23 1
 else
 j23 2))
 else
 some (.inl s1.2))
def attribute_path (a0:(List aSegment)):Option ((List Int)) :=
 (loop (attribute_path_L0 a0) (0,([]:List Int))).bind fun p18 =>
 some p18
theorem attribute_path_ac (a0:(List aSegment)) (r:(List Int)) (h:attribute_path a0=some r):AC Tryz.prog 133 [(.d (.list 2 (a0.map e_aSegment)))] [] (.d (.list 1 (r.map (eI .u8)))) []:=by
 refine ac2 Tryz.func133 rfl rfl fun B hB hN L => ?_
 delta attribute_path at h
 refine sr (SQ tt) ?_
 refine sr (SQ tt) ?_
 apply AWp.seq
 refine sr (SQ tt) ?_
 apply AWp.block
 obtain⟨p18,hx28,h⟩:=bindS h
 refine lg (attribute_path_L0 a0) (fun s1:Int×(List Int)=>([(3,(.sref 3003 1 0 s1.2.length)),(7,(qe_aSegment_2 a0)),(8,(i6 (a0.length:Int))),(9,(i6 s1.1))]:EL)) (fun s1:Int×(List Int)=>([(3003,some (.row 5 1 (s1.2.map (eI .u8))))]:OL)) (fun(p18:((List Int))) e E' O'=>e = .exit 0∧Mat B E' O' ([(3,(.sref 3003 1 0 p18.length))]:EL) ([(3003,some (.row 5 1 (p18.map (eI .u8))))]:OL)) hx28 (Mat.trans (Mat.beginP (n:=3003) (e:=5) (sz:=1) (Ts:=[(3,(.sref 3003 1 0 0))]) (Bs:=[]) hB (by decide) (by rfl) (by decide) (TwT.cons (x:=.nils) (by rfl) (Tw.leaf ⟨rfl,rfl⟩) TwT.nil) TwB.nil) (mp [] _ _ hB)) (fun s1 y h => ?_) (fun e E' O' hR => ?_)
 ·unfold attribute_path_L0 at h
  refine sr (SQ tt) ?_
  apply AWp.seq
  apply AWp.cond rfl<;>intro hg19
  ·have h:=ite_t hg19 h
   apply AWp.skip
   apply seqQ_n
   apply AWp.seq
   apply AWp.block
   obtain⟨x20,hx20,h⟩:=bindS h
   refine sr (SQ (fa hx20 tt)) ?_
   refine sr (SQ tt) ?_
   apply AWp.seq
   refine sr (SQ tt) ?_
   refine gh [(3,_),(5,_),(6,_),(7,_),(8,_),(9,_),(14,_)] [(1005,some _),(3003,some _)] hB rfl rfl (by rfl) ?_
   refine AWp.cut h (fun m22:Int=>([(3,(.sref 3003 1 0 s1.2.length)),(5,(pt 1005)),(6,(.d (.int .u8 m22))),(7,(qe_aSegment_2 a0)),(8,(i6 (a0.length:Int))),(9,(i6 s1.1))]:EL)) (fun m22:Int=>([(1005,bd 66 (e_aSegment x20)),(3003,some (.row 5 1 (s1.2.map (eI .u8))))]:OL)) (fun m22 h E' O' hmat => ?_) (fun j23 hjj23 h => ?_)
   ·apply seqQ_n
    refine AWp.ghost hmat ?_
    obtain⟨hc24,h⟩:=chk_some h
    obtain⟨r25,hr25,h⟩:=bindS h
    refine drS (SQ (fa hc24 (fa (cl [(0,1022),(900000,100000)] (attribute_put_2_ac (s1.2++([m22,(IntKind.u8.wrap (x20.fASNs.length:Int))]:List Int)) x20.fASNs r25 hr25)) tt))) ?_
    apply blkQ_n
    apply seqQ_n
    refine AWp.ghost (mp [] [(3,(.sref 100000 1 0 r25.length)),(7,(qe_aSegment_2 a0)),(8,(i6 (a0.length:Int))),(9,(i6 s1.1))] [(100000,some (.row 5 1 (r25.map (eI .u8))))] hB) ?_
    refine rg (SQ tt) ?_
    obtain rfl:=oi h
    exact⟨rfl,(mp [(3003,100000)] _ _ hB)⟩
   ·apply AWp.cond rfl<;>intro hg26
    ·have h:=ite_t hg26 h
     refine rg (SQ tt) ?_
     exact hjj23 _ h _ _ (mp [] _ _ hB)
    ·have h:=ite_f hg26 h
     apply AWp.skip
     exact hjj23 _ h _ _ (mp [] _ _ hB)
  ·have h:=ite_f hg19 h
   apply AWp.exit
   apply seqQ_e
   obtain rfl:=oi h
   exact⟨(fun hc=>by cases hc),rfl,(mp [] _ _ hB)⟩
 ·obtain⟨rfl,hmat⟩:=hR
  apply blkQ_hit
  apply seqQ_n
  refine AWp.ghost hmat ?_
  refine sr (SQ tt) ?_
  apply AWp.ret
  obtain rfl:=oi h
  exact rt (Mat.trans (Mat.freezeP (n:=3003) (e:=5) (sz:=1) (es:=p18.map (eI .u8)) (Ts:=[(2,(.d (.list 1 (p18.map (eI .u8)))))]) (Bs:=[]) (by rfl) (TwT.cons (x:=(.sref 3003 1 0 p18.length)) (by rfl) (FrzL.all (by first | rfl | (simp;done) | (simp;omega) | omega)) TwT.nil) TwB.nil) (mp [] [(2,(.d (.list 1 (p18.map (eI .u8)))))] [] hB)) [(.d (.list 1 (p18.map (eI .u8))))] (Res.tmp (by rfl) (by rfl) Res.nil) rfl
def attribute_Write_1_2 (a0:Bool) (a1:Int) (a2:(List Int)) (a3:(List aUnknown)):Option ((List aUnknown)) :=
 jn (fun m3:(List aUnknown) =>
 some m3) (fun j4 =>
 (if a0=true then
 chk (decide ((a3++[(aUnknown.mk (ilk gv0 a1) a1 a2)]).length≤LIM)) <|
 j4 (a3++[(aUnknown.mk (ilk gv0 a1) a1 a2)])
 else
 j4 a3))
theorem attribute_Write_1_2_ac (a0:Bool) (a1:Int) (a2:(List Int)) (a3:(List aUnknown)) (r:(List aUnknown)) (h:attribute_Write_1_2 a0 a1 a2 a3=some r):AC Tryz.prog 132 [(.d (.bool a0)),(.d (.int .i64 a1)),(.d (.list 1 (a2.map (eI .u8)))),(pt 0)] [(0,(.box 33 (.sref 1 3 0 a3.length))),(1,(.row 69 3 (a3.map e_aUnknown))),(500,(.know (globD 0 (.imap gv0))))] (.tup []) [(1,none),(0,some (.box 33 (.sref 950000 3 0 r.length))),(500,some (.know (globD 0 (.imap gv0)))),(950000,some (.row 69 3 (r.map e_aUnknown)))]:=by
 refine AC.of_code2 Tryz.func132 rfl rfl (Nat.le_of_ble_eq_true (by rfl)) fun B hB hN => ?_
 delta attribute_Write_1_2 at h
 refine sr (SQ tt) ?_
 refine gh [(1,_),(2,_),(3,_),(7,_)] [(0,some _),(1,some _),(500,some _)] hB rfl rfl (by rfl) ?_
 refine AWp.cut h (fun m3:(List aUnknown)=>([]:EL)) (fun m3:(List aUnknown)=>([(0,some (.box 33 (.sref 3000 3 0 m3.length))),(500,some (.know (globD 0 (.imap gv0)))),(3000,some (we_aUnknown_69_3 m3))]:OL)) (fun m3 h E' O' hmat => ?_) (fun j4 hjj4 h => ?_)
 ·obtain rfl:=oi h
  exact⟨.inr rfl,_,_,(Mat.trans hmat (mp [(950000,3000)] [] [(0,some (.box 33 (.sref 950000 3 0 m3.length))),(500,some (.know (globD 0 (.imap gv0)))),(950000,some (we_aUnknown_69_3 m3))] hB)),[],Res.nil,rfl,by rfl,by rfl,by rfl⟩
 ·apply AWp.cond rfl<;>intro hg5
  ·have h:=ite_t hg5 h
   obtain⟨hc6,h⟩:=chk_some h
   have hc6_o:=hc6
   simp only [Bool.and_eq_true,decide_eq_true_eq] at hc6_o
   apply rg (c (lb hN 33 _ _ tyS33 (At.here _) (q 3)) rfl (cg (OpJ.loadGD (nm:=500) (.imap gv0) tyS164 (by rfl) (by rfl) (by simp) (ltN hN rfl)) rfl (c (mv hN (q 1)) rfl (cg (OpJ.ilook tyU164 underlying3 keyEq3 tyZD3 (ltN hN rfl) (q 9) (q 10)) rfl (c (mv hN (q 1)) rfl (c (mv hN (q 2)) rfl (c (OpJ.coe (v:=(.st [(i6 (ilk gv0 a1)),(i6 a1),(.d (.list 1 (a2.map (eI .u8))))])) (y:=(.st [(.int .i64 (ilk gv0 a1)),(.int .i64 a1),(.list 1 (a2.map (eI .u8)))])) (Co.st (CoL.cons (Co.d _) (CoL.cons (Co.d _) (CoL.cons (Co.d _) CoL.nil)))) rfl (OpJ.build (places:=[(0,1),(1,1),(2,1)]) ⟨underlying69,fun w=>by kernel_rfl⟩ tyZS69 (Opds.cons (q 11) (Opds.cons (q 12) (Opds.cons (q 13) Opds.nil))) (by kernel_rfl) (r:=(.st [(i6 (ilk gv0 a1)),(i6 a1),(.d (.list 1 (a2.map (eI .u8))))])) (by rfl) (ltN hN rfl))) rfl (c (buildSlice underlying33 tyS69 tyZD69 (by rfl) (by decide) (by decide) (Opds.cons (q 14) Opds.nil) (by kernel_rfl) (es:=([(.st [(.int .i64 (ilk gv0 a1)),(.int .i64 a1),(.list 1 (a2.map (eI .u8)))])]:List D)) (by rfl) (by rfl) (by kernel_rfl) (by simp) (ltN hN rfl)) rfl (cg (OpJ.append hB underlying33 tyE69 (nm:=1016) (by decide) (es:=a3.map e_aUnknown) (ys:=[(aUnknown.mk (ilk gv0 a1) a1 a2)].map e_aUnknown) (es':=(a3++[(aUnknown.mk (ilk gv0 a1) a1 a2)]).map e_aUnknown) (len:=(a3++[(aUnknown.mk (ilk gv0 a1) a1 a2)]).length) (by simp) (by simp) (map_sz (f:=e_aUnknown) (fun _=>rfl)) (by rw [List.length_map];exact lim_mulN hc6 (by decide)) (by rw [List.length_map];exact lim_leN hc6) (ltN hN rfl) (by simp) (q 8) (q 15)) rfl (cg (sB tyS33 (q 3) (q 16)) rfl cn))))))))))
   exact hjj4 _ h _ _ (mp [(3000,1016)] _ _ hB)
  ·have h:=ite_f hg5 h
   apply AWp.skip
   exact hjj4 _ h _ _ (mp [(3000,1)] _ _ hB)
def addr_Bytes_L0 (s7:Int×(List Int)×aAddr):Option ((((List Int)))⊕(Int×(List Int)×aAddr)) :=
 (if (decide (0≤s7.1))=true then
 (idx s7.2.1 s7.1).bind fun _ =>
 (idx s7.2.1 s7.1).bind fun _ =>
 some (.inr ((w64 (s7.1-1)),(s7.2.1.set s7.1.toNat (IntKind.u8.wrap s7.2.2.fLo)),(aAddr.mk s7.2.2.fV6 (shrI .u64 s7.2.2.fHi 8) (bitI .or .u64 (shrI .u64 s7.2.2.fLo 8) (shlI .u64 s7.2.2.fHi 56)))))
 else
 some (.inl s7.2.1))
def addr_Bytes (a0:aAddr):Option ((List Int)) :=
 (addr_Valid a0).bind fun r1 =>
 (if (!r1)=true then
 some ([]:List Int)
 else
 jn (fun m4:Int =>
 chk ((decide (0≤m4)&&decide (m4≤m4)&&decide (m4≤(LIM:Int)))) <|
 (loop (addr_Bytes_L0) ((w64 (m4-1)),(List.replicate m4.toNat 0),a0)).bind fun p14 =>
 some p14) (fun j5 =>
 (if a0.fV6=true then
 j5 16
 else
 j5 4)))
theorem addr_Bytes_ac (a0:aAddr) (r:(List Int)) (h:addr_Bytes a0=some r):AC Tryz.prog 122 [(.d (e_aAddr a0))] [] (.d (.list 1 (r.map (eI .u8)))) []:=by
 refine ac2 Tryz.func122 rfl rfl fun B hB hN L => ?_
 delta addr_Bytes at h
 refine sr (SQ tt) ?_
 apply AWp.seq
 obtain⟨r1,hr1,h⟩:=bindS h
 refine sr (SQ (fa (cl [] (addr_Valid_ac a0 r1 hr1)) tt)) ?_
 apply AWp.cond rfl<;>intro hg2
 ·have h:=ite_t hg2 h
  refine sr (SQ tt) ?_
  apply AWp.ret
  apply seqQ_r
  obtain rfl:=oi h
  exact rt (Mat.trans (Mat.coeP (Ts:=[(2,(.d (.list 1 (([]:List Int).map (eI .u8)))))]) (Bs:=[]) (TwT.cons (x:=.nils) (by rfl) (Tw.leaf ⟨_,(Co.nils 1),rfl⟩) TwT.nil) TwB.nil) (mp [] [(2,(.d (.list 1 (([]:List Int).map (eI .u8)))))] [] hB)) [(.d (.list 1 (([]:List Int).map (eI .u8))))] (Res.tmp (by rfl) (by rfl) Res.nil) rfl
 ·have h:=ite_f hg2 h
  apply AWp.skip
  apply seqQ_n
  refine sr (SQ tt) ?_
  apply AWp.seq
  refine sr (SQ tt) ?_
  refine gh [(1,_),(3,_),(10,_)] [(1001,some _)] hB rfl rfl (by rfl) ?_
  refine AWp.cut h (fun m4:Int=>([(1,(pt 1001)),(3,(i6 m4))]:EL)) (fun m4:Int=>([(1001,bd 27 (e_aAddr a0))]:OL)) (fun m4 h E' O' hmat => ?_) (fun j5 hjj5 h => ?_)
  ·apply seqQ_n
   refine AWp.ghost hmat ?_
   obtain⟨hc6,h⟩:=chk_some h
   refine sr (SQ (fa hc6 tt)) ?_
   apply AWp.seq
   refine sr (SQ tt) ?_
   apply AWp.block
   obtain⟨p14,hx19,h⟩:=bindS h
   refine lg (addr_Bytes_L0) (fun s7:Int×(List Int)×aAddr=>([(1,(pt 1001)),(4,(.sref 1012 1 0 s7.2.1.length)),(5,(i6 s7.1))]:EL)) (fun s7:Int×(List Int)×aAddr=>([(1001,bd 27 (e_aAddr s7.2.2)),(1012,some (.row 5 1 (s7.2.1.map (eI .u8))))]:OL)) (fun(p14:((List Int))) e E' O'=>e = .exit 0∧Mat B E' O' ([(4,(.sref 1012 1 0 p14.length))]:EL) ([(1012,some (.row 5 1 (p14.map (eI .u8))))]:OL)) hx19 (mp [] _ _ hB) (fun s7 y h => ?_) (fun e E' O' hR => ?_)
   ·unfold addr_Bytes_L0 at h
    apply AWp.seq
    refine sr (SQ tt) ?_
    apply AWp.cond rfl<;>intro hg15
    ·have h:=ite_t hg15 h
     apply AWp.skip
     apply seqQ_n
     apply AWp.seq
     apply AWp.block
     obtain⟨_,hx16,h⟩:=bindS h
     obtain⟨_,hx17,h⟩:=bindS h
     refine sr (SQ (fa hx16 (fa hx17 (fa (sv (IntKind.u8.wrap s7.2.2.fLo)) tt)))) ?_
     refine sr (SQ tt) ?_
     refine rg (SQ tt) ?_
     apply blkQ_n
     apply seqQ_n
     refine rg (SQ tt) ?_
     obtain rfl:=oi h
     exact⟨rfl,(Mat.trans (mp [] [(1,(pt 1001)),(4,(.sref 1012 1 0 s7.2.1.length)),(5,(i6 (w64 (s7.1-1))))] [(1001,some (.box 27 (.d (.st [(.bool s7.2.2.fV6),(.int .u64 (shrI .u64 s7.2.2.fHi 8)),(.int .u64 (bitI .or .u64 (shrI .u64 s7.2.2.fLo 8) (shlI .u64 s7.2.2.fHi 56)))])))),(1012,some (.row 5 1 ((s7.2.1.set s7.1.toNat (IntKind.u8.wrap s7.2.2.fLo)).map (eI .u8))))] hB) (Mat.trans (Mat.lenP (Ts:=[(4,(.sref 1012 1 0 ((s7.2.1.set s7.1.toNat (IntKind.u8.wrap s7.2.2.fLo)).length)))]) (Bs:=[]) (TwT.cons (x:=(.sref 1012 1 0 s7.2.1.length)) (by rfl) (Tw.leaf ⟨_,_,_,_,_,rfl,rfl,(by first | rfl | (simp;done) | (simp;omega) | omega)⟩) TwT.nil) TwB.nil) (mp [] _ _ hB)))⟩
    ·have h:=ite_f hg15 h
     apply AWp.exit
     apply seqQ_e
     obtain rfl:=oi h
     exact⟨(fun hc=>by cases hc),rfl,(mp [] _ _ hB)⟩
   ·obtain⟨rfl,hmat⟩:=hR
    apply blkQ_hit
    apply seqQ_n
    refine AWp.ghost hmat ?_
    refine sr (SQ tt) ?_
    apply AWp.ret
    obtain rfl:=oi h
    exact rt (Mat.trans (Mat.freezeP (n:=1012) (e:=5) (sz:=1) (es:=p14.map (eI .u8)) (Ts:=[(2,(.d (.list 1 (p14.map (eI .u8)))))]) (Bs:=[]) (by rfl) (TwT.cons (x:=(.sref 1012 1 0 p14.length)) (by rfl) (FrzL.all (by first | rfl | (simp;done) | (simp;omega) | omega)) TwT.nil) TwB.nil) (mp [] [(2,(.d (.list 1 (p14.map (eI .u8)))))] [] hB)) [(.d (.list 1 (p14.map (eI .u8))))] (Res.tmp (by rfl) (by rfl) Res.nil) rfl
  ·apply AWp.cond rfl<;>intro hg20
   ·have h:=ite_t hg20 h
    refine rg (SQ tt) ?_
    exact hjj5 _ h _ _ (mp [] _ _ hB)
   ·have h:=ite_f hg20 h
    apply AWp.skip
    exact hjj5 _ h _ _ (mp [] _ _ hB)
def attribute_put_3_L0 (a0:(List Int)) (s1:Int×(List Int)):Option ((((List Int)))⊕(Int×(List Int))) :=
 (if (decide (s1.1<(a0.length:Int)))=true then
 (idx a0 s1.1).bind fun x10 =>
 chk (decide ((s1.2++([(IntKind.u8.wrap (shrI .i64 x10 24)),(IntKind.u8.wrap (shrI .i64 x10 16)),(IntKind.u8.wrap (shrI .i64 x10 8)),(IntKind.u8.wrap x10)]:List Int)).length≤LIM)) <|
 some (.inr ((w64 (s1.1+1)),(s1.2++([(IntKind.u8.wrap (shrI .i64 x10 24)),(IntKind.u8.wrap (shrI .i64 x10 16)),(IntKind.u8.wrap (shrI .i64 x10 8)),(IntKind.u8.wrap x10)]:List Int))))
 else
 some (.inl s1.2))
def attribute_put_3 (a0:(List Int)):Option ((List Int)) :=
 (loop (attribute_put_3_L0 a0) (0,([]:List Int))).bind fun p8 =>
 some p8
theorem attribute_put_3_ac (a0:(List Int)) (r:(List Int)) (h:attribute_put_3 a0=some r):AC Tryz.prog 134 [.nils,(.d (.list 1 (a0.map (eI .i64))))] [] (.d (.list 1 (r.map (eI .u8)))) []:=by
 refine ac2 Tryz.func134 rfl rfl fun B hB hN L => ?_
 delta attribute_put_3 at h
 refine sr (SQ tt) ?_
 apply AWp.seq
 refine sr (SQ tt) ?_
 apply AWp.block
 obtain⟨p8,hx13,h⟩:=bindS h
 refine lg (attribute_put_3_L0 a0) (fun s1:Int×(List Int)=>([(0,(.sref 3000 1 0 s1.2.length)),(7,(qI_1 a0)),(8,(i6 (a0.length:Int))),(9,(i6 s1.1))]:EL)) (fun s1:Int×(List Int)=>([(3000,some (.row 5 1 (s1.2.map (eI .u8))))]:OL)) (fun(p8:((List Int))) e E' O'=>e = .exit 0∧Mat B E' O' ([(0,(.sref 3000 1 0 p8.length))]:EL) ([(3000,some (.row 5 1 (p8.map (eI .u8))))]:OL)) hx13 (Mat.trans (Mat.beginP (n:=3000) (e:=5) (sz:=1) (Ts:=[(0,(.sref 3000 1 0 0))]) (Bs:=[]) hB (by decide) (by rfl) (by decide) (TwT.cons (x:=.nils) (by rfl) (Tw.leaf ⟨rfl,rfl⟩) TwT.nil) TwB.nil) (mp [] _ _ hB)) (fun s1 y h => ?_) (fun e E' O' hR => ?_)
 ·unfold attribute_put_3_L0 at h
  refine sr (SQ tt) ?_
  apply AWp.seq
  apply AWp.cond rfl<;>intro hg9
  ·have h:=ite_t hg9 h
   apply AWp.skip
   apply seqQ_n
   apply AWp.seq
   apply AWp.block
   obtain⟨_,hx10,h⟩:=bindS h
   refine sr (SQ (fa hx10 tt)) ?_
   obtain⟨hc11,h⟩:=chk_some h
   refine rg (SQ (fa hc11 tt)) ?_
   apply blkQ_n
   apply seqQ_n
   refine rg (SQ tt) ?_
   obtain rfl:=oi h
   exact⟨rfl,(mp [(3000,1026)] _ _ hB)⟩
  ·have h:=ite_f hg9 h
   apply AWp.exit
   apply seqQ_e
   obtain rfl:=oi h
   exact⟨(fun hc=>by cases hc),rfl,(mp [] _ _ hB)⟩
 ·obtain⟨rfl,hmat⟩:=hR
  apply blkQ_hit
  apply seqQ_n
  refine AWp.ghost hmat ?_
  refine sr (SQ tt) ?_
  apply AWp.ret
  obtain rfl:=oi h
  exact rt (Mat.trans (Mat.freezeP (n:=3000) (e:=5) (sz:=1) (es:=p8.map (eI .u8)) (Ts:=[(4,(.d (.list 1 (p8.map (eI .u8)))))]) (Bs:=[]) (by rfl) (TwT.cons (x:=(.sref 3000 1 0 p8.length)) (by rfl) (FrzL.all (by first | rfl | (simp;done) | (simp;omega) | omega)) TwT.nil) TwB.nil) (mp [] [(4,(.d (.list 1 (p8.map (eI .u8)))))] [] hB)) [(.d (.list 1 (p8.map (eI .u8))))] (Res.tmp (by rfl) (by rfl) Res.nil) rfl
def attribute_communities_L0 (a0:(List aCommunity)) (s1:Int×(List Int)):Option ((((List Int)))⊕(Int×(List Int))) :=
 (if (decide (s1.1<(a0.length:Int)))=true then
 (idx a0 s1.1).bind fun x10 =>
 (attribute_put_2 s1.2 ([(bitI .or .i64 (shlI .i64 x10.fA 16) x10.fB)]:List Int)).bind fun r11 =>
 some (.inr ((w64 (s1.1+1)),r11))
 else
 some (.inl s1.2))
def attribute_communities (a0:(List aCommunity)):Option ((List Int)) :=
 (loop (attribute_communities_L0 a0) (0,([]:List Int))).bind fun p8 =>
 some p8
theorem attribute_communities_ac (a0:(List aCommunity)) (r:(List Int)) (h:attribute_communities a0=some r):AC Tryz.prog 135 [(.d (.list 2 (a0.map e_aCommunity)))] [] (.d (.list 1 (r.map (eI .u8)))) []:=by
 refine ac2 Tryz.func135 rfl rfl fun B hB hN L => ?_
 delta attribute_communities at h
 refine sr (SQ tt) ?_
 refine sr (SQ tt) ?_
 apply AWp.seq
 refine sr (SQ tt) ?_
 apply AWp.block
 obtain⟨p8,hx13,h⟩:=bindS h
 refine lg (attribute_communities_L0 a0) (fun s1:Int×(List Int)=>([(3,(.sref 3003 1 0 s1.2.length)),(6,(qe_aCommunity_2 a0)),(7,(i6 (a0.length:Int))),(8,(i6 s1.1))]:EL)) (fun s1:Int×(List Int)=>([(3003,some (.row 5 1 (s1.2.map (eI .u8))))]:OL)) (fun(p8:((List Int))) e E' O'=>e = .exit 0∧Mat B E' O' ([(3,(.sref 3003 1 0 p8.length))]:EL) ([(3003,some (.row 5 1 (p8.map (eI .u8))))]:OL)) hx13 (Mat.trans (Mat.beginP (n:=3003) (e:=5) (sz:=1) (Ts:=[(3,(.sref 3003 1 0 0))]) (Bs:=[]) hB (by decide) (by rfl) (by decide) (TwT.cons (x:=.nils) (by rfl) (Tw.leaf ⟨rfl,rfl⟩) TwT.nil) TwB.nil) (mp [] _ _ hB)) (fun s1 y h => ?_) (fun e E' O' hR => ?_)
 ·unfold attribute_communities_L0 at h
  refine sr (SQ tt) ?_
  apply AWp.seq
  apply AWp.cond rfl<;>intro hg9
  ·have h:=ite_t hg9 h
   apply AWp.skip
   apply seqQ_n
   apply AWp.seq
   apply AWp.block
   obtain⟨x10,hx10,h⟩:=bindS h
   refine sr (SQ (fa hx10 tt)) ?_
   obtain⟨r11,hr11,h⟩:=bindS h
   refine rg (SQ (fa (cl [(0,3003),(900000,100000)] (attribute_put_2_ac s1.2 ([(bitI .or .i64 (shlI .i64 x10.fA 16) x10.fB)]:List Int) r11 hr11)) tt)) ?_
   apply blkQ_n
   apply seqQ_n
   refine AWp.ghost (mp [] [(3,(.sref 100000 1 0 r11.length)),(6,(qe_aCommunity_2 a0)),(7,(i6 (a0.length:Int))),(8,(i6 s1.1))] [(100000,some (.row 5 1 (r11.map (eI .u8))))] hB) ?_
   refine rg (SQ tt) ?_
   obtain rfl:=oi h
   exact⟨rfl,(mp [(3003,100000)] _ _ hB)⟩
  ·have h:=ite_f hg9 h
   apply AWp.exit
   apply seqQ_e
   obtain rfl:=oi h
   exact⟨(fun hc=>by cases hc),rfl,(mp [] _ _ hB)⟩
 ·obtain⟨rfl,hmat⟩:=hR
  apply blkQ_hit
  apply seqQ_n
  refine AWp.ghost hmat ?_
  refine sr (SQ tt) ?_
  apply AWp.ret
  obtain rfl:=oi h
  exact rt (Mat.trans (Mat.freezeP (n:=3003) (e:=5) (sz:=1) (es:=p8.map (eI .u8)) (Ts:=[(2,(.d (.list 1 (p8.map (eI .u8)))))]) (Bs:=[]) (by rfl) (TwT.cons (x:=(.sref 3003 1 0 p8.length)) (by rfl) (FrzL.all (by first | rfl | (simp;done) | (simp;omega) | omega)) TwT.nil) TwB.nil) (mp [] [(2,(.d (.list 1 (p8.map (eI .u8)))))] [] hB)) [(.d (.list 1 (p8.map (eI .u8))))] (Res.tmp (by rfl) (by rfl) Res.nil) rfl
def attribute_large_L0 (a0:(List aLarge)) (s1:Int×(List Int)):Option ((((List Int)))⊕(Int×(List Int))) :=
 (if (decide (s1.1<(a0.length:Int)))=true then
 (idx a0 s1.1).bind fun x10 =>
 (attribute_put_2 s1.2 ([x10.fA,x10.fB,x10.fC]:List Int)).bind fun r11 =>
 some (.inr ((w64 (s1.1+1)),r11))
 else
 some (.inl s1.2))
def attribute_large (a0:(List aLarge)):Option ((List Int)) :=
 (loop (attribute_large_L0 a0) (0,([]:List Int))).bind fun p8 =>
 some p8
theorem attribute_large_ac (a0:(List aLarge)) (r:(List Int)) (h:attribute_large a0=some r):AC Tryz.prog 136 [(.d (.list 3 (a0.map e_aLarge)))] [] (.d (.list 1 (r.map (eI .u8)))) []:=by
 refine AC.of_code2 Tryz.func136 rfl rfl (Nat.le_of_ble_eq_true (by rfl)) fun B hB hN => ?_
 delta attribute_large at h
 refine sr (SQ tt) ?_
 refine sr (SQ tt) ?_
 apply AWp.seq
 refine sr (SQ tt) ?_
 apply AWp.block
 obtain⟨p8,hx13,h⟩:=bindS h
 refine lg (attribute_large_L0 a0) (fun s1:Int×(List Int)=>([(3,(.sref 3003 1 0 s1.2.length)),(6,(qe_aLarge_3 a0)),(7,(i6 (a0.length:Int))),(8,(i6 s1.1))]:EL)) (fun s1:Int×(List Int)=>([(3003,some (.row 5 1 (s1.2.map (eI .u8))))]:OL)) (fun(p8:((List Int))) e E' O'=>e = .exit 0∧Mat B E' O' ([(3,(.sref 3003 1 0 p8.length))]:EL) ([(3003,some (.row 5 1 (p8.map (eI .u8))))]:OL)) hx13 (Mat.trans (Mat.beginP (n:=3003) (e:=5) (sz:=1) (Ts:=[(3,(.sref 3003 1 0 0))]) (Bs:=[]) hB (by decide) (by rfl) (by decide) (TwT.cons (x:=.nils) (by rfl) (Tw.leaf ⟨rfl,rfl⟩) TwT.nil) TwB.nil) (mp [] _ _ hB)) (fun s1 y h => ?_) (fun e E' O' hR => ?_)
 ·unfold attribute_large_L0 at h
  refine sr (SQ tt) ?_
  apply AWp.seq
  apply AWp.cond rfl<;>intro hg9
  ·have h:=ite_t hg9 h
   apply AWp.skip
   apply seqQ_n
   apply AWp.seq
   apply AWp.block
   obtain⟨x10,hx10,h⟩:=bindS h
   refine sr (SQ (fa hx10 tt)) ?_
   obtain⟨r11,hr11,h⟩:=bindS h
   refine rg (SQ (fa (cl [(0,3003),(900000,100000)] (attribute_put_2_ac s1.2 ([x10.fA,x10.fB,x10.fC]:List Int) r11 hr11)) tt)) ?_
   apply blkQ_n
   apply seqQ_n
   refine AWp.ghost (mp [] [(3,(.sref 100000 1 0 r11.length)),(6,(qe_aLarge_3 a0)),(7,(i6 (a0.length:Int))),(8,(i6 s1.1))] [(100000,some (.row 5 1 (r11.map (eI .u8))))] hB) ?_
   refine rg (SQ tt) ?_
   obtain rfl:=oi h
   exact⟨rfl,(mp [(3003,100000)] _ _ hB)⟩
  ·have h:=ite_f hg9 h
   apply AWp.exit
   apply seqQ_e
   obtain rfl:=oi h
   exact⟨(fun hc=>by cases hc),rfl,(mp [] _ _ hB)⟩
 ·obtain⟨rfl,hmat⟩:=hR
  apply blkQ_hit
  apply seqQ_n
  refine AWp.ghost hmat ?_
  refine sr (SQ tt) ?_
  apply AWp.ret
  obtain rfl:=oi h
  exact rt (Mat.trans (Mat.freezeP (n:=3003) (e:=5) (sz:=1) (es:=p8.map (eI .u8)) (Ts:=[(2,(.d (.list 1 (p8.map (eI .u8)))))]) (Bs:=[]) (by rfl) (TwT.cons (x:=(.sref 3003 1 0 p8.length)) (by rfl) (FrzL.all (by first | rfl | (simp;done) | (simp;omega) | omega)) TwT.nil) TwB.nil) (mp [] [(2,(.d (.list 1 (p8.map (eI .u8)))))] [] hB)) [(.d (.list 1 (p8.map (eI .u8))))] (Res.tmp (by rfl) (by rfl) Res.nil) rfl
def ext137_slices_Clone_D (a0:(List Int)):Option (List Int):=chk (decide (a0.length≤LIM)) <|
 some a0
theorem ext137_slices_Clone_D_ac (a0:(List Int)) (r:List Int) (h:ext137_slices_Clone_D a0=some r):AC Tryz.prog 137 [(.d (.list 1 (a0.map (eI .u8))))] [] (.d (.list 1 (r.map (eI .u8)))) []:=by
 obtain⟨hc,h⟩:=chk_some h
 obtain rfl:=oi h
 exact AC.cloneD cloneOk137 (by rw [List.length_map];exact lim_mulN hc (by decide)) (map_sz (f:=(eI .u8)) (fun _=>rfl))
def attribute_Write_2 (a0:aUnknown) (a1:aUnknown):Option (Int) :=
 (cmp_Compare a0.fType a1.fType).bind fun r1 =>
 some r1
theorem attribute_Write_2_ac (a0:aUnknown) (a1:aUnknown) (r:Int) (h:attribute_Write_2 a0 a1=some r):AC Tryz.prog 138 [(.d (e_aUnknown a0)),(.d (e_aUnknown a1))] [] (.d (.int .i64 r)) []:=by
 refine AC.of_code2 Tryz.func138 rfl rfl (Nat.le_of_ble_eq_true (by rfl)) fun B hB hN => ?_
 delta attribute_Write_2 at h
 refine sr (SQ tt) ?_
 obtain⟨r1,hr1,h⟩:=bindS h
 refine sr (SQ (fa (cl [] (cmp_Compare_ac a0.fType a1.fType r1 hr1)) tt)) ?_
 apply AWp.ret
 obtain rfl:=oi h
 exact rt (kp [(4,_)] [] hB rfl rfl (by rfl)) [(i6 r1)] (Res.tmp (by rfl) (by rfl) Res.nil) rfl
def ext123_slices_SortFunc_attribute_Write_2 (a0:(List aUnknown)):Option (List aUnknown):=sortF a0 fun x y=>attribute_Write_2 x y
theorem ext123_slices_SortFunc_attribute_Write_2_ac (a0:(List aUnknown)) (r:List aUnknown) (h:ext123_slices_SortFunc_attribute_Write_2 a0=some r):AC Tryz.prog 123 [(.sref 0 3 0 a0.length),.func 138 []] [(0,(.row 69 3 (a0.map e_aUnknown)))] (.tup []) [(0,some (.row 69 3 (r.map e_aUnknown)))] :=
 AC.sortF e_aUnknown (fun x y=>attribute_Write_2 x y) a0 r h sortOk123 fnOk138 (fun _=>rfl) rfl rfl (fun x y c hc=>attribute_Write_2_ac x y c hc)
end
end Go.Proofs.YtkhjkjojjdkidaaGreatDoor
