/- Printed by gen.py: the Go functions as plain functions, and that the code does what they say. -/
import Derived.Test.YtgfoabcickjphaaGreatDoorChecked
import Derived.Test.YtgfoabcickjphaaGreatDoorVcYB
import Derived.Test.YtgfoabcickjphaaGreatDoorVcZ
import Derived.KernelRfl
import Derived.Test.YtgfoabcickjphaaGreatDoorVcMD
import Derived.Test.YtgfoabcickjphaaGreatDoorVcMQ
import Derived.Test.YtgfoabcickjphaaGreatDoorVcSG
import Derived.Test.YtgfoabcickjphaaGreatDoorExt
import Derived.Test.YtgfoabcickjphaaGreatDoorVcGl
import Derived.Test.YtgfoabcickjphaaGreatDoorVcWS
namespace Go.Proofs.YtgfoabcickjphaaGreatDoor
open Go Go.Vc
open Tryz
open Go.Vc.OpJ (assign alloc lss pickT pickF extract lenD indexD loadD eqlI gtr callVal leq geq loadR nilP indexS buildSlice lenS fieldD neqI pickAnd pickOr)
set_option maxHeartbeats 4000000
set_option maxRecDepth 100000
noncomputable section
structure aAddr where
 fV6:Bool
 fHi:Int
 fLo:Int
def e_aAddr (x:aAddr):D:=.st [(.bool x.fV6),(.int .u64 x.fHi),(.int .u64 x.fLo)]
structure aRange where
 fFrom:aAddr
 fTo:aAddr
def e_aRange (x:aRange):D:=.st [(e_aAddr x.fFrom),(e_aAddr x.fTo)]
def e_LeapiRange (x:(List aRange)):D:=(.list 6 (x.map e_aRange))
structure aSpan where
 fFrom:Int
 fTo:Int
def e_aSpan (x:aSpan):D:=.st [(.int .i64 x.fFrom),(.int .i64 x.fTo)]
def e_LeapiSpan (x:(List aSpan)):D:=(.list 2 (x.map e_aSpan))
structure aResources where
 fAddrs:(List aRange)
 fASNs:(List aSpan)
def e_aResources (x:aResources):D:=.st [(.list 6 (x.fAddrs.map e_aRange)),(.list 2 (x.fASNs.map e_aSpan))]
structure aCert where
 fKey:Int
 fIssuer:Int
 fFrom:Int
 fUntil:Int
 fResources:aResources
def e_aCert (x:aCert):D:=.st [(.int .i64 x.fKey),(.int .i64 x.fIssuer),(.int .i64 x.fFrom),(.int .i64 x.fUntil),(e_aResources x.fResources)]
structure aPrefix where
 fAddr:aAddr
 fLen:Int
def e_aPrefix (x:aPrefix):D:=.st [(e_aAddr x.fAddr),(.int .i64 x.fLen)]
structure aObject where
 fPrefix:aPrefix
 fMax:Int
 fASN:Int
def e_aObject (x:aObject):D:=.st [(e_aPrefix x.fPrefix),(.int .i64 x.fMax),(.int .i64 x.fASN)]
def e_LeapiObject (x:(List aObject)):D:=(.list 6 (x.map e_aObject))
structure aSigned where
 fKey:Int
 fASN:Int
 fFrom:Int
 fUntil:Int
 fObjects:(List aObject)
def e_aSigned (x:aSigned):D:=.st [(.int .i64 x.fKey),(.int .i64 x.fASN),(.int .i64 x.fFrom),(.int .i64 x.fUntil),(.list 6 (x.fObjects.map e_aObject))]
structure aAddr_ where
 ffrom:aAddr
 fto:aAddr
def e_aAddr_ (x:aAddr_):D:=.st [(e_aAddr x.ffrom),(e_aAddr x.fto)]
structure resource_part_int_ where
 ffrom:Int
 fto:Int
def e_resource_part_int_ (x:resource_part_int_):D:=.st [(.int .i64 x.ffrom),(.int .i64 x.fto)]
def e_LeapiAddr (x:(List aAddr_)):D:=(.list 6 (x.map e_aAddr_))
def e_Leresourcepartint (x:(List resource_part_int_)):D:=(.list 2 (x.map e_resource_part_int_))
structure resource_set where
 faddrs:(List aAddr_)
 fasns:(List resource_part_int_)
def e_resource_set (x:resource_set):D:=.st [(.list 6 (x.faddrs.map e_aAddr_)),(.list 2 (x.fasns.map e_resource_part_int_))]
def e_LeIi64 (x:(List Int)):D:=(.list 1 (x.map (eI .i64)))
structure xmake_Deck where
 fL:(List Int)
 fAt:Int
def e_xmake_Deck (x:xmake_Deck):D:=.st [(.list 1 (x.fL.map (eI .i64))),(.int .i64 x.fAt)]
def e_LeapiCert (x:(List aCert)):D:=(.list 6 (x.map e_aCert))
def e_LeapiSigned (x:(List aSigned)):D:=(.list 5 (x.map e_aSigned))
def keq48 (a b:aObject):Bool:=((((a.fPrefix.fAddr.fV6==b.fPrefix.fAddr.fV6)&&((a.fPrefix.fAddr.fHi==b.fPrefix.fAddr.fHi)&&((a.fPrefix.fAddr.fLo==b.fPrefix.fAddr.fLo)&&true)))&&((a.fPrefix.fLen==b.fPrefix.fLen)&&true))&&((a.fMax==b.fMax)&&((a.fASN==b.fASN)&&true)))
@[reducible] def qe_aCert_6 (x:List aCert):V:=.d (.list 6 (x.map e_aCert))
@[reducible] def qe_aRange_6 (x:List aRange):V:=.d (.list 6 (x.map e_aRange))
@[reducible] def qe_aSpan_2 (x:List aSpan):V:=.d (.list 2 (x.map e_aSpan))
@[reducible] def we_aRange_92_6 (x:List aRange):Ob:=.row 92 6 (x.map e_aRange)
@[reducible] def we_aSpan_101_2 (x:List aSpan):Ob:=.row 101 2 (x.map e_aSpan)
@[reducible] def qe_aPrefix_4 (x:List aPrefix):V:=.d (.list 4 (x.map e_aPrefix))
@[reducible] def we_aAddr__139_6 (x:List aAddr_):Ob:=.row 139 6 (x.map e_aAddr_)
@[reducible] def qe_aAddr__6 (x:List aAddr_):V:=.d (.list 6 (x.map e_aAddr_))
@[reducible] def qI_1 (x:List Int):V:=.d (.list 1 (x.map (eI .i64)))
@[reducible] def qe_aObject_6 (x:List aObject):V:=.d (.list 6 (x.map e_aObject))
@[reducible] def we_aObject_48_6 (x:List aObject):Ob:=.row 48 6 (x.map e_aObject)
@[reducible] def qe_aSigned_5 (x:List aSigned):V:=.d (.list 5 (x.map e_aSigned))
@[reducible] def we_aPrefix_46_4 (x:List aPrefix):Ob:=.row 46 4 (x.map e_aPrefix)
@[reducible] def we_aCert_59_6 (x:List aCert):Ob:=.row 59 6 (x.map e_aCert)
@[reducible] def we_aSigned_66_5 (x:List aSigned):Ob:=.row 66 5 (x.map e_aSigned)
theorem tyS59:TyS Tryz.prog 59 6 true:=⟨by kernel_rfl,by kernel_rfl⟩
theorem tyZ59:TyZ Tryz.prog 59 (.st [(.d (.int .i64 0)),(.d (.int .i64 0)),(.d (.int .i64 0)),(.d (.int .i64 0)),(.st [.nils,.nils])]):=⟨by kernel_rfl,fun w=>by kernel_rfl⟩
theorem tyS57:TyS Tryz.prog 57 2 true:=⟨by kernel_rfl,by kernel_rfl⟩
theorem tyS54:TyS Tryz.prog 54 1 false:=⟨by kernel_rfl,by kernel_rfl⟩
theorem tyS55:TyS Tryz.prog 55 1 false:=⟨by kernel_rfl,by kernel_rfl⟩
theorem fnOk8:FnOk Tryz.prog 8:=⟨by kernel_rfl⟩
theorem tyZ46:TyZ Tryz.prog 46 (.d (.st [(.st [(.bool false),(.int .u64 0),(.int .u64 0)]),(.int .i64 0)])):=⟨by kernel_rfl,fun w=>by kernel_rfl⟩
theorem tyZS44:TyZ Tryz.prog 44 (.st [(.d (.bool false)),(.d (.int .u64 0)),(.d (.int .u64 0))]):=⟨by kernel_rfl,fun w=>by kernel_rfl⟩
theorem tyZS46:TyZ Tryz.prog 46 (.st [(.d (.st [(.bool false),(.int .u64 0),(.int .u64 0)])),(.d (.int .i64 0))]):=⟨by kernel_rfl,fun w=>by kernel_rfl⟩
theorem tyS46:TyS Tryz.prog 46 4 true:=⟨by kernel_rfl,by kernel_rfl⟩
theorem fnOk27:FnOk Tryz.prog 27:=⟨by kernel_rfl⟩
theorem tyZD46:TyZ Tryz.prog 46 (.d (.st [(.st [(.bool false),(.int .u64 0),(.int .u64 0)]),(.int .i64 0)])):=⟨by kernel_rfl,fun w=>by kernel_rfl⟩
theorem tyZ57:TyZ Tryz.prog 57 (.st [.nils,.nils]):=⟨by kernel_rfl,fun w=>by kernel_rfl⟩
theorem tyS44:TyS Tryz.prog 44 3 true:=⟨by kernel_rfl,by kernel_rfl⟩
theorem tyS3:TyS Tryz.prog 3 1 false:=⟨by kernel_rfl,by kernel_rfl⟩
theorem tyS4:TyS Tryz.prog 4 1 false:=⟨by kernel_rfl,by kernel_rfl⟩
theorem tyS42:TyS Tryz.prog 42 1 false:=⟨by kernel_rfl,by kernel_rfl⟩
theorem fnOk68:FnOk Tryz.prog 68:=⟨by kernel_rfl⟩
theorem fnOk77:FnOk Tryz.prog 77:=⟨by kernel_rfl⟩
theorem tyS5:TyS Tryz.prog 5 1 false:=⟨by kernel_rfl,by kernel_rfl⟩
theorem tyZD5:TyZ Tryz.prog 5 (.d (.int .u8 0)):=⟨by kernel_rfl,fun w=>by kernel_rfl⟩
theorem tyE5:TyE Tryz.prog 5 1 1:=⟨by kernel_rfl,by decide⟩
theorem fnOk78:FnOk Tryz.prog 78:=⟨by kernel_rfl⟩
theorem tyZ44:TyZ Tryz.prog 44 (.d (.st [(.bool false),(.int .u64 0),(.int .u64 0)])):=⟨by kernel_rfl,fun w=>by kernel_rfl⟩
theorem fnOk79:FnOk Tryz.prog 79:=⟨by kernel_rfl⟩
theorem fnOk44:FnOk Tryz.prog 44:=⟨by kernel_rfl⟩
theorem held44:Program.stoodInHeld Tryz.prog 44=false:=by kernel_rfl
theorem held46:Program.stoodInHeld Tryz.prog 46=false:=by kernel_rfl
theorem eqg46:Program.eqGuardType Tryz.prog (Program.depth Tryz.prog) 46=false:=by kernel_rfl
theorem fnOk53:FnOk Tryz.prog 53:=⟨by kernel_rfl⟩
theorem tyZS57:TyZ Tryz.prog 57 (.st [.nils,.nils]):=⟨by kernel_rfl,fun w=>by kernel_rfl⟩
theorem fnOk47:FnOk Tryz.prog 47:=⟨by kernel_rfl⟩
theorem tyZS92:TyZ Tryz.prog 92 (.st [(.d (.st [(.bool false),(.int .u64 0),(.int .u64 0)])),(.d (.st [(.bool false),(.int .u64 0),(.int .u64 0)]))]):=⟨by kernel_rfl,fun w=>by kernel_rfl⟩
theorem tyS92:TyS Tryz.prog 92 6 true:=⟨by kernel_rfl,by kernel_rfl⟩
theorem tyZD92:TyZ Tryz.prog 92 (.d (.st [(.st [(.bool false),(.int .u64 0),(.int .u64 0)]),(.st [(.bool false),(.int .u64 0),(.int .u64 0)])])):=⟨by kernel_rfl,fun w=>by kernel_rfl⟩
theorem tyE92:TyE Tryz.prog 92 6 48:=⟨by kernel_rfl,by decide⟩
theorem tyS101:TyS Tryz.prog 101 2 true:=⟨by kernel_rfl,by kernel_rfl⟩
theorem tyZ101:TyZ Tryz.prog 101 (.d (.st [(.int .i64 0),(.int .i64 0)])):=⟨by kernel_rfl,fun w=>by kernel_rfl⟩
theorem tyZ92:TyZ Tryz.prog 92 (.d (.st [(.st [(.bool false),(.int .u64 0),(.int .u64 0)]),(.st [(.bool false),(.int .u64 0),(.int .u64 0)])])):=⟨by kernel_rfl,fun w=>by kernel_rfl⟩
theorem eqg44:Program.eqGuardType Tryz.prog (Program.depth Tryz.prog) 44=false:=by kernel_rfl
theorem fnOk46:FnOk Tryz.prog 46:=⟨by kernel_rfl⟩
theorem fnOk69:FnOk Tryz.prog 69:=⟨by kernel_rfl⟩
theorem fnOk55:FnOk Tryz.prog 55:=⟨by kernel_rfl⟩
theorem tyE101:TyE Tryz.prog 101 2 16:=⟨by kernel_rfl,by decide⟩
theorem tyZD101:TyZ Tryz.prog 101 (.d (.st [(.int .i64 0),(.int .i64 0)])):=⟨by kernel_rfl,fun w=>by kernel_rfl⟩
theorem fnOk56:FnOk Tryz.prog 56:=⟨by kernel_rfl⟩
theorem fnOk54:FnOk Tryz.prog 54:=⟨by kernel_rfl⟩
theorem fnOk28:FnOk Tryz.prog 28:=⟨by kernel_rfl⟩
theorem tyZS59:TyZ Tryz.prog 59 (.st [(.d (.int .i64 0)),(.d (.int .i64 0)),(.d (.int .i64 0)),(.d (.int .i64 0)),(.st [.nils,.nils])]):=⟨by kernel_rfl,fun w=>by kernel_rfl⟩
theorem tyZD59:TyZ Tryz.prog 59 (.d (.st [(.int .i64 0),(.int .i64 0),(.int .i64 0),(.int .i64 0),(.st [(.list 6 (([]:List aRange).map e_aRange)),(.list 2 (([]:List aSpan).map e_aSpan))])])):=⟨by kernel_rfl,fun w=>by kernel_rfl⟩
theorem tyZS48:TyZ Tryz.prog 48 (.st [(.d (.st [(.st [(.bool false),(.int .u64 0),(.int .u64 0)]),(.int .i64 0)])),(.d (.int .i64 0)),(.d (.int .i64 0))]):=⟨by kernel_rfl,fun w=>by kernel_rfl⟩
theorem tyS48:TyS Tryz.prog 48 6 true:=⟨by kernel_rfl,by kernel_rfl⟩
theorem tyZD48:TyZ Tryz.prog 48 (.d (.st [(.st [(.st [(.bool false),(.int .u64 0),(.int .u64 0)]),(.int .i64 0)]),(.int .i64 0),(.int .i64 0)])):=⟨by kernel_rfl,fun w=>by kernel_rfl⟩
theorem tyZS66:TyZ Tryz.prog 66 (.st [(.d (.int .i64 0)),(.d (.int .i64 0)),(.d (.int .i64 0)),(.d (.int .i64 0)),.nils]):=⟨by kernel_rfl,fun w=>by kernel_rfl⟩
theorem tyS66:TyS Tryz.prog 66 5 true:=⟨by kernel_rfl,by kernel_rfl⟩
theorem tyZD66:TyZ Tryz.prog 66 (.d (.st [(.int .i64 0),(.int .i64 0),(.int .i64 0),(.int .i64 0),(.list 6 (([]:List aObject).map e_aObject))])):=⟨by kernel_rfl,fun w=>by kernel_rfl⟩
theorem tyZD3:TyZ Tryz.prog 3 (.d (.int .i64 0)):=⟨by kernel_rfl,fun w=>by kernel_rfl⟩
theorem tyE4:TyE Tryz.prog 4 1 1:=⟨by kernel_rfl,by decide⟩
theorem tyZD4:TyZ Tryz.prog 4 (.d (.bool false)):=⟨by kernel_rfl,fun w=>by kernel_rfl⟩
theorem fnOk31:FnOk Tryz.prog 31:=⟨by kernel_rfl⟩
theorem fnOk59:FnOk Tryz.prog 59:=⟨by kernel_rfl⟩
theorem fnOk62:FnOk Tryz.prog 62:=⟨by kernel_rfl⟩
theorem fnOk61:FnOk Tryz.prog 61:=⟨by kernel_rfl⟩
theorem fnOk85:FnOk Tryz.prog 85:=⟨by kernel_rfl⟩
theorem fnOk60:FnOk Tryz.prog 60:=⟨by kernel_rfl⟩
theorem tyZ113:TyZ Tryz.prog 113 (.st [.nils,.nils]):=⟨by kernel_rfl,fun w=>by kernel_rfl⟩
theorem tyS110:TyS Tryz.prog 110 1 false:=⟨by kernel_rfl,by kernel_rfl⟩
theorem tyZS139:TyZ Tryz.prog 139 (.st [(.d (.st [(.bool false),(.int .u64 0),(.int .u64 0)])),(.d (.st [(.bool false),(.int .u64 0),(.int .u64 0)]))]):=⟨by kernel_rfl,fun w=>by kernel_rfl⟩
theorem tyS139:TyS Tryz.prog 139 6 true:=⟨by kernel_rfl,by kernel_rfl⟩
theorem tyZD139:TyZ Tryz.prog 139 (.d (.st [(.st [(.bool false),(.int .u64 0),(.int .u64 0)]),(.st [(.bool false),(.int .u64 0),(.int .u64 0)])])):=⟨by kernel_rfl,fun w=>by kernel_rfl⟩
theorem tyE139:TyE Tryz.prog 139 6 48:=⟨by kernel_rfl,by decide⟩
theorem tyS111:TyS Tryz.prog 111 1 false:=⟨by kernel_rfl,by kernel_rfl⟩
theorem tyZS141:TyZ Tryz.prog 141 (.st [(.d (.int .i64 0)),(.d (.int .i64 0))]):=⟨by kernel_rfl,fun w=>by kernel_rfl⟩
theorem tyS141:TyS Tryz.prog 141 2 true:=⟨by kernel_rfl,by kernel_rfl⟩
theorem tyZD141:TyZ Tryz.prog 141 (.d (.st [(.int .i64 0),(.int .i64 0)])):=⟨by kernel_rfl,fun w=>by kernel_rfl⟩
theorem tyE141:TyE Tryz.prog 141 2 16:=⟨by kernel_rfl,by decide⟩
theorem tyS113:TyS Tryz.prog 113 2 true:=⟨by kernel_rfl,by kernel_rfl⟩
theorem fnOk63:FnOk Tryz.prog 63:=⟨by kernel_rfl⟩
theorem tyS117:TyS Tryz.prog 117 3 true:=⟨by kernel_rfl,by kernel_rfl⟩
theorem tyZ139:TyZ Tryz.prog 139 (.d (.st [(.st [(.bool false),(.int .u64 0),(.int .u64 0)]),(.st [(.bool false),(.int .u64 0),(.int .u64 0)])])):=⟨by kernel_rfl,fun w=>by kernel_rfl⟩
theorem tyS93:TyS Tryz.prog 93 1 false:=⟨by kernel_rfl,by kernel_rfl⟩
theorem fnOk124:FnOk Tryz.prog 124:=⟨by kernel_rfl⟩
theorem fnOk121:FnOk Tryz.prog 121:=⟨by kernel_rfl⟩
theorem fnOk98:FnOk Tryz.prog 98:=⟨by kernel_rfl⟩
theorem fnOk131:FnOk Tryz.prog 131:=⟨by kernel_rfl⟩
theorem fnOk125:FnOk Tryz.prog 125:=⟨by kernel_rfl⟩
theorem fnOk96:FnOk Tryz.prog 96:=⟨by kernel_rfl⟩
theorem fnOk109:FnOk Tryz.prog 109:=⟨by kernel_rfl⟩
theorem tyS115:TyS Tryz.prog 115 1 false:=⟨by kernel_rfl,by kernel_rfl⟩
theorem fnOk150:FnOk Tryz.prog 150:=⟨by kernel_rfl⟩
theorem fnOk64:FnOk Tryz.prog 64:=⟨by kernel_rfl⟩
theorem tyS121:TyS Tryz.prog 121 3 true:=⟨by kernel_rfl,by kernel_rfl⟩
theorem tyZ141:TyZ Tryz.prog 141 (.d (.st [(.int .i64 0),(.int .i64 0)])):=⟨by kernel_rfl,fun w=>by kernel_rfl⟩
theorem tyS53:TyS Tryz.prog 53 1 false:=⟨by kernel_rfl,by kernel_rfl⟩
theorem tyS119:TyS Tryz.prog 119 1 false:=⟨by kernel_rfl,by kernel_rfl⟩
theorem fnOk152:FnOk Tryz.prog 152:=⟨by kernel_rfl⟩
theorem fnOk65:FnOk Tryz.prog 65:=⟨by kernel_rfl⟩
theorem fnOk32:FnOk Tryz.prog 32:=⟨by kernel_rfl⟩
theorem fnOk66:FnOk Tryz.prog 66:=⟨by kernel_rfl⟩
theorem fnOk33:FnOk Tryz.prog 33:=⟨by kernel_rfl⟩
theorem fnOk34:FnOk Tryz.prog 34:=⟨by kernel_rfl⟩
theorem fnOk151:FnOk Tryz.prog 151:=⟨by kernel_rfl⟩
theorem fnOk103:FnOk Tryz.prog 103:=⟨by kernel_rfl⟩
theorem fnOk153:FnOk Tryz.prog 153:=⟨by kernel_rfl⟩
theorem fnOk104:FnOk Tryz.prog 104:=⟨by kernel_rfl⟩
theorem tyZS113:TyZ Tryz.prog 113 (.st [.nils,.nils]):=⟨by kernel_rfl,fun w=>by kernel_rfl⟩
theorem fnOk86:FnOk Tryz.prog 86:=⟨by kernel_rfl⟩
theorem fnOk67:FnOk Tryz.prog 67:=⟨by kernel_rfl⟩
theorem fnOk35:FnOk Tryz.prog 35:=⟨by kernel_rfl⟩
theorem fnOk36:FnOk Tryz.prog 36:=⟨by kernel_rfl⟩
theorem fnOk14:FnOk Tryz.prog 14:=⟨by kernel_rfl⟩
theorem tyZ66:TyZ Tryz.prog 66 (.st [(.d (.int .i64 0)),(.d (.int .i64 0)),(.d (.int .i64 0)),(.d (.int .i64 0)),.nils]):=⟨by kernel_rfl,fun w=>by kernel_rfl⟩
theorem tyS38:TyS Tryz.prog 38 1 false:=⟨by kernel_rfl,by kernel_rfl⟩
theorem fnOk99:FnOk Tryz.prog 99:=⟨by kernel_rfl⟩
theorem fnOk122:FnOk Tryz.prog 122:=⟨by kernel_rfl⟩
theorem fnOk100:FnOk Tryz.prog 100:=⟨by kernel_rfl⟩
theorem fnOk89:FnOk Tryz.prog 89:=⟨by kernel_rfl⟩
theorem fnOk90:FnOk Tryz.prog 90:=⟨by kernel_rfl⟩
theorem fnOk88:FnOk Tryz.prog 88:=⟨by kernel_rfl⟩
theorem fnOk106:FnOk Tryz.prog 106:=⟨by kernel_rfl⟩
theorem fnOk91:FnOk Tryz.prog 91:=⟨by kernel_rfl⟩
theorem fnOk71:FnOk Tryz.prog 71:=⟨by kernel_rfl⟩
theorem fnOk110:FnOk Tryz.prog 110:=⟨by kernel_rfl⟩
theorem fnOk108:FnOk Tryz.prog 108:=⟨by kernel_rfl⟩
theorem fnOk123:FnOk Tryz.prog 123:=⟨by kernel_rfl⟩
theorem fnOk107:FnOk Tryz.prog 107:=⟨by kernel_rfl⟩
theorem fnOk93:FnOk Tryz.prog 93:=⟨by kernel_rfl⟩
theorem fnOk92:FnOk Tryz.prog 92:=⟨by kernel_rfl⟩
theorem fnOk72:FnOk Tryz.prog 72:=⟨by kernel_rfl⟩
theorem fnOk41:FnOk Tryz.prog 41:=⟨by kernel_rfl⟩
theorem tyE48:TyE Tryz.prog 48 6 48:=⟨by kernel_rfl,by decide⟩
theorem fnOk73:FnOk Tryz.prog 73:=⟨by kernel_rfl⟩
theorem fnOk97:FnOk Tryz.prog 97:=⟨by kernel_rfl⟩
theorem fnOk75:FnOk Tryz.prog 75:=⟨by kernel_rfl⟩
theorem fnOk74:FnOk Tryz.prog 74:=⟨by kernel_rfl⟩
theorem held48:Program.stoodInHeld Tryz.prog 48=false:=by kernel_rfl
theorem eqg48:Program.eqGuardType Tryz.prog (Program.depth Tryz.prog) 48=false:=by kernel_rfl
theorem fnOk76:FnOk Tryz.prog 76:=⟨by kernel_rfl⟩
theorem fnOk42:FnOk Tryz.prog 42:=⟨by kernel_rfl⟩
theorem fnOk16:FnOk Tryz.prog 16:=⟨by kernel_rfl⟩
theorem tyZ48:TyZ Tryz.prog 48 (.d (.st [(.st [(.st [(.bool false),(.int .u64 0),(.int .u64 0)]),(.int .i64 0)]),(.int .i64 0),(.int .i64 0)])):=⟨by kernel_rfl,fun w=>by kernel_rfl⟩
theorem fnOk80:FnOk Tryz.prog 80:=⟨by kernel_rfl⟩
theorem fnOk45:FnOk Tryz.prog 45:=⟨by kernel_rfl⟩
theorem fnOk18:FnOk Tryz.prog 18:=⟨by kernel_rfl⟩
theorem fnOk9:FnOk Tryz.prog 9:=⟨by kernel_rfl⟩
theorem tyZS80:TyZ Tryz.prog 80 (.st [.nils,(.d (.int .i64 0))]):=⟨by kernel_rfl,fun w=>by kernel_rfl⟩
theorem fnOk11:FnOk Tryz.prog 11:=⟨by kernel_rfl⟩
theorem tyS23:TyS Tryz.prog 23 1 false:=⟨by kernel_rfl,by kernel_rfl⟩
theorem fnOk19:FnOk Tryz.prog 19:=⟨by kernel_rfl⟩
theorem fnOk30:FnOk Tryz.prog 30:=⟨by kernel_rfl⟩
theorem tyZD42:TyZ Tryz.prog 42 (.d (.int .u64 0)):=⟨by kernel_rfl,fun w=>by kernel_rfl⟩
theorem fnOk43:FnOk Tryz.prog 43:=⟨by kernel_rfl⟩
theorem fnOk17:FnOk Tryz.prog 17:=⟨by kernel_rfl⟩
theorem tyE46:TyE Tryz.prog 46 4 32:=⟨by kernel_rfl,by decide⟩
theorem tyZS101:TyZ Tryz.prog 101 (.st [(.d (.int .i64 0)),(.d (.int .i64 0))]):=⟨by kernel_rfl,fun w=>by kernel_rfl⟩
theorem fnOk49:FnOk Tryz.prog 49:=⟨by kernel_rfl⟩
theorem fnOk39:FnOk Tryz.prog 39:=⟨by kernel_rfl⟩
theorem fnOk81:FnOk Tryz.prog 81:=⟨by kernel_rfl⟩
theorem fnOk82:FnOk Tryz.prog 82:=⟨by kernel_rfl⟩
theorem fnOk50:FnOk Tryz.prog 50:=⟨by kernel_rfl⟩
theorem tyE59:TyE Tryz.prog 59 6 80:=⟨by kernel_rfl,by decide⟩
theorem fnOk22:FnOk Tryz.prog 22:=⟨by kernel_rfl⟩
theorem fnOk57:FnOk Tryz.prog 57:=⟨by kernel_rfl⟩
theorem fnOk102:FnOk Tryz.prog 102:=⟨by kernel_rfl⟩
theorem fnOk84:FnOk Tryz.prog 84:=⟨by kernel_rfl⟩
theorem fnOk58:FnOk Tryz.prog 58:=⟨by kernel_rfl⟩
theorem tyE66:TyE Tryz.prog 66 5 56:=⟨by kernel_rfl,by decide⟩
theorem fnOk29:FnOk Tryz.prog 29:=⟨by kernel_rfl⟩
theorem fnOk10:FnOk Tryz.prog 10:=⟨by kernel_rfl⟩
theorem tyS22:TyS Tryz.prog 22 1 false:=⟨by kernel_rfl,by kernel_rfl⟩
theorem tyZD22:TyZ Tryz.prog 22 (.d (.list 6 (([]:List aCert).map e_aCert))):=⟨by kernel_rfl,fun w=>by kernel_rfl⟩
theorem tyZD23:TyZ Tryz.prog 23 (.d (.list 1 (([]:List Int).map (eI .i64)))):=⟨by kernel_rfl,fun w=>by kernel_rfl⟩
theorem fnOk12:FnOk Tryz.prog 12:=⟨by kernel_rfl⟩
theorem fnOk37:FnOk Tryz.prog 37:=⟨by kernel_rfl⟩
theorem fnOk38:FnOk Tryz.prog 38:=⟨by kernel_rfl⟩
theorem fnOk105:FnOk Tryz.prog 105:=⟨by kernel_rfl⟩
theorem fnOk87:FnOk Tryz.prog 87:=⟨by kernel_rfl⟩
theorem fnOk70:FnOk Tryz.prog 70:=⟨by kernel_rfl⟩
theorem fnOk40:FnOk Tryz.prog 40:=⟨by kernel_rfl⟩
theorem fnOk15:FnOk Tryz.prog 15:=⟨by kernel_rfl⟩
theorem fnOk13:FnOk Tryz.prog 13:=⟨by kernel_rfl⟩
def xlaw22_light_L0 (a0:(List aCert)) (s1:Int):Option (((Unit)⊕(Unit))⊕(Int)) :=
 (if (decide (s1<(a0.length:Int)))=true then
 (idx a0 s1).bind fun x11 =>
 (if ((decide (20<(x11.fResources.fAddrs.length:Int))) || (decide (20<(x11.fResources.fASNs.length:Int))))=true then
 some (.inl (.inl ()))
 else
 some (.inr (w64 (s1+1))))
 else
 some (.inl (.inr ())))
def xlaw22_light (a0:(List aCert)):Option (Bool) :=
 (loop (xlaw22_light_L0 a0) 0).bind fun x13=>match x13 with
 | (.inl _) =>
  some false
 | (.inr _) =>
  some (decide ((a0.length:Int)≤20))
theorem xlaw22_light_ac (a0:(List aCert)) (r:Bool) (h:xlaw22_light a0=some r):AC Tryz.prog 8 [(.d (.list 6 (a0.map e_aCert)))] [] (.d (.bool r)) []:=by
 refine ac2 Tryz.func8 rfl rfl fun B hB hN L => ?_
 delta xlaw22_light at h
 apply sr (c (assign (L rfl) (Opd.bool false)) rfl cn)
 apply AWp.seq
 apply sr (c (mv hN (q 0)) rfl (c (OpJ.val (v':=(i6 (a0.length:Int))) (by simp) (lenD underlying22 (L rfl) (q 5))) rfl (c (mv hN (ii 0)) rfl cn)))
 apply AWp.block
 obtain⟨x13,hx14,h⟩:=bindS h
 refine lg (xlaw22_light_L0 a0) (fun s1:Int=>([(0,(qe_aCert_6 a0)),(5,(qe_aCert_6 a0)),(6,(i6 (a0.length:Int))),(7,(i6 s1))]:EL)) (fun s1:Int=>([]:OL)) (fun(x:(Unit)⊕(Unit)) e E' O'=>match x with | (.inl _p)=>e = .ret∧Mat B E' O' ([(2,(bo false))]:EL) ([]:OL) | (.inr _p)=>e = .exit 0∧Mat B E' O' ([(0,(qe_aCert_6 a0))]:EL) ([]:OL)) hx14 (mp [] _ _ hB) (fun s1 y h => ?_) (fun e E' O' hR => ?_)
 ·unfold xlaw22_light_L0 at h
  apply sr (c (lss (L rfl) (q 7) (q 6)) rfl cn)
  apply AWp.seq
  apply AWp.cond rfl<;>intro hg10
  ·have h:=ite_t hg10 h
   apply AWp.skip
   apply seqQ_n
   apply AWp.seq
   apply AWp.block
   obtain⟨x11,hx11,h⟩:=bindS h
   apply sr (c (indexD underlying22 tyS59 (idx_some hx11).1 (get_map e_aCert (idx_some hx11).2) (L rfl) (q 5) (q 7)) rfl (c (loadD tyS59 (by rfl) (by rfl) (L rfl) (q 9)) rfl (cg (alloc hB tyZ59 (nm:=1004) (by decide) (L rfl)) rfl (cg (sB tyS59 (q 4) (q 10)) rfl cn))))
   apply sr (c (fo 1004 4 [4] hN underlying59 4 tyS57 (q 4)) rfl (c (fo 1004 4 [4,0] hN underlying57 0 tyS54 (q 11)) rfl (c (lb hN 59 _ _ tyS54 (At.dst1 (by rfl) (by rfl) (ad _) (by first | rfl | omega)) (q 12)) rfl (c (OpJ.val (v':=(i6 (x11.fResources.fAddrs.length:Int))) (by simp) (lenD underlying54 (L rfl) (q 13))) rfl (c (gtr (L rfl) (q 14) (ii 20)) rfl (c (mv hN (q 15)) rfl (c (oq hN 16 (fo 1004 4 [4] hN underlying59 4 tyS57 (q 4)) (OptL.keep (by rfl) OptL.nil) (GuardV.plain _)) rfl (c (oq hN 16 (fo 1004 5 [4,1] hN underlying57 1 tyS55 (q 17)) (OptL.opt OptL.nil) (GuardV.plain _)) rfl (c (oq hN 16 (lb hN 59 _ _ tyS55 (At.dst1 (by rfl) (by rfl) (ad _) (by first | rfl | omega)) (q 18)) (OptL.opt OptL.nil) (GuardV.plain _)) rfl (c (oq hN 16 (OpJ.val (v':=(i6 (x11.fResources.fASNs.length:Int))) (by simp) (lenD underlying55 (L rfl) (q 19))) (OptL.opt OptL.nil) (GuardV.plain _)) rfl (c (oq hN 16 (gtr (L rfl) (q 20) (ii 20)) (OptL.opt OptL.nil) (GuardV.plain _)) rfl (c (pickOr rfl (L rfl) (q 16) (q 21)) rfl cn))))))))))))
   apply AWp.cond rfl<;>intro hg12
   ·have h:=ite_t hg12 h
    apply sr (c (assign (L rfl) (Opd.bool false)) rfl cn)
    apply AWp.ret
    apply blkQ_r
    apply seqQ_r
    obtain rfl:=oi h
    exact⟨(fun hc=>by cases hc),rfl,(mp [] _ _ hB)⟩
   ·have h:=ite_f hg12 h
    apply AWp.skip
    apply blkQ_n
    apply seqQ_n
    apply rg (c (add6 (L rfl) (q 7) (ii 1)) rfl (c (mv hN (q 23)) rfl cn))
    obtain rfl:=oi h
    exact⟨rfl,(mp [] _ _ hB)⟩
  ·have h:=ite_f hg10 h
   apply AWp.exit
   apply seqQ_e
   obtain rfl:=oi h
   exact⟨(fun hc=>by cases hc),rfl,(mp [] _ _ hB)⟩
 ·rcases x13 with _ | _
  ·obtain⟨rfl,hmat⟩:=hR
   apply blkQ_r
   apply seqQ_r
   obtain rfl:=oi h
   exact rt (Mat.trans hmat (mp [] [(2,(bo false))] [] hB)) [(bo false)] (Res.tmp (by rfl) (by rfl) Res.nil) rfl
  ·obtain⟨rfl,hmat⟩:=hR
   apply blkQ_hit
   apply seqQ_n
   refine AWp.ghost hmat ?_
   apply sr (c (mv hN (q 0)) rfl (c (OpJ.val (v':=(i6 (a0.length:Int))) (by simp) (lenD underlying22 (L rfl) (q 24))) rfl (c (leq (L rfl) (q 25) (ii 20)) rfl (c (assign (L rfl) (q 26)) rfl cn))))
   apply AWp.ret
   obtain rfl:=oi h
   exact rt (kp [(2,_)] [] hB rfl rfl (by rfl)) [(bo (decide ((a0.length:Int)≤20)))] (Res.tmp (by rfl) (by rfl) Res.nil) rfl
def xlaw22_awake_1 (a0:Int) (a1:Int):Option (aPrefix) :=
 some (aPrefix.mk (aAddr.mk false 0 (IntKind.u64.wrap (167772160+(shlI .u64 (IntKind.u64.wrap a0) 16)))) a1)
theorem xlaw22_awake_1_ac (a0:Int) (a1:Int) (r:aPrefix) (h:xlaw22_awake_1 a0 a1=some r):AC Tryz.prog 27 [(.d (.int .i64 a0)),(.d (.int .i64 a1))] [] (.d (e_aPrefix r)) []:=by
 refine AC.of_code2 Tryz.func27 rfl rfl (Nat.le_of_ble_eq_true (by rfl)) fun B hB hN => ?_
 delta xlaw22_awake_1 at h
 apply sr (cg (alloc hB tyZ46 (nm:=1004) (by decide) (ltN hN rfl)) rfl cn)
 apply sr (c (mv hN (q 0)) rfl (c (OpJ.conv underlying3 underlying42 (ltN hN rfl) (q 5)) rfl (c (OpJ.shl (ltN hN rfl) (q 6) (Opd.int .u64 (16)) (by decide)) rfl (c (OpJ.add (ltN hN rfl) (Opd.int .u64 (167772160)) (q 7)) rfl (c (OpJ.coe (v:=(.st [(bo false),(.d (.int .u64 0)),(.d (.int .u64 (IntKind.u64.wrap (167772160+(shlI .u64 (IntKind.u64.wrap a0) 16)))))])) (y:=(.st [(.bool false),(.int .u64 0),(.int .u64 (IntKind.u64.wrap (167772160+(shlI .u64 (IntKind.u64.wrap a0) 16))))])) (Co.st (CoL.cons (Co.d _) (CoL.cons (Co.d _) (CoL.cons (Co.d _) CoL.nil)))) rfl (OpJ.build (places:=[(0,1),(1,1),(2,1)]) ⟨underlying44,fun w=>by kernel_rfl⟩ tyZS44 (Opds.cons (q 8) Opds.nil) (by kernel_rfl) (r:=(.st [(bo false),(.d (.int .u64 0)),(.d (.int .u64 (IntKind.u64.wrap (167772160+(shlI .u64 (IntKind.u64.wrap a0) 16)))))])) (by rfl) (ltN hN rfl))) rfl (c (mv hN (q 1)) rfl (c (OpJ.coe (v:=(.st [(.d (.st [(.bool false),(.int .u64 0),(.int .u64 (IntKind.u64.wrap (167772160+(shlI .u64 (IntKind.u64.wrap a0) 16))))])),(i6 a1)])) (y:=(.st [(.st [(.bool false),(.int .u64 0),(.int .u64 (IntKind.u64.wrap (167772160+(shlI .u64 (IntKind.u64.wrap a0) 16))))]),(.int .i64 a1)])) (Co.st (CoL.cons (Co.d _) (CoL.cons (Co.d _) CoL.nil))) rfl (OpJ.build (places:=[(0,3),(3,1)]) ⟨underlying46,fun w=>by kernel_rfl⟩ tyZS46 (Opds.cons (q 9) (Opds.cons (q 10) Opds.nil)) (by kernel_rfl) (r:=(.st [(.d (.st [(.bool false),(.int .u64 0),(.int .u64 (IntKind.u64.wrap (167772160+(shlI .u64 (IntKind.u64.wrap a0) 16))))])),(i6 a1)])) (by rfl) (ltN hN rfl))) rfl (cg (sB tyS46 (q 4) (q 11)) rfl cn))))))))
 apply AWp.ret
 obtain rfl:=oi h
 exact rt (kp [(4,_)] [(1004,some _)] hB rfl rfl (by rfl)) [(.d (.st [(.st [(.bool false),(.int .u64 0),(.int .u64 (IntKind.u64.wrap (167772160+(shlI .u64 (IntKind.u64.wrap a0) 16))))]),(.int .i64 a1)]))] (Res.cell (c:=(.d (.st [(.st [(.bool false),(.int .u64 0),(.int .u64 (IntKind.u64.wrap (167772160+(shlI .u64 (IntKind.u64.wrap a0) 16))))]),(.int .i64 a1)]))) (by rfl) (by rfl) tyS46 (by rfl) (by rfl) (by rfl) Res.nil) rfl
def xref01_Valid (a0:aAddr):Option (Bool) :=
 jn (fun m2:Bool =>
 some m2) (fun j3 =>
 (if a0.fV6=true then
 j3 true
 else
 j3 ((a0.fHi==0)&&(decide (a0.fLo<4294967296)))))
theorem xref01_Valid_ac (a0:aAddr) (r:Bool) (h:xref01_Valid a0=some r):AC Tryz.prog 68 [(.d (e_aAddr a0))] [] (.d (.bool r)) []:=by
 refine ac2 Tryz.func68 rfl rfl fun B hB hN L => ?_
 delta xref01_Valid at h
 apply sr (cg (OpJ.box hB (nm:=1001) (by decide) (by simp) rfl (L rfl) (q 0)) rfl (c (assign (L rfl) (Opd.bool false)) rfl cn))
 apply AWp.seq
 refine AWp.cut h (fun m2:Bool=>([(2,(bo m2))]:EL)) (fun m2:Bool=>([]:OL)) (fun m2 h E' O' hmat => ?_) (fun j3 hjj3 h => ?_)
 ·apply seqQ_n
  refine AWp.ghost hmat ?_
  apply AWp.ret
  obtain rfl:=oi h
  exact rt (kp [(2,_)] [] hB rfl rfl (by rfl)) [(bo m2)] (Res.tmp (by rfl) (by rfl) Res.nil) rfl
 ·rcases bft a0.fV6 with hg4 | hg4
  ·have h:=ite_t hg4 h
   apply rg (c (fo 1001 0 [0] hN underlying44 0 tyS4 (q 1)) rfl (c (la hN 44 tyS4 (q 3)) rfl (c (OpJ.val (v':=.d (.bool true)) (by rw [hg4]<;>rfl) (mv hN (q 4))) rfl (ks 5 (L rfl) (ks 5 (L rfl) (ks 5 (L rfl) (ks 5 (L rfl) (cg (sV 9 (L rfl)) rfl (cg (sV 9 (L rfl)) rfl (cg (sV 9 (L rfl)) rfl (ks 5 (L rfl) (c (pickT (L rfl) (q 5) (Opd.bool true)) rfl (c (assign (L rfl) (q 14)) rfl cn)))))))))))))
   exact hjj3 _ h _ _ (mp [] _ _ hB)
  ·have h:=ite_f hg4 h
   apply rg (c (fo 1001 0 [0] hN underlying44 0 tyS4 (q 1)) rfl (c (la hN 44 tyS4 (q 3)) rfl (c (OpJ.val (v':=.d (.bool false)) (by rw [hg4]<;>rfl) (mv hN (q 4))) rfl (c (gd 5 (fo 1001 1 [1] hN underlying44 1 tyS42 (q 1))) rfl (c (gd 5 (la hN 44 tyS42 (q 6))) rfl (c (gd 5 (eqlI (L rfl) (q 7) (Opd.int .u64 (0)))) rfl (c (gd 5 (mv hN (q 8))) rfl (c (oq hN 9 (fo 1001 2 [2] hN underlying44 2 tyS42 (q 1)) (OptL.keep (by rfl) OptL.nil) (GuardV.plain _)) rfl (c (oq hN 9 (la hN 44 tyS42 (q 10)) (OptL.opt OptL.nil) (GuardV.plain _)) rfl (c (oq hN 9 (lss (L rfl) (q 11) (Opd.int .u64 (4294967296))) (OptL.opt OptL.nil) (GuardV.plain _)) rfl (c (gd 5 (pickAnd rfl (L rfl) (q 9) (q 12))) rfl (c (pickF (L rfl) (q 5) (q 13)) rfl (c (assign (L rfl) (q 14)) rfl cn)))))))))))))
   exact hjj3 _ h _ _ (mp [] _ _ hB)
def xref02_width (a0:aAddr):Option (Int) :=
 (if a0.fV6=true then
 some 128
 else
 some 32)
theorem xref02_width_ac (a0:aAddr) (r:Int) (h:xref02_width a0=some r):AC Tryz.prog 77 [(.d (e_aAddr a0))] [] (.d (.int .i64 r)) []:=by
 refine AC.of_code2 Tryz.func77 rfl rfl (Nat.le_of_ble_eq_true (by rfl)) fun B hB hN => ?_
 delta xref02_width at h
 apply sr (cg (OpJ.box hB (nm:=1001) (by decide) (by simp) rfl (ltN hN rfl) (q 0)) rfl (c (assign (ltN hN rfl) (ii 0)) rfl cn))
 apply AWp.seq
 apply sr (c (fo 1001 0 [0] hN underlying44 0 tyS4 (q 1)) rfl (c (la hN 44 tyS4 (q 3)) rfl cn))
 apply AWp.cond rfl<;>intro hg1
 ·have h:=ite_t hg1 h
  apply sr (c (assign (ltN hN rfl) (ii 128)) rfl cn)
  apply AWp.ret
  apply seqQ_r
  obtain rfl:=oi h
  exact rt (kp [(2,_)] [] hB rfl rfl (by rfl)) [(i6 128)] (Res.tmp (by rfl) (by rfl) Res.nil) rfl
 ·have h:=ite_f hg1 h
  apply AWp.skip
  apply seqQ_n
  apply sr (c (assign (ltN hN rfl) (ii 32)) rfl cn)
  apply AWp.ret
  obtain rfl:=oi h
  exact rt (kp [(2,_)] [] hB rfl rfl (by rfl)) [(i6 32)] (Res.tmp (by rfl) (by rfl) Res.nil) rfl
def xref01_Bytes_L0 (a0:aAddr) (s6:Int×(List Int)):Option ((((List Int)))⊕(Int×(List Int))) :=
 (if (decide (0≤s6.1))=true then
 jn (fun m22:Int =>
 chk (decide ((s6.2++([(IntKind.u8.wrap (shrI .u64 m22 (IntKind.u64.wrap (8*(IntKind.u64.wrap (Int.tmod s6.1 8))))))]:List Int)).length≤LIM)) <|
 some (.inr ((w64 (s6.1-1)),(s6.2++([(IntKind.u8.wrap (shrI .u64 m22 (IntKind.u64.wrap (8*(IntKind.u64.wrap (Int.tmod s6.1 8))))))]:List Int))))) (fun j23 =>
 (if (decide (8≤s6.1))=true then
 j23 a0.fHi
 else
 j23 a0.fLo))
 else
 some (.inl s6.2))
def xref01_Bytes (a0:aAddr):Option ((List Int)) :=
 (xref01_Valid a0).bind fun r1 =>
 (if (!r1)=true then
 some ([]:List Int)
 else
 jn (fun m4:Int =>
 (loop (xref01_Bytes_L0 a0) ((w64 (m4-1)),([]:List Int))).bind fun p19 =>
 some p19) (fun j5 =>
 (if a0.fV6=true then
 j5 16
 else
 j5 4)))
theorem xref01_Bytes_ac (a0:aAddr) (r:(List Int)) (h:xref01_Bytes a0=some r):AC Tryz.prog 78 [(.d (e_aAddr a0))] [] (.d (.list 1 (r.map (eI .u8)))) []:=by
 refine ac2 Tryz.func78 rfl rfl fun B hB hN L => ?_
 delta xref01_Bytes at h
 apply sr (cg (OpJ.box hB (nm:=1001) (by decide) (by simp) rfl (L rfl) (q 0)) rfl (c (assign (L rfl) Opd.nils) rfl cn))
 apply AWp.seq
 obtain⟨r1,hr1,h⟩:=bindS h
 apply sr (c (lb hN 44 _ _ tyS44 (At.here _) (q 1)) rfl (cg (cf hB fnOk68 (xref01_Valid_ac a0 r1 hr1) (L rfl) (OpdL.cons (q 7) OpdL.nil)) rfl (c (OpJ.not (L rfl) (q 8)) rfl cn)))
 apply AWp.cond rfl<;>intro hg2
 ·have h:=ite_t hg2 h
  apply sr (c (assign (L rfl) Opd.nils) rfl cn)
  apply AWp.ret
  apply seqQ_r
  obtain rfl:=oi h
  exact rt (Mat.trans (Mat.coeP (Ts:=[(2,(.d (.list 1 (([]:List Int).map (eI .u8)))))]) (Bs:=[]) (TwT.cons (x:=.nils) (by rfl) (Tw.leaf ⟨_,(Co.nils 1),rfl⟩) TwT.nil) TwB.nil) (mp [] [(2,(.d (.list 1 (([]:List Int).map (eI .u8)))))] [] hB)) [(.d (.list 1 (([]:List Int).map (eI .u8))))] (Res.tmp (by rfl) (by rfl) Res.nil) rfl
 ·have h:=ite_f hg2 h
  apply AWp.skip
  apply seqQ_n
  apply sr (c (assign (L rfl) (ii 4)) rfl cn)
  apply AWp.seq
  apply sr (c (fo 1001 0 [0] hN underlying44 0 tyS4 (q 1)) rfl (c (la hN 44 tyS4 (q 10)) rfl cn))
  refine gh [(1,_),(3,_),(11,_)] [(1001,some _)] hB rfl rfl (by rfl) ?_
  refine AWp.cut h (fun m4:Int=>([(1,(pt 1001)),(3,(i6 m4))]:EL)) (fun m4:Int=>([(1001,bd 44 (e_aAddr a0))]:OL)) (fun m4 h E' O' hmat => ?_) (fun j5 hjj5 h => ?_)
  ·apply seqQ_n
   refine AWp.ghost hmat ?_
   apply sr (c (assign (L rfl) Opd.nils) rfl cn)
   apply AWp.seq
   apply sr (c (mv hN (q 3)) rfl (c (sub6 (L rfl) (q 12) (ii 1)) rfl (c (assign (L rfl) (q 13)) rfl cn)))
   apply AWp.block
   obtain⟨p19,hx27,h⟩:=bindS h
   refine lg (xref01_Bytes_L0 a0) (fun s6:Int×(List Int)=>([(1,(pt 1001)),(4,(.sref 3004 1 0 s6.2.length)),(5,(i6 s6.1))]:EL)) (fun s6:Int×(List Int)=>([(1001,bd 44 (e_aAddr a0)),(3004,some (.row 5 1 (s6.2.map (eI .u8))))]:OL)) (fun(p19:((List Int))) e E' O'=>e = .exit 0∧Mat B E' O' ([(4,(.sref 3004 1 0 p19.length))]:EL) ([(3004,some (.row 5 1 (p19.map (eI .u8))))]:OL)) hx27 (Mat.trans (Mat.beginP (n:=3004) (e:=5) (sz:=1) (Ts:=[(4,(.sref 3004 1 0 0))]) (Bs:=[]) hB (by decide) (by rfl) (by decide) (TwT.cons (x:=.nils) (by rfl) (Tw.leaf ⟨rfl,rfl⟩) TwT.nil) TwB.nil) (mp [] _ _ hB)) (fun s6 y h => ?_) (fun e E' O' hR => ?_)
   ·unfold xref01_Bytes_L0 at h
    apply AWp.seq
    apply sr (c (mv hN (q 5)) rfl (c (geq (L rfl) (q 14) (ii 0)) rfl cn))
    apply AWp.cond rfl<;>intro hg20
    ·have h:=ite_t hg20 h
     apply AWp.skip
     apply seqQ_n
     apply AWp.seq
     apply AWp.block
     apply sr (c (fo 1001 2 [2] hN underlying44 2 tyS42 (q 1)) rfl (c (la hN 44 tyS42 (q 18)) rfl (c (assign (L rfl) (q 19)) rfl cn)))
     apply AWp.seq
     apply sr (c (mv hN (q 5)) rfl (c (geq (L rfl) (q 20) (ii 8)) rfl cn))
     refine gh [(1,_),(4,_),(5,_),(6,_),(21,_)] [(1001,some _),(3004,some _)] hB rfl rfl (by rfl) ?_
     refine AWp.cut h (fun m22:Int=>([(1,(pt 1001)),(4,(.sref 3004 1 0 s6.2.length)),(5,(i6 s6.1)),(6,(.d (.int .u64 m22)))]:EL)) (fun m22:Int=>([(1001,bd 44 (e_aAddr a0)),(3004,some (.row 5 1 (s6.2.map (eI .u8))))]:OL)) (fun m22 h E' O' hmat => ?_) (fun j23 hjj23 h => ?_)
     ·apply seqQ_n
      refine AWp.ghost hmat ?_
      obtain⟨hc24,h⟩:=chk_some h
      apply rg (c (mv hN (q 4)) rfl (c (mv hN (q 6)) rfl (c (mv hN (q 5)) rfl (c (OpJ.rem (L rfl) (q 26) (ii 8) (by decide)) rfl (c (OpJ.conv underlying3 underlying73 (L rfl) (q 27)) rfl (c (OpJ.mul (L rfl) (Opd.int .u64 (8)) (q 28)) rfl (c (OpJ.shr (L rfl) (q 25) (q 29) (wrap_nonneg rfl _)) rfl (c (OpJ.conv underlying42 underlying5 (L rfl) (q 30)) rfl (c (buildSlice underlying130 tyS5 tyZD5 (by rfl) (by decide) (by decide) (Opds.cons (q 31) Opds.nil) (by kernel_rfl) (es:=([(.int .u8 (IntKind.u8.wrap (shrI .u64 m22 (IntKind.u64.wrap (8*(IntKind.u64.wrap (Int.tmod s6.1 8)))))))]:List D)) (by rfl) (by rfl) (by kernel_rfl) (by simp) (L rfl)) rfl (cg (apd hB underlying130 tyE5 1033 (eI .u8) s6.2 ([(IntKind.u8.wrap (shrI .u64 m22 (IntKind.u64.wrap (8*(IntKind.u64.wrap (Int.tmod s6.1 8))))))]:List Int) hc24 (L rfl) (q 24) (q 32)) rfl (c (assign (L rfl) (q 33)) rfl cn)))))))))))
      apply blkQ_n
      apply seqQ_n
      apply rg (c (mv hN (q 5)) rfl (c (sub6 (L rfl) (q 16) (ii 1)) rfl (c (assign (L rfl) (q 17)) rfl cn)))
      obtain rfl:=oi h
      exact⟨rfl,(mp [(3004,1033)] _ _ hB)⟩
     ·apply AWp.cond rfl<;>intro hg25
      ·have h:=ite_t hg25 h
       apply rg (c (fo 1001 1 [1] hN underlying44 1 tyS42 (q 1)) rfl (c (la hN 44 tyS42 (q 22)) rfl (c (assign (L rfl) (q 23)) rfl cn)))
       exact hjj23 _ h _ _ (mp [] _ _ hB)
      ·have h:=ite_f hg25 h
       apply AWp.skip
       exact hjj23 _ h _ _ (mp [] _ _ hB)
    ·have h:=ite_f hg20 h
     apply AWp.exit
     apply seqQ_e
     obtain rfl:=oi h
     exact⟨(fun hc=>by cases hc),rfl,(mp [] _ _ hB)⟩
   ·obtain⟨rfl,hmat⟩:=hR
    apply blkQ_hit
    apply seqQ_n
    refine AWp.ghost hmat ?_
    apply sr (c (mv hN (q 4)) rfl (c (assign (L rfl) (q 34)) rfl cn))
    apply AWp.ret
    obtain rfl:=oi h
    exact rt (Mat.trans (Mat.freezeP (n:=3004) (e:=5) (sz:=1) (es:=p19.map (eI .u8)) (Ts:=[(2,(.d (.list 1 (p19.map (eI .u8)))))]) (Bs:=[]) (by rfl) (TwT.cons (x:=(.sref 3004 1 0 p19.length)) (by rfl) (FrzL.all (by first | rfl | (simp;done) | (simp;omega) | omega)) TwT.nil) TwB.nil) (mp [] [(2,(.d (.list 1 (p19.map (eI .u8)))))] [] hB)) [(.d (.list 1 (p19.map (eI .u8))))] (Res.tmp (by rfl) (by rfl) Res.nil) rfl
  ·apply AWp.cond rfl<;>intro hg28
   ·have h:=ite_t hg28 h
    apply rg (c (assign (L rfl) (ii 16)) rfl cn)
    exact hjj5 _ h _ _ (mp [] _ _ hB)
   ·have h:=ite_f hg28 h
    apply AWp.skip
    exact hjj5 _ h _ _ (mp [] _ _ hB)
def xref01_Bytes_2_L0 (a0:aAddr) (s6:Int×(List Int)):Option ((((List Int)))⊕(Int×(List Int))) :=
 (if (decide (0≤s6.1))=true then
 jn (fun m22:Int =>
 chk (decide ((s6.2++([(IntKind.u8.wrap (shrI .u64 m22 (IntKind.u64.wrap (8*(IntKind.u64.wrap (Int.tmod s6.1 8))))))]:List Int)).length≤LIM)) <|
 some (.inr ((w64 (s6.1-1)),(s6.2++([(IntKind.u8.wrap (shrI .u64 m22 (IntKind.u64.wrap (8*(IntKind.u64.wrap (Int.tmod s6.1 8))))))]:List Int))))) (fun j23 =>
 (if (decide (8≤s6.1))=true then
 j23 a0.fHi
 else
 j23 a0.fLo))
 else
 some (.inl s6.2))
def xref01_Bytes_2 (a0:aAddr):Option ((List Int)) :=
 (xref01_Valid a0).bind fun r1 =>
 (if (!r1)=true then
 some ([]:List Int)
 else
 jn (fun m4:Int =>
 (loop (xref01_Bytes_2_L0 a0) ((w64 (m4-1)),([]:List Int))).bind fun p19 =>
 some p19) (fun j5 =>
 (if a0.fV6=true then
 j5 16
 else
 j5 4)))
theorem xref01_Bytes_2_ac (a0:aAddr) (r:(List Int)) (h:xref01_Bytes_2 a0=some r):AC Tryz.prog 78 [(.d (e_aAddr a0))] [] (.sref 900000 1 0 r.length) [(900000,some (.row 5 1 (r.map (eI .u8))))]:=by
 refine ac2 Tryz.func78 rfl rfl fun B hB hN L => ?_
 delta xref01_Bytes_2 at h
 apply sr (cg (OpJ.box hB (nm:=1001) (by decide) (by simp) rfl (L rfl) (q 0)) rfl (c (assign (L rfl) Opd.nils) rfl cn))
 apply AWp.seq
 obtain⟨r1,hr1,h⟩:=bindS h
 apply sr (c (lb hN 44 _ _ tyS44 (At.here _) (q 1)) rfl (cg (cf hB fnOk68 (xref01_Valid_ac a0 r1 hr1) (L rfl) (OpdL.cons (q 7) OpdL.nil)) rfl (c (OpJ.not (L rfl) (q 8)) rfl cn)))
 apply AWp.cond rfl<;>intro hg2
 ·have h:=ite_t hg2 h
  apply sr (c (assign (L rfl) Opd.nils) rfl cn)
  apply AWp.ret
  apply seqQ_r
  obtain rfl:=oi h
  exact rt (Mat.trans (Mat.beginP (n:=900500) (e:=5) (sz:=1) (Ts:=[(2,(.sref 900500 1 0 0))]) (Bs:=[]) hB (by decide) (by rfl) (by decide) (TwT.cons (x:=.nils) (by rfl) (Tw.leaf ⟨rfl,rfl⟩) TwT.nil) TwB.nil) (Mat.trans (Mat.lenP (Ts:=[(2,(.sref 900500 1 0 (([]:List Int).length)))]) (Bs:=[]) (TwT.cons (x:=(.sref 900500 1 0 0)) (by rfl) (Tw.leaf ⟨_,_,_,_,_,rfl,rfl,(by first | rfl | (simp;done) | (simp;omega) | omega)⟩) TwT.nil) TwB.nil) (mp [(900000,900500)] [(2,(.sref 900000 1 0 (([]:List Int).length)))] [(900000,some (.row 5 1 (([]:List Int).map (eI .u8))))] hB))) [(.sref 900000 1 0 (([]:List Int).length))] (Res.tmp (by rfl) (by rfl) Res.nil) rfl
 ·have h:=ite_f hg2 h
  apply AWp.skip
  apply seqQ_n
  apply sr (c (assign (L rfl) (ii 4)) rfl cn)
  apply AWp.seq
  apply sr (c (fo 1001 0 [0] hN underlying44 0 tyS4 (q 1)) rfl (c (la hN 44 tyS4 (q 10)) rfl cn))
  refine gh [(1,_),(3,_),(11,_)] [(1001,some _)] hB rfl rfl (by rfl) ?_
  refine AWp.cut h (fun m4:Int=>([(1,(pt 1001)),(3,(i6 m4))]:EL)) (fun m4:Int=>([(1001,bd 44 (e_aAddr a0))]:OL)) (fun m4 h E' O' hmat => ?_) (fun j5 hjj5 h => ?_)
  ·apply seqQ_n
   refine AWp.ghost hmat ?_
   apply sr (c (assign (L rfl) Opd.nils) rfl cn)
   apply AWp.seq
   apply sr (c (mv hN (q 3)) rfl (c (sub6 (L rfl) (q 12) (ii 1)) rfl (c (assign (L rfl) (q 13)) rfl cn)))
   apply AWp.block
   obtain⟨p19,hx27,h⟩:=bindS h
   refine lg (xref01_Bytes_2_L0 a0) (fun s6:Int×(List Int)=>([(1,(pt 1001)),(4,(.sref 3004 1 0 s6.2.length)),(5,(i6 s6.1))]:EL)) (fun s6:Int×(List Int)=>([(1001,bd 44 (e_aAddr a0)),(3004,some (.row 5 1 (s6.2.map (eI .u8))))]:OL)) (fun(p19:((List Int))) e E' O'=>e = .exit 0∧Mat B E' O' ([(4,(.sref 3004 1 0 p19.length))]:EL) ([(3004,some (.row 5 1 (p19.map (eI .u8))))]:OL)) hx27 (Mat.trans (Mat.beginP (n:=3004) (e:=5) (sz:=1) (Ts:=[(4,(.sref 3004 1 0 0))]) (Bs:=[]) hB (by decide) (by rfl) (by decide) (TwT.cons (x:=.nils) (by rfl) (Tw.leaf ⟨rfl,rfl⟩) TwT.nil) TwB.nil) (mp [] _ _ hB)) (fun s6 y h => ?_) (fun e E' O' hR => ?_)
   ·unfold xref01_Bytes_2_L0 at h
    apply AWp.seq
    apply sr (c (mv hN (q 5)) rfl (c (geq (L rfl) (q 14) (ii 0)) rfl cn))
    apply AWp.cond rfl<;>intro hg20
    ·have h:=ite_t hg20 h
     apply AWp.skip
     apply seqQ_n
     apply AWp.seq
     apply AWp.block
     apply sr (c (fo 1001 2 [2] hN underlying44 2 tyS42 (q 1)) rfl (c (la hN 44 tyS42 (q 18)) rfl (c (assign (L rfl) (q 19)) rfl cn)))
     apply AWp.seq
     apply sr (c (mv hN (q 5)) rfl (c (geq (L rfl) (q 20) (ii 8)) rfl cn))
     refine gh [(1,_),(4,_),(5,_),(6,_),(21,_)] [(1001,some _),(3004,some _)] hB rfl rfl (by rfl) ?_
     refine AWp.cut h (fun m22:Int=>([(1,(pt 1001)),(4,(.sref 3004 1 0 s6.2.length)),(5,(i6 s6.1)),(6,(.d (.int .u64 m22)))]:EL)) (fun m22:Int=>([(1001,bd 44 (e_aAddr a0)),(3004,some (.row 5 1 (s6.2.map (eI .u8))))]:OL)) (fun m22 h E' O' hmat => ?_) (fun j23 hjj23 h => ?_)
     ·apply seqQ_n
      refine AWp.ghost hmat ?_
      obtain⟨hc24,h⟩:=chk_some h
      apply rg (c (mv hN (q 4)) rfl (c (mv hN (q 6)) rfl (c (mv hN (q 5)) rfl (c (OpJ.rem (L rfl) (q 26) (ii 8) (by decide)) rfl (c (OpJ.conv underlying3 underlying73 (L rfl) (q 27)) rfl (c (OpJ.mul (L rfl) (Opd.int .u64 (8)) (q 28)) rfl (c (OpJ.shr (L rfl) (q 25) (q 29) (wrap_nonneg rfl _)) rfl (c (OpJ.conv underlying42 underlying5 (L rfl) (q 30)) rfl (c (buildSlice underlying130 tyS5 tyZD5 (by rfl) (by decide) (by decide) (Opds.cons (q 31) Opds.nil) (by kernel_rfl) (es:=([(.int .u8 (IntKind.u8.wrap (shrI .u64 m22 (IntKind.u64.wrap (8*(IntKind.u64.wrap (Int.tmod s6.1 8)))))))]:List D)) (by rfl) (by rfl) (by kernel_rfl) (by simp) (L rfl)) rfl (cg (apd hB underlying130 tyE5 1033 (eI .u8) s6.2 ([(IntKind.u8.wrap (shrI .u64 m22 (IntKind.u64.wrap (8*(IntKind.u64.wrap (Int.tmod s6.1 8))))))]:List Int) hc24 (L rfl) (q 24) (q 32)) rfl (c (assign (L rfl) (q 33)) rfl cn)))))))))))
      apply blkQ_n
      apply seqQ_n
      apply rg (c (mv hN (q 5)) rfl (c (sub6 (L rfl) (q 16) (ii 1)) rfl (c (assign (L rfl) (q 17)) rfl cn)))
      obtain rfl:=oi h
      exact⟨rfl,(mp [(3004,1033)] _ _ hB)⟩
     ·apply AWp.cond rfl<;>intro hg25
      ·have h:=ite_t hg25 h
       apply rg (c (fo 1001 1 [1] hN underlying44 1 tyS42 (q 1)) rfl (c (la hN 44 tyS42 (q 22)) rfl (c (assign (L rfl) (q 23)) rfl cn)))
       exact hjj23 _ h _ _ (mp [] _ _ hB)
      ·have h:=ite_f hg25 h
       apply AWp.skip
       exact hjj23 _ h _ _ (mp [] _ _ hB)
    ·have h:=ite_f hg20 h
     apply AWp.exit
     apply seqQ_e
     obtain rfl:=oi h
     exact⟨(fun hc=>by cases hc),rfl,(mp [] _ _ hB)⟩
   ·obtain⟨rfl,hmat⟩:=hR
    apply blkQ_hit
    apply seqQ_n
    refine AWp.ghost hmat ?_
    apply sr (c (mv hN (q 4)) rfl (c (assign (L rfl) (q 34)) rfl cn))
    apply AWp.ret
    obtain rfl:=oi h
    exact rt (mp [(900000,3004)] [(2,(.sref 900000 1 0 p19.length))] [(900000,some (.row 5 1 (p19.map (eI .u8))))] hB) [(.sref 900000 1 0 p19.length)] (Res.tmp (by rfl) (by rfl) Res.nil) rfl
  ·apply AWp.cond rfl<;>intro hg28
   ·have h:=ite_t hg28 h
    apply rg (c (assign (L rfl) (ii 16)) rfl cn)
    exact hjj5 _ h _ _ (mp [] _ _ hB)
   ·have h:=ite_f hg28 h
    apply AWp.skip
    exact hjj5 _ h _ _ (mp [] _ _ hB)
def xref01_FromBytes_L0 (a0:(List Int)) (s2:Int×Int×Int):Option (((Int×Int))⊕(Int×Int×Int)) :=
 (if (decide (s2.1<(a0.length:Int)))=true then
 (idx a0 s2.1).bind fun x9 =>
 some (.inr ((w64 (s2.1+1)),(bitI .or .u64 (shlI .u64 s2.2.1 8) (shrI .u64 s2.2.2 56)),(bitI .or .u64 (shlI .u64 s2.2.2 8) (IntKind.u64.wrap x9))))
 else
 some (.inl (s2.2.1,s2.2.2)))
def xref01_FromBytes (a0:(List Int)):Option (aAddr×Int) :=
 (if (((a0.length:Int) != 4)&&((a0.length:Int) != 16))=true then
 some ((aAddr.mk false 0 0),1)
 else
 (loop (xref01_FromBytes_L0 a0) (0,0,0)).bind fun p7 =>
 some ((aAddr.mk ((a0.length:Int)==16) p7.1 p7.2),0))
theorem xref01_FromBytes_ac (a0:(List Int)) (r:aAddr×Int) (h:xref01_FromBytes a0=some r):AC Tryz.prog 79 [(.d (.list 1 (a0.map (eI .u8))))] [] (.tup [(.d (e_aAddr r.1)),(.d (.int .i64 r.2))]) []:=by
 refine ac2 Tryz.func79 rfl rfl fun B hB hN L => ?_
 delta xref01_FromBytes at h
 apply sr (cg (alloc hB tyZ44 (nm:=1002) (by decide) (L rfl)) rfl (c (assign (L rfl) (ii 0)) rfl cn))
 apply AWp.seq
 apply sr (c (mv hN (q 0)) rfl (c (OpJ.val (v':=(i6 (a0.length:Int))) (by simp) (lenD underlying130 (L rfl) (q 7))) rfl (c (neqI (L rfl) (q 8) (ii 4)) rfl (c (mv hN (q 9)) rfl (c (oq hN 10 (mv hN (q 0)) (OptL.keep (by rfl) OptL.nil) (GuardV.plain _)) rfl (c (oq hN 10 (OpJ.val (v':=(i6 (a0.length:Int))) (by simp) (lenD underlying130 (L rfl) (q 11))) (OptL.opt OptL.nil) (GuardV.plain _)) rfl (c (oq hN 10 (neqI (L rfl) (q 12) (ii 16)) (OptL.opt OptL.nil) (GuardV.plain _)) rfl (c (pickAnd rfl (L rfl) (q 10) (q 13)) rfl cn))))))))
 apply AWp.cond rfl<;>intro hg1
 ·have h:=ite_t hg1 h
  apply sr (c (OpJ.coe (v:=(.st [(bo false),(.d (.int .u64 0)),(.d (.int .u64 0))])) (y:=(.st [(.bool false),(.int .u64 0),(.int .u64 0)])) (Co.st (CoL.cons (Co.d _) (CoL.cons (Co.d _) (CoL.cons (Co.d _) CoL.nil)))) rfl (OpJ.build (places:=[(0,1),(1,1),(2,1)]) ⟨underlying44,fun w=>by kernel_rfl⟩ tyZS44 Opds.nil (by kernel_rfl) (r:=(.st [(bo false),(.d (.int .u64 0)),(.d (.int .u64 0))])) (by rfl) (L rfl))) rfl (cg (sB tyS44 (q 2) (q 15)) rfl (c (assign (L rfl) (ii 1)) rfl cn)))
  apply AWp.ret
  apply seqQ_r
  obtain rfl:=oi h
  exact rt (kp [(2,_),(3,_)] [(1002,some _)] hB rfl rfl (by rfl)) [(.d (.st [(.bool false),(.int .u64 0),(.int .u64 0)])),(i6 1)] (Res.cell (c:=(.d (.st [(.bool false),(.int .u64 0),(.int .u64 0)]))) (by rfl) (by rfl) tyS44 (by rfl) (by rfl) (by rfl) (Res.tmp (by rfl) (by rfl) Res.nil)) rfl
 ·have h:=ite_f hg1 h
  apply AWp.skip
  apply seqQ_n
  apply sr (c (mv hN (q 0)) rfl (c (OpJ.val (v':=(i6 (a0.length:Int))) (by simp) (lenD underlying130 (L rfl) (q 16))) rfl (c (eqlI (L rfl) (q 17) (ii 16)) rfl (c (OpJ.coe (v:=(.st [(bo ((a0.length:Int)==16)),(.d (.int .u64 0)),(.d (.int .u64 0))])) (y:=(.st [(.bool ((a0.length:Int)==16)),(.int .u64 0),(.int .u64 0)])) (Co.st (CoL.cons (Co.d _) (CoL.cons (Co.d _) (CoL.cons (Co.d _) CoL.nil)))) rfl (OpJ.build (places:=[(0,1),(1,1),(2,1)]) ⟨underlying44,fun w=>by kernel_rfl⟩ tyZS44 (Opds.cons (q 18) Opds.nil) (by kernel_rfl) (r:=(.st [(bo ((a0.length:Int)==16)),(.d (.int .u64 0)),(.d (.int .u64 0))])) (by rfl) (L rfl))) rfl (cg (alloc hB tyZ44 (nm:=1004) (by decide) (L rfl)) rfl (cg (sB tyS44 (q 4) (q 19)) rfl cn))))))
  apply AWp.seq
  apply sr (c (mv hN (q 0)) rfl (c (OpJ.val (v':=(i6 (a0.length:Int))) (by simp) (lenD underlying130 (L rfl) (q 20))) rfl (c (mv hN (ii 0)) rfl cn)))
  apply AWp.block
  obtain⟨p7,hx11,h⟩:=bindS h
  refine lg (xref01_FromBytes_L0 a0) (fun s2:Int×Int×Int=>([(2,(pt 1002)),(4,(pt 1004)),(20,(.d (.list 1 (a0.map (eI .u8))))),(21,(i6 (a0.length:Int))),(22,(i6 s2.1))]:EL)) (fun s2:Int×Int×Int=>([(1002,bd 44 (.st [(.bool false),(.int .u64 0),(.int .u64 0)])),(1004,bd 44 (.st [(.bool ((a0.length:Int)==16)),(.int .u64 s2.2.1),(.int .u64 s2.2.2)]))]:OL)) (fun(p7:(Int×Int)) e E' O'=>e = .exit 0∧Mat B E' O' ([(2,(pt 1002)),(4,(pt 1004))]:EL) ([(1002,bd 44 (.st [(.bool false),(.int .u64 0),(.int .u64 0)])),(1004,bd 44 (.st [(.bool ((a0.length:Int)==16)),(.int .u64 p7.1),(.int .u64 p7.2)]))]:OL)) hx11 (mp [] _ _ hB) (fun s2 y h => ?_) (fun e E' O' hR => ?_)
  ·unfold xref01_FromBytes_L0 at h
   apply sr (c (lss (L rfl) (q 22) (q 21)) rfl cn)
   apply AWp.seq
   apply AWp.cond rfl<;>intro hg8
   ·have h:=ite_t hg8 h
    apply AWp.skip
    apply seqQ_n
    apply AWp.seq
    apply AWp.block
    obtain⟨x9,hx9,h⟩:=bindS h
    apply sr (c (indexD underlying130 tyS5 (idx_some hx9).1 (get_map (eI .u8) (idx_some hx9).2) (L rfl) (q 20) (q 22)) rfl (c (loadD tyS5 (by rfl) (by rfl) (L rfl) (q 24)) rfl (c (assign (L rfl) (q 25)) rfl cn)))
    apply sr (c (fo 1004 1 [1] hN underlying44 1 tyS42 (q 4)) rfl (c (la hN 44 tyS42 (q 26)) rfl (c (OpJ.shl (L rfl) (q 27) (Opd.int .u64 (8)) (by decide)) rfl (c (fo 1004 2 [2] hN underlying44 2 tyS42 (q 4)) rfl (c (la hN 44 tyS42 (q 29)) rfl (c (OpJ.shr (L rfl) (q 30) (Opd.int .u64 (56)) (by decide)) rfl (c (OpJ.bits (.inr (.inl rfl)) (L rfl) (q 28) (q 31)) rfl (c (fo 1004 1 [1] hN underlying44 1 tyS42 (q 4)) rfl (cg (OpJ.storeB tyS42 (SetAt.dst1 (by rfl) (by rfl) (SetAt.here _ _) (by rfl) (by rfl) (by first | rfl | omega)) (by rfl) (by rfl) (by simp) rfl (q 33) (q 32)) rfl cn)))))))))
    apply rg (c (fo 1004 2 [2] hN underlying44 2 tyS42 (q 4)) rfl (c (la hN 44 tyS42 (q 34)) rfl (c (OpJ.shl (L rfl) (q 35) (Opd.int .u64 (8)) (by decide)) rfl (c (mv hN (q 6)) rfl (c (OpJ.conv underlying5 underlying42 (L rfl) (q 37)) rfl (c (OpJ.bits (.inr (.inl rfl)) (L rfl) (q 36) (q 38)) rfl (c (fo 1004 2 [2] hN underlying44 2 tyS42 (q 4)) rfl (cg (OpJ.storeB tyS42 (SetAt.dst1 (by rfl) (by rfl) (SetAt.here _ _) (by rfl) (by rfl) (by first | rfl | omega)) (by rfl) (by rfl) (by simp) rfl (q 40) (q 39)) rfl cn))))))))
    apply blkQ_n
    apply seqQ_n
    apply rg (c (add6 (L rfl) (q 22) (ii 1)) rfl (c (mv hN (q 41)) rfl cn))
    obtain rfl:=oi h
    exact⟨rfl,(mp [] _ _ hB)⟩
   ·have h:=ite_f hg8 h
    apply AWp.exit
    apply seqQ_e
    obtain rfl:=oi h
    exact⟨(fun hc=>by cases hc),rfl,(mp [] _ _ hB)⟩
  ·obtain⟨rfl,hmat⟩:=hR
   apply blkQ_hit
   apply seqQ_n
   refine AWp.ghost hmat ?_
   apply sr (c (lb hN 44 _ _ tyS44 (At.here _) (q 4)) rfl (cg (sB tyS44 (q 2) (q 42)) rfl (c (assign (L rfl) (ii 0)) rfl cn)))
   apply AWp.ret
   obtain rfl:=oi h
   exact rt (kp [(2,_),(3,_)] [(1002,some _)] hB rfl rfl (by rfl)) [(.d (.st [(.bool ((a0.length:Int)==16)),(.int .u64 p7.1),(.int .u64 p7.2)])),(i6 0)] (Res.cell (c:=(.d (.st [(.bool ((a0.length:Int)==16)),(.int .u64 p7.1),(.int .u64 p7.2)]))) (by rfl) (by rfl) tyS44 (by rfl) (by rfl) (by rfl) (Res.tmp (by rfl) (by rfl) Res.nil)) rfl
def xref02_Make_L0 (s9:Int×(List Int)):Option ((((List Int)))⊕(Int×(List Int))) :=
 (if (decide (s9.1<(w64 (8*(s9.2.length:Int)))))=true then
 (idx s9.2 (w64 (Int.tdiv s9.1 8))).bind fun x22 =>
 (idx s9.2 (w64 (Int.tdiv s9.1 8))).bind fun x23 =>
 (idx s9.2 (w64 (Int.tdiv s9.1 8))).bind fun x24 =>
 (idx s9.2 (w64 (Int.tdiv s9.1 8))).bind fun x25 =>
 some (.inr ((w64 (s9.1+1)),(s9.2.set (w64 (Int.tdiv s9.1 8)).toNat (bitI .andNot .u8 x23 (shrI .u8 128 (IntKind.u64.wrap (Int.tmod s9.1 8)))))))
 else
 some (.inl s9.2))
def xref02_Make (a0:aAddr) (a1:Int):Option (aPrefix×Int) :=
 (xref01_Valid a0).bind fun r1 =>
 (if (!r1)=true then
 some ((aPrefix.mk (aAddr.mk false 0 0) 0),1)
 else
 jn (fun m5:Bool =>
 (if m5=true then
 some ((aPrefix.mk (aAddr.mk false 0 0) 0),9)
 else
 (xref01_Bytes_2 a0).bind fun r8 =>
 (loop (xref02_Make_L0) (a1,r8)).bind fun p20 =>
 (xref01_FromBytes p20).bind fun r28 =>
 some ((aPrefix.mk r28.1 a1),0))) (fun j6 =>
 (if (decide (a1<0))=true then
 j6 true
 else
 (xref02_width a0).bind fun r30 =>
 j6 (decide (r30<a1)))))
theorem xref02_Make_ac (a0:aAddr) (a1:Int) (r:aPrefix×Int) (h:xref02_Make a0 a1=some r):AC Tryz.prog 44 [(.d (e_aAddr a0)),(.d (.int .i64 a1))] [] (.tup [(.d (e_aPrefix r.1)),(.d (.int .i64 r.2))]) []:=by
 refine ac2 Tryz.func44 rfl rfl fun B hB hN L => ?_
 delta xref02_Make at h
 apply sr (cg (OpJ.box hB (nm:=1002) (by decide) (by simp) rfl (L rfl) (q 0)) rfl (cg (alloc hB tyZ46 (nm:=1004) (by decide) (L rfl)) rfl (c (assign (L rfl) (ii 0)) rfl cn)))
 apply AWp.seq
 apply AWp.block
 obtain⟨r1,hr1,h⟩:=bindS h
 apply sr (c (lb hN 44 _ _ tyS44 (At.here _) (q 2)) rfl (cg (cf hB fnOk68 (xref01_Valid_ac a0 r1 hr1) (L rfl) (OpdL.cons (q 11) OpdL.nil)) rfl (c (OpJ.not (L rfl) (q 12)) rfl (c (assign (L rfl) (q 13)) rfl cn))))
 apply AWp.cond rfl<;>intro hg2
 ·have h:=ite_t hg2 h
  apply sr (c (OpJ.coe (v:=(.st [(.d (.st [(.bool false),(.int .u64 0),(.int .u64 0)])),(i6 0)])) (y:=(.st [(.st [(.bool false),(.int .u64 0),(.int .u64 0)]),(.int .i64 0)])) (Co.st (CoL.cons (Co.d _) (CoL.cons (Co.d _) CoL.nil))) rfl (OpJ.build (places:=[(0,3),(3,1)]) ⟨underlying46,fun w=>by kernel_rfl⟩ tyZS46 Opds.nil (by kernel_rfl) (r:=(.st [(.d (.st [(.bool false),(.int .u64 0),(.int .u64 0)])),(i6 0)])) (by rfl) (L rfl))) rfl (cg (sB tyS46 (q 4) (q 14)) rfl (c (assign (L rfl) (ii 1)) rfl cn)))
  apply AWp.ret
  apply blkQ_r
  apply seqQ_r
  obtain rfl:=oi h
  exact rt (kp [(4,_),(5,_)] [(1004,some _)] hB rfl rfl (by rfl)) [(.d (.st [(.st [(.bool false),(.int .u64 0),(.int .u64 0)]),(.int .i64 0)])),(i6 1)] (Res.cell (c:=(.d (.st [(.st [(.bool false),(.int .u64 0),(.int .u64 0)]),(.int .i64 0)]))) (by rfl) (by rfl) tyS46 (by rfl) (by rfl) (by rfl) (Res.tmp (by rfl) (by rfl) Res.nil)) rfl
 ·have h:=ite_f hg2 h
  apply AWp.seq
  refine AWp.cut h (fun m5:Bool=>([(1,(i6 a1)),(2,(pt 1002)),(4,(pt 1004)),(15,(bo m5))]:EL)) (fun m5:Bool=>([(1002,bd 44 (e_aAddr a0)),(1004,bd 46 (.st [(.st [(.bool false),(.int .u64 0),(.int .u64 0)]),(.int .i64 0)]))]:OL)) (fun m5 h E' O' hmat => ?_) (fun j6 hjj6 h => ?_)
  ·apply seqQ_n
   refine AWp.ghost hmat ?_
   apply AWp.cond rfl<;>intro hg7
   ·have h:=ite_t hg7 h
    apply sr (c (OpJ.coe (v:=(.st [(.d (.st [(.bool false),(.int .u64 0),(.int .u64 0)])),(i6 0)])) (y:=(.st [(.st [(.bool false),(.int .u64 0),(.int .u64 0)]),(.int .i64 0)])) (Co.st (CoL.cons (Co.d _) (CoL.cons (Co.d _) CoL.nil))) rfl (OpJ.build (places:=[(0,3),(3,1)]) ⟨underlying46,fun w=>by kernel_rfl⟩ tyZS46 Opds.nil (by kernel_rfl) (r:=(.st [(.d (.st [(.bool false),(.int .u64 0),(.int .u64 0)])),(i6 0)])) (by rfl) (L rfl))) rfl (cg (sB tyS46 (q 4) (q 24)) rfl (c (assign (L rfl) (ii 9)) rfl cn)))
    apply AWp.ret
    apply blkQ_r
    apply seqQ_r
    obtain rfl:=oi h
    exact rt (kp [(4,_),(5,_)] [(1004,some _)] hB rfl rfl (by rfl)) [(.d (.st [(.st [(.bool false),(.int .u64 0),(.int .u64 0)]),(.int .i64 0)])),(i6 9)] (Res.cell (c:=(.d (.st [(.st [(.bool false),(.int .u64 0),(.int .u64 0)]),(.int .i64 0)]))) (by rfl) (by rfl) tyS46 (by rfl) (by rfl) (by rfl) (Res.tmp (by rfl) (by rfl) Res.nil)) rfl
   ·have h:=ite_f hg7 h
    apply AWp.skip
    apply blkQ_n
    apply seqQ_n
    apply AWp.seq
    obtain⟨r8,hr8,h⟩:=bindS h
    refine AWp.region (oc (lb hN 44 (.d (e_aAddr a0)) (.d (e_aAddr a0)) tyS44 (At.here _) (ot 2 (pt 1002)))
     (oc (OpJ.callFn hB fnOk78 (xref01_Bytes_2_ac a0 r8 hr8) [(900000,100200)] (by kernel_rfl) (L rfl) (by kernel_rfl) (OpdL.cons (ot 25 (.d (e_aAddr a0))) OpdL.nil))
     (oc (assign (L rfl) (ot 26 (.sref 100200 1 0 r8.length)))
     (OpJs.nil)))) (by rfl) (by rfl) ?_
    apply seqQ_n
    refine AWp.ghost (mp [] [(1,(i6 a1)),(4,(pt 1004)),(6,(.sref 100200 1 0 r8.length))] [(1004,bd 46 (.st [(.st [(.bool false),(.int .u64 0),(.int .u64 0)]),(.int .i64 0)])),(100200,some (.row 5 1 (r8.map (eI .u8))))] hB) ?_
    apply AWp.seq
    apply sr (c (mv hN (q 1)) rfl (c (assign (L rfl) (q 27)) rfl cn))
    apply AWp.block
    obtain⟨p20,hx27,h⟩:=bindS h
    refine lg (xref02_Make_L0) (fun s9:Int×(List Int)=>([(1,(i6 a1)),(4,(pt 1004)),(6,(.sref 100200 1 0 s9.2.length)),(7,(i6 s9.1))]:EL)) (fun s9:Int×(List Int)=>([(1004,bd 46 (.st [(.st [(.bool false),(.int .u64 0),(.int .u64 0)]),(.int .i64 0)])),(100200,some (.row 5 1 (s9.2.map (eI .u8))))]:OL)) (fun(p20:((List Int))) e E' O'=>e = .exit 1∧Mat B E' O' ([(1,(i6 a1)),(4,(pt 1004)),(6,(.sref 100200 1 0 p20.length))]:EL) ([(1004,bd 46 (.st [(.st [(.bool false),(.int .u64 0),(.int .u64 0)]),(.int .i64 0)])),(100200,some (.row 5 1 (p20.map (eI .u8))))]:OL)) hx27 (mp [] _ _ hB) (fun s9 y h => ?_) (fun e E' O' hR => ?_)
    ·unfold xref02_Make_L0 at h
     apply AWp.seq
     apply sr (c (mv hN (q 7)) rfl (c (mv hN (q 6)) rfl (c (lenS underlying130 (L rfl) (q 29)) rfl (c (mul6 (L rfl) (ii 8) (q 30)) rfl (c (lss (L rfl) (q 28) (q 31)) rfl cn)))))
     apply AWp.cond rfl<;>intro hg21
     ·have h:=ite_t hg21 h
      apply AWp.skip
      apply seqQ_n
      apply AWp.seq
      apply AWp.block
      obtain⟨x22,hx22,h⟩:=bindS h
      obtain⟨x23,hx23,h⟩:=bindS h
      obtain⟨x24,hx24,h⟩:=bindS h
      obtain⟨x25,hx25,h⟩:=bindS h
      apply rg (c (mv hN (q 6)) rfl (c (mv hN (q 7)) rfl (c (quo6 (L rfl) (q 36) (ii 8) (by decide)) rfl (c (OpJ.val (v':=(.ptr 100200 ((w64 (Int.tdiv s9.1 8)).toNat*1) [(w64 (Int.tdiv s9.1 8)).toNat])) (by simp) (indexS underlying130 tyS5 (idx_some hx22).1 (by have:=idx_lt hx22;first | (simpa using this) | ((try simp only [List.length_map] at this);(try simp only [List.length_map]);omega)) (L rfl) (q 35) (q 37))) rfl (c (loadR (e:=5) (sz:=1) tyS5 (get_map (eI .u8) (idx_some hx23).2) (o:=0) (At.here _) (by rfl) (by rfl) (by rfl) (L rfl) (q 38)) rfl (c (mv hN (q 7)) rfl (c (OpJ.rem (L rfl) (q 40) (ii 8) (by decide)) rfl (c (OpJ.conv underlying3 underlying73 (L rfl) (q 41)) rfl (c (OpJ.shr (L rfl) (Opd.int .u8 (128)) (q 42) (wrap_nonneg rfl _)) rfl (c (OpJ.bits (.inr (.inr (.inr rfl))) (L rfl) (q 39) (q 43)) rfl (c (OpJ.val (v':=(.ptr 100200 ((w64 (Int.tdiv s9.1 8)).toNat*1) [(w64 (Int.tdiv s9.1 8)).toNat])) (by simp) (indexS underlying130 tyS5 (idx_some hx24).1 (by have:=idx_lt hx24;first | (simpa using this) | ((try simp only [List.length_map] at this);(try simp only [List.length_map]);omega)) (L rfl) (q 35) (q 37))) rfl (cg (OpJ.storeR (e:=5) (sz:=1) (es':=(s9.2.set (w64 (Int.tdiv s9.1 8)).toNat (bitI .andNot .u8 x23 (shrI .u8 128 (IntKind.u64.wrap (Int.tmod s9.1 8))))).map (eI .u8)) tyS5 (get_map (eI .u8) (idx_some hx25).2) (o:=0) (SetAt.here _ _) (by rfl) (map_set _ _ _ _) (by rfl) (by rfl) (q 45) (q 44)) rfl cn))))))))))))
      apply blkQ_n
      apply seqQ_n
      apply rg (c (mv hN (q 7)) rfl (c (add6 (L rfl) (q 33) (ii 1)) rfl (c (assign (L rfl) (q 34)) rfl cn)))
      obtain rfl:=oi h
      exact⟨rfl,(Mat.trans (mp [] [(1,(i6 a1)),(4,(pt 1004)),(6,(.sref 100200 1 0 s9.2.length)),(7,(i6 (w64 (s9.1+1))))] [(1004,bd 46 (.st [(.st [(.bool false),(.int .u64 0),(.int .u64 0)]),(.int .i64 0)])),(100200,some (.row 5 1 ((s9.2.set (w64 (Int.tdiv s9.1 8)).toNat (bitI .andNot .u8 x23 (shrI .u8 128 (IntKind.u64.wrap (Int.tmod s9.1 8))))).map (eI .u8))))] hB) (Mat.trans (Mat.lenP (Ts:=[(6,(.sref 100200 1 0 ((s9.2.set (w64 (Int.tdiv s9.1 8)).toNat (bitI .andNot .u8 x23 (shrI .u8 128 (IntKind.u64.wrap (Int.tmod s9.1 8))))).length)))]) (Bs:=[]) (TwT.cons (x:=(.sref 100200 1 0 s9.2.length)) (by rfl) (Tw.leaf ⟨_,_,_,_,_,rfl,rfl,(by first | rfl | (simp;done) | (simp;omega) | omega)⟩) TwT.nil) TwB.nil) (mp [] _ _ hB)))⟩
     ·have h:=ite_f hg21 h
      apply AWp.exit
      apply seqQ_e
      obtain rfl:=oi h
      exact⟨(fun hc=>by cases hc),rfl,(mp [] _ _ hB)⟩
    ·obtain⟨rfl,hmat⟩:=hR
     apply blkQ_hit
     apply seqQ_n
     refine AWp.ghost hmat ?_
     apply AWp.seq
     refine AWp.ghost (Mat.freezeP (n:=100200) (e:=5) (sz:=1) (es:=p20.map (eI .u8)) (Ts:=[(6,(.d (.list 1 (p20.map (eI .u8)))))]) (Bs:=[]) (by rfl) (TwT.cons (x:=(.sref 100200 1 0 p20.length)) (by rfl) (FrzL.all (by first | rfl | (simp;done) | (simp;omega) | omega)) TwT.nil) TwB.nil) ?_
     obtain⟨r28,hr28,h⟩:=bindS h
     apply rg (c (mv hN (q 6)) rfl (cg (cf hB fnOk79 (xref01_FromBytes_ac p20 r28 hr28) (L rfl) (OpdL.cons (q 47) OpdL.nil)) rfl (c (mv hN (q 48)) rfl (c (extract (by rfl) rfl (L rfl) (q 46)) rfl (c (extract (by rfl) rfl (L rfl) (q 46)) rfl (cg (alloc hB tyZ44 (nm:=1008) (by decide) (L rfl)) rfl (cg (sB tyS44 (q 8) (q 49)) rfl (c (assign (L rfl) (q 50)) rfl cn))))))))
     apply seqQ_n
     apply sr (c (lb hN 44 _ _ tyS44 (At.here _) (q 8)) rfl (c (mv hN (q 1)) rfl (c (OpJ.coe (v:=(.st [(.d (e_aAddr r28.1)),(i6 a1)])) (y:=(.st [(e_aAddr r28.1),(.int .i64 a1)])) (Co.st (CoL.cons (Co.d _) (CoL.cons (Co.d _) CoL.nil))) rfl (OpJ.build (places:=[(0,3),(3,1)]) ⟨underlying46,fun w=>by kernel_rfl⟩ tyZS46 (Opds.cons (q 51) (Opds.cons (q 52) Opds.nil)) (by kernel_rfl) (r:=(.st [(.d (e_aAddr r28.1)),(i6 a1)])) (by rfl) (L rfl))) rfl (cg (sB tyS46 (q 4) (q 53)) rfl (c (assign (L rfl) (ii 0)) rfl cn)))))
     apply AWp.ret
     obtain rfl:=oi h
     exact rt (kp [(4,_),(5,_)] [(1004,some _)] hB rfl rfl (by rfl)) [(.d (.st [(e_aAddr r28.1),(.int .i64 a1)])),(i6 0)] (Res.cell (c:=(.d (.st [(e_aAddr r28.1),(.int .i64 a1)]))) (by rfl) (by rfl) tyS46 (by rfl) (by rfl) (by rfl) (Res.tmp (by rfl) (by rfl) Res.nil)) rfl
  ·rcases bft (decide (a1<0)) with hg29 | hg29
   ·have h:=ite_t hg29 h
    apply rg (c (mv hN (q 1)) rfl (c (lss (L rfl) (q 16) (ii 0)) rfl (c (OpJ.val (v':=.d (.bool true)) (by rw [hg29]<;>rfl) (mv hN (q 17))) rfl (ks 18 (L rfl) (ks 18 (L rfl) (ks 18 (L rfl) (ks 18 (L rfl) (c (pickT (L rfl) (q 18) (Opd.bool true)) rfl (c (assign (L rfl) (q 23)) rfl cn)))))))))
    exact hjj6 _ h _ _ (mp [] _ _ hB)
   ·have h:=ite_f hg29 h
    obtain⟨r30,hr30,h⟩:=bindS h
    apply rg (c (mv hN (q 1)) rfl (c (lss (L rfl) (q 16) (ii 0)) rfl (c (OpJ.val (v':=.d (.bool false)) (by rw [hg29]<;>rfl) (mv hN (q 17))) rfl (c (gd 18 (mv hN (q 1))) rfl (c (gd 18 (lb hN 44 _ _ tyS44 (At.here _) (q 2))) rfl (cg (gd 18 (cf hB fnOk77 (xref02_width_ac a0 r30 hr30) (L rfl) (OpdL.cons (q 20) OpdL.nil))) rfl (c (gd 18 (gtr (L rfl) (q 19) (q 21))) rfl (c (pickF (L rfl) (q 18) (q 22)) rfl (c (assign (L rfl) (q 23)) rfl cn)))))))))
    exact hjj6 _ h _ _ (mp [] _ _ hB)
def xref02_Valid (a0:aPrefix):Option (Bool) :=
 (xref02_Make a0.fAddr a0.fLen).bind fun r1 =>
 some ((r1.2==0)&&(((a0.fAddr.fV6==r1.1.fAddr.fV6)&&((a0.fAddr.fHi==r1.1.fAddr.fHi)&&((a0.fAddr.fLo==r1.1.fAddr.fLo)&&true)))&&((a0.fLen==r1.1.fLen)&&true)))
theorem xref02_Valid_ac (a0:aPrefix) (r:Bool) (h:xref02_Valid a0=some r):AC Tryz.prog 53 [(.d (e_aPrefix a0))] [] (.d (.bool r)) []:=by
 refine AC.of_code2 Tryz.func53 rfl rfl (Nat.le_of_ble_eq_true (by rfl)) fun B hB hN => ?_
 delta xref02_Valid at h
 apply sr (cg (OpJ.box hB (nm:=1001) (by decide) (by simp) rfl (ltN hN rfl) (q 0)) rfl (c (assign (ltN hN rfl) (Opd.bool false)) rfl cn))
 obtain⟨r1,hr1,h⟩:=bindS h
 apply sr (c (fo 1001 0 [0] hN underlying46 0 tyS44 (q 1)) rfl (c (la hN 46 tyS44 (q 6)) rfl (c (fo 1001 3 [1] hN underlying46 3 tyS3 (q 1)) rfl (c (la hN 46 tyS3 (q 8)) rfl (cg (OpJ.callFn hB fnOk44 (xref02_Make_ac a0.fAddr a0.fLen r1 hr1) [] (by kernel_rfl) (ltN hN rfl) (by kernel_rfl) (OpdL.cons (q 7) (OpdL.cons (q 9) OpdL.nil))) rfl (c (mv hN (q 10)) rfl (c (extract (by rfl) rfl (ltN hN rfl) (q 5)) rfl (c (extract (by rfl) rfl (ltN hN rfl) (q 5)) rfl (cg (alloc hB tyZ46 (nm:=1003) (by decide) (ltN hN rfl)) rfl (cg (sB tyS46 (q 3) (q 11)) rfl (c (assign (ltN hN rfl) (q 12)) rfl cn)))))))))))
 apply sr (c (mv hN (q 4)) rfl (c (eqlI (ltN hN rfl) (q 13) (ii 0)) rfl (c (mv hN (q 14)) rfl (c (oq hN 15 (lb hN 46 _ _ tyS46 (At.here _) (q 1)) (OptL.keep (by rfl) OptL.nil) (GuardV.plain _)) rfl (c (oq hN 15 (lb hN 46 _ _ tyS46 (At.here _) (q 3)) (OptL.keep (by rfl) OptL.nil) (GuardV.plain _)) rfl (c (oq hN 15 (OpJ.eqlD (h:=3) (FitE.st underlying46 rfl held46 (FitF.cons (x:=(e_aAddr a0.fAddr)) (y:=(e_aAddr r1.1.fAddr)) (by decide) rfl tyS44 ⟨rfl,rfl⟩ ⟨rfl,rfl⟩ (FitE.st underlying44 rfl held44 (FitF.cons (x:=(.bool a0.fAddr.fV6)) (y:=(.bool r1.1.fAddr.fV6)) (by decide) rfl tyS4 ⟨rfl,rfl⟩ ⟨rfl,rfl⟩ (FitE.bool (h:=0) a0.fAddr.fV6 r1.1.fAddr.fV6 underlying4) (FitF.cons (x:=(.int .u64 a0.fAddr.fHi)) (y:=(.int .u64 r1.1.fAddr.fHi)) (by decide) rfl tyS42 ⟨rfl,rfl⟩ ⟨rfl,rfl⟩ (FitE.int (h:=0) a0.fAddr.fHi r1.1.fAddr.fHi underlying42) (FitF.cons (x:=(.int .u64 a0.fAddr.fLo)) (y:=(.int .u64 r1.1.fAddr.fLo)) (by decide) rfl tyS42 ⟨rfl,rfl⟩ ⟨rfl,rfl⟩ (FitE.int (h:=0) a0.fAddr.fLo r1.1.fAddr.fLo underlying42) FitF.nil)))) (FitF.cons (x:=(.int .i64 a0.fLen)) (y:=(.int .i64 r1.1.fLen)) (by decide) rfl tyS3 ⟨rfl,rfl⟩ ⟨rfl,rfl⟩ (FitE.int (h:=1) a0.fLen r1.1.fLen underlying3) FitF.nil))) eqg46 ⟨rfl,rfl⟩ (by rfl) (ltN hN rfl) (q 16) (q 17)) (OptL.opt (OptL.opt OptL.nil)) (GuardV.plain _)) rfl (c (pickAnd rfl (ltN hN rfl) (q 15) (q 18)) rfl (c (assign (ltN hN rfl) (q 19)) rfl cn))))))))
 apply AWp.ret
 obtain rfl:=oi h
 exact rt (kp [(2,_)] [] hB rfl rfl (by rfl)) [(bo ((r1.2==0)&&(((a0.fAddr.fV6==r1.1.fAddr.fV6)&&((a0.fAddr.fHi==r1.1.fAddr.fHi)&&((a0.fAddr.fLo==r1.1.fAddr.fLo)&&true)))&&((a0.fLen==r1.1.fLen)&&true))))] (Res.tmp (by rfl) (by rfl) Res.nil) rfl
def xref02_Last_L0 (s2:Int×(List Int)):Option ((((List Int)))⊕(Int×(List Int))) :=
 (if (decide (s2.1<(w64 (8*(s2.2.length:Int)))))=true then
 (idx s2.2 (w64 (Int.tdiv s2.1 8))).bind fun x15 =>
 (idx s2.2 (w64 (Int.tdiv s2.1 8))).bind fun x16 =>
 (idx s2.2 (w64 (Int.tdiv s2.1 8))).bind fun x17 =>
 (idx s2.2 (w64 (Int.tdiv s2.1 8))).bind fun x18 =>
 some (.inr ((w64 (s2.1+1)),(s2.2.set (w64 (Int.tdiv s2.1 8)).toNat (bitI .or .u8 x16 (shrI .u8 128 (IntKind.u64.wrap (Int.tmod s2.1 8)))))))
 else
 some (.inl s2.2))
def xref02_Last (a0:aPrefix):Option (aAddr) :=
 (xref01_Bytes_2 a0.fAddr).bind fun r1 =>
 (loop (xref02_Last_L0) ((maxI 0 a0.fLen),r1)).bind fun p13 =>
 (xref01_FromBytes p13).bind fun r21 =>
 some r21.1
theorem xref02_Last_ac (a0:aPrefix) (r:aAddr) (h:xref02_Last a0=some r):AC Tryz.prog 47 [(.d (e_aPrefix a0))] [] (.d (e_aAddr r)) []:=by
 refine ac2 Tryz.func47 rfl rfl fun B hB hN L => ?_
 delta xref02_Last at h
 apply sr (cg (OpJ.box hB (nm:=1001) (by decide) (by simp) rfl (L rfl) (q 0)) rfl (cg (alloc hB tyZ44 (nm:=1002) (by decide) (L rfl)) rfl cn))
 apply AWp.seq
 obtain⟨r1,hr1,h⟩:=bindS h
 refine AWp.region (oc (ov (.ptr 1001 0 [0]) (fp hN underlying46 0 tyS44 (.box 46 (.d (e_aPrefix a0))) (ot 1 (pt 1001))))
 (oc (lb hN 46 (.d (e_aPrefix a0)) (.d (e_aAddr a0.fAddr)) tyS44 (ad (e_aAddr a0.fAddr)) (ot 7 (.ptr 1001 0 [0])))
 (oc (OpJ.callFn hB fnOk78 (xref01_Bytes_2_ac a0.fAddr r1 hr1) [(900000,100000)] (by kernel_rfl) (L rfl) (by kernel_rfl) (OpdL.cons (ot 8 (.d (e_aAddr a0.fAddr))) OpdL.nil))
 (oc (assign (L rfl) (ot 9 (.sref 100000 1 0 r1.length)))
 (OpJs.nil))))) (by rfl) (by rfl) ?_
 apply seqQ_n
 refine AWp.ghost (mp [] [(1,(pt 1001)),(2,(pt 1002)),(3,(.sref 100000 1 0 r1.length))] [(1001,bd 46 (e_aPrefix a0)),(1002,bd 44 (.st [(.bool false),(.int .u64 0),(.int .u64 0)])),(100000,some (.row 5 1 (r1.map (eI .u8))))] hB) ?_
 apply AWp.seq
 apply sr (c (fo 1001 3 [1] hN underlying46 3 tyS3 (q 1)) rfl (c (la hN 46 tyS3 (q 10)) rfl (c (OpJ.max (L rfl) (ii 0) (q 11)) rfl (c (assign (L rfl) (q 12)) rfl cn))))
 apply AWp.block
 obtain⟨p13,hx20,h⟩:=bindS h
 refine lg (xref02_Last_L0) (fun s2:Int×(List Int)=>([(2,(pt 1002)),(3,(.sref 100000 1 0 s2.2.length)),(4,(i6 s2.1))]:EL)) (fun s2:Int×(List Int)=>([(1002,bd 44 (.st [(.bool false),(.int .u64 0),(.int .u64 0)])),(100000,some (.row 5 1 (s2.2.map (eI .u8))))]:OL)) (fun(p13:((List Int))) e E' O'=>e = .exit 0∧Mat B E' O' ([(2,(pt 1002)),(3,(.sref 100000 1 0 p13.length))]:EL) ([(1002,bd 44 (.st [(.bool false),(.int .u64 0),(.int .u64 0)])),(100000,some (.row 5 1 (p13.map (eI .u8))))]:OL)) hx20 (mp [] _ _ hB) (fun s2 y h => ?_) (fun e E' O' hR => ?_)
 ·unfold xref02_Last_L0 at h
  apply AWp.seq
  apply sr (c (mv hN (q 4)) rfl (c (mv hN (q 3)) rfl (c (lenS underlying130 (L rfl) (q 14)) rfl (c (mul6 (L rfl) (ii 8) (q 15)) rfl (c (lss (L rfl) (q 13) (q 16)) rfl cn)))))
  apply AWp.cond rfl<;>intro hg14
  ·have h:=ite_t hg14 h
   apply AWp.skip
   apply seqQ_n
   apply AWp.seq
   apply AWp.block
   obtain⟨x15,hx15,h⟩:=bindS h
   obtain⟨x16,hx16,h⟩:=bindS h
   obtain⟨x17,hx17,h⟩:=bindS h
   obtain⟨x18,hx18,h⟩:=bindS h
   apply rg (c (mv hN (q 3)) rfl (c (mv hN (q 4)) rfl (c (quo6 (L rfl) (q 21) (ii 8) (by decide)) rfl (c (OpJ.val (v':=(.ptr 100000 ((w64 (Int.tdiv s2.1 8)).toNat*1) [(w64 (Int.tdiv s2.1 8)).toNat])) (by simp) (indexS underlying130 tyS5 (idx_some hx15).1 (by have:=idx_lt hx15;first | (simpa using this) | ((try simp only [List.length_map] at this);(try simp only [List.length_map]);omega)) (L rfl) (q 20) (q 22))) rfl (c (loadR (e:=5) (sz:=1) tyS5 (get_map (eI .u8) (idx_some hx16).2) (o:=0) (At.here _) (by rfl) (by rfl) (by rfl) (L rfl) (q 23)) rfl (c (mv hN (q 4)) rfl (c (OpJ.rem (L rfl) (q 25) (ii 8) (by decide)) rfl (c (OpJ.conv underlying3 underlying73 (L rfl) (q 26)) rfl (c (OpJ.shr (L rfl) (Opd.int .u8 (128)) (q 27) (wrap_nonneg rfl _)) rfl (c (OpJ.bits (.inr (.inl rfl)) (L rfl) (q 24) (q 28)) rfl (c (OpJ.val (v':=(.ptr 100000 ((w64 (Int.tdiv s2.1 8)).toNat*1) [(w64 (Int.tdiv s2.1 8)).toNat])) (by simp) (indexS underlying130 tyS5 (idx_some hx17).1 (by have:=idx_lt hx17;first | (simpa using this) | ((try simp only [List.length_map] at this);(try simp only [List.length_map]);omega)) (L rfl) (q 20) (q 22))) rfl (cg (OpJ.storeR (e:=5) (sz:=1) (es':=(s2.2.set (w64 (Int.tdiv s2.1 8)).toNat (bitI .or .u8 x16 (shrI .u8 128 (IntKind.u64.wrap (Int.tmod s2.1 8))))).map (eI .u8)) tyS5 (get_map (eI .u8) (idx_some hx18).2) (o:=0) (SetAt.here _ _) (by rfl) (map_set _ _ _ _) (by rfl) (by rfl) (q 30) (q 29)) rfl cn))))))))))))
   apply blkQ_n
   apply seqQ_n
   apply rg (c (mv hN (q 4)) rfl (c (add6 (L rfl) (q 18) (ii 1)) rfl (c (assign (L rfl) (q 19)) rfl cn)))
   obtain rfl:=oi h
   exact⟨rfl,(Mat.trans (mp [] [(2,(pt 1002)),(3,(.sref 100000 1 0 s2.2.length)),(4,(i6 (w64 (s2.1+1))))] [(1002,bd 44 (.st [(.bool false),(.int .u64 0),(.int .u64 0)])),(100000,some (.row 5 1 ((s2.2.set (w64 (Int.tdiv s2.1 8)).toNat (bitI .or .u8 x16 (shrI .u8 128 (IntKind.u64.wrap (Int.tmod s2.1 8))))).map (eI .u8))))] hB) (Mat.trans (Mat.lenP (Ts:=[(3,(.sref 100000 1 0 ((s2.2.set (w64 (Int.tdiv s2.1 8)).toNat (bitI .or .u8 x16 (shrI .u8 128 (IntKind.u64.wrap (Int.tmod s2.1 8))))).length)))]) (Bs:=[]) (TwT.cons (x:=(.sref 100000 1 0 s2.2.length)) (by rfl) (Tw.leaf ⟨_,_,_,_,_,rfl,rfl,(by first | rfl | (simp;done) | (simp;omega) | omega)⟩) TwT.nil) TwB.nil) (mp [] _ _ hB)))⟩
  ·have h:=ite_f hg14 h
   apply AWp.exit
   apply seqQ_e
   obtain rfl:=oi h
   exact⟨(fun hc=>by cases hc),rfl,(mp [] _ _ hB)⟩
 ·obtain⟨rfl,hmat⟩:=hR
  apply blkQ_hit
  apply seqQ_n
  refine AWp.ghost hmat ?_
  apply AWp.seq
  refine AWp.ghost (Mat.freezeP (n:=100000) (e:=5) (sz:=1) (es:=p13.map (eI .u8)) (Ts:=[(3,(.d (.list 1 (p13.map (eI .u8)))))]) (Bs:=[]) (by rfl) (TwT.cons (x:=(.sref 100000 1 0 p13.length)) (by rfl) (FrzL.all (by first | rfl | (simp;done) | (simp;omega) | omega)) TwT.nil) TwB.nil) ?_
  obtain⟨r21,hr21,h⟩:=bindS h
  apply rg (c (mv hN (q 3)) rfl (cg (cf hB fnOk79 (xref01_FromBytes_ac p13 r21 hr21) (L rfl) (OpdL.cons (q 32) OpdL.nil)) rfl (c (mv hN (q 33)) rfl (c (extract (by rfl) rfl (L rfl) (q 31)) rfl (c (extract (by rfl) rfl (L rfl) (q 31)) rfl (cg (alloc hB tyZ44 (nm:=1005) (by decide) (L rfl)) rfl (cg (sB tyS44 (q 5) (q 34)) rfl (c (assign (L rfl) (q 35)) rfl cn))))))))
  apply seqQ_n
  apply sr (c (lb hN 44 _ _ tyS44 (At.here _) (q 5)) rfl (cg (sB tyS44 (q 2) (q 36)) rfl cn))
  apply AWp.ret
  obtain rfl:=oi h
  exact rt (kp [(2,_)] [(1002,some _)] hB rfl rfl (by rfl)) [(.d (e_aAddr r21.1))] (Res.cell (c:=(.d (e_aAddr r21.1))) (by rfl) (by rfl) tyS44 (by rfl) (by rfl) (by rfl) Res.nil) rfl
def xref01_Cmp (a0:aAddr) (a1:aAddr):Option (Int) :=
 (if ((a0.fV6==a1.fV6)&&((a0.fHi==a1.fHi)&&((a0.fLo==a1.fLo)&&true)))=true then
 some 0
 else
 (if (a0.fV6 != a1.fV6)=true then
 (if a1.fV6=true then
 some (-1)
 else
 some 1)
 else
 jn (fun m5:Bool =>
 (if m5=true then
 some (-1)
 else
 some 1)) (fun j6 =>
 (if (decide (a0.fHi<a1.fHi))=true then
 j6 true
 else
 j6 ((a0.fHi==a1.fHi)&&(decide (a0.fLo<a1.fLo)))))))
theorem xref01_Cmp_ac (a0:aAddr) (a1:aAddr) (r:Int) (h:xref01_Cmp a0 a1=some r):AC Tryz.prog 46 [(.d (e_aAddr a0)),(.d (e_aAddr a1))] [] (.d (.int .i64 r)) []:=by
 refine ac2 Tryz.func46 rfl rfl fun B hB hN L => ?_
 delta xref01_Cmp at h
 apply sr (cg (OpJ.box hB (nm:=1002) (by decide) (by simp) rfl (L rfl) (q 0)) rfl (cg (OpJ.box hB (nm:=1003) (by decide) (by simp) rfl (L rfl) (q 1)) rfl (c (assign (L rfl) (ii 0)) rfl cn)))
 apply AWp.seq
 apply AWp.block
 apply sr (c (lb hN 44 _ _ tyS44 (At.here _) (q 2)) rfl (c (lb hN 44 _ _ tyS44 (At.here _) (q 3)) rfl (c (OpJ.eqlD (h:=2) (FitE.st underlying44 rfl held44 (FitF.cons (x:=(.bool a0.fV6)) (y:=(.bool a1.fV6)) (by decide) rfl tyS4 ⟨rfl,rfl⟩ ⟨rfl,rfl⟩ (FitE.bool (h:=0) a0.fV6 a1.fV6 underlying4) (FitF.cons (x:=(.int .u64 a0.fHi)) (y:=(.int .u64 a1.fHi)) (by decide) rfl tyS42 ⟨rfl,rfl⟩ ⟨rfl,rfl⟩ (FitE.int (h:=0) a0.fHi a1.fHi underlying42) (FitF.cons (x:=(.int .u64 a0.fLo)) (y:=(.int .u64 a1.fLo)) (by decide) rfl tyS42 ⟨rfl,rfl⟩ ⟨rfl,rfl⟩ (FitE.int (h:=0) a0.fLo a1.fLo underlying42) FitF.nil)))) eqg44 ⟨rfl,rfl⟩ (by rfl) (L rfl) (q 6) (q 7)) rfl (c (assign (L rfl) (q 8)) rfl cn))))
 apply AWp.cond rfl<;>intro hg1
 ·have h:=ite_t hg1 h
  apply sr (c (assign (L rfl) (ii 0)) rfl cn)
  apply AWp.ret
  apply blkQ_r
  apply seqQ_r
  obtain rfl:=oi h
  exact rt (kp [(4,_)] [] hB rfl rfl (by rfl)) [(i6 0)] (Res.tmp (by rfl) (by rfl) Res.nil) rfl
 ·have h:=ite_f hg1 h
  apply sr (c (fo 1002 0 [0] hN underlying44 0 tyS4 (q 2)) rfl (c (la hN 44 tyS4 (q 10)) rfl (c (fo 1003 0 [0] hN underlying44 0 tyS4 (q 3)) rfl (c (la hN 44 tyS4 (q 12)) rfl (c (OpJ.neqB underlying4 (L rfl) (q 11) (q 13)) rfl (c (assign (L rfl) (q 14)) rfl cn))))))
  apply AWp.cond rfl<;>intro hg2
  ·have h:=ite_t hg2 h
   apply AWp.seq
   apply sr (c (fo 1003 0 [0] hN underlying44 0 tyS4 (q 3)) rfl (c (la hN 44 tyS4 (q 15)) rfl cn))
   apply AWp.cond rfl<;>intro hg3
   ·have h:=ite_t hg3 h
    apply sr (c (assign (L rfl) (ii (-1))) rfl cn)
    apply AWp.ret
    apply seqQ_r
    apply blkQ_r
    apply seqQ_r
    obtain rfl:=oi h
    exact rt (kp [(4,_)] [] hB rfl rfl (by rfl)) [(i6 (-1))] (Res.tmp (by rfl) (by rfl) Res.nil) rfl
   ·have h:=ite_f hg3 h
    apply AWp.skip
    apply seqQ_n
    apply sr (c (assign (L rfl) (ii 1)) rfl cn)
    apply AWp.ret
    apply blkQ_r
    apply seqQ_r
    obtain rfl:=oi h
    exact rt (kp [(4,_)] [] hB rfl rfl (by rfl)) [(i6 1)] (Res.tmp (by rfl) (by rfl) Res.nil) rfl
  ·have h:=ite_f hg2 h
   apply AWp.seq
   refine AWp.cut h (fun m5:Bool=>([(17,(bo m5))]:EL)) (fun m5:Bool=>([]:OL)) (fun m5 h E' O' hmat => ?_) (fun j6 hjj6 h => ?_)
   ·apply seqQ_n
    refine AWp.ghost hmat ?_
    apply AWp.cond rfl<;>intro hg7
    ·have h:=ite_t hg7 h
     apply sr (c (assign (L rfl) (ii (-1))) rfl cn)
     apply AWp.ret
     apply blkQ_r
     apply seqQ_r
     obtain rfl:=oi h
     exact rt (kp [(4,_)] [] hB rfl rfl (by rfl)) [(i6 (-1))] (Res.tmp (by rfl) (by rfl) Res.nil) rfl
    ·have h:=ite_f hg7 h
     apply AWp.skip
     apply blkQ_n
     apply seqQ_n
     apply sr (c (assign (L rfl) (ii 1)) rfl cn)
     apply AWp.ret
     obtain rfl:=oi h
     exact rt (kp [(4,_)] [] hB rfl rfl (by rfl)) [(i6 1)] (Res.tmp (by rfl) (by rfl) Res.nil) rfl
   ·rcases bft (decide (a0.fHi<a1.fHi)) with hg8 | hg8
    ·have h:=ite_t hg8 h
     apply rg (c (fo 1002 1 [1] hN underlying44 1 tyS42 (q 2)) rfl (c (la hN 44 tyS42 (q 18)) rfl (c (fo 1003 1 [1] hN underlying44 1 tyS42 (q 3)) rfl (c (la hN 44 tyS42 (q 20)) rfl (c (lss (L rfl) (q 19) (q 21)) rfl (c (OpJ.val (v':=.d (.bool true)) (by rw [hg8]<;>rfl) (mv hN (q 22))) rfl (ks 23 (L rfl) (ks 23 (L rfl) (ks 23 (L rfl) (ks 23 (L rfl) (ks 23 (L rfl) (ks 23 (L rfl) (cg (sV 29 (L rfl)) rfl (cg (sV 29 (L rfl)) rfl (cg (sV 29 (L rfl)) rfl (cg (sV 29 (L rfl)) rfl (cg (sV 29 (L rfl)) rfl (ks 23 (L rfl) (c (pickT (L rfl) (q 23) (Opd.bool true)) rfl (c (assign (L rfl) (q 36)) rfl cn))))))))))))))))))))
     exact hjj6 _ h _ _ (mp [] _ _ hB)
    ·have h:=ite_f hg8 h
     apply rg (c (fo 1002 1 [1] hN underlying44 1 tyS42 (q 2)) rfl (c (la hN 44 tyS42 (q 18)) rfl (c (fo 1003 1 [1] hN underlying44 1 tyS42 (q 3)) rfl (c (la hN 44 tyS42 (q 20)) rfl (c (lss (L rfl) (q 19) (q 21)) rfl (c (OpJ.val (v':=.d (.bool false)) (by rw [hg8]<;>rfl) (mv hN (q 22))) rfl (c (gd 23 (fo 1002 1 [1] hN underlying44 1 tyS42 (q 2))) rfl (c (gd 23 (la hN 44 tyS42 (q 24))) rfl (c (gd 23 (fo 1003 1 [1] hN underlying44 1 tyS42 (q 3))) rfl (c (gd 23 (la hN 44 tyS42 (q 26))) rfl (c (gd 23 (eqlI (L rfl) (q 25) (q 27))) rfl (c (gd 23 (mv hN (q 28))) rfl (c (oq hN 29 (fo 1002 2 [2] hN underlying44 2 tyS42 (q 2)) (OptL.keep (by rfl) OptL.nil) (GuardV.plain _)) rfl (c (oq hN 29 (la hN 44 tyS42 (q 30)) (OptL.opt OptL.nil) (GuardV.plain _)) rfl (c (oq hN 29 (fo 1003 2 [2] hN underlying44 2 tyS42 (q 3)) (OptL.keep (by rfl) OptL.nil) (GuardV.plain _)) rfl (c (oq hN 29 (la hN 44 tyS42 (q 32)) (OptL.opt OptL.nil) (GuardV.plain _)) rfl (c (oq hN 29 (lss (L rfl) (q 31) (q 33)) (OptL.opt (OptL.opt OptL.nil)) (GuardV.plain _)) rfl (c (gd 23 (pickAnd rfl (L rfl) (q 29) (q 34))) rfl (c (pickF (L rfl) (q 23) (q 35)) rfl (c (assign (L rfl) (q 36)) rfl cn))))))))))))))))))))
     exact hjj6 _ h _ _ (mp [] _ _ hB)
def xref01_Next (a0:aAddr):Option (aAddr×Bool) :=
 jn (fun m2:Int =>
 jn (fun m5:Bool =>
 (if m5=true then
 some ((aAddr.mk false 0 0),false)
 else
 some ((aAddr.mk a0.fV6 m2 (IntKind.u64.wrap (a0.fLo+1))),true))) (fun j6 =>
 (if ((a0.fV6&&(m2==0))&&((IntKind.u64.wrap (a0.fLo+1))==0))=true then
 j6 true
 else
 j6 ((!a0.fV6)&&(decide (4294967296≤(IntKind.u64.wrap (a0.fLo+1)))))))) (fun j3 =>
 (if ((IntKind.u64.wrap (a0.fLo+1))==0)=true then
 j3 (IntKind.u64.wrap (a0.fHi+1))
 else
 j3 a0.fHi))
theorem xref01_Next_ac (a0:aAddr) (r:aAddr×Bool) (h:xref01_Next a0=some r):AC Tryz.prog 69 [(.d (e_aAddr a0))] [] (.tup [(.d (e_aAddr r.1)),(.d (.bool r.2))]) []:=by
 refine ac2 Tryz.func69 rfl rfl fun B hB hN L => ?_
 delta xref01_Next at h
 apply sr (cg (OpJ.box hB (nm:=1001) (by decide) (by simp) rfl (L rfl) (q 0)) rfl (cg (alloc hB tyZ44 (nm:=1002) (by decide) (L rfl)) rfl (c (assign (L rfl) (Opd.bool false)) rfl cn)))
 apply sr (c (fo 1001 2 [2] hN underlying44 2 tyS42 (q 1)) rfl (c (la hN 44 tyS42 (q 4)) rfl (c (OpJ.add (L rfl) (q 5) (Opd.int .u64 (1))) rfl (c (fo 1001 2 [2] hN underlying44 2 tyS42 (q 1)) rfl (cg (OpJ.storeB tyS42 (SetAt.dst1 (by rfl) (by rfl) (SetAt.here _ _) (by rfl) (by rfl) (by first | rfl | omega)) (by rfl) (by rfl) (by simp) rfl (q 7) (q 6)) rfl cn)))))
 apply AWp.seq
 apply sr (c (fo 1001 2 [2] hN underlying44 2 tyS42 (q 1)) rfl (c (la hN 44 tyS42 (q 8)) rfl (c (eqlI (L rfl) (q 9) (Opd.int .u64 (0))) rfl cn)))
 refine gh [(1,_),(2,_),(10,_)] [(1001,some _),(1002,some _)] hB rfl rfl (by rfl) ?_
 refine AWp.cut h (fun m2:Int=>([(1,(pt 1001)),(2,(pt 1002))]:EL)) (fun m2:Int=>([(1001,some (.box 44 (.d (.st [(.bool a0.fV6),(.int .u64 m2),(.int .u64 (IntKind.u64.wrap (a0.fLo+1)))])))),(1002,bd 44 (.st [(.bool false),(.int .u64 0),(.int .u64 0)]))]:OL)) (fun m2 h E' O' hmat => ?_) (fun j3 hjj3 h => ?_)
 ·apply seqQ_n
  refine AWp.ghost hmat ?_
  apply AWp.seq
  apply AWp.seq
  refine AWp.cut h (fun m5:Bool=>([(1,(pt 1001)),(2,(pt 1002)),(36,(bo m5))]:EL)) (fun m5:Bool=>([(1001,some (.box 44 (.d (.st [(.bool a0.fV6),(.int .u64 m2),(.int .u64 (IntKind.u64.wrap (a0.fLo+1)))])))),(1002,bd 44 (.st [(.bool false),(.int .u64 0),(.int .u64 0)]))]:OL)) (fun m5 h E' O' hmat => ?_) (fun j6 hjj6 h => ?_)
  ·apply seqQ_n
   refine AWp.ghost hmat ?_
   apply AWp.cond rfl<;>intro hg7
   ·have h:=ite_t hg7 h
    apply sr (c (OpJ.coe (v:=(.st [(bo false),(.d (.int .u64 0)),(.d (.int .u64 0))])) (y:=(.st [(.bool false),(.int .u64 0),(.int .u64 0)])) (Co.st (CoL.cons (Co.d _) (CoL.cons (Co.d _) (CoL.cons (Co.d _) CoL.nil)))) rfl (OpJ.build (places:=[(0,1),(1,1),(2,1)]) ⟨underlying44,fun w=>by kernel_rfl⟩ tyZS44 Opds.nil (by kernel_rfl) (r:=(.st [(bo false),(.d (.int .u64 0)),(.d (.int .u64 0))])) (by rfl) (L rfl))) rfl (cg (sB tyS44 (q 2) (q 37)) rfl (c (assign (L rfl) (Opd.bool false)) rfl cn)))
    apply AWp.ret
    apply seqQ_r
    obtain rfl:=oi h
    exact rt (kp [(2,_),(3,_)] [(1002,some _)] hB rfl rfl (by rfl)) [(.d (.st [(.bool false),(.int .u64 0),(.int .u64 0)])),(bo false)] (Res.cell (c:=(.d (.st [(.bool false),(.int .u64 0),(.int .u64 0)]))) (by rfl) (by rfl) tyS44 (by rfl) (by rfl) (by rfl) (Res.tmp (by rfl) (by rfl) Res.nil)) rfl
   ·have h:=ite_f hg7 h
    apply AWp.skip
    apply seqQ_n
    apply sr (c (lb hN 44 _ _ tyS44 (At.here _) (q 1)) rfl (cg (sB tyS44 (q 2) (q 38)) rfl (c (assign (L rfl) (Opd.bool true)) rfl cn)))
    apply AWp.ret
    obtain rfl:=oi h
    exact rt (kp [(2,_),(3,_)] [(1002,some _)] hB rfl rfl (by rfl)) [(.d (.st [(.bool a0.fV6),(.int .u64 m2),(.int .u64 (IntKind.u64.wrap (a0.fLo+1)))])),(bo true)] (Res.cell (c:=(.d (.st [(.bool a0.fV6),(.int .u64 m2),(.int .u64 (IntKind.u64.wrap (a0.fLo+1)))]))) (by rfl) (by rfl) tyS44 (by rfl) (by rfl) (by rfl) (Res.tmp (by rfl) (by rfl) Res.nil)) rfl
  ·rcases bft ((a0.fV6&&(m2==0))&&((IntKind.u64.wrap (a0.fLo+1))==0)) with hg8 | hg8
   ·have h:=ite_t hg8 h
    apply rg (c (fo 1001 0 [0] hN underlying44 0 tyS4 (q 1)) rfl (c (la hN 44 tyS4 (q 15)) rfl (c (mv hN (q 16)) rfl (c (oq hN 17 (fo 1001 1 [1] hN underlying44 1 tyS42 (q 1)) (OptL.keep (by rfl) OptL.nil) (GuardV.plain _)) rfl (c (oq hN 17 (la hN 44 tyS42 (q 18)) (OptL.opt OptL.nil) (GuardV.plain _)) rfl (c (oq hN 17 (eqlI (L rfl) (q 19) (Opd.int .u64 (0))) (OptL.opt OptL.nil) (GuardV.plain _)) rfl (c (pickAnd rfl (L rfl) (q 17) (q 20)) rfl (c (mv hN (q 21)) rfl (c (oq hN 22 (fo 1001 2 [2] hN underlying44 2 tyS42 (q 1)) (OptL.keep (by rfl) OptL.nil) (GuardV.plain _)) rfl (c (oq hN 22 (la hN 44 tyS42 (q 23)) (OptL.opt OptL.nil) (GuardV.plain _)) rfl (c (oq hN 22 (eqlI (L rfl) (q 24) (Opd.int .u64 (0))) (OptL.opt OptL.nil) (GuardV.plain _)) rfl (c (pickAnd rfl (L rfl) (q 22) (q 25)) rfl (c (OpJ.val (v':=.d (.bool true)) (by rw [hg8]<;>rfl) (mv hN (q 26))) rfl (ks 27 (L rfl) (ks 27 (L rfl) (ks 27 (L rfl) (ks 27 (L rfl) (cg (sV 31 (L rfl)) rfl (cg (sV 31 (L rfl)) rfl (cg (sV 31 (L rfl)) rfl (ks 27 (L rfl) (c (pickT (L rfl) (q 27) (Opd.bool true)) rfl cn))))))))))))))))))))))
    exact hjj6 _ h _ _ (mp [] _ _ hB)
   ·have h:=ite_f hg8 h
    apply rg (c (fo 1001 0 [0] hN underlying44 0 tyS4 (q 1)) rfl (c (la hN 44 tyS4 (q 15)) rfl (c (mv hN (q 16)) rfl (c (oq hN 17 (fo 1001 1 [1] hN underlying44 1 tyS42 (q 1)) (OptL.keep (by rfl) OptL.nil) (GuardV.plain _)) rfl (c (oq hN 17 (la hN 44 tyS42 (q 18)) (OptL.opt OptL.nil) (GuardV.plain _)) rfl (c (oq hN 17 (eqlI (L rfl) (q 19) (Opd.int .u64 (0))) (OptL.opt OptL.nil) (GuardV.plain _)) rfl (c (pickAnd rfl (L rfl) (q 17) (q 20)) rfl (c (mv hN (q 21)) rfl (c (oq hN 22 (fo 1001 2 [2] hN underlying44 2 tyS42 (q 1)) (OptL.keep (by rfl) OptL.nil) (GuardV.plain _)) rfl (c (oq hN 22 (la hN 44 tyS42 (q 23)) (OptL.opt OptL.nil) (GuardV.plain _)) rfl (c (oq hN 22 (eqlI (L rfl) (q 24) (Opd.int .u64 (0))) (OptL.opt OptL.nil) (GuardV.plain _)) rfl (c (pickAnd rfl (L rfl) (q 22) (q 25)) rfl (c (OpJ.val (v':=.d (.bool false)) (by rw [hg8]<;>rfl) (mv hN (q 26))) rfl (c (gd 27 (fo 1001 0 [0] hN underlying44 0 tyS4 (q 1))) rfl (c (gd 27 (la hN 44 tyS4 (q 28))) rfl (c (gd 27 (OpJ.not (L rfl) (q 29))) rfl (c (gd 27 (mv hN (q 30))) rfl (c (oq hN 31 (fo 1001 2 [2] hN underlying44 2 tyS42 (q 1)) (OptL.keep (by rfl) OptL.nil) (GuardV.plain _)) rfl (c (oq hN 31 (la hN 44 tyS42 (q 32)) (OptL.opt OptL.nil) (GuardV.plain _)) rfl (c (oq hN 31 (geq (L rfl) (q 33) (Opd.int .u64 (4294967296))) (OptL.opt OptL.nil) (GuardV.plain _)) rfl (c (gd 27 (pickAnd rfl (L rfl) (q 31) (q 34))) rfl (c (pickF (L rfl) (q 27) (q 35)) rfl cn))))))))))))))))))))))
    exact hjj6 _ h _ _ (mp [] _ _ hB)
 ·apply AWp.cond rfl<;>intro hg9
  ·have h:=ite_t hg9 h
   apply rg (c (fo 1001 1 [1] hN underlying44 1 tyS42 (q 1)) rfl (c (la hN 44 tyS42 (q 11)) rfl (c (OpJ.add (L rfl) (q 12) (Opd.int .u64 (1))) rfl (c (fo 1001 1 [1] hN underlying44 1 tyS42 (q 1)) rfl (cg (OpJ.storeB tyS42 (SetAt.dst1 (by rfl) (by rfl) (SetAt.here _ _) (by rfl) (by rfl) (by first | rfl | omega)) (by rfl) (by rfl) (by simp) rfl (q 14) (q 13)) rfl cn)))))
   exact hjj3 _ h _ _ (mp [] _ _ hB)
  ·have h:=ite_f hg9 h
   apply AWp.skip
   exact hjj3 _ h _ _ (mp [] _ _ hB)
def xref21_ranges_L1 (s1:Int×(List aRange)) (x93:aRange) (s94:Int):Option (((Int))⊕(Int)) :=
 jn (fun m122:Bool =>
 (if m122=true then
 some (.inr (w64 (s94+1)))
 else
 some (.inl s94))) (fun j123 =>
 (if (decide (s94<(s1.2.length:Int)))=true then
 (idx s1.2 s94).bind fun x126 =>
 (idx s1.2 s94).bind fun x127 =>
 (xref01_Cmp x127.fFrom x93.fFrom).bind fun r128 =>
 j123 (decide (r128≤0))
 else
 j123 false))
def xref21_ranges_L0 (a0:(List aRange)) (s1:Int×(List aRange)):Option ((((List aRange)))⊕(Int×(List aRange))) :=
 (if (decide (s1.1<(a0.length:Int)))=true then
 (idx a0 s1.1).bind fun x93 =>
 (loop (xref21_ranges_L1 s1 x93) 0).bind fun p117 =>
 chk ((decide (0≤p117)&&decide (0≤p117.toNat)&&decide (p117.toNat≤s1.2.length))) <|
 chk (decide (((s1.2.take p117.toNat).drop 0).length≤LIM)) <|
 chk (decide ((((s1.2.take p117.toNat).drop 0)++[x93]).length≤LIM)) <|
 chk ((decide (0≤p117)&&decide (p117.toNat≤s1.2.length)&&decide (s1.2.length≤s1.2.length))) <|
 chk (decide (((((s1.2.take p117.toNat).drop 0)++[x93])++((s1.2.take s1.2.length).drop p117.toNat)).length≤LIM)) <|
 some (.inr ((w64 (s1.1+1)),((((s1.2.take p117.toNat).drop 0)++[x93])++((s1.2.take s1.2.length).drop p117.toNat))))
 else
 some (.inl s1.2))
def xref21_ranges_L2 (p91:(List aRange)) (s143:Int×(List aRange)):Option ((((List aRange)))⊕(Int×(List aRange))) :=
 (if (decide (s143.1<(p91.length:Int)))=true then
 jn (fun m353:(List aRange) =>
 some (.inr ((w64 (s143.1+1)),m353))) (fun j354 =>
 (idx p91 s143.1).bind fun x355 =>
 (idx p91 s143.1).bind fun x356 =>
 jn (fun _:Unit =>
 chk (decide ((s143.2++[x356]).length≤LIM)) <|
 j354 (s143.2++[x356])) (fun j378 =>
 (if (decide (0<(s143.2.length:Int)))=true then
 (idx s143.2 (w64 ((s143.2.length:Int)-1))).bind fun x381 =>
 (idx s143.2 (w64 ((s143.2.length:Int)-1))).bind fun x382 =>
 (xref01_Next x382.fTo).bind fun r383 =>
 jn (fun m389:Bool =>
 (if m389=true then
 (idx s143.2 (w64 ((s143.2.length:Int)-1))).bind fun x392 =>
 (xref01_Cmp x392.fTo x356.fTo).bind fun r393 =>
 (if (decide (r393<0))=true then
 (idx s143.2 (w64 ((s143.2.length:Int)-1))).bind fun x395 =>
 j354 (s143.2.set (w64 ((s143.2.length:Int)-1)).toNat (aRange.mk x395.fFrom x356.fTo))
 else
 j354 s143.2)
 else
 j378 ())) (fun j390 =>
 (idx s143.2 (w64 ((s143.2.length:Int)-1))).bind fun x396 =>
 (if (x396.fTo.fV6==x356.fFrom.fV6)=true then
 (if (!r383.2)=true then
 j390 true
 else
 (xref01_Cmp x356.fFrom r383.1).bind fun r399 =>
 j390 (decide (r399≤0)))
 else
 j390 false))
 else
 j378 ())))
 else
 some (.inl s143.2))
def xref21_ranges (a0:(List aRange)):Option ((List aRange)) :=
 (loop (xref21_ranges_L0 a0) (0,([]:List aRange))).bind fun p91 =>
 (loop (xref21_ranges_L2 p91) (0,([]:List aRange))).bind fun p306 =>
 some p306
theorem xref21_ranges_ac (a0:(List aRange)) (r:(List aRange)) (h:xref21_ranges a0=some r):AC Tryz.prog 55 [(.d (.list 6 (a0.map e_aRange)))] [] (.d (.list 6 (r.map e_aRange))) []:=by
 refine ac2 Tryz.func55 rfl rfl fun B hB hN L => ?_
 delta xref21_ranges at h
 apply sr (c (assign (L rfl) Opd.nils) rfl cn)
 apply sr (c (assign (L rfl) Opd.nils) rfl cn)
 apply AWp.seq
 apply sr (c (mv hN (q 0)) rfl (c (OpJ.val (v':=(i6 (a0.length:Int))) (by simp) (lenD underlying54 (L rfl) (q 14))) rfl (c (mv hN (ii 0)) rfl cn)))
 apply AWp.block
 obtain⟨p91,hx142,h⟩:=bindS h
 refine lg (xref21_ranges_L0 a0) (fun s1:Int×(List aRange)=>([(3,(.sref 3003 6 0 s1.2.length)),(14,(qe_aRange_6 a0)),(15,(i6 (a0.length:Int))),(16,(i6 s1.1))]:EL)) (fun s1:Int×(List aRange)=>([(3003,some (we_aRange_92_6 s1.2))]:OL)) (fun(p91:((List aRange))) e E' O'=>e = .exit 0∧Mat B E' O' ([(3,(.sref 3003 6 0 p91.length))]:EL) ([(3003,some (we_aRange_92_6 p91))]:OL)) hx142 (Mat.trans (Mat.beginP (n:=3003) (e:=92) (sz:=6) (Ts:=[(3,(.sref 3003 6 0 0))]) (Bs:=[]) hB (by decide) (by rfl) (by decide) (TwT.cons (x:=.nils) (by rfl) (Tw.leaf ⟨rfl,rfl⟩) TwT.nil) TwB.nil) (mp [] _ _ hB)) (fun s1 y h => ?_) (fun e E' O' hR => ?_)
 ·unfold xref21_ranges_L0 at h
  apply sr (c (lss (L rfl) (q 16) (q 15)) rfl cn)
  apply AWp.seq
  apply AWp.cond rfl<;>intro hg92
  ·have h:=ite_t hg92 h
   apply AWp.skip
   apply seqQ_n
   apply AWp.seq
   apply AWp.block
   obtain⟨x93,hx93,h⟩:=bindS h
   apply sr (c (indexD underlying54 tyS92 (idx_some hx93).1 (get_map e_aRange (idx_some hx93).2) (L rfl) (q 14) (q 16)) rfl (c (loadD tyS92 (by rfl) (by rfl) (L rfl) (q 18)) rfl (cg (alloc hB tyZ92 (nm:=1005) (by decide) (L rfl)) rfl (cg (sB tyS92 (q 5) (q 19)) rfl cn))))
   apply sr (c (assign (L rfl) (ii 0)) rfl cn)
   apply AWp.seq
   apply AWp.block
   obtain⟨p117,hx130,h⟩:=bindS h
   refine lg (xref21_ranges_L1 s1 x93) (fun s94:Int=>([(3,(.sref 3003 6 0 s1.2.length)),(5,(pt 1005)),(6,(i6 s94)),(14,(qe_aRange_6 a0)),(15,(i6 (a0.length:Int))),(16,(i6 s1.1))]:EL)) (fun s94:Int=>([(1005,bd 92 (e_aRange x93)),(3003,some (we_aRange_92_6 s1.2))]:OL)) (fun(p117:(Int)) e E' O'=>e = .exit 2∧Mat B E' O' ([(3,(.sref 3003 6 0 s1.2.length)),(5,(pt 1005)),(6,(i6 p117)),(14,(qe_aRange_6 a0)),(15,(i6 (a0.length:Int))),(16,(i6 s1.1))]:EL) ([(1005,bd 92 (e_aRange x93)),(3003,some (we_aRange_92_6 s1.2))]:OL)) hx130 (mp [] _ _ hB) (fun s94 y h => ?_) (fun e E' O' hR => ?_)
   ·unfold xref21_ranges_L1 at h
    apply AWp.seq
    apply AWp.seq
    refine AWp.cut h (fun m122:Bool=>([(3,(.sref 3003 6 0 s1.2.length)),(5,(pt 1005)),(6,(i6 s94)),(14,(qe_aRange_6 a0)),(15,(i6 (a0.length:Int))),(16,(i6 s1.1)),(34,(bo m122))]:EL)) (fun m122:Bool=>([(1005,bd 92 (e_aRange x93)),(3003,some (we_aRange_92_6 s1.2))]:OL)) (fun m122 h E' O' hmat => ?_) (fun j123 hjj123 h => ?_)
    ·apply seqQ_n
     refine AWp.ghost hmat ?_
     apply AWp.cond rfl<;>intro hg124
     ·have h:=ite_t hg124 h
      apply AWp.skip
      apply seqQ_n
      apply AWp.block
      apply rg (c (mv hN (q 6)) rfl (c (add6 (L rfl) (q 35) (ii 1)) rfl (c (assign (L rfl) (q 36)) rfl cn)))
      apply blkQ_n
      obtain rfl:=oi h
      exact⟨rfl,(mp [] _ _ hB)⟩
     ·have h:=ite_f hg124 h
      apply AWp.exit
      apply seqQ_e
      obtain rfl:=oi h
      exact⟨(fun hc=>by cases hc),rfl,(mp [] _ _ hB)⟩
    ·rcases bft (decide (s94<(s1.2.length:Int))) with hg125 | hg125
     ·have h:=ite_t hg125 h
      obtain⟨x126,hx126,h⟩:=bindS h
      obtain⟨x127,hx127,h⟩:=bindS h
      obtain⟨r128,hr128,h⟩:=bindS h
      apply dr (c (mv hN (q 6)) rfl (c (mv hN (q 3)) rfl (c (lenS underlying54 (L rfl) (q 21)) rfl (c (lss (L rfl) (q 20) (q 22)) rfl (c (OpJ.val (v':=.d (.bool true)) (by rw [hg125]<;>rfl) (mv hN (q 23))) rfl (c (gd 24 (mv hN (q 3))) rfl (c (gd 24 (mv hN (q 6))) rfl (c (gd 24 (OpJ.val (v':=(.ptr 3003 (s94.toNat*6) [s94.toNat])) (by simp) (indexS underlying54 tyS92 (idx_some hx126).1 (by have:=idx_lt hx126;first | (simpa using this) | ((try simp only [List.length_map] at this);(try simp only [List.length_map]);omega)) (L rfl) (q 25) (q 26)))) rfl (c (gd 24 (ov (.ptr 3003 ((s94.toNat*6)+0) [s94.toNat,0]) (fp hN underlying92 0 tyS44 _ (q 27)))) rfl (c (gd 24 (loadR (e:=92) (sz:=6) tyS44 (get_map e_aRange (idx_some hx127).2) (o:=0) (ad _) (by rfl) (by rfl) (by rfl) (L rfl) (q 28))) rfl (c (gd 24 (fo 1005 0 [0] hN underlying92 0 tyS44 (q 5))) rfl (c (gd 24 (la hN 92 tyS44 (q 30))) rfl (cg (gd 24 (cf hB fnOk46 (xref01_Cmp_ac x127.fFrom x93.fFrom r128 hr128) (L rfl) (OpdL.cons (q 29) (OpdL.cons (q 31) OpdL.nil)))) rfl (c (gd 24 (leq (L rfl) (q 32) (ii 0))) rfl (c (pickT (L rfl) (q 24) (q 33)) rfl cn))))))))))))))) (by kernel_rfl) (by kernel_rfl)
      exact hjj123 _ h _ _ (mp [] _ _ hB)
     ·have h:=ite_f hg125 h
      apply dr (c (mv hN (q 6)) rfl (c (mv hN (q 3)) rfl (c (lenS underlying54 (L rfl) (q 21)) rfl (c (lss (L rfl) (q 20) (q 22)) rfl (c (OpJ.val (v':=.d (.bool false)) (by rw [hg125]<;>rfl) (mv hN (q 23))) rfl (ks 24 (L rfl) (ks 24 (L rfl) (ks 24 (L rfl) (ks 24 (L rfl) (ks 24 (L rfl) (ks 24 (L rfl) (ks 24 (L rfl) (ks 24 (L rfl) (ks 24 (L rfl) (c (pickF (L rfl) (q 24) (Opd.bool false)) rfl cn))))))))))))))) (by kernel_rfl) (by kernel_rfl)
      exact hjj123 _ h _ _ (mp [] _ _ hB)
   ·obtain⟨rfl,hmat⟩:=hR
    apply blkQ_hit
    apply seqQ_n
    refine AWp.ghost hmat ?_
    refine AWp.ghost (Mat.freezeP (n:=3003) (e:=92) (sz:=6) (es:=s1.2.map e_aRange) (Ts:=[(3,(qe_aRange_6 s1.2))]) (Bs:=[]) (by rfl) (TwT.cons (x:=(.sref 3003 6 0 s1.2.length)) (by rfl) (FrzL.all (by first | rfl | (simp;done) | (simp;omega) | omega)) TwT.nil) TwB.nil) ?_
    obtain⟨hc136,h⟩:=chk_some h
    obtain⟨hc137,h⟩:=chk_some h
    obtain⟨hc138,h⟩:=chk_some h
    obtain⟨hc139,h⟩:=chk_some h
    obtain⟨hc140,h⟩:=chk_some h
    apply dr (c (mv hN (q 3)) rfl (c (mv hN (q 6)) rfl (c (OpJ.cutD underlying54 tyS92 (es':=((s1.2.take p117.toNat).drop 0).map e_aRange) (l:=0) (h:=p117.toNat) (.inl ⟨rfl,rfl,rfl⟩) (.inr ⟨_,_,_,rfl,(ot 38 (i6 p117)),(of_decide_eq_true (and_l2 (and_l2 hc136))),rfl⟩) (of_decide_eq_true (and_r2 (and_l2 hc136))) (by first | (simp;done) | simpa using (of_decide_eq_true (and_r2 hc136))) (by first | rw [List.map_drop,List.map_take] | simp [List.map_take,List.map_drop]) (L rfl) (q 37)) rfl (cg (OpJ.appendN hB underlying54 tyE92 (nm:=1040) (by decide) (ys:=((s1.2.take p117.toNat).drop 0).map e_aRange) (len:=((s1.2.take p117.toNat).drop 0).length) (by simp) (map_sz (f:=e_aRange) (fun _=>rfl)) (by rw [List.length_map];exact lim_mulN hc137 (by decide)) (by rw [List.length_map];exact lim_leN hc137) (L rfl) Opd.nils (q 39)) rfl (c (lb hN 92 _ _ tyS92 (At.here _) (q 5)) rfl (c (buildSlice underlying54 tyS92 tyZD92 (by rfl) (by decide) (by decide) (Opds.cons (q 41) Opds.nil) (by kernel_rfl) (es:=([(e_aRange x93)]:List D)) (by rfl) (by rfl) (by kernel_rfl) (by simp) (L rfl)) rfl (cg (apd hB underlying54 tyE92 1043 e_aRange ((s1.2.take p117.toNat).drop 0) [x93] hc138 (L rfl) (q 40) (q 42)) rfl (c (mv hN (q 3)) rfl (c (mv hN (q 6)) rfl (c (OpJ.cutD underlying54 tyS92 (es':=((s1.2.take s1.2.length).drop p117.toNat).map e_aRange) (l:=p117.toNat) (h:=s1.2.length) (.inr ⟨_,_,_,rfl,(ot 45 (i6 p117)),(of_decide_eq_true (and_l2 (and_l2 hc139))),rfl⟩) (.inl ⟨rfl,by simp,rfl⟩) (of_decide_eq_true (and_r2 (and_l2 hc139))) (by first | (simp;done) | simpa using (of_decide_eq_true (and_r2 hc139))) (by first | rw [List.map_drop,List.map_take] | simp [List.map_take,List.map_drop]) (L rfl) (q 44)) rfl (cg (apd hB underlying54 tyE92 1047 e_aRange (((s1.2.take p117.toNat).drop 0)++[x93]) ((s1.2.take s1.2.length).drop p117.toNat) hc140 (L rfl) (q 43) (q 46)) rfl (c (assign (L rfl) (q 47)) rfl cn)))))))))))) (by kernel_rfl) (by kernel_rfl)
    apply blkQ_n
    apply seqQ_n
    apply rg (c (add6 (L rfl) (q 16) (ii 1)) rfl (c (mv hN (q 48)) rfl cn))
    obtain rfl:=oi h
    exact⟨rfl,(mp [(3003,1047)] _ _ hB)⟩
  ·have h:=ite_f hg92 h
   apply AWp.exit
   apply seqQ_e
   obtain rfl:=oi h
   exact⟨(fun hc=>by cases hc),rfl,(mp [] _ _ hB)⟩
 ·obtain⟨rfl,hmat⟩:=hR
  apply blkQ_hit
  apply seqQ_n
  refine AWp.ghost hmat ?_
  apply sr (c (assign (L rfl) Opd.nils) rfl cn)
  apply AWp.seq
  apply sr (c (mv hN (q 3)) rfl (c (lenS underlying54 (L rfl) (q 49)) rfl (c (mv hN (ii 0)) rfl cn)))
  apply AWp.block
  obtain⟨p306,hx401,h⟩:=bindS h
  refine lg (xref21_ranges_L2 p91) (fun s143:Int×(List aRange)=>([(7,(.sref 3007 6 0 s143.2.length)),(49,(.sref 3003 6 0 p91.length)),(50,(i6 (p91.length:Int))),(51,(i6 s143.1))]:EL)) (fun s143:Int×(List aRange)=>([(3003,some (we_aRange_92_6 p91)),(3007,some (we_aRange_92_6 s143.2))]:OL)) (fun(p306:((List aRange))) e E' O'=>e = .exit 4∧Mat B E' O' ([(7,(.sref 3007 6 0 p306.length))]:EL) ([(3007,some (we_aRange_92_6 p306))]:OL)) hx401 (Mat.trans (Mat.beginP (n:=3007) (e:=92) (sz:=6) (Ts:=[(7,(.sref 3007 6 0 0))]) (Bs:=[]) hB (by decide) (by rfl) (by decide) (TwT.cons (x:=.nils) (by rfl) (Tw.leaf ⟨rfl,rfl⟩) TwT.nil) TwB.nil) (mp [] _ _ hB)) (fun s143 y h => ?_) (fun e E' O' hR => ?_)
  ·unfold xref21_ranges_L2 at h
   apply sr (c (lss (L rfl) (q 51) (q 50)) rfl cn)
   apply AWp.seq
   apply AWp.cond rfl<;>intro hg307
   ·have h:=ite_t hg307 h
    apply AWp.skip
    apply seqQ_n
    apply AWp.seq
    refine AWp.cut h (fun m353:(List aRange)=>([(7,(.sref 3007 6 0 m353.length)),(49,(.sref 3003 6 0 p91.length)),(50,(i6 (p91.length:Int))),(51,(i6 s143.1))]:EL)) (fun m353:(List aRange)=>([(3003,some (we_aRange_92_6 p91)),(3007,some (we_aRange_92_6 m353))]:OL)) (fun m353 h E' O' hmat => ?_) (fun j354 hjj354 h => ?_)
    ·apply seqQ_n
     refine AWp.ghost hmat ?_
     apply rg (c (add6 (L rfl) (q 51) (ii 1)) rfl (c (mv hN (q 108)) rfl cn))
     obtain rfl:=oi h
     exact⟨rfl,(mp [] _ _ hB)⟩
    ·apply AWp.block
     obtain⟨x355,hx355,h⟩:=bindS h
     obtain⟨x356,hx356,h⟩:=bindS h
     apply sr (c (OpJ.val (v':=(.ptr 3003 (s143.1.toNat*6) [s143.1.toNat])) (by simp) (indexS underlying54 tyS92 (idx_some hx355).1 (by have:=idx_lt hx355;first | (simpa using this) | ((try simp only [List.length_map] at this);(try simp only [List.length_map]);omega)) (L rfl) (q 49) (q 51))) rfl (c (loadR (e:=92) (sz:=6) tyS92 (get_map e_aRange (idx_some hx356).2) (o:=0) (At.here _) (by rfl) (by rfl) (by rfl) (L rfl) (q 53)) rfl (cg (alloc hB tyZ92 (nm:=1009) (by decide) (L rfl)) rfl (cg (sB tyS92 (q 9) (q 54)) rfl cn))))
     apply AWp.seq
     apply sr (c (mv hN (q 7)) rfl (c (lenS underlying54 (L rfl) (q 55)) rfl (c (assign (L rfl) (q 56)) rfl cn)))
     apply sr (c (mv hN (q 10)) rfl (c (gtr (L rfl) (q 57) (ii 0)) rfl cn))
     refine gh [(7,_),(9,_),(10,_),(49,_),(50,_),(51,_),(58,_)] [(1009,some _),(3003,some _),(3007,some _)] hB rfl rfl (by rfl) ?_
     refine AWp.cut h (fun _:Unit=>([(7,(.sref 3007 6 0 s143.2.length)),(9,(pt 1009)),(49,(.sref 3003 6 0 p91.length)),(50,(i6 (p91.length:Int))),(51,(i6 s143.1))]:EL)) (fun _:Unit=>([(1009,bd 92 (e_aRange x356)),(3003,some (we_aRange_92_6 p91)),(3007,some (we_aRange_92_6 s143.2))]:OL)) (fun _m h E' O' hmat => ?_) (fun j378 hjj378 h => ?_)
     ·apply seqQ_n
      refine AWp.ghost hmat ?_
      obtain⟨hc379,h⟩:=chk_some h
      apply rg (c (mv hN (q 7)) rfl (c (lb hN 92 _ _ tyS92 (At.here _) (q 9)) rfl (c (buildSlice underlying54 tyS92 tyZD92 (by rfl) (by decide) (by decide) (Opds.cons (q 105) Opds.nil) (by kernel_rfl) (es:=([(e_aRange x356)]:List D)) (by rfl) (by rfl) (by kernel_rfl) (by simp) (L rfl)) rfl (cg (apd hB underlying54 tyE92 1107 e_aRange s143.2 [x356] hc379 (L rfl) (q 104) (q 106)) rfl (c (assign (L rfl) (q 107)) rfl cn)))))
      apply blkQ_n
      exact hjj354 _ h _ _ (mp [(3007,1107)] _ _ hB)
     ·apply AWp.cond rfl<;>intro hg380
      ·have h:=ite_t hg380 h
       obtain⟨x381,hx381,h⟩:=bindS h
       apply sr (c (mv hN (q 7)) rfl (c (mv hN (q 10)) rfl (c (sub6 (L rfl) (q 60) (ii 1)) rfl (c (OpJ.val (v':=(.ptr 3007 ((w64 ((s143.2.length:Int)-1)).toNat*6) [(w64 ((s143.2.length:Int)-1)).toNat])) (by simp) (indexS underlying54 tyS92 (idx_some hx381).1 (by have:=idx_lt hx381;first | (simpa using this) | ((try simp only [List.length_map] at this);(try simp only [List.length_map]);omega)) (L rfl) (q 59) (q 61))) rfl (c (assign (L rfl) (q 62)) rfl cn)))))
       obtain⟨x382,hx382,h⟩:=bindS h
       obtain⟨r383,hr383,h⟩:=bindS h
       apply sr (c (mv hN (q 11)) rfl (c (nilP (L rfl) (q 64)) rfl (c (ov (.ptr 3007 (((w64 ((s143.2.length:Int)-1)).toNat*6)+3) [(w64 ((s143.2.length:Int)-1)).toNat,1]) (fp hN underlying92 3 tyS44 _ (q 65))) rfl (c (loadR (e:=92) (sz:=6) tyS44 (get_map e_aRange (idx_some hx382).2) (o:=3) (ad _) (by rfl) (by rfl) (by rfl) (L rfl) (q 66)) rfl (cg (cf hB fnOk69 (xref01_Next_ac x382.fTo r383 hr383) (L rfl) (OpdL.cons (q 67) OpdL.nil)) rfl (c (mv hN (q 68)) rfl (c (extract (by rfl) rfl (L rfl) (q 63)) rfl (c (extract (by rfl) rfl (L rfl) (q 63)) rfl (cg (alloc hB tyZ44 (nm:=1012) (by decide) (L rfl)) rfl (cg (sB tyS44 (q 12) (q 69)) rfl (c (assign (L rfl) (q 70)) rfl cn)))))))))))
       apply AWp.seq
       refine AWp.cut h (fun m389:Bool=>([(7,(.sref 3007 6 0 s143.2.length)),(9,(pt 1009)),(11,(.ptr 3007 ((w64 ((s143.2.length:Int)-1)).toNat*6) [(w64 ((s143.2.length:Int)-1)).toNat])),(49,(.sref 3003 6 0 p91.length)),(50,(i6 (p91.length:Int))),(51,(i6 s143.1)),(90,(bo m389))]:EL)) (fun m389:Bool=>([(1009,bd 92 (e_aRange x356)),(3003,some (we_aRange_92_6 p91)),(3007,some (we_aRange_92_6 s143.2))]:OL)) (fun m389 h E' O' hmat => ?_) (fun j390 hjj390 h => ?_)
       ·apply seqQ_n
        refine AWp.ghost hmat ?_
        apply AWp.cond rfl<;>intro hg391
        ·have h:=ite_t hg391 h
         apply AWp.seq
         obtain⟨x392,hx392,h⟩:=bindS h
         obtain⟨r393,hr393,h⟩:=bindS h
         apply sd (c (mv hN (q 11)) rfl (c (nilP (L rfl) (q 91)) rfl (c (ov (.ptr 3007 (((w64 ((s143.2.length:Int)-1)).toNat*6)+3) [(w64 ((s143.2.length:Int)-1)).toNat,1]) (fp hN underlying92 3 tyS44 _ (q 92))) rfl (c (loadR (e:=92) (sz:=6) tyS44 (get_map e_aRange (idx_some hx392).2) (o:=3) (ad _) (by rfl) (by rfl) (by rfl) (L rfl) (q 93)) rfl (c (fo 1009 3 [1] hN underlying92 3 tyS44 (q 9)) rfl (c (la hN 92 tyS44 (q 95)) rfl (cg (cf hB fnOk46 (xref01_Cmp_ac x392.fTo x356.fTo r393 hr393) (L rfl) (OpdL.cons (q 94) (OpdL.cons (q 96) OpdL.nil))) rfl (c (lss (L rfl) (q 97) (ii 0)) rfl cn)))))))) (by kernel_rfl) (by kernel_rfl)
         apply AWp.cond rfl<;>intro hg394
         ·have h:=ite_t hg394 h
          obtain⟨x395,hx395,h⟩:=bindS h
          apply rg (c (mv hN (q 11)) rfl (c (fo 1009 3 [1] hN underlying92 3 tyS44 (q 9)) rfl (c (la hN 92 tyS44 (q 100)) rfl (c (nilP (L rfl) (q 99)) rfl (c (ov (.ptr 3007 (((w64 ((s143.2.length:Int)-1)).toNat*6)+3) [(w64 ((s143.2.length:Int)-1)).toNat,1]) (fp hN underlying92 3 tyS44 _ (q 102))) rfl (cg (OpJ.storeR (e:=92) (sz:=6) (es':=(s143.2.set (w64 ((s143.2.length:Int)-1)).toNat (aRange.mk x395.fFrom x356.fTo)).map e_aRange) tyS44 (get_map e_aRange (idx_some hx395).2) (o:=3) (SetAt.dst1 (by rfl) (by rfl) (SetAt.here _ _) (by rfl) (by rfl) (by first | rfl | omega)) (by rfl) (map_set _ _ _ _) (by rfl) (by rfl) (q 103) (q 101)) rfl cn))))))
          apply seqQ_n
          refine gh [(7,_),(49,_),(50,_),(51,_)] [(3003,some _),(3007,some _)] hB rfl rfl (by rfl) ?_
          apply AWp.exit
          apply seqQ_e
          apply blkQ_hit
          exact hjj354 _ h _ _ (Mat.trans (Mat.lenP (Ts:=[(7,(.sref 3007 6 0 ((s143.2.set (w64 ((s143.2.length:Int)-1)).toNat (aRange.mk x395.fFrom x356.fTo)).length)))]) (Bs:=[]) (TwT.cons (x:=(.sref 3007 6 0 s143.2.length)) (by rfl) (Tw.leaf ⟨_,_,_,_,_,rfl,rfl,(by first | rfl | (simp;done) | (simp;omega) | omega)⟩) TwT.nil) TwB.nil) (mp [] _ _ hB))
         ·have h:=ite_f hg394 h
          apply AWp.skip
          apply seqQ_n
          apply AWp.exit
          apply seqQ_e
          apply blkQ_hit
          exact hjj354 _ h _ _ (mp [] _ _ hB)
        ·have h:=ite_f hg391 h
         apply AWp.skip
         exact hjj378 _ h _ _ (mp [] _ _ hB)
       ·obtain⟨x396,hx396,h⟩:=bindS h
        rcases bft (x396.fTo.fV6==x356.fFrom.fV6) with hg397 | hg397
        ·have h:=ite_t hg397 h
         rcases bft (!r383.2) with hg398 | hg398
         ·have h:=ite_t hg398 h
          apply dr (c (mv hN (q 11)) rfl (c (nilP (L rfl) (q 71)) rfl (c (ov (.ptr 3007 (((w64 ((s143.2.length:Int)-1)).toNat*6)+3) [(w64 ((s143.2.length:Int)-1)).toNat,1]) (fp hN underlying92 3 tyS44 _ (q 72))) rfl (c (ov (.ptr 3007 (((w64 ((s143.2.length:Int)-1)).toNat*6)+3) [(w64 ((s143.2.length:Int)-1)).toNat,1,0]) (fp hN underlying44 0 tyS4 _ (q 73))) rfl (c (loadR (e:=92) (sz:=6) tyS4 (get_map e_aRange (idx_some hx396).2) (o:=3) (At.dst1 (by rfl) (by rfl) (ad _) (by first | rfl | omega)) (by rfl) (by rfl) (by rfl) (L rfl) (q 74)) rfl (c (fo 1009 0 [0] hN underlying92 0 tyS44 (q 9)) rfl (c (fo 1009 0 [0,0] hN underlying44 0 tyS4 (q 76)) rfl (c (lb hN 92 _ _ tyS4 (At.dst1 (by rfl) (by rfl) (ad _) (by first | rfl | omega)) (q 77)) rfl (c (OpJ.eqlB underlying4 (L rfl) (q 75) (q 78)) rfl (c (OpJ.val (v':=.d (.bool true)) (by rw [hg397]<;>rfl) (mv hN (q 79))) rfl (c (gd 80 (mv hN (q 13))) rfl (c (gd 80 (OpJ.not (L rfl) (q 81))) rfl (c (gd 80 (OpJ.val (v':=.d (.bool true)) (by rw [hg398]<;>rfl) (mv hN (q 82)))) rfl (ks 83 (L rfl) (ks 83 (L rfl) (ks 83 (L rfl) (ks 83 (L rfl) (ks 83 (L rfl) (c (gd 80 (pickT (L rfl) (q 83) (Opd.bool true))) rfl (c (pickT (L rfl) (q 80) (q 89)) rfl cn)))))))))))))))))))) (by kernel_rfl) (by kernel_rfl)
          exact hjj390 _ h _ _ (mp [] _ _ hB)
         ·have h:=ite_f hg398 h
          obtain⟨r399,hr399,h⟩:=bindS h
          apply dr (c (mv hN (q 11)) rfl (c (nilP (L rfl) (q 71)) rfl (c (ov (.ptr 3007 (((w64 ((s143.2.length:Int)-1)).toNat*6)+3) [(w64 ((s143.2.length:Int)-1)).toNat,1]) (fp hN underlying92 3 tyS44 _ (q 72))) rfl (c (ov (.ptr 3007 (((w64 ((s143.2.length:Int)-1)).toNat*6)+3) [(w64 ((s143.2.length:Int)-1)).toNat,1,0]) (fp hN underlying44 0 tyS4 _ (q 73))) rfl (c (loadR (e:=92) (sz:=6) tyS4 (get_map e_aRange (idx_some hx396).2) (o:=3) (At.dst1 (by rfl) (by rfl) (ad _) (by first | rfl | omega)) (by rfl) (by rfl) (by rfl) (L rfl) (q 74)) rfl (c (fo 1009 0 [0] hN underlying92 0 tyS44 (q 9)) rfl (c (fo 1009 0 [0,0] hN underlying44 0 tyS4 (q 76)) rfl (c (lb hN 92 _ _ tyS4 (At.dst1 (by rfl) (by rfl) (ad _) (by first | rfl | omega)) (q 77)) rfl (c (OpJ.eqlB underlying4 (L rfl) (q 75) (q 78)) rfl (c (OpJ.val (v':=.d (.bool true)) (by rw [hg397]<;>rfl) (mv hN (q 79))) rfl (c (gd 80 (mv hN (q 13))) rfl (c (gd 80 (OpJ.not (L rfl) (q 81))) rfl (c (gd 80 (OpJ.val (v':=.d (.bool false)) (by rw [hg398]<;>rfl) (mv hN (q 82)))) rfl (c (gd 83 (fo 1009 0 [0] hN underlying92 0 tyS44 (q 9))) rfl (c (gd 83 (la hN 92 tyS44 (q 84))) rfl (c (gd 83 (lb hN 44 _ _ tyS44 (At.here _) (q 12))) rfl (cg (gd 83 (cf hB fnOk46 (xref01_Cmp_ac x356.fFrom r383.1 r399 hr399) (L rfl) (OpdL.cons (q 85) (OpdL.cons (q 86) OpdL.nil)))) rfl (c (gd 83 (leq (L rfl) (q 87) (ii 0))) rfl (c (gd 80 (pickF (L rfl) (q 83) (q 88))) rfl (c (pickT (L rfl) (q 80) (q 89)) rfl cn)))))))))))))))))))) (by kernel_rfl) (by kernel_rfl)
          exact hjj390 _ h _ _ (mp [] _ _ hB)
        ·have h:=ite_f hg397 h
         apply dr (c (mv hN (q 11)) rfl (c (nilP (L rfl) (q 71)) rfl (c (ov (.ptr 3007 (((w64 ((s143.2.length:Int)-1)).toNat*6)+3) [(w64 ((s143.2.length:Int)-1)).toNat,1]) (fp hN underlying92 3 tyS44 _ (q 72))) rfl (c (ov (.ptr 3007 (((w64 ((s143.2.length:Int)-1)).toNat*6)+3) [(w64 ((s143.2.length:Int)-1)).toNat,1,0]) (fp hN underlying44 0 tyS4 _ (q 73))) rfl (c (loadR (e:=92) (sz:=6) tyS4 (get_map e_aRange (idx_some hx396).2) (o:=3) (At.dst1 (by rfl) (by rfl) (ad _) (by first | rfl | omega)) (by rfl) (by rfl) (by rfl) (L rfl) (q 74)) rfl (c (fo 1009 0 [0] hN underlying92 0 tyS44 (q 9)) rfl (c (fo 1009 0 [0,0] hN underlying44 0 tyS4 (q 76)) rfl (c (lb hN 92 _ _ tyS4 (At.dst1 (by rfl) (by rfl) (ad _) (by first | rfl | omega)) (q 77)) rfl (c (OpJ.eqlB underlying4 (L rfl) (q 75) (q 78)) rfl (c (OpJ.val (v':=.d (.bool false)) (by rw [hg397]<;>rfl) (mv hN (q 79))) rfl (ks 80 (L rfl) (ks 80 (L rfl) (ks 80 (L rfl) (cg (sV 83 (L rfl)) rfl (cg (sV 83 (L rfl)) rfl (cg (sV 83 (L rfl)) rfl (cg (sV 83 (L rfl)) rfl (cg (sV 83 (L rfl)) rfl (ks 80 (L rfl) (c (pickF (L rfl) (q 80) (Opd.bool false)) rfl cn)))))))))))))))))))) (by kernel_rfl) (by kernel_rfl)
         exact hjj390 _ h _ _ (mp [] _ _ hB)
      ·have h:=ite_f hg380 h
       apply AWp.skip
       exact hjj378 _ h _ _ (mp [] _ _ hB)
   ·have h:=ite_f hg307 h
    apply AWp.exit
    apply seqQ_e
    obtain rfl:=oi h
    exact⟨(fun hc=>by cases hc),rfl,(mp [] _ _ hB)⟩
  ·obtain⟨rfl,hmat⟩:=hR
   apply blkQ_hit
   apply seqQ_n
   refine AWp.ghost hmat ?_
   apply sr (c (mv hN (q 7)) rfl (c (assign (L rfl) (q 109)) rfl cn))
   apply AWp.ret
   obtain rfl:=oi h
   exact rt (Mat.trans (Mat.freezeP (n:=3007) (e:=92) (sz:=6) (es:=p306.map e_aRange) (Ts:=[(2,(qe_aRange_6 p306))]) (Bs:=[]) (by rfl) (TwT.cons (x:=(.sref 3007 6 0 p306.length)) (by rfl) (FrzL.all (by first | rfl | (simp;done) | (simp;omega) | omega)) TwT.nil) TwB.nil) (mp [] [(2,(qe_aRange_6 p306))] [] hB)) [(qe_aRange_6 p306)] (Res.tmp (by rfl) (by rfl) Res.nil) rfl
def xref21_spans_L1 (s1:Int×(List aSpan)) (x81:aSpan) (s82:Int):Option (((Int))⊕(Int)) :=
 jn (fun m105:Bool =>
 (if m105=true then
 some (.inr (w64 (s82+1)))
 else
 some (.inl s82))) (fun j106 =>
 (if (decide (s82<(s1.2.length:Int)))=true then
 (idx s1.2 s82).bind fun x109 =>
 (idx s1.2 s82).bind fun x110 =>
 j106 (decide (x110.fFrom≤x81.fFrom))
 else
 j106 false))
def xref21_spans_L0 (a0:(List aSpan)) (s1:Int×(List aSpan)):Option ((((List aSpan)))⊕(Int×(List aSpan))) :=
 (if (decide (s1.1<(a0.length:Int)))=true then
 (idx a0 s1.1).bind fun x81 =>
 (loop (xref21_spans_L1 s1 x81) 0).bind fun p101 =>
 chk ((decide (0≤p101)&&decide (0≤p101.toNat)&&decide (p101.toNat≤s1.2.length))) <|
 chk (decide (((s1.2.take p101.toNat).drop 0).length≤LIM)) <|
 chk (decide ((((s1.2.take p101.toNat).drop 0)++[x81]).length≤LIM)) <|
 chk ((decide (0≤p101)&&decide (p101.toNat≤s1.2.length)&&decide (s1.2.length≤s1.2.length))) <|
 chk (decide (((((s1.2.take p101.toNat).drop 0)++[x81])++((s1.2.take s1.2.length).drop p101.toNat)).length≤LIM)) <|
 some (.inr ((w64 (s1.1+1)),((((s1.2.take p101.toNat).drop 0)++[x81])++((s1.2.take s1.2.length).drop p101.toNat))))
 else
 some (.inl s1.2))
def xref21_spans_L2 (p79:(List aSpan)) (s125:Int×(List aSpan)):Option ((((List aSpan)))⊕(Int×(List aSpan))) :=
 (if (decide (s125.1<(p79.length:Int)))=true then
 jn (fun m206:(List aSpan) =>
 some (.inr ((w64 (s125.1+1)),m206))) (fun j207 =>
 (idx p79 s125.1).bind fun x208 =>
 (idx p79 s125.1).bind fun x209 =>
 jn (fun m213:Bool =>
 (if m213=true then
 (idx s125.2 (w64 ((s125.2.length:Int)-1))).bind fun x216 =>
 (idx s125.2 (w64 ((s125.2.length:Int)-1))).bind fun x217 =>
 (idx s125.2 (w64 ((s125.2.length:Int)-1))).bind fun x218 =>
 (idx s125.2 (w64 ((s125.2.length:Int)-1))).bind fun x219 =>
 j207 (s125.2.set (w64 ((s125.2.length:Int)-1)).toNat (aSpan.mk x219.fFrom (maxI x217.fTo x209.fTo)))
 else
 chk (decide ((s125.2++[x209]).length≤LIM)) <|
 j207 (s125.2++[x209]))) (fun j214 =>
 (if (decide (0<(s125.2.length:Int)))=true then
 (idx s125.2 (w64 ((s125.2.length:Int)-1))).bind fun x222 =>
 (idx s125.2 (w64 ((s125.2.length:Int)-1))).bind fun x223 =>
 j214 (decide (x209.fFrom≤(w64 (x223.fTo+1))))
 else
 j214 false)))
 else
 some (.inl s125.2))
def xref21_spans (a0:(List aSpan)):Option ((List aSpan)) :=
 (loop (xref21_spans_L0 a0) (0,([]:List aSpan))).bind fun p79 =>
 (loop (xref21_spans_L2 p79) (0,([]:List aSpan))).bind fun p188 =>
 some p188
theorem xref21_spans_ac (a0:(List aSpan)) (r:(List aSpan)) (h:xref21_spans a0=some r):AC Tryz.prog 56 [(.d (.list 2 (a0.map e_aSpan)))] [] (.d (.list 2 (r.map e_aSpan))) []:=by
 refine ac2 Tryz.func56 rfl rfl fun B hB hN L => ?_
 delta xref21_spans at h
 apply sr (c (assign (L rfl) Opd.nils) rfl cn)
 apply sr (c (assign (L rfl) Opd.nils) rfl cn)
 apply AWp.seq
 apply sr (c (mv hN (q 0)) rfl (c (OpJ.val (v':=(i6 (a0.length:Int))) (by simp) (lenD underlying55 (L rfl) (q 11))) rfl (c (mv hN (ii 0)) rfl cn)))
 apply AWp.block
 obtain⟨p79,hx124,h⟩:=bindS h
 refine lg (xref21_spans_L0 a0) (fun s1:Int×(List aSpan)=>([(3,(.sref 3003 2 0 s1.2.length)),(11,(qe_aSpan_2 a0)),(12,(i6 (a0.length:Int))),(13,(i6 s1.1))]:EL)) (fun s1:Int×(List aSpan)=>([(3003,some (we_aSpan_101_2 s1.2))]:OL)) (fun(p79:((List aSpan))) e E' O'=>e = .exit 0∧Mat B E' O' ([(3,(.sref 3003 2 0 p79.length))]:EL) ([(3003,some (we_aSpan_101_2 p79))]:OL)) hx124 (Mat.trans (Mat.beginP (n:=3003) (e:=101) (sz:=2) (Ts:=[(3,(.sref 3003 2 0 0))]) (Bs:=[]) hB (by decide) (by rfl) (by decide) (TwT.cons (x:=.nils) (by rfl) (Tw.leaf ⟨rfl,rfl⟩) TwT.nil) TwB.nil) (mp [] _ _ hB)) (fun s1 y h => ?_) (fun e E' O' hR => ?_)
 ·unfold xref21_spans_L0 at h
  apply sr (c (lss (L rfl) (q 13) (q 12)) rfl cn)
  apply AWp.seq
  apply AWp.cond rfl<;>intro hg80
  ·have h:=ite_t hg80 h
   apply AWp.skip
   apply seqQ_n
   apply AWp.seq
   apply AWp.block
   obtain⟨x81,hx81,h⟩:=bindS h
   apply sr (c (indexD underlying55 tyS101 (idx_some hx81).1 (get_map e_aSpan (idx_some hx81).2) (L rfl) (q 11) (q 13)) rfl (c (loadD tyS101 (by rfl) (by rfl) (L rfl) (q 15)) rfl (cg (alloc hB tyZ101 (nm:=1005) (by decide) (L rfl)) rfl (cg (sB tyS101 (q 5) (q 16)) rfl cn))))
   apply sr (c (assign (L rfl) (ii 0)) rfl cn)
   apply AWp.seq
   apply AWp.block
   obtain⟨p101,hx112,h⟩:=bindS h
   refine lg (xref21_spans_L1 s1 x81) (fun s82:Int=>([(3,(.sref 3003 2 0 s1.2.length)),(5,(pt 1005)),(6,(i6 s82)),(11,(qe_aSpan_2 a0)),(12,(i6 (a0.length:Int))),(13,(i6 s1.1))]:EL)) (fun s82:Int=>([(1005,bd 101 (e_aSpan x81)),(3003,some (we_aSpan_101_2 s1.2))]:OL)) (fun(p101:(Int)) e E' O'=>e = .exit 2∧Mat B E' O' ([(3,(.sref 3003 2 0 s1.2.length)),(5,(pt 1005)),(6,(i6 p101)),(11,(qe_aSpan_2 a0)),(12,(i6 (a0.length:Int))),(13,(i6 s1.1))]:EL) ([(1005,bd 101 (e_aSpan x81)),(3003,some (we_aSpan_101_2 s1.2))]:OL)) hx112 (mp [] _ _ hB) (fun s82 y h => ?_) (fun e E' O' hR => ?_)
   ·unfold xref21_spans_L1 at h
    apply AWp.seq
    apply AWp.seq
    refine AWp.cut h (fun m105:Bool=>([(3,(.sref 3003 2 0 s1.2.length)),(5,(pt 1005)),(6,(i6 s82)),(11,(qe_aSpan_2 a0)),(12,(i6 (a0.length:Int))),(13,(i6 s1.1)),(30,(bo m105))]:EL)) (fun m105:Bool=>([(1005,bd 101 (e_aSpan x81)),(3003,some (we_aSpan_101_2 s1.2))]:OL)) (fun m105 h E' O' hmat => ?_) (fun j106 hjj106 h => ?_)
    ·apply seqQ_n
     refine AWp.ghost hmat ?_
     apply AWp.cond rfl<;>intro hg107
     ·have h:=ite_t hg107 h
      apply AWp.skip
      apply seqQ_n
      apply AWp.block
      apply rg (c (mv hN (q 6)) rfl (c (add6 (L rfl) (q 31) (ii 1)) rfl (c (assign (L rfl) (q 32)) rfl cn)))
      apply blkQ_n
      obtain rfl:=oi h
      exact⟨rfl,(mp [] _ _ hB)⟩
     ·have h:=ite_f hg107 h
      apply AWp.exit
      apply seqQ_e
      obtain rfl:=oi h
      exact⟨(fun hc=>by cases hc),rfl,(mp [] _ _ hB)⟩
    ·rcases bft (decide (s82<(s1.2.length:Int))) with hg108 | hg108
     ·have h:=ite_t hg108 h
      obtain⟨x109,hx109,h⟩:=bindS h
      obtain⟨x110,hx110,h⟩:=bindS h
      apply dr (c (mv hN (q 6)) rfl (c (mv hN (q 3)) rfl (c (lenS underlying55 (L rfl) (q 18)) rfl (c (lss (L rfl) (q 17) (q 19)) rfl (c (OpJ.val (v':=.d (.bool true)) (by rw [hg108]<;>rfl) (mv hN (q 20))) rfl (c (gd 21 (mv hN (q 3))) rfl (c (gd 21 (mv hN (q 6))) rfl (c (gd 21 (OpJ.val (v':=(.ptr 3003 (s82.toNat*2) [s82.toNat])) (by simp) (indexS underlying55 tyS101 (idx_some hx109).1 (by have:=idx_lt hx109;first | (simpa using this) | ((try simp only [List.length_map] at this);(try simp only [List.length_map]);omega)) (L rfl) (q 22) (q 23)))) rfl (c (gd 21 (ov (.ptr 3003 ((s82.toNat*2)+0) [s82.toNat,0]) (fp hN underlying101 0 tyS3 _ (q 24)))) rfl (c (gd 21 (loadR (e:=101) (sz:=2) tyS3 (get_map e_aSpan (idx_some hx110).2) (o:=0) (ad _) (by rfl) (by rfl) (by rfl) (L rfl) (q 25))) rfl (c (gd 21 (fo 1005 0 [0] hN underlying101 0 tyS3 (q 5))) rfl (c (gd 21 (la hN 101 tyS3 (q 27))) rfl (c (gd 21 (leq (L rfl) (q 26) (q 28))) rfl (c (pickT (L rfl) (q 21) (q 29)) rfl cn)))))))))))))) (by kernel_rfl) (by kernel_rfl)
      exact hjj106 _ h _ _ (mp [] _ _ hB)
     ·have h:=ite_f hg108 h
      apply dr (c (mv hN (q 6)) rfl (c (mv hN (q 3)) rfl (c (lenS underlying55 (L rfl) (q 18)) rfl (c (lss (L rfl) (q 17) (q 19)) rfl (c (OpJ.val (v':=.d (.bool false)) (by rw [hg108]<;>rfl) (mv hN (q 20))) rfl (ks 21 (L rfl) (ks 21 (L rfl) (ks 21 (L rfl) (ks 21 (L rfl) (ks 21 (L rfl) (ks 21 (L rfl) (ks 21 (L rfl) (ks 21 (L rfl) (c (pickF (L rfl) (q 21) (Opd.bool false)) rfl cn)))))))))))))) (by kernel_rfl) (by kernel_rfl)
      exact hjj106 _ h _ _ (mp [] _ _ hB)
   ·obtain⟨rfl,hmat⟩:=hR
    apply blkQ_hit
    apply seqQ_n
    refine AWp.ghost hmat ?_
    refine AWp.ghost (Mat.freezeP (n:=3003) (e:=101) (sz:=2) (es:=s1.2.map e_aSpan) (Ts:=[(3,(qe_aSpan_2 s1.2))]) (Bs:=[]) (by rfl) (TwT.cons (x:=(.sref 3003 2 0 s1.2.length)) (by rfl) (FrzL.all (by first | rfl | (simp;done) | (simp;omega) | omega)) TwT.nil) TwB.nil) ?_
    obtain⟨hc118,h⟩:=chk_some h
    obtain⟨hc119,h⟩:=chk_some h
    obtain⟨hc120,h⟩:=chk_some h
    obtain⟨hc121,h⟩:=chk_some h
    obtain⟨hc122,h⟩:=chk_some h
    apply dr (c (mv hN (q 3)) rfl (c (mv hN (q 6)) rfl (c (OpJ.cutD underlying55 tyS101 (es':=((s1.2.take p101.toNat).drop 0).map e_aSpan) (l:=0) (h:=p101.toNat) (.inl ⟨rfl,rfl,rfl⟩) (.inr ⟨_,_,_,rfl,(ot 34 (i6 p101)),(of_decide_eq_true (and_l2 (and_l2 hc118))),rfl⟩) (of_decide_eq_true (and_r2 (and_l2 hc118))) (by first | (simp;done) | simpa using (of_decide_eq_true (and_r2 hc118))) (by first | rw [List.map_drop,List.map_take] | simp [List.map_take,List.map_drop]) (L rfl) (q 33)) rfl (cg (OpJ.appendN hB underlying55 tyE101 (nm:=1036) (by decide) (ys:=((s1.2.take p101.toNat).drop 0).map e_aSpan) (len:=((s1.2.take p101.toNat).drop 0).length) (by simp) (map_sz (f:=e_aSpan) (fun _=>rfl)) (by rw [List.length_map];exact lim_mulN hc119 (by decide)) (by rw [List.length_map];exact lim_leN hc119) (L rfl) Opd.nils (q 35)) rfl (c (lb hN 101 _ _ tyS101 (At.here _) (q 5)) rfl (c (buildSlice underlying55 tyS101 tyZD101 (by rfl) (by decide) (by decide) (Opds.cons (q 37) Opds.nil) (by kernel_rfl) (es:=([(e_aSpan x81)]:List D)) (by rfl) (by rfl) (by kernel_rfl) (by simp) (L rfl)) rfl (cg (apd hB underlying55 tyE101 1039 e_aSpan ((s1.2.take p101.toNat).drop 0) [x81] hc120 (L rfl) (q 36) (q 38)) rfl (c (mv hN (q 3)) rfl (c (mv hN (q 6)) rfl (c (OpJ.cutD underlying55 tyS101 (es':=((s1.2.take s1.2.length).drop p101.toNat).map e_aSpan) (l:=p101.toNat) (h:=s1.2.length) (.inr ⟨_,_,_,rfl,(ot 41 (i6 p101)),(of_decide_eq_true (and_l2 (and_l2 hc121))),rfl⟩) (.inl ⟨rfl,by simp,rfl⟩) (of_decide_eq_true (and_r2 (and_l2 hc121))) (by first | (simp;done) | simpa using (of_decide_eq_true (and_r2 hc121))) (by first | rw [List.map_drop,List.map_take] | simp [List.map_take,List.map_drop]) (L rfl) (q 40)) rfl (cg (apd hB underlying55 tyE101 1043 e_aSpan (((s1.2.take p101.toNat).drop 0)++[x81]) ((s1.2.take s1.2.length).drop p101.toNat) hc122 (L rfl) (q 39) (q 42)) rfl (c (assign (L rfl) (q 43)) rfl cn)))))))))))) (by kernel_rfl) (by kernel_rfl)
    apply blkQ_n
    apply seqQ_n
    apply rg (c (add6 (L rfl) (q 13) (ii 1)) rfl (c (mv hN (q 44)) rfl cn))
    obtain rfl:=oi h
    exact⟨rfl,(mp [(3003,1043)] _ _ hB)⟩
  ·have h:=ite_f hg80 h
   apply AWp.exit
   apply seqQ_e
   obtain rfl:=oi h
   exact⟨(fun hc=>by cases hc),rfl,(mp [] _ _ hB)⟩
 ·obtain⟨rfl,hmat⟩:=hR
  apply blkQ_hit
  apply seqQ_n
  refine AWp.ghost hmat ?_
  apply sr (c (assign (L rfl) Opd.nils) rfl cn)
  apply AWp.seq
  apply sr (c (mv hN (q 3)) rfl (c (lenS underlying55 (L rfl) (q 45)) rfl (c (mv hN (ii 0)) rfl cn)))
  apply AWp.block
  obtain⟨p188,hx225,h⟩:=bindS h
  refine lg (xref21_spans_L2 p79) (fun s125:Int×(List aSpan)=>([(7,(.sref 3007 2 0 s125.2.length)),(45,(.sref 3003 2 0 p79.length)),(46,(i6 (p79.length:Int))),(47,(i6 s125.1))]:EL)) (fun s125:Int×(List aSpan)=>([(3003,some (we_aSpan_101_2 p79)),(3007,some (we_aSpan_101_2 s125.2))]:OL)) (fun(p188:((List aSpan))) e E' O'=>e = .exit 4∧Mat B E' O' ([(7,(.sref 3007 2 0 p188.length))]:EL) ([(3007,some (we_aSpan_101_2 p188))]:OL)) hx225 (Mat.trans (Mat.beginP (n:=3007) (e:=101) (sz:=2) (Ts:=[(7,(.sref 3007 2 0 0))]) (Bs:=[]) hB (by decide) (by rfl) (by decide) (TwT.cons (x:=.nils) (by rfl) (Tw.leaf ⟨rfl,rfl⟩) TwT.nil) TwB.nil) (mp [] _ _ hB)) (fun s125 y h => ?_) (fun e E' O' hR => ?_)
  ·unfold xref21_spans_L2 at h
   apply sr (c (lss (L rfl) (q 47) (q 46)) rfl cn)
   apply AWp.seq
   apply AWp.cond rfl<;>intro hg189
   ·have h:=ite_t hg189 h
    apply AWp.skip
    apply seqQ_n
    apply AWp.seq
    refine AWp.cut h (fun m206:(List aSpan)=>([(7,(.sref 3007 2 0 m206.length)),(45,(.sref 3003 2 0 p79.length)),(46,(i6 (p79.length:Int))),(47,(i6 s125.1))]:EL)) (fun m206:(List aSpan)=>([(3003,some (we_aSpan_101_2 p79)),(3007,some (we_aSpan_101_2 m206))]:OL)) (fun m206 h E' O' hmat => ?_) (fun j207 hjj207 h => ?_)
    ·apply seqQ_n
     refine AWp.ghost hmat ?_
     apply rg (c (add6 (L rfl) (q 47) (ii 1)) rfl (c (mv hN (q 85)) rfl cn))
     obtain rfl:=oi h
     exact⟨rfl,(mp [] _ _ hB)⟩
    ·apply AWp.block
     obtain⟨x208,hx208,h⟩:=bindS h
     obtain⟨x209,hx209,h⟩:=bindS h
     apply sr (c (OpJ.val (v':=(.ptr 3003 (s125.1.toNat*2) [s125.1.toNat])) (by simp) (indexS underlying55 tyS101 (idx_some hx208).1 (by have:=idx_lt hx208;first | (simpa using this) | ((try simp only [List.length_map] at this);(try simp only [List.length_map]);omega)) (L rfl) (q 45) (q 47))) rfl (c (loadR (e:=101) (sz:=2) tyS101 (get_map e_aSpan (idx_some hx209).2) (o:=0) (At.here _) (by rfl) (by rfl) (by rfl) (L rfl) (q 49)) rfl (cg (alloc hB tyZ101 (nm:=1009) (by decide) (L rfl)) rfl (cg (sB tyS101 (q 9) (q 50)) rfl cn))))
     apply AWp.seq
     apply sr (c (mv hN (q 7)) rfl (c (lenS underlying55 (L rfl) (q 51)) rfl (c (assign (L rfl) (q 52)) rfl cn)))
     apply AWp.seq
     refine AWp.cut h (fun m213:Bool=>([(7,(.sref 3007 2 0 s125.2.length)),(9,(pt 1009)),(10,(i6 (s125.2.length:Int))),(45,(.sref 3003 2 0 p79.length)),(46,(i6 (p79.length:Int))),(47,(i6 s125.1)),(66,(bo m213))]:EL)) (fun m213:Bool=>([(1009,bd 101 (e_aSpan x209)),(3003,some (we_aSpan_101_2 p79)),(3007,some (we_aSpan_101_2 s125.2))]:OL)) (fun m213 h E' O' hmat => ?_) (fun j214 hjj214 h => ?_)
     ·apply seqQ_n
      refine AWp.ghost hmat ?_
      apply AWp.cond rfl<;>intro hg215
      ·have h:=ite_t hg215 h
       obtain⟨x216,hx216,h⟩:=bindS h
       obtain⟨x217,hx217,h⟩:=bindS h
       obtain⟨x218,hx218,h⟩:=bindS h
       obtain⟨x219,hx219,h⟩:=bindS h
       apply sd (c (mv hN (q 7)) rfl (c (mv hN (q 10)) rfl (c (sub6 (L rfl) (q 68) (ii 1)) rfl (c (mv hN (q 7)) rfl (c (mv hN (q 10)) rfl (c (sub6 (L rfl) (q 71) (ii 1)) rfl (c (OpJ.val (v':=(.ptr 3007 ((w64 ((s125.2.length:Int)-1)).toNat*2) [(w64 ((s125.2.length:Int)-1)).toNat])) (by simp) (indexS underlying55 tyS101 (idx_some hx216).1 (by have:=idx_lt hx216;first | (simpa using this) | ((try simp only [List.length_map] at this);(try simp only [List.length_map]);omega)) (L rfl) (q 70) (q 72))) rfl (c (ov (.ptr 3007 (((w64 ((s125.2.length:Int)-1)).toNat*2)+1) [(w64 ((s125.2.length:Int)-1)).toNat,1]) (fp hN underlying101 1 tyS3 _ (q 73))) rfl (c (loadR (e:=101) (sz:=2) tyS3 (get_map e_aSpan (idx_some hx217).2) (o:=1) (ad _) (by rfl) (by rfl) (by rfl) (L rfl) (q 74)) rfl (c (fo 1009 1 [1] hN underlying101 1 tyS3 (q 9)) rfl (c (la hN 101 tyS3 (q 76)) rfl (c (OpJ.max (L rfl) (q 75) (q 77)) rfl (c (OpJ.val (v':=(.ptr 3007 ((w64 ((s125.2.length:Int)-1)).toNat*2) [(w64 ((s125.2.length:Int)-1)).toNat])) (by simp) (indexS underlying55 tyS101 (idx_some hx218).1 (by have:=idx_lt hx218;first | (simpa using this) | ((try simp only [List.length_map] at this);(try simp only [List.length_map]);omega)) (L rfl) (q 67) (q 69))) rfl (c (ov (.ptr 3007 (((w64 ((s125.2.length:Int)-1)).toNat*2)+1) [(w64 ((s125.2.length:Int)-1)).toNat,1]) (fp hN underlying101 1 tyS3 _ (q 79))) rfl (cg (OpJ.storeR (e:=101) (sz:=2) (es':=(s125.2.set (w64 ((s125.2.length:Int)-1)).toNat (aSpan.mk x219.fFrom (maxI x217.fTo x209.fTo))).map e_aSpan) tyS3 (get_map e_aSpan (idx_some hx219).2) (o:=1) (SetAt.dst1 (by rfl) (by rfl) (SetAt.here _ _) (by rfl) (by rfl) (by first | rfl | omega)) (by rfl) (map_set _ _ _ _) (by rfl) (by rfl) (q 80) (q 78)) rfl cn))))))))))))))) (by kernel_rfl) (by kernel_rfl)
       refine gh [(7,_),(45,_),(46,_),(47,_)] [(3003,some _),(3007,some _)] hB rfl rfl (by rfl) ?_
       apply AWp.exit
       apply seqQ_e
       apply blkQ_hit
       exact hjj207 _ h _ _ (Mat.trans (Mat.lenP (Ts:=[(7,(.sref 3007 2 0 ((s125.2.set (w64 ((s125.2.length:Int)-1)).toNat (aSpan.mk x219.fFrom (maxI x217.fTo x209.fTo))).length)))]) (Bs:=[]) (TwT.cons (x:=(.sref 3007 2 0 s125.2.length)) (by rfl) (Tw.leaf ⟨_,_,_,_,_,rfl,rfl,(by first | rfl | (simp;done) | (simp;omega) | omega)⟩) TwT.nil) TwB.nil) (mp [] _ _ hB))
      ·have h:=ite_f hg215 h
       apply AWp.skip
       apply seqQ_n
       obtain⟨hc220,h⟩:=chk_some h
       apply rg (c (mv hN (q 7)) rfl (c (lb hN 101 _ _ tyS101 (At.here _) (q 9)) rfl (c (buildSlice underlying55 tyS101 tyZD101 (by rfl) (by decide) (by decide) (Opds.cons (q 82) Opds.nil) (by kernel_rfl) (es:=([(e_aSpan x209)]:List D)) (by rfl) (by rfl) (by kernel_rfl) (by simp) (L rfl)) rfl (cg (apd hB underlying55 tyE101 1084 e_aSpan s125.2 [x209] hc220 (L rfl) (q 81) (q 83)) rfl (c (assign (L rfl) (q 84)) rfl cn)))))
       apply blkQ_n
       exact hjj207 _ h _ _ (mp [(3007,1084)] _ _ hB)
     ·rcases bft (decide (0<(s125.2.length:Int))) with hg221 | hg221
      ·have h:=ite_t hg221 h
       obtain⟨x222,hx222,h⟩:=bindS h
       obtain⟨x223,hx223,h⟩:=bindS h
       apply dr (c (mv hN (q 10)) rfl (c (gtr (L rfl) (q 53) (ii 0)) rfl (c (OpJ.val (v':=.d (.bool true)) (by rw [hg221]<;>rfl) (mv hN (q 54))) rfl (c (gd 55 (fo 1009 0 [0] hN underlying101 0 tyS3 (q 9))) rfl (c (gd 55 (la hN 101 tyS3 (q 56))) rfl (c (gd 55 (mv hN (q 7))) rfl (c (gd 55 (mv hN (q 10))) rfl (c (gd 55 (sub6 (L rfl) (q 59) (ii 1))) rfl (c (gd 55 (OpJ.val (v':=(.ptr 3007 ((w64 ((s125.2.length:Int)-1)).toNat*2) [(w64 ((s125.2.length:Int)-1)).toNat])) (by simp) (indexS underlying55 tyS101 (idx_some hx222).1 (by have:=idx_lt hx222;first | (simpa using this) | ((try simp only [List.length_map] at this);(try simp only [List.length_map]);omega)) (L rfl) (q 58) (q 60)))) rfl (c (gd 55 (ov (.ptr 3007 (((w64 ((s125.2.length:Int)-1)).toNat*2)+1) [(w64 ((s125.2.length:Int)-1)).toNat,1]) (fp hN underlying101 1 tyS3 _ (q 61)))) rfl (c (gd 55 (loadR (e:=101) (sz:=2) tyS3 (get_map e_aSpan (idx_some hx223).2) (o:=1) (ad _) (by rfl) (by rfl) (by rfl) (L rfl) (q 62))) rfl (c (gd 55 (add6 (L rfl) (q 63) (ii 1))) rfl (c (gd 55 (leq (L rfl) (q 57) (q 64))) rfl (c (pickT (L rfl) (q 55) (q 65)) rfl cn)))))))))))))) (by kernel_rfl) (by kernel_rfl)
       exact hjj214 _ h _ _ (mp [] _ _ hB)
      ·have h:=ite_f hg221 h
       apply dr (c (mv hN (q 10)) rfl (c (gtr (L rfl) (q 53) (ii 0)) rfl (c (OpJ.val (v':=.d (.bool false)) (by rw [hg221]<;>rfl) (mv hN (q 54))) rfl (ks 55 (L rfl) (ks 55 (L rfl) (ks 55 (L rfl) (ks 55 (L rfl) (ks 55 (L rfl) (ks 55 (L rfl) (ks 55 (L rfl) (ks 55 (L rfl) (ks 55 (L rfl) (ks 55 (L rfl) (c (pickF (L rfl) (q 55) (Opd.bool false)) rfl cn)))))))))))))) (by kernel_rfl) (by kernel_rfl)
       exact hjj214 _ h _ _ (mp [] _ _ hB)
   ·have h:=ite_f hg189 h
    apply AWp.exit
    apply seqQ_e
    obtain rfl:=oi h
    exact⟨(fun hc=>by cases hc),rfl,(mp [] _ _ hB)⟩
  ·obtain⟨rfl,hmat⟩:=hR
   apply blkQ_hit
   apply seqQ_n
   refine AWp.ghost hmat ?_
   apply sr (c (mv hN (q 7)) rfl (c (assign (L rfl) (q 86)) rfl cn))
   apply AWp.ret
   obtain rfl:=oi h
   exact rt (Mat.trans (Mat.freezeP (n:=3007) (e:=101) (sz:=2) (es:=p188.map e_aSpan) (Ts:=[(2,(qe_aSpan_2 p188))]) (Bs:=[]) (by rfl) (TwT.cons (x:=(.sref 3007 2 0 p188.length)) (by rfl) (FrzL.all (by first | rfl | (simp;done) | (simp;omega) | omega)) TwT.nil) TwB.nil) (mp [] [(2,(qe_aSpan_2 p188))] [] hB)) [(qe_aSpan_2 p188)] (Res.tmp (by rfl) (by rfl) Res.nil) rfl
def xref21_limited (a0:(List aRange)) (a1:(List aSpan)):Option (aResources×Int) :=
 (if ((decide (256<(a0.length:Int))) || (decide (256<(a1.length:Int))))=true then
 some ((aResources.mk ([]:List aRange) ([]:List aSpan)),3)
 else
 some ((aResources.mk a0 a1),0))
theorem xref21_limited_ac (a0:(List aRange)) (a1:(List aSpan)) (r:aResources×Int) (h:xref21_limited a0 a1=some r):AC Tryz.prog 54 [(.d (.list 6 (a0.map e_aRange))),(.d (.list 2 (a1.map e_aSpan)))] [] (.tup [(.d (e_aResources r.1)),(.d (.int .i64 r.2))]) []:=by
 refine AC.of_code2 Tryz.func54 rfl rfl (Nat.le_of_ble_eq_true (by rfl)) fun B hB hN => ?_
 delta xref21_limited at h
 apply sr (cg (alloc hB tyZ57 (nm:=1004) (by decide) (ltN hN rfl)) rfl (c (assign (ltN hN rfl) (ii 0)) rfl cn))
 apply AWp.seq
 apply sr (c (mv hN (q 0)) rfl (c (OpJ.val (v':=(i6 (a0.length:Int))) (by simp) (lenD underlying54 (ltN hN rfl) (q 6))) rfl (c (gtr (ltN hN rfl) (q 7) (ii 256)) rfl (c (mv hN (q 8)) rfl (c (oq hN 9 (mv hN (q 1)) (OptL.keep (by rfl) OptL.nil) (GuardV.plain _)) rfl (c (oq hN 9 (OpJ.val (v':=(i6 (a1.length:Int))) (by simp) (lenD underlying55 (ltN hN rfl) (q 10))) (OptL.opt OptL.nil) (GuardV.plain _)) rfl (c (oq hN 9 (gtr (ltN hN rfl) (q 11) (ii 256)) (OptL.opt OptL.nil) (GuardV.plain _)) rfl (c (pickOr rfl (ltN hN rfl) (q 9) (q 12)) rfl cn))))))))
 apply AWp.cond rfl<;>intro hg1
 ·have h:=ite_t hg1 h
  apply sr (c (OpJ.build (places:=[(0,1),(1,1)]) ⟨underlying57,fun w=>by kernel_rfl⟩ tyZS57 Opds.nil (by kernel_rfl) (r:=(.st [.nils,.nils])) (by rfl) (ltN hN rfl)) rfl (cg (sB tyS57 (q 4) (q 14)) rfl (c (assign (ltN hN rfl) (ii 3)) rfl cn)))
  apply AWp.ret
  apply seqQ_r
  obtain rfl:=oi h
  exact rt (Mat.trans (Mat.coeP (Ts:=[]) (Bs:=[(1004,bd 57 (.st [(.list 6 (([]:List aRange).map e_aRange)),(.list 2 (([]:List aSpan).map e_aSpan))]))]) TwT.nil (TwB.cons (x:=(.st [.nils,.nils])) (by rfl) (Tw.leaf ⟨_,(Co.st (CoL.cons (Co.nils 6) (CoL.cons (Co.nils 2) CoL.nil))),rfl⟩) TwB.nil)) (mp [] [(4,(pt 1004)),(5,(i6 3))] [(1004,bd 57 (.st [(.list 6 (([]:List aRange).map e_aRange)),(.list 2 (([]:List aSpan).map e_aSpan))]))] hB)) [(.d (.st [(.list 6 (([]:List aRange).map e_aRange)),(.list 2 (([]:List aSpan).map e_aSpan))])),(i6 3)] (Res.cell (c:=(.d (.st [(.list 6 (([]:List aRange).map e_aRange)),(.list 2 (([]:List aSpan).map e_aSpan))]))) (by rfl) (by rfl) tyS57 (by rfl) (by rfl) (by rfl) (Res.tmp (by rfl) (by rfl) Res.nil)) rfl
 ·have h:=ite_f hg1 h
  apply AWp.skip
  apply seqQ_n
  apply sr (c (mv hN (q 0)) rfl (c (mv hN (q 1)) rfl (c (OpJ.coe (v:=(.st [(qe_aRange_6 a0),(qe_aSpan_2 a1)])) (y:=(.st [(.list 6 (a0.map e_aRange)),(.list 2 (a1.map e_aSpan))])) (Co.st (CoL.cons (Co.d _) (CoL.cons (Co.d _) CoL.nil))) rfl (OpJ.build (places:=[(0,1),(1,1)]) ⟨underlying57,fun w=>by kernel_rfl⟩ tyZS57 (Opds.cons (q 15) (Opds.cons (q 16) Opds.nil)) (by kernel_rfl) (r:=(.st [(qe_aRange_6 a0),(qe_aSpan_2 a1)])) (by rfl) (ltN hN rfl))) rfl (cg (sB tyS57 (q 4) (q 17)) rfl (c (assign (ltN hN rfl) (ii 0)) rfl cn)))))
  apply AWp.ret
  obtain rfl:=oi h
  exact rt (kp [(4,_),(5,_)] [(1004,some _)] hB rfl rfl (by rfl)) [(.d (.st [(.list 6 (a0.map e_aRange)),(.list 2 (a1.map e_aSpan))])),(i6 0)] (Res.cell (c:=(.d (.st [(.list 6 (a0.map e_aRange)),(.list 2 (a1.map e_aSpan))]))) (by rfl) (by rfl) tyS57 (by rfl) (by rfl) (by rfl) (Res.tmp (by rfl) (by rfl) Res.nil)) rfl
def xref21_Of_L0 (a0:(List aPrefix)) (s1:Int×(List aRange)):Option (((Unit)⊕((List aRange)))⊕(Int×(List aRange))) :=
 (if (decide (s1.1<(a0.length:Int)))=true then
 (idx a0 s1.1).bind fun x17 =>
 (xref02_Valid x17).bind fun r18 =>
 (if (!r18)=true then
 some (.inl (.inl ()))
 else
 (xref02_Last x17).bind fun r20 =>
 chk (decide ((s1.2++[(aRange.mk x17.fAddr r20)]).length≤LIM)) <|
 some (.inr ((w64 (s1.1+1)),(s1.2++[(aRange.mk x17.fAddr r20)]))))
 else
 some (.inl (.inr s1.2)))
def xref21_Of_L1 (a1:(List aSpan)) (s24:Int):Option (((Unit)⊕(Unit))⊕(Int)) :=
 (if (decide (s24<(a1.length:Int)))=true then
 (idx a1 s24).bind fun x34 =>
 (if (((decide (x34.fFrom<0)) || (decide (x34.fTo<x34.fFrom))) || (decide (4294967295<x34.fTo)))=true then
 some (.inl (.inl ()))
 else
 some (.inr (w64 (s24+1))))
 else
 some (.inl (.inr ())))
def xref21_Of (a0:(List aPrefix)) (a1:(List aSpan)):Option (aResources×Int) :=
 (loop (xref21_Of_L0 a0) (0,([]:List aRange))).bind fun x22=>match x22 with
 | (.inl _) =>
  some ((aResources.mk ([]:List aRange) ([]:List aSpan)),1)
 | (.inr p15) =>
  (loop (xref21_Of_L1 a1) 0).bind fun x36=>match x36 with
  | (.inl _) =>
   some ((aResources.mk ([]:List aRange) ([]:List aSpan)),1)
  | (.inr _) =>
   (xref21_ranges p15).bind fun r38 =>
   (xref21_spans a1).bind fun r39 =>
   (xref21_limited r38 r39).bind fun r40 =>
   some (r40.1,r40.2)
theorem xref21_Of_ac (a0:(List aPrefix)) (a1:(List aSpan)) (r:aResources×Int) (h:xref21_Of a0 a1=some r):AC Tryz.prog 28 [(.d (.list 4 (a0.map e_aPrefix))),(.d (.list 2 (a1.map e_aSpan)))] [] (.tup [(.d (e_aResources r.1)),(.d (.int .i64 r.2))]) []:=by
 refine ac2 Tryz.func28 rfl rfl fun B hB hN L => ?_
 delta xref21_Of at h
 apply sr (cg (alloc hB tyZ57 (nm:=1004) (by decide) (L rfl)) rfl (c (assign (L rfl) (ii 0)) rfl cn))
 apply sr (c (assign (L rfl) Opd.nils) rfl cn)
 apply AWp.seq
 apply sr (c (mv hN (q 0)) rfl (c (OpJ.val (v':=(i6 (a0.length:Int))) (by simp) (lenD underlying50 (L rfl) (q 11))) rfl (c (mv hN (ii 0)) rfl cn)))
 apply AWp.block
 obtain⟨x22,hx23,h⟩:=bindS h
 refine lg (xref21_Of_L0 a0) (fun s1:Int×(List aRange)=>([(1,(qe_aSpan_2 a1)),(4,(pt 1004)),(6,(.sref 3006 6 0 s1.2.length)),(11,(qe_aPrefix_4 a0)),(12,(i6 (a0.length:Int))),(13,(i6 s1.1))]:EL)) (fun s1:Int×(List aRange)=>([(1004,some (.box 57 (.st [.nils,.nils]))),(3006,some (we_aRange_92_6 s1.2))]:OL)) (fun(x:(Unit)⊕((List aRange))) e E' O'=>match x with | (.inl _p)=>e = .ret∧Mat B E' O' ([(4,(pt 1004)),(5,(i6 1))]:EL) ([(1004,some (.box 57 (.st [.nils,.nils])))]:OL) | (.inr p15)=>e = .exit 0∧Mat B E' O' ([(1,(qe_aSpan_2 a1)),(4,(pt 1004)),(6,(.sref 3006 6 0 p15.length))]:EL) ([(1004,some (.box 57 (.st [.nils,.nils]))),(3006,some (we_aRange_92_6 p15))]:OL)) hx23 (Mat.trans (Mat.beginP (n:=3006) (e:=92) (sz:=6) (Ts:=[(6,(.sref 3006 6 0 0))]) (Bs:=[]) hB (by decide) (by rfl) (by decide) (TwT.cons (x:=.nils) (by rfl) (Tw.leaf ⟨rfl,rfl⟩) TwT.nil) TwB.nil) (mp [] _ _ hB)) (fun s1 y h => ?_) (fun e E' O' hR => ?_)
 ·unfold xref21_Of_L0 at h
  apply sr (c (lss (L rfl) (q 13) (q 12)) rfl cn)
  apply AWp.seq
  apply AWp.cond rfl<;>intro hg16
  ·have h:=ite_t hg16 h
   apply AWp.skip
   apply seqQ_n
   apply AWp.seq
   apply AWp.block
   obtain⟨x17,hx17,h⟩:=bindS h
   apply sr (c (indexD underlying50 tyS46 (idx_some hx17).1 (get_map e_aPrefix (idx_some hx17).2) (L rfl) (q 11) (q 13)) rfl (c (loadD tyS46 (by rfl) (by rfl) (L rfl) (q 15)) rfl (cg (alloc hB tyZ46 (nm:=1008) (by decide) (L rfl)) rfl (cg (sB tyS46 (q 8) (q 16)) rfl cn))))
   apply AWp.seq
   obtain⟨r18,hr18,h⟩:=bindS h
   apply sr (c (lb hN 46 _ _ tyS46 (At.here _) (q 8)) rfl (cg (cf hB fnOk53 (xref02_Valid_ac x17 r18 hr18) (L rfl) (OpdL.cons (q 17) OpdL.nil)) rfl (c (OpJ.not (L rfl) (q 18)) rfl cn)))
   apply AWp.cond rfl<;>intro hg19
   ·have h:=ite_t hg19 h
    apply sr (c (OpJ.build (places:=[(0,1),(1,1)]) ⟨underlying57,fun w=>by kernel_rfl⟩ tyZS57 Opds.nil (by kernel_rfl) (r:=(.st [.nils,.nils])) (by rfl) (L rfl)) rfl (cg (sB tyS57 (q 4) (q 20)) rfl (c (assign (L rfl) (ii 1)) rfl cn)))
    apply AWp.ret
    apply seqQ_r
    apply blkQ_r
    apply seqQ_r
    obtain rfl:=oi h
    exact⟨(fun hc=>by cases hc),rfl,(mp [] _ _ hB)⟩
   ·have h:=ite_f hg19 h
    apply AWp.skip
    apply seqQ_n
    obtain⟨r20,hr20,h⟩:=bindS h
    obtain⟨hc21,h⟩:=chk_some h
    apply dr (c (mv hN (q 6)) rfl (c (fo 1008 0 [0] hN underlying46 0 tyS44 (q 8)) rfl (c (la hN 46 tyS44 (q 22)) rfl (c (lb hN 46 _ _ tyS46 (At.here _) (q 8)) rfl (cg (cf hB fnOk47 (xref02_Last_ac x17 r20 hr20) (L rfl) (OpdL.cons (q 24) OpdL.nil)) rfl (c (OpJ.coe (v:=(.st [(.d (e_aAddr x17.fAddr)),(.d (e_aAddr r20))])) (y:=(.st [(e_aAddr x17.fAddr),(e_aAddr r20)])) (Co.st (CoL.cons (Co.d _) (CoL.cons (Co.d _) CoL.nil))) rfl (OpJ.build (places:=[(0,3),(3,3)]) ⟨underlying92,fun w=>by kernel_rfl⟩ tyZS92 (Opds.cons (q 23) (Opds.cons (q 25) Opds.nil)) (by kernel_rfl) (r:=(.st [(.d (e_aAddr x17.fAddr)),(.d (e_aAddr r20))])) (by rfl) (L rfl))) rfl (c (buildSlice underlying54 tyS92 tyZD92 (by rfl) (by decide) (by decide) (Opds.cons (q 26) Opds.nil) (by kernel_rfl) (es:=([(.st [(e_aAddr x17.fAddr),(e_aAddr r20)])]:List D)) (by rfl) (by rfl) (by kernel_rfl) (by simp) (L rfl)) rfl (cg (apd hB underlying54 tyE92 1028 e_aRange s1.2 [(aRange.mk x17.fAddr r20)] hc21 (L rfl) (q 21) (q 27)) rfl (c (assign (L rfl) (q 28)) rfl cn))))))))) (by kernel_rfl) (by kernel_rfl)
    apply blkQ_n
    apply seqQ_n
    apply rg (c (add6 (L rfl) (q 13) (ii 1)) rfl (c (mv hN (q 29)) rfl cn))
    obtain rfl:=oi h
    exact⟨rfl,(mp [(3006,1028)] _ _ hB)⟩
  ·have h:=ite_f hg16 h
   apply AWp.exit
   apply seqQ_e
   obtain rfl:=oi h
   exact⟨(fun hc=>by cases hc),rfl,(mp [] _ _ hB)⟩
 ·rcases x22 with _ | p15
  ·obtain⟨rfl,hmat⟩:=hR
   apply blkQ_r
   apply seqQ_r
   obtain rfl:=oi h
   exact rt (Mat.trans hmat (Mat.trans (Mat.coeP (Ts:=[]) (Bs:=[(1004,bd 57 (.st [(.list 6 (([]:List aRange).map e_aRange)),(.list 2 (([]:List aSpan).map e_aSpan))]))]) TwT.nil (TwB.cons (x:=(.st [.nils,.nils])) (by rfl) (Tw.leaf ⟨_,(Co.st (CoL.cons (Co.nils 6) (CoL.cons (Co.nils 2) CoL.nil))),rfl⟩) TwB.nil)) (mp [] [(4,(pt 1004)),(5,(i6 1))] [(1004,bd 57 (.st [(.list 6 (([]:List aRange).map e_aRange)),(.list 2 (([]:List aSpan).map e_aSpan))]))] hB))) [(.d (.st [(.list 6 (([]:List aRange).map e_aRange)),(.list 2 (([]:List aSpan).map e_aSpan))])),(i6 1)] (Res.cell (c:=(.d (.st [(.list 6 (([]:List aRange).map e_aRange)),(.list 2 (([]:List aSpan).map e_aSpan))]))) (by rfl) (by rfl) tyS57 (by rfl) (by rfl) (by rfl) (Res.tmp (by rfl) (by rfl) Res.nil)) rfl
  ·obtain⟨rfl,hmat⟩:=hR
   apply blkQ_hit
   apply seqQ_n
   refine AWp.ghost hmat ?_
   apply AWp.seq
   apply sr (c (mv hN (q 1)) rfl (c (OpJ.val (v':=(i6 (a1.length:Int))) (by simp) (lenD underlying55 (L rfl) (q 30))) rfl (c (mv hN (ii 0)) rfl cn)))
   apply AWp.block
   obtain⟨x36,hx37,h⟩:=bindS h
   refine lg (xref21_Of_L1 a1) (fun s24:Int=>([(1,(qe_aSpan_2 a1)),(4,(pt 1004)),(6,(.sref 3006 6 0 p15.length)),(30,(qe_aSpan_2 a1)),(31,(i6 (a1.length:Int))),(32,(i6 s24))]:EL)) (fun s24:Int=>([(1004,some (.box 57 (.st [.nils,.nils]))),(3006,some (we_aRange_92_6 p15))]:OL)) (fun(x:(Unit)⊕(Unit)) e E' O'=>match x with | (.inl _p)=>e = .ret∧Mat B E' O' ([(4,(pt 1004)),(5,(i6 1))]:EL) ([(1004,some (.box 57 (.st [.nils,.nils])))]:OL) | (.inr _p)=>e = .exit 2∧Mat B E' O' ([(1,(qe_aSpan_2 a1)),(4,(pt 1004)),(6,(.sref 3006 6 0 p15.length))]:EL) ([(1004,some (.box 57 (.st [.nils,.nils]))),(3006,some (we_aRange_92_6 p15))]:OL)) hx37 (mp [] _ _ hB) (fun s24 y h => ?_) (fun e E' O' hR => ?_)
   ·unfold xref21_Of_L1 at h
    apply sr (c (lss (L rfl) (q 32) (q 31)) rfl cn)
    apply AWp.seq
    apply AWp.cond rfl<;>intro hg33
    ·have h:=ite_t hg33 h
     apply AWp.skip
     apply seqQ_n
     apply AWp.seq
     apply AWp.block
     obtain⟨x34,hx34,h⟩:=bindS h
     apply sr (c (indexD underlying55 tyS101 (idx_some hx34).1 (get_map e_aSpan (idx_some hx34).2) (L rfl) (q 30) (q 32)) rfl (c (loadD tyS101 (by rfl) (by rfl) (L rfl) (q 34)) rfl (cg (alloc hB tyZ101 (nm:=1010) (by decide) (L rfl)) rfl (cg (sB tyS101 (q 10) (q 35)) rfl cn))))
     apply sr (c (fo 1010 0 [0] hN underlying101 0 tyS3 (q 10)) rfl (c (la hN 101 tyS3 (q 36)) rfl (c (lss (L rfl) (q 37) (ii 0)) rfl (c (mv hN (q 38)) rfl (c (oq hN 39 (fo 1010 0 [0] hN underlying101 0 tyS3 (q 10)) (OptL.keep (by rfl) OptL.nil) (GuardV.plain _)) rfl (c (oq hN 39 (la hN 101 tyS3 (q 40)) (OptL.opt OptL.nil) (GuardV.plain _)) rfl (c (oq hN 39 (fo 1010 1 [1] hN underlying101 1 tyS3 (q 10)) (OptL.keep (by rfl) OptL.nil) (GuardV.plain _)) rfl (c (oq hN 39 (la hN 101 tyS3 (q 42)) (OptL.opt OptL.nil) (GuardV.plain _)) rfl (c (oq hN 39 (gtr (L rfl) (q 41) (q 43)) (OptL.opt (OptL.opt OptL.nil)) (GuardV.plain _)) rfl (c (pickOr rfl (L rfl) (q 39) (q 44)) rfl (c (mv hN (q 45)) rfl (c (oq hN 46 (fo 1010 1 [1] hN underlying101 1 tyS3 (q 10)) (OptL.keep (by rfl) OptL.nil) (GuardV.plain _)) rfl (c (oq hN 46 (la hN 101 tyS3 (q 47)) (OptL.opt OptL.nil) (GuardV.plain _)) rfl (c (oq hN 46 (gtr (L rfl) (q 48) (ii 4294967295)) (OptL.opt OptL.nil) (GuardV.plain _)) rfl (c (pickOr rfl (L rfl) (q 46) (q 49)) rfl cn)))))))))))))))
     apply AWp.cond rfl<;>intro hg35
     ·have h:=ite_t hg35 h
      apply sr (c (OpJ.build (places:=[(0,1),(1,1)]) ⟨underlying57,fun w=>by kernel_rfl⟩ tyZS57 Opds.nil (by kernel_rfl) (r:=(.st [.nils,.nils])) (by rfl) (L rfl)) rfl (cg (sB tyS57 (q 4) (q 51)) rfl (c (assign (L rfl) (ii 1)) rfl cn)))
      apply AWp.ret
      apply blkQ_r
      apply seqQ_r
      obtain rfl:=oi h
      exact⟨(fun hc=>by cases hc),rfl,(mp [] _ _ hB)⟩
     ·have h:=ite_f hg35 h
      apply AWp.skip
      apply blkQ_n
      apply seqQ_n
      apply rg (c (add6 (L rfl) (q 32) (ii 1)) rfl (c (mv hN (q 52)) rfl cn))
      obtain rfl:=oi h
      exact⟨rfl,(mp [] _ _ hB)⟩
    ·have h:=ite_f hg33 h
     apply AWp.exit
     apply seqQ_e
     obtain rfl:=oi h
     exact⟨(fun hc=>by cases hc),rfl,(mp [] _ _ hB)⟩
   ·rcases x36 with _ | _
    ·obtain⟨rfl,hmat⟩:=hR
     apply blkQ_r
     apply seqQ_r
     obtain rfl:=oi h
     exact rt (Mat.trans hmat (Mat.trans (Mat.coeP (Ts:=[]) (Bs:=[(1004,bd 57 (.st [(.list 6 (([]:List aRange).map e_aRange)),(.list 2 (([]:List aSpan).map e_aSpan))]))]) TwT.nil (TwB.cons (x:=(.st [.nils,.nils])) (by rfl) (Tw.leaf ⟨_,(Co.st (CoL.cons (Co.nils 6) (CoL.cons (Co.nils 2) CoL.nil))),rfl⟩) TwB.nil)) (mp [] [(4,(pt 1004)),(5,(i6 1))] [(1004,bd 57 (.st [(.list 6 (([]:List aRange).map e_aRange)),(.list 2 (([]:List aSpan).map e_aSpan))]))] hB))) [(.d (.st [(.list 6 (([]:List aRange).map e_aRange)),(.list 2 (([]:List aSpan).map e_aSpan))])),(i6 1)] (Res.cell (c:=(.d (.st [(.list 6 (([]:List aRange).map e_aRange)),(.list 2 (([]:List aSpan).map e_aSpan))]))) (by rfl) (by rfl) tyS57 (by rfl) (by rfl) (by rfl) (Res.tmp (by rfl) (by rfl) Res.nil)) rfl
    ·obtain⟨rfl,hmat⟩:=hR
     apply blkQ_hit
     apply seqQ_n
     refine AWp.ghost hmat ?_
     apply AWp.seq
     refine AWp.ghost (Mat.freezeP (n:=3006) (e:=92) (sz:=6) (es:=p15.map e_aRange) (Ts:=[(6,(qe_aRange_6 p15))]) (Bs:=[]) (by rfl) (TwT.cons (x:=(.sref 3006 6 0 p15.length)) (by rfl) (FrzL.all (by first | rfl | (simp;done) | (simp;omega) | omega)) TwT.nil) TwB.nil) ?_
     obtain⟨r38,hr38,h⟩:=bindS h
     obtain⟨r39,hr39,h⟩:=bindS h
     obtain⟨r40,hr40,h⟩:=bindS h
     apply rg (c (mv hN (q 6)) rfl (cg (cf hB fnOk55 (xref21_ranges_ac p15 r38 hr38) (L rfl) (OpdL.cons (q 53) OpdL.nil)) rfl (c (mv hN (q 1)) rfl (cg (cf hB fnOk56 (xref21_spans_ac a1 r39 hr39) (L rfl) (OpdL.cons (q 55) OpdL.nil)) rfl (cg (cf hB fnOk54 (xref21_limited_ac r38 r39 r40 hr40) (L rfl) (OpdL.cons (q 54) (OpdL.cons (q 56) OpdL.nil))) rfl (c (extract (by rfl) rfl (L rfl) (q 57)) rfl (c (extract (by rfl) rfl (L rfl) (q 57)) rfl (cg (sB tyS57 (q 4) (q 58)) rfl (c (assign (L rfl) (q 59)) rfl cn)))))))))
     apply seqQ_n
     apply AWp.ret
     obtain rfl:=oi h
     exact rt (kp [(4,_),(5,_)] [(1004,some _)] hB rfl rfl (by rfl)) [(.d (e_aResources r40.1)),(i6 r40.2)] (Res.cell (c:=(.d (e_aResources r40.1))) (by rfl) (by rfl) tyS57 (by rfl) (by rfl) (by rfl) (Res.tmp (by rfl) (by rfl) Res.nil)) rfl
def origin_current (a0:Int) (a1:Int) (a2:Int):Option (Bool) :=
 some ((decide (a0≤a2))&&(decide (a2≤a1)))
theorem origin_current_ac (a0:Int) (a1:Int) (a2:Int) (r:Bool) (h:origin_current a0 a1 a2=some r):AC Tryz.prog 31 [(.d (.int .i64 a0)),(.d (.int .i64 a1)),(.d (.int .i64 a2))] [] (.d (.bool r)) []:=by
 refine AC.of_code2 Tryz.func31 rfl rfl (Nat.le_of_ble_eq_true (by rfl)) fun B hB hN => ?_
 delta origin_current at h
 apply sr (c (assign (ltN hN rfl) (Opd.bool false)) rfl cn)
 apply sr (c (mv hN (q 0)) rfl (c (mv hN (q 2)) rfl (c (leq (ltN hN rfl) (q 7) (q 8)) rfl (c (mv hN (q 9)) rfl (c (oq hN 10 (mv hN (q 2)) (OptL.keep (by rfl) OptL.nil) (GuardV.plain _)) rfl (c (oq hN 10 (mv hN (q 1)) (OptL.keep (by rfl) OptL.nil) (GuardV.plain _)) rfl (c (oq hN 10 (leq (ltN hN rfl) (q 11) (q 12)) (OptL.opt (OptL.opt OptL.nil)) (GuardV.plain _)) rfl (c (pickAnd rfl (ltN hN rfl) (q 10) (q 13)) rfl (c (assign (ltN hN rfl) (q 14)) rfl cn)))))))))
 apply AWp.ret
 obtain rfl:=oi h
 exact rt (kp [(6,_)] [] hB rfl rfl (by rfl)) [(bo ((decide (a0≤a2))&&(decide (a2≤a1))))] (Res.tmp (by rfl) (by rfl) Res.nil) rfl
def addr_Valid (a0:aAddr):Option (Bool) :=
 jn (fun m2:Bool =>
 some m2) (fun j3 =>
 (if a0.fV6=true then
 j3 true
 else
 j3 ((a0.fHi==0)&&(decide (a0.fLo<4294967296)))))
theorem addr_Valid_ac (a0:aAddr) (r:Bool) (h:addr_Valid a0=some r):AC Tryz.prog 59 [(.d (e_aAddr a0))] [] (.d (.bool r)) []:=by
 refine ac2 Tryz.func59 rfl rfl fun B hB hN L => ?_
 delta addr_Valid at h
 apply sr (cg (OpJ.box hB (nm:=1001) (by decide) (by simp) rfl (L rfl) (q 0)) rfl (c (assign (L rfl) (Opd.bool false)) rfl cn))
 apply AWp.seq
 refine AWp.cut h (fun m2:Bool=>([(2,(bo m2))]:EL)) (fun m2:Bool=>([]:OL)) (fun m2 h E' O' hmat => ?_) (fun j3 hjj3 h => ?_)
 ·apply seqQ_n
  refine AWp.ghost hmat ?_
  apply AWp.ret
  obtain rfl:=oi h
  exact rt (kp [(2,_)] [] hB rfl rfl (by rfl)) [(bo m2)] (Res.tmp (by rfl) (by rfl) Res.nil) rfl
 ·rcases bft a0.fV6 with hg4 | hg4
  ·have h:=ite_t hg4 h
   apply rg (c (fo 1001 0 [0] hN underlying44 0 tyS4 (q 1)) rfl (c (la hN 44 tyS4 (q 3)) rfl (c (OpJ.val (v':=.d (.bool true)) (by rw [hg4]<;>rfl) (mv hN (q 4))) rfl (ks 5 (L rfl) (ks 5 (L rfl) (ks 5 (L rfl) (ks 5 (L rfl) (cg (sV 9 (L rfl)) rfl (cg (sV 9 (L rfl)) rfl (cg (sV 9 (L rfl)) rfl (ks 5 (L rfl) (c (pickT (L rfl) (q 5) (Opd.bool true)) rfl (c (assign (L rfl) (q 14)) rfl cn)))))))))))))
   exact hjj3 _ h _ _ (mp [] _ _ hB)
  ·have h:=ite_f hg4 h
   apply rg (c (fo 1001 0 [0] hN underlying44 0 tyS4 (q 1)) rfl (c (la hN 44 tyS4 (q 3)) rfl (c (OpJ.val (v':=.d (.bool false)) (by rw [hg4]<;>rfl) (mv hN (q 4))) rfl (c (gd 5 (fo 1001 1 [1] hN underlying44 1 tyS42 (q 1))) rfl (c (gd 5 (la hN 44 tyS42 (q 6))) rfl (c (gd 5 (eqlI (L rfl) (q 7) (Opd.int .u64 (0)))) rfl (c (gd 5 (mv hN (q 8))) rfl (c (oq hN 9 (fo 1001 2 [2] hN underlying44 2 tyS42 (q 1)) (OptL.keep (by rfl) OptL.nil) (GuardV.plain _)) rfl (c (oq hN 9 (la hN 44 tyS42 (q 10)) (OptL.opt OptL.nil) (GuardV.plain _)) rfl (c (oq hN 9 (lss (L rfl) (q 11) (Opd.int .u64 (4294967296))) (OptL.opt OptL.nil) (GuardV.plain _)) rfl (c (gd 5 (pickAnd rfl (L rfl) (q 9) (q 12))) rfl (c (pickF (L rfl) (q 5) (q 13)) rfl (c (assign (L rfl) (q 14)) rfl cn)))))))))))))
   exact hjj3 _ h _ _ (mp [] _ _ hB)
def resource_span (a0:aSpan):Option (Bool) :=
 some (((decide (0≤a0.fFrom))&&(decide (a0.fFrom≤a0.fTo)))&&(decide (a0.fTo≤4294967295)))
theorem resource_span_ac (a0:aSpan) (r:Bool) (h:resource_span a0=some r):AC Tryz.prog 62 [(.d (e_aSpan a0))] [] (.d (.bool r)) []:=by
 refine AC.of_code2 Tryz.func62 rfl rfl (Nat.le_of_ble_eq_true (by rfl)) fun B hB hN => ?_
 delta resource_span at h
 apply sr (cg (OpJ.box hB (nm:=1001) (by decide) (by simp) rfl (ltN hN rfl) (q 0)) rfl (c (assign (ltN hN rfl) (Opd.bool false)) rfl cn))
 apply sr (c (fo 1001 0 [0] hN underlying101 0 tyS3 (q 1)) rfl (c (la hN 101 tyS3 (q 3)) rfl (c (geq (ltN hN rfl) (q 4) (ii 0)) rfl (c (mv hN (q 5)) rfl (c (oq hN 6 (fo 1001 0 [0] hN underlying101 0 tyS3 (q 1)) (OptL.keep (by rfl) OptL.nil) (GuardV.plain _)) rfl (c (oq hN 6 (la hN 101 tyS3 (q 7)) (OptL.opt OptL.nil) (GuardV.plain _)) rfl (c (oq hN 6 (fo 1001 1 [1] hN underlying101 1 tyS3 (q 1)) (OptL.keep (by rfl) OptL.nil) (GuardV.plain _)) rfl (c (oq hN 6 (la hN 101 tyS3 (q 9)) (OptL.opt OptL.nil) (GuardV.plain _)) rfl (c (oq hN 6 (leq (ltN hN rfl) (q 8) (q 10)) (OptL.opt (OptL.opt OptL.nil)) (GuardV.plain _)) rfl (c (pickAnd rfl (ltN hN rfl) (q 6) (q 11)) rfl (c (mv hN (q 12)) rfl (c (oq hN 13 (fo 1001 1 [1] hN underlying101 1 tyS3 (q 1)) (OptL.keep (by rfl) OptL.nil) (GuardV.plain _)) rfl (c (oq hN 13 (la hN 101 tyS3 (q 14)) (OptL.opt OptL.nil) (GuardV.plain _)) rfl (c (oq hN 13 (leq (ltN hN rfl) (q 15) (ii 4294967295)) (OptL.opt OptL.nil) (GuardV.plain _)) rfl (c (pickAnd rfl (ltN hN rfl) (q 13) (q 16)) rfl (c (assign (ltN hN rfl) (q 17)) rfl cn))))))))))))))))
 apply AWp.ret
 obtain rfl:=oi h
 exact rt (kp [(2,_)] [] hB rfl rfl (by rfl)) [(bo (((decide (0≤a0.fFrom))&&(decide (a0.fFrom≤a0.fTo)))&&(decide (a0.fTo≤4294967295))))] (Res.tmp (by rfl) (by rfl) Res.nil) rfl
def resource_Valid_1 (a0:aSpan):Option (Bool) :=
 (resource_span a0).bind fun r1 =>
 some (!r1)
theorem resource_Valid_1_ac (a0:aSpan) (r:Bool) (h:resource_Valid_1 a0=some r):AC Tryz.prog 61 [(.d (e_aSpan a0))] [] (.d (.bool r)) []:=by
 refine AC.of_code2 Tryz.func61 rfl rfl (Nat.le_of_ble_eq_true (by rfl)) fun B hB hN => ?_
 delta resource_Valid_1 at h
 apply sr (cg (OpJ.box hB (nm:=1001) (by decide) (by simp) rfl (ltN hN rfl) (q 0)) rfl (c (assign (ltN hN rfl) (Opd.bool false)) rfl cn))
 obtain⟨r1,hr1,h⟩:=bindS h
 apply sr (c (lb hN 101 _ _ tyS101 (At.here _) (q 1)) rfl (cg (OpJ.callFn hB fnOk62 (resource_span_ac a0 r1 hr1) [] (by kernel_rfl) (ltN hN rfl) (by kernel_rfl) (OpdL.cons (q 3) OpdL.nil)) rfl (c (OpJ.not (ltN hN rfl) (q 4)) rfl (c (assign (ltN hN rfl) (q 5)) rfl cn))))
 apply AWp.ret
 obtain rfl:=oi h
 exact rt (kp [(2,_)] [] hB rfl rfl (by rfl)) [(bo (!r1))] (Res.tmp (by rfl) (by rfl) Res.nil) rfl
def slices_IndexFunc_L0 (a0:(List aSpan)) (s1:Int):Option (((Int)⊕(Unit))⊕(Int)) :=
 (if (decide (s1<(a0.length:Int)))=true then
 (idx a0 s1).bind fun x13 =>
 (resource_Valid_1 x13).bind fun r14 =>
 (if r14=true then
 some (.inl (.inl s1))
 else
 some (.inr (w64 (s1+1))))
 else
 some (.inl (.inr ())))
def slices_IndexFunc (a0:(List aSpan)):Option (Int) :=
 (loop (slices_IndexFunc_L0 a0) 0).bind fun x16=>match x16 with
 | (.inl p10) =>
  some p10
 | (.inr _) =>
  some (-1)
theorem slices_IndexFunc_ac (a0:(List aSpan)) (r:Int) (h:slices_IndexFunc a0=some r):AC Tryz.prog 85 [(.d (.list 2 (a0.map e_aSpan))),(.func 61 [])] [] (.d (.int .i64 r)) []:=by
 refine AC.of_code2 Tryz.func85 rfl rfl (Nat.le_of_ble_eq_true (by rfl)) fun B hB hN => ?_
 delta slices_IndexFunc at h
 apply sr (c (assign (ltN hN rfl) (ii 0)) rfl cn)
 apply AWp.seq
 apply sr (c (mv hN (q 0)) rfl (c (OpJ.val (v':=(i6 (a0.length:Int))) (by simp) (lenD underlying55 (ltN hN rfl) (q 6))) rfl (c (mv hN (ii 0)) rfl cn)))
 apply AWp.block
 obtain⟨x16,hx17,h⟩:=bindS h
 refine lg (slices_IndexFunc_L0 a0) (fun s1:Int=>([(0,(qe_aSpan_2 a0)),(1,(.func 61 [])),(7,(i6 (a0.length:Int))),(8,(i6 s1))]:EL)) (fun s1:Int=>([]:OL)) (fun(x:(Int)⊕(Unit)) e E' O'=>match x with | (.inl p10)=>e = .ret∧Mat B E' O' ([(4,(i6 p10))]:EL) ([]:OL) | (.inr _p)=>e = .exit 0∧Mat B E' O' ([]:EL) ([]:OL)) hx17 (mp [] _ _ hB) (fun s1 y h => ?_) (fun e E' O' hR => ?_)
 ·unfold slices_IndexFunc_L0 at h
  apply sr (c (lss (ltN hN rfl) (q 8) (q 7)) rfl cn)
  apply AWp.seq
  apply AWp.cond rfl<;>intro hg12
  ·have h:=ite_t hg12 h
   apply AWp.skip
   apply seqQ_n
   apply AWp.seq
   apply AWp.block
   apply sr (c (mv hN (q 8)) rfl (c (assign (ltN hN rfl) (q 10)) rfl cn))
   obtain⟨x13,hx13,h⟩:=bindS h
   obtain⟨r14,hr14,h⟩:=bindS h
   apply sr (c (mv hN (q 1)) rfl (c (mv hN (q 0)) rfl (c (mv hN (q 5)) rfl (c (indexD underlying55 tyS101 (idx_some hx13).1 (get_map e_aSpan (idx_some hx13).2) (ltN hN rfl) (q 12) (q 13)) rfl (c (loadD tyS101 (by rfl) (by rfl) (ltN hN rfl) (q 14)) rfl (cg (callVal (args:=[(.d (e_aSpan x13))]) (caps:=[]) hB fnOk61 [] (resource_Valid_1_ac x13 r14 hr14) (by kernel_rfl) (ltN hN rfl) (by kernel_rfl) (by kernel_rfl) (OpdL.cons (q 15) OpdL.nil)) rfl cn))))))
   apply AWp.cond rfl<;>intro hg15
   ·have h:=ite_t hg15 h
    apply sr (c (mv hN (q 5)) rfl (c (assign (ltN hN rfl) (q 17)) rfl cn))
    apply AWp.ret
    apply blkQ_r
    apply seqQ_r
    obtain rfl:=oi h
    exact⟨(fun hc=>by cases hc),rfl,(mp [] _ _ hB)⟩
   ·have h:=ite_f hg15 h
    apply AWp.skip
    apply blkQ_n
    apply seqQ_n
    apply rg (c (add6 (ltN hN rfl) (q 8) (ii 1)) rfl (c (mv hN (q 18)) rfl cn))
    obtain rfl:=oi h
    exact⟨rfl,(mp [] _ _ hB)⟩
  ·have h:=ite_f hg12 h
   apply AWp.exit
   apply seqQ_e
   obtain rfl:=oi h
   exact⟨(fun hc=>by cases hc),rfl,(mp [] _ _ hB)⟩
 ·rcases x16 with p10 | _
  ·obtain⟨rfl,hmat⟩:=hR
   apply blkQ_r
   apply seqQ_r
   obtain rfl:=oi h
   exact rt (Mat.trans hmat (mp [] [(4,(i6 p10))] [] hB)) [(i6 p10)] (Res.tmp (by rfl) (by rfl) Res.nil) rfl
  ·obtain⟨rfl,hmat⟩:=hR
   apply blkQ_hit
   apply seqQ_n
   refine AWp.ghost hmat ?_
   apply sr (c (assign (ltN hN rfl) (ii (-1))) rfl cn)
   apply AWp.ret
   obtain rfl:=oi h
   exact rt (kp [(4,_)] [] hB rfl rfl (by rfl)) [(i6 (-1))] (Res.tmp (by rfl) (by rfl) Res.nil) rfl
def slices_ContainsFunc (a0:(List aSpan)):Option (Bool) :=
 (slices_IndexFunc a0).bind fun r1 =>
 some (decide (0≤r1))
theorem slices_ContainsFunc_ac (a0:(List aSpan)) (r:Bool) (h:slices_ContainsFunc a0=some r):AC Tryz.prog 60 [(.d (.list 2 (a0.map e_aSpan))),(.func 61 [])] [] (.d (.bool r)) []:=by
 refine AC.of_code2 Tryz.func60 rfl rfl (Nat.le_of_ble_eq_true (by rfl)) fun B hB hN => ?_
 delta slices_ContainsFunc at h
 apply sr (c (assign (ltN hN rfl) (Opd.bool false)) rfl cn)
 obtain⟨r1,hr1,h⟩:=bindS h
 apply sr (c (mv hN (q 0)) rfl (c (mv hN (q 1)) rfl (cg (OpJ.callFn hB fnOk85 (slices_IndexFunc_ac a0 r1 hr1) [] (by kernel_rfl) (ltN hN rfl) (by kernel_rfl) (OpdL.cons (q 5) (OpdL.cons (q 6) OpdL.nil))) rfl (c (geq (ltN hN rfl) (q 7) (ii 0)) rfl (c (assign (ltN hN rfl) (q 8)) rfl cn)))))
 apply AWp.ret
 obtain rfl:=oi h
 exact rt (kp [(4,_)] [] hB rfl rfl (by rfl)) [(bo (decide (0≤r1)))] (Res.tmp (by rfl) (by rfl) Res.nil) rfl
end
end Go.Proofs.YtgfoabcickjphaaGreatDoor
