/- Printed by gen.py: the Go functions as plain functions, and that the code does what they say. -/
import Derived.Test.YtgfoabcickjphaaGreatDoorChecked
import Derived.Test.YtgfoabcickjphaaGreatDoorVcYB
import Derived.Test.YtgfoabcickjphaaGreatDoorVcZ
import Derived.Test.YtgfoabcickjphaaGreatDoorVcGC
import Derived.KernelRfl
import Derived.Test.YtgfoabcickjphaaGreatDoorVcMD
import Derived.Test.YtgfoabcickjphaaGreatDoorVcMQ
import Derived.Test.YtgfoabcickjphaaGreatDoorVcSG
import Derived.Test.YtgfoabcickjphaaGreatDoorExt
import Derived.Test.YtgfoabcickjphaaGreatDoorVcGl
import Derived.Test.YtgfoabcickjphaaGreatDoorVcWS
namespace Go.Proofs.YtgfoabcickjphaaGreatDoor
open Go Go.Vc
open Tryz
open Go.Vc.OpJ (assign alloc lss pickT pickF extract lenD indexD loadD eqlI gtr callVal leq geq loadR nilP indexS buildSlice lenS fieldD neqI pickAnd pickOr)
set_option maxHeartbeats 4000000
set_option maxRecDepth 100000
noncomputable section
structure aAddr where
 fV6:Bool
 fHi:Int
 fLo:Int
def e_aAddr (x:aAddr):D:=.st [(.bool x.fV6),(.int .u64 x.fHi),(.int .u64 x.fLo)]
structure aRange where
 fFrom:aAddr
 fTo:aAddr
def e_aRange (x:aRange):D:=.st [(e_aAddr x.fFrom),(e_aAddr x.fTo)]
def e_LeapiRange (x:(List aRange)):D:=(.list 6 (x.map e_aRange))
structure aSpan where
 fFrom:Int
 fTo:Int
def e_aSpan (x:aSpan):D:=.st [(.int .i64 x.fFrom),(.int .i64 x.fTo)]
def e_LeapiSpan (x:(List aSpan)):D:=(.list 2 (x.map e_aSpan))
structure aResources where
 fAddrs:(List aRange)
 fASNs:(List aSpan)
def e_aResources (x:aResources):D:=.st [(.list 6 (x.fAddrs.map e_aRange)),(.list 2 (x.fASNs.map e_aSpan))]
structure aCert where
 fKey:Int
 fIssuer:Int
 fFrom:Int
 fUntil:Int
 fResources:aResources
def e_aCert (x:aCert):D:=.st [(.int .i64 x.fKey),(.int .i64 x.fIssuer),(.int .i64 x.fFrom),(.int .i64 x.fUntil),(e_aResources x.fResources)]
structure aPrefix where
 fAddr:aAddr
 fLen:Int
def e_aPrefix (x:aPrefix):D:=.st [(e_aAddr x.fAddr),(.int .i64 x.fLen)]
structure aObject where
 fPrefix:aPrefix
 fMax:Int
 fASN:Int
def e_aObject (x:aObject):D:=.st [(e_aPrefix x.fPrefix),(.int .i64 x.fMax),(.int .i64 x.fASN)]
def e_LeapiObject (x:(List aObject)):D:=(.list 6 (x.map e_aObject))
structure aSigned where
 fKey:Int
 fASN:Int
 fFrom:Int
 fUntil:Int
 fObjects:(List aObject)
def e_aSigned (x:aSigned):D:=.st [(.int .i64 x.fKey),(.int .i64 x.fASN),(.int .i64 x.fFrom),(.int .i64 x.fUntil),(.list 6 (x.fObjects.map e_aObject))]
structure aAddr_ where
 ffrom:aAddr
 fto:aAddr
def e_aAddr_ (x:aAddr_):D:=.st [(e_aAddr x.ffrom),(e_aAddr x.fto)]
structure resource_part_int_ where
 ffrom:Int
 fto:Int
def e_resource_part_int_ (x:resource_part_int_):D:=.st [(.int .i64 x.ffrom),(.int .i64 x.fto)]
def e_LeapiAddr (x:(List aAddr_)):D:=(.list 6 (x.map e_aAddr_))
def e_Leresourcepartint (x:(List resource_part_int_)):D:=(.list 2 (x.map e_resource_part_int_))
structure resource_set where
 faddrs:(List aAddr_)
 fasns:(List resource_part_int_)
def e_resource_set (x:resource_set):D:=.st [(.list 6 (x.faddrs.map e_aAddr_)),(.list 2 (x.fasns.map e_resource_part_int_))]
def e_LeIi64 (x:(List Int)):D:=(.list 1 (x.map (eI .i64)))
structure xmake_Deck where
 fL:(List Int)
 fAt:Int
def e_xmake_Deck (x:xmake_Deck):D:=.st [(.list 1 (x.fL.map (eI .i64))),(.int .i64 x.fAt)]
def e_LeapiCert (x:(List aCert)):D:=(.list 6 (x.map e_aCert))
def e_LeapiSigned (x:(List aSigned)):D:=(.list 5 (x.map e_aSigned))
def keq48 (a b:aObject):Bool:=((((a.fPrefix.fAddr.fV6==b.fPrefix.fAddr.fV6)&&((a.fPrefix.fAddr.fHi==b.fPrefix.fAddr.fHi)&&((a.fPrefix.fAddr.fLo==b.fPrefix.fAddr.fLo)&&true)))&&((a.fPrefix.fLen==b.fPrefix.fLen)&&true))&&((a.fMax==b.fMax)&&((a.fASN==b.fASN)&&true)))
@[reducible] def qe_aRange_6 (x:List aRange):V:=.d (.list 6 (x.map e_aRange))
@[reducible] def we_aRange_92_6 (x:List aRange):Ob:=.row 92 6 (x.map e_aRange)
@[reducible] def qe_aSpan_2 (x:List aSpan):V:=.d (.list 2 (x.map e_aSpan))
@[reducible] def we_aSpan_101_2 (x:List aSpan):Ob:=.row 101 2 (x.map e_aSpan)
@[reducible] def qe_aPrefix_4 (x:List aPrefix):V:=.d (.list 4 (x.map e_aPrefix))
@[reducible] def we_aAddr__139_6 (x:List aAddr_):Ob:=.row 139 6 (x.map e_aAddr_)
@[reducible] def qe_aAddr__6 (x:List aAddr_):V:=.d (.list 6 (x.map e_aAddr_))
@[reducible] def qI_1 (x:List Int):V:=.d (.list 1 (x.map (eI .i64)))
@[reducible] def qe_aCert_6 (x:List aCert):V:=.d (.list 6 (x.map e_aCert))
@[reducible] def qe_aObject_6 (x:List aObject):V:=.d (.list 6 (x.map e_aObject))
@[reducible] def we_aObject_48_6 (x:List aObject):Ob:=.row 48 6 (x.map e_aObject)
@[reducible] def qe_aSigned_5 (x:List aSigned):V:=.d (.list 5 (x.map e_aSigned))
@[reducible] def we_aPrefix_46_4 (x:List aPrefix):Ob:=.row 46 4 (x.map e_aPrefix)
@[reducible] def we_aCert_59_6 (x:List aCert):Ob:=.row 59 6 (x.map e_aCert)
@[reducible] def we_aSigned_66_5 (x:List aSigned):Ob:=.row 66 5 (x.map e_aSigned)
theorem tyS59:TyS Tryz.prog 59 6 true:=⟨by kernel_rfl,by kernel_rfl⟩
theorem tyZ59:TyZ Tryz.prog 59 (.st [(.d (.int .i64 0)),(.d (.int .i64 0)),(.d (.int .i64 0)),(.d (.int .i64 0)),(.st [.nils,.nils])]):=⟨by kernel_rfl,fun w=>by kernel_rfl⟩
theorem tyS57:TyS Tryz.prog 57 2 true:=⟨by kernel_rfl,by kernel_rfl⟩
theorem tyS54:TyS Tryz.prog 54 1 false:=⟨by kernel_rfl,by kernel_rfl⟩
theorem tyS55:TyS Tryz.prog 55 1 false:=⟨by kernel_rfl,by kernel_rfl⟩
theorem tyZ46:TyZ Tryz.prog 46 (.d (.st [(.st [(.bool false),(.int .u64 0),(.int .u64 0)]),(.int .i64 0)])):=⟨by kernel_rfl,fun w=>by kernel_rfl⟩
theorem tyZS44:TyZ Tryz.prog 44 (.st [(.d (.bool false)),(.d (.int .u64 0)),(.d (.int .u64 0))]):=⟨by kernel_rfl,fun w=>by kernel_rfl⟩
theorem tyZS46:TyZ Tryz.prog 46 (.st [(.d (.st [(.bool false),(.int .u64 0),(.int .u64 0)])),(.d (.int .i64 0))]):=⟨by kernel_rfl,fun w=>by kernel_rfl⟩
theorem tyS46:TyS Tryz.prog 46 4 true:=⟨by kernel_rfl,by kernel_rfl⟩
theorem fnOk27:FnOk Tryz.prog 27:=⟨by kernel_rfl⟩
theorem tyZD46:TyZ Tryz.prog 46 (.d (.st [(.st [(.bool false),(.int .u64 0),(.int .u64 0)]),(.int .i64 0)])):=⟨by kernel_rfl,fun w=>by kernel_rfl⟩
theorem tyZ57:TyZ Tryz.prog 57 (.st [.nils,.nils]):=⟨by kernel_rfl,fun w=>by kernel_rfl⟩
theorem tyS44:TyS Tryz.prog 44 3 true:=⟨by kernel_rfl,by kernel_rfl⟩
theorem tyS3:TyS Tryz.prog 3 1 false:=⟨by kernel_rfl,by kernel_rfl⟩
theorem tyS4:TyS Tryz.prog 4 1 false:=⟨by kernel_rfl,by kernel_rfl⟩
theorem tyS42:TyS Tryz.prog 42 1 false:=⟨by kernel_rfl,by kernel_rfl⟩
theorem fnOk68:FnOk Tryz.prog 68:=⟨by kernel_rfl⟩
theorem fnOk77:FnOk Tryz.prog 77:=⟨by kernel_rfl⟩
theorem tyS5:TyS Tryz.prog 5 1 false:=⟨by kernel_rfl,by kernel_rfl⟩
theorem tyZD5:TyZ Tryz.prog 5 (.d (.int .u8 0)):=⟨by kernel_rfl,fun w=>by kernel_rfl⟩
theorem tyE5:TyE Tryz.prog 5 1 1:=⟨by kernel_rfl,by decide⟩
theorem fnOk78:FnOk Tryz.prog 78:=⟨by kernel_rfl⟩
theorem tyZ44:TyZ Tryz.prog 44 (.d (.st [(.bool false),(.int .u64 0),(.int .u64 0)])):=⟨by kernel_rfl,fun w=>by kernel_rfl⟩
theorem fnOk79:FnOk Tryz.prog 79:=⟨by kernel_rfl⟩
theorem fnOk44:FnOk Tryz.prog 44:=⟨by kernel_rfl⟩
theorem held44:Program.stoodInHeld Tryz.prog 44=false:=by kernel_rfl
theorem held46:Program.stoodInHeld Tryz.prog 46=false:=by kernel_rfl
theorem eqg46:Program.eqGuardType Tryz.prog (Program.depth Tryz.prog) 46=false:=by kernel_rfl
theorem fnOk53:FnOk Tryz.prog 53:=⟨by kernel_rfl⟩
theorem tyZS57:TyZ Tryz.prog 57 (.st [.nils,.nils]):=⟨by kernel_rfl,fun w=>by kernel_rfl⟩
theorem fnOk47:FnOk Tryz.prog 47:=⟨by kernel_rfl⟩
theorem tyZS92:TyZ Tryz.prog 92 (.st [(.d (.st [(.bool false),(.int .u64 0),(.int .u64 0)])),(.d (.st [(.bool false),(.int .u64 0),(.int .u64 0)]))]):=⟨by kernel_rfl,fun w=>by kernel_rfl⟩
theorem tyS92:TyS Tryz.prog 92 6 true:=⟨by kernel_rfl,by kernel_rfl⟩
theorem tyZD92:TyZ Tryz.prog 92 (.d (.st [(.st [(.bool false),(.int .u64 0),(.int .u64 0)]),(.st [(.bool false),(.int .u64 0),(.int .u64 0)])])):=⟨by kernel_rfl,fun w=>by kernel_rfl⟩
theorem tyE92:TyE Tryz.prog 92 6 48:=⟨by kernel_rfl,by decide⟩
theorem tyS101:TyS Tryz.prog 101 2 true:=⟨by kernel_rfl,by kernel_rfl⟩
theorem tyZ101:TyZ Tryz.prog 101 (.d (.st [(.int .i64 0),(.int .i64 0)])):=⟨by kernel_rfl,fun w=>by kernel_rfl⟩
theorem tyZ92:TyZ Tryz.prog 92 (.d (.st [(.st [(.bool false),(.int .u64 0),(.int .u64 0)]),(.st [(.bool false),(.int .u64 0),(.int .u64 0)])])):=⟨by kernel_rfl,fun w=>by kernel_rfl⟩
theorem eqg44:Program.eqGuardType Tryz.prog (Program.depth Tryz.prog) 44=false:=by kernel_rfl
theorem fnOk46:FnOk Tryz.prog 46:=⟨by kernel_rfl⟩
theorem fnOk69:FnOk Tryz.prog 69:=⟨by kernel_rfl⟩
theorem fnOk55:FnOk Tryz.prog 55:=⟨by kernel_rfl⟩
theorem tyE101:TyE Tryz.prog 101 2 16:=⟨by kernel_rfl,by decide⟩
theorem tyZD101:TyZ Tryz.prog 101 (.d (.st [(.int .i64 0),(.int .i64 0)])):=⟨by kernel_rfl,fun w=>by kernel_rfl⟩
theorem fnOk56:FnOk Tryz.prog 56:=⟨by kernel_rfl⟩
theorem fnOk54:FnOk Tryz.prog 54:=⟨by kernel_rfl⟩
theorem fnOk28:FnOk Tryz.prog 28:=⟨by kernel_rfl⟩
theorem tyZS59:TyZ Tryz.prog 59 (.st [(.d (.int .i64 0)),(.d (.int .i64 0)),(.d (.int .i64 0)),(.d (.int .i64 0)),(.st [.nils,.nils])]):=⟨by kernel_rfl,fun w=>by kernel_rfl⟩
theorem tyZD59:TyZ Tryz.prog 59 (.d (.st [(.int .i64 0),(.int .i64 0),(.int .i64 0),(.int .i64 0),(.st [(.list 6 (([]:List aRange).map e_aRange)),(.list 2 (([]:List aSpan).map e_aSpan))])])):=⟨by kernel_rfl,fun w=>by kernel_rfl⟩
theorem tyZS48:TyZ Tryz.prog 48 (.st [(.d (.st [(.st [(.bool false),(.int .u64 0),(.int .u64 0)]),(.int .i64 0)])),(.d (.int .i64 0)),(.d (.int .i64 0))]):=⟨by kernel_rfl,fun w=>by kernel_rfl⟩
theorem tyS48:TyS Tryz.prog 48 6 true:=⟨by kernel_rfl,by kernel_rfl⟩
theorem tyZD48:TyZ Tryz.prog 48 (.d (.st [(.st [(.st [(.bool false),(.int .u64 0),(.int .u64 0)]),(.int .i64 0)]),(.int .i64 0),(.int .i64 0)])):=⟨by kernel_rfl,fun w=>by kernel_rfl⟩
theorem tyZS66:TyZ Tryz.prog 66 (.st [(.d (.int .i64 0)),(.d (.int .i64 0)),(.d (.int .i64 0)),(.d (.int .i64 0)),.nils]):=⟨by kernel_rfl,fun w=>by kernel_rfl⟩
theorem tyS66:TyS Tryz.prog 66 5 true:=⟨by kernel_rfl,by kernel_rfl⟩
theorem tyZD66:TyZ Tryz.prog 66 (.d (.st [(.int .i64 0),(.int .i64 0),(.int .i64 0),(.int .i64 0),(.list 6 (([]:List aObject).map e_aObject))])):=⟨by kernel_rfl,fun w=>by kernel_rfl⟩
theorem tyZD3:TyZ Tryz.prog 3 (.d (.int .i64 0)):=⟨by kernel_rfl,fun w=>by kernel_rfl⟩
theorem tyE4:TyE Tryz.prog 4 1 1:=⟨by kernel_rfl,by decide⟩
theorem tyZD4:TyZ Tryz.prog 4 (.d (.bool false)):=⟨by kernel_rfl,fun w=>by kernel_rfl⟩
theorem fnOk31:FnOk Tryz.prog 31:=⟨by kernel_rfl⟩
theorem fnOk59:FnOk Tryz.prog 59:=⟨by kernel_rfl⟩
theorem fnOk62:FnOk Tryz.prog 62:=⟨by kernel_rfl⟩
theorem fnOk61:FnOk Tryz.prog 61:=⟨by kernel_rfl⟩
theorem fnOk85:FnOk Tryz.prog 85:=⟨by kernel_rfl⟩
theorem fnOk60:FnOk Tryz.prog 60:=⟨by kernel_rfl⟩
theorem tyZ113:TyZ Tryz.prog 113 (.st [.nils,.nils]):=⟨by kernel_rfl,fun w=>by kernel_rfl⟩
theorem tyS110:TyS Tryz.prog 110 1 false:=⟨by kernel_rfl,by kernel_rfl⟩
theorem tyZS139:TyZ Tryz.prog 139 (.st [(.d (.st [(.bool false),(.int .u64 0),(.int .u64 0)])),(.d (.st [(.bool false),(.int .u64 0),(.int .u64 0)]))]):=⟨by kernel_rfl,fun w=>by kernel_rfl⟩
theorem tyS139:TyS Tryz.prog 139 6 true:=⟨by kernel_rfl,by kernel_rfl⟩
theorem tyZD139:TyZ Tryz.prog 139 (.d (.st [(.st [(.bool false),(.int .u64 0),(.int .u64 0)]),(.st [(.bool false),(.int .u64 0),(.int .u64 0)])])):=⟨by kernel_rfl,fun w=>by kernel_rfl⟩
theorem tyE139:TyE Tryz.prog 139 6 48:=⟨by kernel_rfl,by decide⟩
theorem tyS111:TyS Tryz.prog 111 1 false:=⟨by kernel_rfl,by kernel_rfl⟩
theorem tyZS141:TyZ Tryz.prog 141 (.st [(.d (.int .i64 0)),(.d (.int .i64 0))]):=⟨by kernel_rfl,fun w=>by kernel_rfl⟩
theorem tyS141:TyS Tryz.prog 141 2 true:=⟨by kernel_rfl,by kernel_rfl⟩
theorem tyZD141:TyZ Tryz.prog 141 (.d (.st [(.int .i64 0),(.int .i64 0)])):=⟨by kernel_rfl,fun w=>by kernel_rfl⟩
theorem tyE141:TyE Tryz.prog 141 2 16:=⟨by kernel_rfl,by decide⟩
theorem tyS113:TyS Tryz.prog 113 2 true:=⟨by kernel_rfl,by kernel_rfl⟩
theorem fnOk63:FnOk Tryz.prog 63:=⟨by kernel_rfl⟩
theorem tyS117:TyS Tryz.prog 117 3 true:=⟨by kernel_rfl,by kernel_rfl⟩
theorem tyZ139:TyZ Tryz.prog 139 (.d (.st [(.st [(.bool false),(.int .u64 0),(.int .u64 0)]),(.st [(.bool false),(.int .u64 0),(.int .u64 0)])])):=⟨by kernel_rfl,fun w=>by kernel_rfl⟩
theorem tyS93:TyS Tryz.prog 93 1 false:=⟨by kernel_rfl,by kernel_rfl⟩
theorem fnOk124:FnOk Tryz.prog 124:=⟨by kernel_rfl⟩
theorem fnOk121:FnOk Tryz.prog 121:=⟨by kernel_rfl⟩
theorem fnOk98:FnOk Tryz.prog 98:=⟨by kernel_rfl⟩
theorem fnOk131:FnOk Tryz.prog 131:=⟨by kernel_rfl⟩
theorem fnOk125:FnOk Tryz.prog 125:=⟨by kernel_rfl⟩
theorem fnOk96:FnOk Tryz.prog 96:=⟨by kernel_rfl⟩
theorem fnOk109:FnOk Tryz.prog 109:=⟨by kernel_rfl⟩
theorem tyS115:TyS Tryz.prog 115 1 false:=⟨by kernel_rfl,by kernel_rfl⟩
theorem fnOk150:FnOk Tryz.prog 150:=⟨by kernel_rfl⟩
theorem fnOk64:FnOk Tryz.prog 64:=⟨by kernel_rfl⟩
theorem tyS121:TyS Tryz.prog 121 3 true:=⟨by kernel_rfl,by kernel_rfl⟩
theorem tyZ141:TyZ Tryz.prog 141 (.d (.st [(.int .i64 0),(.int .i64 0)])):=⟨by kernel_rfl,fun w=>by kernel_rfl⟩
theorem tyS53:TyS Tryz.prog 53 1 false:=⟨by kernel_rfl,by kernel_rfl⟩
theorem tyS119:TyS Tryz.prog 119 1 false:=⟨by kernel_rfl,by kernel_rfl⟩
theorem fnOk152:FnOk Tryz.prog 152:=⟨by kernel_rfl⟩
theorem fnOk65:FnOk Tryz.prog 65:=⟨by kernel_rfl⟩
theorem fnOk32:FnOk Tryz.prog 32:=⟨by kernel_rfl⟩
theorem fnOk66:FnOk Tryz.prog 66:=⟨by kernel_rfl⟩
theorem fnOk33:FnOk Tryz.prog 33:=⟨by kernel_rfl⟩
theorem fnOk34:FnOk Tryz.prog 34:=⟨by kernel_rfl⟩
theorem fnOk151:FnOk Tryz.prog 151:=⟨by kernel_rfl⟩
theorem fnOk103:FnOk Tryz.prog 103:=⟨by kernel_rfl⟩
theorem fnOk153:FnOk Tryz.prog 153:=⟨by kernel_rfl⟩
theorem fnOk104:FnOk Tryz.prog 104:=⟨by kernel_rfl⟩
theorem tyZS113:TyZ Tryz.prog 113 (.st [.nils,.nils]):=⟨by kernel_rfl,fun w=>by kernel_rfl⟩
theorem fnOk86:FnOk Tryz.prog 86:=⟨by kernel_rfl⟩
theorem fnOk67:FnOk Tryz.prog 67:=⟨by kernel_rfl⟩
theorem fnOk35:FnOk Tryz.prog 35:=⟨by kernel_rfl⟩
theorem fnOk36:FnOk Tryz.prog 36:=⟨by kernel_rfl⟩
theorem fnOk14:FnOk Tryz.prog 14:=⟨by kernel_rfl⟩
theorem tyZ66:TyZ Tryz.prog 66 (.st [(.d (.int .i64 0)),(.d (.int .i64 0)),(.d (.int .i64 0)),(.d (.int .i64 0)),.nils]):=⟨by kernel_rfl,fun w=>by kernel_rfl⟩
theorem tyS38:TyS Tryz.prog 38 1 false:=⟨by kernel_rfl,by kernel_rfl⟩
theorem fnOk99:FnOk Tryz.prog 99:=⟨by kernel_rfl⟩
theorem fnOk122:FnOk Tryz.prog 122:=⟨by kernel_rfl⟩
theorem fnOk100:FnOk Tryz.prog 100:=⟨by kernel_rfl⟩
theorem fnOk89:FnOk Tryz.prog 89:=⟨by kernel_rfl⟩
theorem fnOk90:FnOk Tryz.prog 90:=⟨by kernel_rfl⟩
theorem fnOk88:FnOk Tryz.prog 88:=⟨by kernel_rfl⟩
theorem fnOk106:FnOk Tryz.prog 106:=⟨by kernel_rfl⟩
theorem fnOk91:FnOk Tryz.prog 91:=⟨by kernel_rfl⟩
theorem fnOk71:FnOk Tryz.prog 71:=⟨by kernel_rfl⟩
theorem fnOk110:FnOk Tryz.prog 110:=⟨by kernel_rfl⟩
theorem fnOk108:FnOk Tryz.prog 108:=⟨by kernel_rfl⟩
theorem fnOk123:FnOk Tryz.prog 123:=⟨by kernel_rfl⟩
theorem fnOk107:FnOk Tryz.prog 107:=⟨by kernel_rfl⟩
theorem fnOk93:FnOk Tryz.prog 93:=⟨by kernel_rfl⟩
theorem fnOk92:FnOk Tryz.prog 92:=⟨by kernel_rfl⟩
theorem fnOk72:FnOk Tryz.prog 72:=⟨by kernel_rfl⟩
theorem fnOk41:FnOk Tryz.prog 41:=⟨by kernel_rfl⟩
theorem tyE48:TyE Tryz.prog 48 6 48:=⟨by kernel_rfl,by decide⟩
theorem fnOk73:FnOk Tryz.prog 73:=⟨by kernel_rfl⟩
theorem fnOk97:FnOk Tryz.prog 97:=⟨by kernel_rfl⟩
theorem fnOk75:FnOk Tryz.prog 75:=⟨by kernel_rfl⟩
theorem fnOk74:FnOk Tryz.prog 74:=⟨by kernel_rfl⟩
theorem held48:Program.stoodInHeld Tryz.prog 48=false:=by kernel_rfl
theorem eqg48:Program.eqGuardType Tryz.prog (Program.depth Tryz.prog) 48=false:=by kernel_rfl
theorem fnOk76:FnOk Tryz.prog 76:=⟨by kernel_rfl⟩
theorem fnOk42:FnOk Tryz.prog 42:=⟨by kernel_rfl⟩
theorem fnOk16:FnOk Tryz.prog 16:=⟨by kernel_rfl⟩
theorem tyZ48:TyZ Tryz.prog 48 (.d (.st [(.st [(.st [(.bool false),(.int .u64 0),(.int .u64 0)]),(.int .i64 0)]),(.int .i64 0),(.int .i64 0)])):=⟨by kernel_rfl,fun w=>by kernel_rfl⟩
theorem fnOk80:FnOk Tryz.prog 80:=⟨by kernel_rfl⟩
theorem fnOk45:FnOk Tryz.prog 45:=⟨by kernel_rfl⟩
theorem fnOk18:FnOk Tryz.prog 18:=⟨by kernel_rfl⟩
theorem fnOk9:FnOk Tryz.prog 9:=⟨by kernel_rfl⟩
theorem tyZS80:TyZ Tryz.prog 80 (.st [.nils,(.d (.int .i64 0))]):=⟨by kernel_rfl,fun w=>by kernel_rfl⟩
theorem fnOk11:FnOk Tryz.prog 11:=⟨by kernel_rfl⟩
theorem tyS23:TyS Tryz.prog 23 1 false:=⟨by kernel_rfl,by kernel_rfl⟩
theorem fnOk19:FnOk Tryz.prog 19:=⟨by kernel_rfl⟩
theorem fnOk30:FnOk Tryz.prog 30:=⟨by kernel_rfl⟩
theorem tyZD42:TyZ Tryz.prog 42 (.d (.int .u64 0)):=⟨by kernel_rfl,fun w=>by kernel_rfl⟩
theorem fnOk43:FnOk Tryz.prog 43:=⟨by kernel_rfl⟩
theorem fnOk17:FnOk Tryz.prog 17:=⟨by kernel_rfl⟩
theorem tyE46:TyE Tryz.prog 46 4 32:=⟨by kernel_rfl,by decide⟩
theorem tyZS101:TyZ Tryz.prog 101 (.st [(.d (.int .i64 0)),(.d (.int .i64 0))]):=⟨by kernel_rfl,fun w=>by kernel_rfl⟩
theorem fnOk49:FnOk Tryz.prog 49:=⟨by kernel_rfl⟩
theorem fnOk39:FnOk Tryz.prog 39:=⟨by kernel_rfl⟩
theorem fnOk81:FnOk Tryz.prog 81:=⟨by kernel_rfl⟩
theorem fnOk82:FnOk Tryz.prog 82:=⟨by kernel_rfl⟩
theorem fnOk50:FnOk Tryz.prog 50:=⟨by kernel_rfl⟩
theorem tyE59:TyE Tryz.prog 59 6 80:=⟨by kernel_rfl,by decide⟩
theorem fnOk22:FnOk Tryz.prog 22:=⟨by kernel_rfl⟩
theorem fnOk57:FnOk Tryz.prog 57:=⟨by kernel_rfl⟩
theorem fnOk102:FnOk Tryz.prog 102:=⟨by kernel_rfl⟩
theorem fnOk84:FnOk Tryz.prog 84:=⟨by kernel_rfl⟩
theorem fnOk58:FnOk Tryz.prog 58:=⟨by kernel_rfl⟩
theorem tyE66:TyE Tryz.prog 66 5 56:=⟨by kernel_rfl,by decide⟩
theorem fnOk29:FnOk Tryz.prog 29:=⟨by kernel_rfl⟩
theorem fnOk10:FnOk Tryz.prog 10:=⟨by kernel_rfl⟩
theorem tyZD23:TyZ Tryz.prog 23 (.d (.list 1 (([]:List Int).map (eI .i64)))):=⟨by kernel_rfl,fun w=>by kernel_rfl⟩
theorem fnOk12:FnOk Tryz.prog 12:=⟨by kernel_rfl⟩
theorem fnOk37:FnOk Tryz.prog 37:=⟨by kernel_rfl⟩
theorem fnOk38:FnOk Tryz.prog 38:=⟨by kernel_rfl⟩
theorem fnOk105:FnOk Tryz.prog 105:=⟨by kernel_rfl⟩
theorem fnOk87:FnOk Tryz.prog 87:=⟨by kernel_rfl⟩
theorem fnOk70:FnOk Tryz.prog 70:=⟨by kernel_rfl⟩
theorem fnOk40:FnOk Tryz.prog 40:=⟨by kernel_rfl⟩
theorem fnOk15:FnOk Tryz.prog 15:=⟨by kernel_rfl⟩
theorem fnOk20:FnOk Tryz.prog 20:=⟨by kernel_rfl⟩
theorem tyS26:TyS Tryz.prog 26 1 false:=⟨by kernel_rfl,by kernel_rfl⟩
theorem tyZD26:TyZ Tryz.prog 26 (.d (.list 5 (([]:List aSigned).map e_aSigned))):=⟨by kernel_rfl,fun w=>by kernel_rfl⟩
theorem fnOk52:FnOk Tryz.prog 52:=⟨by kernel_rfl⟩
theorem fnOk26:FnOk Tryz.prog 26:=⟨by kernel_rfl⟩
theorem fnOk101:FnOk Tryz.prog 101:=⟨by kernel_rfl⟩
theorem fnOk83:FnOk Tryz.prog 83:=⟨by kernel_rfl⟩
theorem fnOk51:FnOk Tryz.prog 51:=⟨by kernel_rfl⟩
theorem fnOk23:FnOk Tryz.prog 23:=⟨by kernel_rfl⟩
theorem fnOk24:FnOk Tryz.prog 24:=⟨by kernel_rfl⟩
theorem fnOk25:FnOk Tryz.prog 25:=⟨by kernel_rfl⟩
instance iS59:TS Tryz.prog 59 6 true:=⟨tyS59⟩
instance iS57:TS Tryz.prog 57 2 true:=⟨tyS57⟩
instance iS54:TS Tryz.prog 54 1 false:=⟨tyS54⟩
instance iS55:TS Tryz.prog 55 1 false:=⟨tyS55⟩
instance iS46:TS Tryz.prog 46 4 true:=⟨tyS46⟩
instance iS44:TS Tryz.prog 44 3 true:=⟨tyS44⟩
instance iS3:TS Tryz.prog 3 1 false:=⟨tyS3⟩
instance iS4:TS Tryz.prog 4 1 false:=⟨tyS4⟩
instance iS42:TS Tryz.prog 42 1 false:=⟨tyS42⟩
instance iS5:TS Tryz.prog 5 1 false:=⟨tyS5⟩
instance iS92:TS Tryz.prog 92 6 true:=⟨tyS92⟩
instance iS101:TS Tryz.prog 101 2 true:=⟨tyS101⟩
instance iS48:TS Tryz.prog 48 6 true:=⟨tyS48⟩
instance iS66:TS Tryz.prog 66 5 true:=⟨tyS66⟩
instance iS110:TS Tryz.prog 110 1 false:=⟨tyS110⟩
instance iS139:TS Tryz.prog 139 6 true:=⟨tyS139⟩
instance iS111:TS Tryz.prog 111 1 false:=⟨tyS111⟩
instance iS141:TS Tryz.prog 141 2 true:=⟨tyS141⟩
instance iS113:TS Tryz.prog 113 2 true:=⟨tyS113⟩
instance iS117:TS Tryz.prog 117 3 true:=⟨tyS117⟩
instance iS93:TS Tryz.prog 93 1 false:=⟨tyS93⟩
instance iS115:TS Tryz.prog 115 1 false:=⟨tyS115⟩
instance iS121:TS Tryz.prog 121 3 true:=⟨tyS121⟩
instance iS53:TS Tryz.prog 53 1 false:=⟨tyS53⟩
instance iS119:TS Tryz.prog 119 1 false:=⟨tyS119⟩
instance iS38:TS Tryz.prog 38 1 false:=⟨tyS38⟩
instance iS23:TS Tryz.prog 23 1 false:=⟨tyS23⟩
instance iS26:TS Tryz.prog 26 1 false:=⟨tyS26⟩
instance iZ59:TZ Tryz.prog 59 (.st [(.d (.int .i64 0)),(.d (.int .i64 0)),(.d (.int .i64 0)),(.d (.int .i64 0)),(.st [.nils,.nils])]):=⟨tyZ59⟩
instance iZ46:TZ Tryz.prog 46 (.d (.st [(.st [(.bool false),(.int .u64 0),(.int .u64 0)]),(.int .i64 0)])):=⟨tyZ46⟩
instance iZ57:TZ Tryz.prog 57 (.st [.nils,.nils]):=⟨tyZ57⟩
instance iZ44:TZ Tryz.prog 44 (.d (.st [(.bool false),(.int .u64 0),(.int .u64 0)])):=⟨tyZ44⟩
instance iZ101:TZ Tryz.prog 101 (.d (.st [(.int .i64 0),(.int .i64 0)])):=⟨tyZ101⟩
instance iZ92:TZ Tryz.prog 92 (.d (.st [(.st [(.bool false),(.int .u64 0),(.int .u64 0)]),(.st [(.bool false),(.int .u64 0),(.int .u64 0)])])):=⟨tyZ92⟩
instance iZ113:TZ Tryz.prog 113 (.st [.nils,.nils]):=⟨tyZ113⟩
instance iZ139:TZ Tryz.prog 139 (.d (.st [(.st [(.bool false),(.int .u64 0),(.int .u64 0)]),(.st [(.bool false),(.int .u64 0),(.int .u64 0)])])):=⟨tyZ139⟩
instance iZ141:TZ Tryz.prog 141 (.d (.st [(.int .i64 0),(.int .i64 0)])):=⟨tyZ141⟩
instance iZ66:TZ Tryz.prog 66 (.st [(.d (.int .i64 0)),(.d (.int .i64 0)),(.d (.int .i64 0)),(.d (.int .i64 0)),.nils]):=⟨tyZ66⟩
instance iZ48:TZ Tryz.prog 48 (.d (.st [(.st [(.st [(.bool false),(.int .u64 0),(.int .u64 0)]),(.int .i64 0)]),(.int .i64 0),(.int .i64 0)])):=⟨tyZ48⟩
instance iL44:TZL Tryz.prog 44 [(.d (.bool false)),(.d (.int .u64 0)),(.d (.int .u64 0))]:=⟨tyZS44⟩
instance iP44:TP Tryz.prog 44 [(0,1),(1,1),(2,1)]:=⟨⟨_,underlying44,fun w=>by kernel_rfl⟩⟩
instance iL46:TZL Tryz.prog 46 [(.d (.st [(.bool false),(.int .u64 0),(.int .u64 0)])),(.d (.int .i64 0))]:=⟨tyZS46⟩
instance iP46:TP Tryz.prog 46 [(0,3),(3,1)]:=⟨⟨_,underlying46,fun w=>by kernel_rfl⟩⟩
instance iL57:TZL Tryz.prog 57 [.nils,.nils]:=⟨tyZS57⟩
instance iP57:TP Tryz.prog 57 [(0,1),(1,1)]:=⟨⟨_,underlying57,fun w=>by kernel_rfl⟩⟩
instance iL92:TZL Tryz.prog 92 [(.d (.st [(.bool false),(.int .u64 0),(.int .u64 0)])),(.d (.st [(.bool false),(.int .u64 0),(.int .u64 0)]))]:=⟨tyZS92⟩
instance iP92:TP Tryz.prog 92 [(0,3),(3,3)]:=⟨⟨_,underlying92,fun w=>by kernel_rfl⟩⟩
instance iL59:TZL Tryz.prog 59 [(.d (.int .i64 0)),(.d (.int .i64 0)),(.d (.int .i64 0)),(.d (.int .i64 0)),(.st [.nils,.nils])]:=⟨tyZS59⟩
instance iP59:TP Tryz.prog 59 [(0,1),(1,1),(2,1),(3,1),(4,2)]:=⟨⟨_,underlying59,fun w=>by kernel_rfl⟩⟩
instance iL48:TZL Tryz.prog 48 [(.d (.st [(.st [(.bool false),(.int .u64 0),(.int .u64 0)]),(.int .i64 0)])),(.d (.int .i64 0)),(.d (.int .i64 0))]:=⟨tyZS48⟩
instance iP48:TP Tryz.prog 48 [(0,4),(4,1),(5,1)]:=⟨⟨_,underlying48,fun w=>by kernel_rfl⟩⟩
instance iL66:TZL Tryz.prog 66 [(.d (.int .i64 0)),(.d (.int .i64 0)),(.d (.int .i64 0)),(.d (.int .i64 0)),.nils]:=⟨tyZS66⟩
instance iP66:TP Tryz.prog 66 [(0,1),(1,1),(2,1),(3,1),(4,1)]:=⟨⟨_,underlying66,fun w=>by kernel_rfl⟩⟩
instance iL139:TZL Tryz.prog 139 [(.d (.st [(.bool false),(.int .u64 0),(.int .u64 0)])),(.d (.st [(.bool false),(.int .u64 0),(.int .u64 0)]))]:=⟨tyZS139⟩
instance iP139:TP Tryz.prog 139 [(0,3),(3,3)]:=⟨⟨_,underlying139,fun w=>by kernel_rfl⟩⟩
instance iL141:TZL Tryz.prog 141 [(.d (.int .i64 0)),(.d (.int .i64 0))]:=⟨tyZS141⟩
instance iP141:TP Tryz.prog 141 [(0,1),(1,1)]:=⟨⟨_,underlying141,fun w=>by kernel_rfl⟩⟩
instance iL113:TZL Tryz.prog 113 [.nils,.nils]:=⟨tyZS113⟩
instance iP113:TP Tryz.prog 113 [(0,1),(1,1)]:=⟨⟨_,underlying113,fun w=>by kernel_rfl⟩⟩
instance iL80:TZL Tryz.prog 80 [.nils,(.d (.int .i64 0))]:=⟨tyZS80⟩
instance iP80:TP Tryz.prog 80 [(0,1),(1,1)]:=⟨⟨_,underlying80,fun w=>by kernel_rfl⟩⟩
instance iL101:TZL Tryz.prog 101 [(.d (.int .i64 0)),(.d (.int .i64 0))]:=⟨tyZS101⟩
instance iP101:TP Tryz.prog 101 [(0,1),(1,1)]:=⟨⟨_,underlying101,fun w=>by kernel_rfl⟩⟩
instance iD46:TZD Tryz.prog 46 (.st [(.st [(.bool false),(.int .u64 0),(.int .u64 0)]),(.int .i64 0)]):=⟨tyZD46⟩
instance iD5:TZD Tryz.prog 5 (.int .u8 0):=⟨tyZD5⟩
instance iD92:TZD Tryz.prog 92 (.st [(.st [(.bool false),(.int .u64 0),(.int .u64 0)]),(.st [(.bool false),(.int .u64 0),(.int .u64 0)])]):=⟨tyZD92⟩
instance iD101:TZD Tryz.prog 101 (.st [(.int .i64 0),(.int .i64 0)]):=⟨tyZD101⟩
instance iD59:TZD Tryz.prog 59 (.st [(.int .i64 0),(.int .i64 0),(.int .i64 0),(.int .i64 0),(.st [(.list 6 (([]:List aRange).map e_aRange)),(.list 2 (([]:List aSpan).map e_aSpan))])]):=⟨tyZD59⟩
instance iD48:TZD Tryz.prog 48 (.st [(.st [(.st [(.bool false),(.int .u64 0),(.int .u64 0)]),(.int .i64 0)]),(.int .i64 0),(.int .i64 0)]):=⟨tyZD48⟩
instance iD66:TZD Tryz.prog 66 (.st [(.int .i64 0),(.int .i64 0),(.int .i64 0),(.int .i64 0),(.list 6 (([]:List aObject).map e_aObject))]):=⟨tyZD66⟩
instance iD3:TZD Tryz.prog 3 (.int .i64 0):=⟨tyZD3⟩
instance iD4:TZD Tryz.prog 4 (.bool false):=⟨tyZD4⟩
instance iD139:TZD Tryz.prog 139 (.st [(.st [(.bool false),(.int .u64 0),(.int .u64 0)]),(.st [(.bool false),(.int .u64 0),(.int .u64 0)])]):=⟨tyZD139⟩
instance iD141:TZD Tryz.prog 141 (.st [(.int .i64 0),(.int .i64 0)]):=⟨tyZD141⟩
instance iD42:TZD Tryz.prog 42 (.int .u64 0):=⟨tyZD42⟩
instance iD23:TZD Tryz.prog 23 (.list 1 (([]:List Int).map (eI .i64))):=⟨tyZD23⟩
instance iD26:TZD Tryz.prog 26 (.list 5 (([]:List aSigned).map e_aSigned)):=⟨tyZD26⟩
instance iE5:TE Tryz.prog 5 1 1:=⟨tyE5⟩
instance iE92:TE Tryz.prog 92 6 48:=⟨tyE92⟩
instance iE101:TE Tryz.prog 101 2 16:=⟨tyE101⟩
instance iE4:TE Tryz.prog 4 1 1:=⟨tyE4⟩
instance iE139:TE Tryz.prog 139 6 48:=⟨tyE139⟩
instance iE141:TE Tryz.prog 141 2 16:=⟨tyE141⟩
instance iE48:TE Tryz.prog 48 6 48:=⟨tyE48⟩
instance iE46:TE Tryz.prog 46 4 32:=⟨tyE46⟩
instance iE59:TE Tryz.prog 59 6 80:=⟨tyE59⟩
instance iE66:TE Tryz.prog 66 5 56:=⟨tyE66⟩
instance iF27:FO Tryz.prog 27:=⟨fnOk27⟩
instance iF68:FO Tryz.prog 68:=⟨fnOk68⟩
instance iF77:FO Tryz.prog 77:=⟨fnOk77⟩
instance iF78:FO Tryz.prog 78:=⟨fnOk78⟩
instance iF79:FO Tryz.prog 79:=⟨fnOk79⟩
instance iF44:FO Tryz.prog 44:=⟨fnOk44⟩
instance iF53:FO Tryz.prog 53:=⟨fnOk53⟩
instance iF47:FO Tryz.prog 47:=⟨fnOk47⟩
instance iF46:FO Tryz.prog 46:=⟨fnOk46⟩
instance iF69:FO Tryz.prog 69:=⟨fnOk69⟩
instance iF55:FO Tryz.prog 55:=⟨fnOk55⟩
instance iF56:FO Tryz.prog 56:=⟨fnOk56⟩
instance iF54:FO Tryz.prog 54:=⟨fnOk54⟩
instance iF28:FO Tryz.prog 28:=⟨fnOk28⟩
instance iF31:FO Tryz.prog 31:=⟨fnOk31⟩
instance iF59:FO Tryz.prog 59:=⟨fnOk59⟩
instance iF62:FO Tryz.prog 62:=⟨fnOk62⟩
instance iF61:FO Tryz.prog 61:=⟨fnOk61⟩
instance iF85:FO Tryz.prog 85:=⟨fnOk85⟩
instance iF60:FO Tryz.prog 60:=⟨fnOk60⟩
instance iF63:FO Tryz.prog 63:=⟨fnOk63⟩
instance iF124:FO Tryz.prog 124:=⟨fnOk124⟩
instance iF121:FO Tryz.prog 121:=⟨fnOk121⟩
instance iF98:FO Tryz.prog 98:=⟨fnOk98⟩
instance iF131:FO Tryz.prog 131:=⟨fnOk131⟩
instance iF125:FO Tryz.prog 125:=⟨fnOk125⟩
instance iF96:FO Tryz.prog 96:=⟨fnOk96⟩
instance iF109:FO Tryz.prog 109:=⟨fnOk109⟩
instance iF150:FO Tryz.prog 150:=⟨fnOk150⟩
instance iF64:FO Tryz.prog 64:=⟨fnOk64⟩
instance iF152:FO Tryz.prog 152:=⟨fnOk152⟩
instance iF65:FO Tryz.prog 65:=⟨fnOk65⟩
instance iF32:FO Tryz.prog 32:=⟨fnOk32⟩
instance iF66:FO Tryz.prog 66:=⟨fnOk66⟩
instance iF33:FO Tryz.prog 33:=⟨fnOk33⟩
instance iF34:FO Tryz.prog 34:=⟨fnOk34⟩
instance iF151:FO Tryz.prog 151:=⟨fnOk151⟩
instance iF103:FO Tryz.prog 103:=⟨fnOk103⟩
instance iF153:FO Tryz.prog 153:=⟨fnOk153⟩
instance iF104:FO Tryz.prog 104:=⟨fnOk104⟩
instance iF86:FO Tryz.prog 86:=⟨fnOk86⟩
instance iF67:FO Tryz.prog 67:=⟨fnOk67⟩
instance iF35:FO Tryz.prog 35:=⟨fnOk35⟩
instance iF36:FO Tryz.prog 36:=⟨fnOk36⟩
instance iF14:FO Tryz.prog 14:=⟨fnOk14⟩
instance iF99:FO Tryz.prog 99:=⟨fnOk99⟩
instance iF122:FO Tryz.prog 122:=⟨fnOk122⟩
instance iF100:FO Tryz.prog 100:=⟨fnOk100⟩
instance iF89:FO Tryz.prog 89:=⟨fnOk89⟩
instance iF90:FO Tryz.prog 90:=⟨fnOk90⟩
instance iF88:FO Tryz.prog 88:=⟨fnOk88⟩
instance iF106:FO Tryz.prog 106:=⟨fnOk106⟩
instance iF91:FO Tryz.prog 91:=⟨fnOk91⟩
instance iF71:FO Tryz.prog 71:=⟨fnOk71⟩
instance iF110:FO Tryz.prog 110:=⟨fnOk110⟩
instance iF108:FO Tryz.prog 108:=⟨fnOk108⟩
instance iF123:FO Tryz.prog 123:=⟨fnOk123⟩
instance iF107:FO Tryz.prog 107:=⟨fnOk107⟩
instance iF93:FO Tryz.prog 93:=⟨fnOk93⟩
instance iF92:FO Tryz.prog 92:=⟨fnOk92⟩
instance iF72:FO Tryz.prog 72:=⟨fnOk72⟩
instance iF41:FO Tryz.prog 41:=⟨fnOk41⟩
instance iF73:FO Tryz.prog 73:=⟨fnOk73⟩
instance iF97:FO Tryz.prog 97:=⟨fnOk97⟩
instance iF75:FO Tryz.prog 75:=⟨fnOk75⟩
instance iF74:FO Tryz.prog 74:=⟨fnOk74⟩
instance iF76:FO Tryz.prog 76:=⟨fnOk76⟩
instance iF42:FO Tryz.prog 42:=⟨fnOk42⟩
instance iF16:FO Tryz.prog 16:=⟨fnOk16⟩
instance iF80:FO Tryz.prog 80:=⟨fnOk80⟩
instance iF45:FO Tryz.prog 45:=⟨fnOk45⟩
instance iF18:FO Tryz.prog 18:=⟨fnOk18⟩
instance iF9:FO Tryz.prog 9:=⟨fnOk9⟩
instance iF11:FO Tryz.prog 11:=⟨fnOk11⟩
instance iF19:FO Tryz.prog 19:=⟨fnOk19⟩
instance iF30:FO Tryz.prog 30:=⟨fnOk30⟩
instance iF43:FO Tryz.prog 43:=⟨fnOk43⟩
instance iF17:FO Tryz.prog 17:=⟨fnOk17⟩
instance iF49:FO Tryz.prog 49:=⟨fnOk49⟩
instance iF39:FO Tryz.prog 39:=⟨fnOk39⟩
instance iF81:FO Tryz.prog 81:=⟨fnOk81⟩
instance iF82:FO Tryz.prog 82:=⟨fnOk82⟩
instance iF50:FO Tryz.prog 50:=⟨fnOk50⟩
instance iF22:FO Tryz.prog 22:=⟨fnOk22⟩
instance iF57:FO Tryz.prog 57:=⟨fnOk57⟩
instance iF102:FO Tryz.prog 102:=⟨fnOk102⟩
instance iF84:FO Tryz.prog 84:=⟨fnOk84⟩
instance iF58:FO Tryz.prog 58:=⟨fnOk58⟩
instance iF29:FO Tryz.prog 29:=⟨fnOk29⟩
instance iF10:FO Tryz.prog 10:=⟨fnOk10⟩
instance iF12:FO Tryz.prog 12:=⟨fnOk12⟩
instance iF37:FO Tryz.prog 37:=⟨fnOk37⟩
instance iF38:FO Tryz.prog 38:=⟨fnOk38⟩
instance iF105:FO Tryz.prog 105:=⟨fnOk105⟩
instance iF87:FO Tryz.prog 87:=⟨fnOk87⟩
instance iF70:FO Tryz.prog 70:=⟨fnOk70⟩
instance iF40:FO Tryz.prog 40:=⟨fnOk40⟩
instance iF15:FO Tryz.prog 15:=⟨fnOk15⟩
instance iF20:FO Tryz.prog 20:=⟨fnOk20⟩
instance iF52:FO Tryz.prog 52:=⟨fnOk52⟩
instance iF26:FO Tryz.prog 26:=⟨fnOk26⟩
instance iF101:FO Tryz.prog 101:=⟨fnOk101⟩
instance iF83:FO Tryz.prog 83:=⟨fnOk83⟩
instance iF51:FO Tryz.prog 51:=⟨fnOk51⟩
instance iF23:FO Tryz.prog 23:=⟨fnOk23⟩
instance iF24:FO Tryz.prog 24:=⟨fnOk24⟩
instance iF25:FO Tryz.prog 25:=⟨fnOk25⟩
instance iU3:Und Tryz.prog 3 (.int .i64):=⟨underlying3⟩
instance iU4:Und Tryz.prog 4 .bool:=⟨underlying4⟩
instance iU5:Und Tryz.prog 5 (.int .u8):=⟨underlying5⟩
instance iU22:Und Tryz.prog 22 (.slice 59):=⟨underlying22⟩
instance iU23:Und Tryz.prog 23 (.slice 3):=⟨underlying23⟩
instance iU26:Und Tryz.prog 26 (.slice 66):=⟨underlying26⟩
instance iU33:Und Tryz.prog 33 (.slice 23):=⟨underlying33⟩
instance iU35:Und Tryz.prog 35 (.slice 4):=⟨underlying35⟩
instance iU38:Und Tryz.prog 38 (.slice 48):=⟨underlying38⟩
instance iU42:Und Tryz.prog 42 (.int .u64):=⟨underlying42⟩
instance iU44:UF Tryz.prog 44 [(4,0),(42,1),(42,2)]:=⟨⟨_,underlying44,rfl⟩⟩
instance iU46:UF Tryz.prog 46 [(44,0),(3,3)]:=⟨⟨_,underlying46,rfl⟩⟩
instance iU48:UF Tryz.prog 48 [(46,0),(3,4),(3,5)]:=⟨⟨_,underlying48,rfl⟩⟩
instance iU50:Und Tryz.prog 50 (.slice 46):=⟨underlying50⟩
instance iU54:Und Tryz.prog 54 (.slice 92):=⟨underlying54⟩
instance iU55:Und Tryz.prog 55 (.slice 101):=⟨underlying55⟩
instance iU57:UF Tryz.prog 57 [(54,0),(55,1)]:=⟨⟨_,underlying57,rfl⟩⟩
instance iU59:UF Tryz.prog 59 [(3,0),(3,1),(3,2),(3,3),(57,4)]:=⟨⟨_,underlying59,rfl⟩⟩
instance iU66:UF Tryz.prog 66 [(3,0),(3,1),(3,2),(3,3),(38,4)]:=⟨⟨_,underlying66,rfl⟩⟩
instance iU67:Und Tryz.prog 67 (.slice 26):=⟨underlying67⟩
instance iU73:Und Tryz.prog 73 (.int .u64):=⟨underlying73⟩
instance iU80:UF Tryz.prog 80 [(23,0),(3,1)]:=⟨⟨_,underlying80,rfl⟩⟩
instance iU92:UF Tryz.prog 92 [(44,0),(44,3)]:=⟨⟨_,underlying92,rfl⟩⟩
instance iU101:UF Tryz.prog 101 [(3,0),(3,1)]:=⟨⟨_,underlying101,rfl⟩⟩
instance iU110:Und Tryz.prog 110 (.slice 139):=⟨underlying110⟩
instance iU111:Und Tryz.prog 111 (.slice 141):=⟨underlying111⟩
instance iU113:UF Tryz.prog 113 [(110,0),(111,1)]:=⟨⟨_,underlying113,rfl⟩⟩
instance iU117:UF Tryz.prog 117 [(93,0),(115,1),(115,2)]:=⟨⟨_,underlying117,rfl⟩⟩
instance iU121:UF Tryz.prog 121 [(53,0),(119,1),(119,2)]:=⟨⟨_,underlying121,rfl⟩⟩
instance iU128:Und Tryz.prog 128 (.slice 42):=⟨underlying128⟩
instance iU130:Und Tryz.prog 130 (.slice 5):=⟨underlying130⟩
instance iU139:UF Tryz.prog 139 [(44,0),(44,3)]:=⟨⟨_,underlying139,rfl⟩⟩
instance iU141:UF Tryz.prog 141 [(3,0),(3,1)]:=⟨⟨_,underlying141,rfl⟩⟩
instance iM3:Emb Tryz.prog 3 Int (eI .i64):=⟨fun _ _=>rfl⟩
instance iM4:Emb Tryz.prog 4 Bool eB:=⟨fun _ _=>rfl⟩
instance iM5:Emb Tryz.prog 5 Int (eI .u8):=⟨fun _ _=>rfl⟩
instance iM23:Emb Tryz.prog 23 (List Int) e_LeIi64:=⟨fun _ _=>rfl⟩
instance iM26:Emb Tryz.prog 26 (List aSigned) e_LeapiSigned:=⟨fun _ _=>rfl⟩
instance iM42:Emb Tryz.prog 42 Int (eI .u64):=⟨fun _ _=>rfl⟩
instance iM46:Emb Tryz.prog 46 aPrefix e_aPrefix:=⟨fun _ _=>rfl⟩
instance iM48:Emb Tryz.prog 48 aObject e_aObject:=⟨fun _ _=>rfl⟩
instance iM59:Emb Tryz.prog 59 aCert e_aCert:=⟨fun _ _=>rfl⟩
instance iM66:Emb Tryz.prog 66 aSigned e_aSigned:=⟨fun _ _=>rfl⟩
instance iM92:Emb Tryz.prog 92 aRange e_aRange:=⟨fun _ _=>rfl⟩
instance iM101:Emb Tryz.prog 101 aSpan e_aSpan:=⟨fun _ _=>rfl⟩
instance iM139:Emb Tryz.prog 139 aAddr_ e_aAddr_:=⟨fun _ _=>rfl⟩
instance iM141:Emb Tryz.prog 141 resource_part_int_ e_resource_part_int_:=⟨fun _ _=>rfl⟩
def xlaw22_awake_1 (a0:Int) (a1:Int):Option (aPrefix) :=
 some (aPrefix.mk (aAddr.mk false 0 (IntKind.u64.wrap (167772160+(shlI .u64 (IntKind.u64.wrap a0) 16)))) a1)
theorem xlaw22_awake_1_ac (a0:Int) (a1:Int) (r:aPrefix) (h:xlaw22_awake_1 a0 a1=some r):AC Tryz.prog 27 [(.d (.int .i64 a0)),(.d (.int .i64 a1))] [] (.d (e_aPrefix r)) []:=by
 refine AC.of_code2 Tryz.func27 rfl rfl (Nat.le_of_ble_eq_true (by rfl)) fun B hB hN => ?_
 delta xlaw22_awake_1 at h
 refine sr (SQ tt) ?_
 refine sr (SQ tt) ?_
 apply AWp.ret
 obtain rfl:=oi h
 exact rt (kp [(4,_)] [(1004,some _)] hB rfl rfl (by rfl)) [(.d (.st [(.st [(.bool false),(.int .u64 0),(.int .u64 (IntKind.u64.wrap (167772160+(shlI .u64 (IntKind.u64.wrap a0) 16))))]),(.int .i64 a1)]))] (Res.cell (c:=(.d (.st [(.st [(.bool false),(.int .u64 0),(.int .u64 (IntKind.u64.wrap (167772160+(shlI .u64 (IntKind.u64.wrap a0) 16))))]),(.int .i64 a1)]))) (by rfl) (by rfl) tyS46 (by rfl) (by rfl) (by rfl) Res.nil) rfl
def xref01_Valid (a0:aAddr):Option (Bool) :=
 jn (fun m2:Bool =>
 some m2) (fun j3 =>
 (if a0.fV6=true then
 j3 true
 else
 j3 ((a0.fHi==0)&&(decide (a0.fLo<4294967296)))))
theorem xref01_Valid_ac (a0:aAddr) (r:Bool) (h:xref01_Valid a0=some r):AC Tryz.prog 68 [(.d (e_aAddr a0))] [] (.d (.bool r)) []:=by
 refine ac2 Tryz.func68 rfl rfl fun B hB hN L => ?_
 delta xref01_Valid at h
 refine sr (SQ tt) ?_
 apply AWp.seq
 refine AWp.cut h (fun m2:Bool=>([(2,(bo m2))]:EL)) (fun m2:Bool=>([]:OL)) (fun m2 h E' O' hmat => ?_) (fun j3 hjj3 h => ?_)
 ·apply seqQ_n
  refine AWp.ghost hmat ?_
  apply AWp.ret
  obtain rfl:=oi h
  exact rt (kp [(2,_)] [] hB rfl rfl (by rfl)) [(bo m2)] (Res.tmp (by rfl) (by rfl) Res.nil) rfl
 ·rcases bft a0.fV6 with hg4 | hg4
  ·have h:=ite_t hg4 h
   refine rg (SQ (fa hg4 tt)) ?_
   exact hjj3 _ h _ _ (mp [] _ _ hB)
  ·have h:=ite_f hg4 h
   refine rg (SQ (fa hg4 tt)) ?_
   exact hjj3 _ h _ _ (mp [] _ _ hB)
def xref02_width (a0:aAddr):Option (Int) :=
 (if a0.fV6=true then
 some 128
 else
 some 32)
theorem xref02_width_ac (a0:aAddr) (r:Int) (h:xref02_width a0=some r):AC Tryz.prog 77 [(.d (e_aAddr a0))] [] (.d (.int .i64 r)) []:=by
 refine AC.of_code2 Tryz.func77 rfl rfl (Nat.le_of_ble_eq_true (by rfl)) fun B hB hN => ?_
 delta xref02_width at h
 refine sr (SQ tt) ?_
 apply AWp.seq
 refine sr (SQ tt) ?_
 apply AWp.cond rfl<;>intro hg1
 ·have h:=ite_t hg1 h
  refine sr (SQ tt) ?_
  apply AWp.ret
  apply seqQ_r
  obtain rfl:=oi h
  exact rt (kp [(2,_)] [] hB rfl rfl (by rfl)) [(i6 128)] (Res.tmp (by rfl) (by rfl) Res.nil) rfl
 ·have h:=ite_f hg1 h
  apply AWp.skip
  apply seqQ_n
  refine sr (SQ tt) ?_
  apply AWp.ret
  obtain rfl:=oi h
  exact rt (kp [(2,_)] [] hB rfl rfl (by rfl)) [(i6 32)] (Res.tmp (by rfl) (by rfl) Res.nil) rfl
def xref01_Bytes_L0 (a0:aAddr) (s6:Int×(List Int)):Option ((((List Int)))⊕(Int×(List Int))) :=
 (if (decide (0≤s6.1))=true then
 jn (fun m22:Int =>
 chk (decide ((s6.2++([(IntKind.u8.wrap (shrI .u64 m22 (IntKind.u64.wrap (8*(IntKind.u64.wrap (Int.tmod s6.1 8))))))]:List Int)).length≤LIM)) <|
 some (.inr ((w64 (s6.1-1)),(s6.2++([(IntKind.u8.wrap (shrI .u64 m22 (IntKind.u64.wrap (8*(IntKind.u64.wrap (Int.tmod s6.1 8))))))]:List Int))))) (fun j23 =>
 (if (decide (8≤s6.1))=true then
 j23 a0.fHi
 else
 j23 a0.fLo))
 else
 some (.inl s6.2))
def xref01_Bytes (a0:aAddr):Option ((List Int)) :=
 (xref01_Valid a0).bind fun r1 =>
 (if (!r1)=true then
 some ([]:List Int)
 else
 jn (fun m4:Int =>
 (loop (xref01_Bytes_L0 a0) ((w64 (m4-1)),([]:List Int))).bind fun p19 =>
 some p19) (fun j5 =>
 (if a0.fV6=true then
 j5 16
 else
 j5 4)))
theorem xref01_Bytes_ac (a0:aAddr) (r:(List Int)) (h:xref01_Bytes a0=some r):AC Tryz.prog 78 [(.d (e_aAddr a0))] [] (.d (.list 1 (r.map (eI .u8)))) []:=by
 refine ac2 Tryz.func78 rfl rfl fun B hB hN L => ?_
 delta xref01_Bytes at h
 refine sr (SQ tt) ?_
 apply AWp.seq
 obtain⟨r1,hr1,h⟩:=bindS h
 refine sr (SQ (fa (cl [] (xref01_Valid_ac a0 r1 hr1)) tt)) ?_
 apply AWp.cond rfl<;>intro hg2
 ·have h:=ite_t hg2 h
  refine sr (SQ tt) ?_
  apply AWp.ret
  apply seqQ_r
  obtain rfl:=oi h
  exact rt (Mat.trans (Mat.coeP (Ts:=[(2,(.d (.list 1 (([]:List Int).map (eI .u8)))))]) (Bs:=[]) (TwT.cons (x:=.nils) (by rfl) (Tw.leaf ⟨_,(Co.nils 1),rfl⟩) TwT.nil) TwB.nil) (mp [] [(2,(.d (.list 1 (([]:List Int).map (eI .u8)))))] [] hB)) [(.d (.list 1 (([]:List Int).map (eI .u8))))] (Res.tmp (by rfl) (by rfl) Res.nil) rfl
 ·have h:=ite_f hg2 h
  apply AWp.skip
  apply seqQ_n
  refine sr (SQ tt) ?_
  apply AWp.seq
  refine sr (SQ tt) ?_
  refine gh [(1,_),(3,_),(11,_)] [(1001,some _)] hB rfl rfl (by rfl) ?_
  refine AWp.cut h (fun m4:Int=>([(1,(pt 1001)),(3,(i6 m4))]:EL)) (fun m4:Int=>([(1001,bd 44 (e_aAddr a0))]:OL)) (fun m4 h E' O' hmat => ?_) (fun j5 hjj5 h => ?_)
  ·apply seqQ_n
   refine AWp.ghost hmat ?_
   refine sr (SQ tt) ?_
   apply AWp.seq
   refine sr (SQ tt) ?_
   apply AWp.block
   obtain⟨p19,hx27,h⟩:=bindS h
   refine lg (xref01_Bytes_L0 a0) (fun s6:Int×(List Int)=>([(1,(pt 1001)),(4,(.sref 3004 1 0 s6.2.length)),(5,(i6 s6.1))]:EL)) (fun s6:Int×(List Int)=>([(1001,bd 44 (e_aAddr a0)),(3004,some (.row 5 1 (s6.2.map (eI .u8))))]:OL)) (fun(p19:((List Int))) e E' O'=>e = .exit 0∧Mat B E' O' ([(4,(.sref 3004 1 0 p19.length))]:EL) ([(3004,some (.row 5 1 (p19.map (eI .u8))))]:OL)) hx27 (Mat.trans (Mat.beginP (n:=3004) (e:=5) (sz:=1) (Ts:=[(4,(.sref 3004 1 0 0))]) (Bs:=[]) hB (by decide) (by rfl) (by decide) (TwT.cons (x:=.nils) (by rfl) (Tw.leaf ⟨rfl,rfl⟩) TwT.nil) TwB.nil) (mp [] _ _ hB)) (fun s6 y h => ?_) (fun e E' O' hR => ?_)
   ·unfold xref01_Bytes_L0 at h
    apply AWp.seq
    refine sr (SQ tt) ?_
    apply AWp.cond rfl<;>intro hg20
    ·have h:=ite_t hg20 h
     apply AWp.skip
     apply seqQ_n
     apply AWp.seq
     apply AWp.block
     refine sr (SQ tt) ?_
     apply AWp.seq
     refine sr (SQ tt) ?_
     refine gh [(1,_),(4,_),(5,_),(6,_),(21,_)] [(1001,some _),(3004,some _)] hB rfl rfl (by rfl) ?_
     refine AWp.cut h (fun m22:Int=>([(1,(pt 1001)),(4,(.sref 3004 1 0 s6.2.length)),(5,(i6 s6.1)),(6,(.d (.int .u64 m22)))]:EL)) (fun m22:Int=>([(1001,bd 44 (e_aAddr a0)),(3004,some (.row 5 1 (s6.2.map (eI .u8))))]:OL)) (fun m22 h E' O' hmat => ?_) (fun j23 hjj23 h => ?_)
     ·apply seqQ_n
      refine AWp.ghost hmat ?_
      obtain⟨hc24,h⟩:=chk_some h
      refine rg (SQ (fa hc24 tt)) ?_
      apply blkQ_n
      apply seqQ_n
      refine rg (SQ tt) ?_
      obtain rfl:=oi h
      exact⟨rfl,(mp [(3004,1033)] _ _ hB)⟩
     ·apply AWp.cond rfl<;>intro hg25
      ·have h:=ite_t hg25 h
       refine rg (SQ tt) ?_
       exact hjj23 _ h _ _ (mp [] _ _ hB)
      ·have h:=ite_f hg25 h
       apply AWp.skip
       exact hjj23 _ h _ _ (mp [] _ _ hB)
    ·have h:=ite_f hg20 h
     apply AWp.exit
     apply seqQ_e
     obtain rfl:=oi h
     exact⟨(fun hc=>by cases hc),rfl,(mp [] _ _ hB)⟩
   ·obtain⟨rfl,hmat⟩:=hR
    apply blkQ_hit
    apply seqQ_n
    refine AWp.ghost hmat ?_
    refine sr (SQ tt) ?_
    apply AWp.ret
    obtain rfl:=oi h
    exact rt (Mat.trans (Mat.freezeP (n:=3004) (e:=5) (sz:=1) (es:=p19.map (eI .u8)) (Ts:=[(2,(.d (.list 1 (p19.map (eI .u8)))))]) (Bs:=[]) (by rfl) (TwT.cons (x:=(.sref 3004 1 0 p19.length)) (by rfl) (FrzL.all (by first | rfl | (simp;done) | (simp;omega) | omega)) TwT.nil) TwB.nil) (mp [] [(2,(.d (.list 1 (p19.map (eI .u8)))))] [] hB)) [(.d (.list 1 (p19.map (eI .u8))))] (Res.tmp (by rfl) (by rfl) Res.nil) rfl
  ·apply AWp.cond rfl<;>intro hg28
   ·have h:=ite_t hg28 h
    refine rg (SQ tt) ?_
    exact hjj5 _ h _ _ (mp [] _ _ hB)
   ·have h:=ite_f hg28 h
    apply AWp.skip
    exact hjj5 _ h _ _ (mp [] _ _ hB)
def xref01_Bytes_2_L0 (a0:aAddr) (s6:Int×(List Int)):Option ((((List Int)))⊕(Int×(List Int))) :=
 (if (decide (0≤s6.1))=true then
 jn (fun m22:Int =>
 chk (decide ((s6.2++([(IntKind.u8.wrap (shrI .u64 m22 (IntKind.u64.wrap (8*(IntKind.u64.wrap (Int.tmod s6.1 8))))))]:List Int)).length≤LIM)) <|
 some (.inr ((w64 (s6.1-1)),(s6.2++([(IntKind.u8.wrap (shrI .u64 m22 (IntKind.u64.wrap (8*(IntKind.u64.wrap (Int.tmod s6.1 8))))))]:List Int))))) (fun j23 =>
 (if (decide (8≤s6.1))=true then
 j23 a0.fHi
 else
 j23 a0.fLo))
 else
 some (.inl s6.2))
def xref01_Bytes_2 (a0:aAddr):Option ((List Int)) :=
 (xref01_Valid a0).bind fun r1 =>
 (if (!r1)=true then
 some ([]:List Int)
 else
 jn (fun m4:Int =>
 (loop (xref01_Bytes_2_L0 a0) ((w64 (m4-1)),([]:List Int))).bind fun p19 =>
 some p19) (fun j5 =>
 (if a0.fV6=true then
 j5 16
 else
 j5 4)))
theorem xref01_Bytes_2_ac (a0:aAddr) (r:(List Int)) (h:xref01_Bytes_2 a0=some r):AC Tryz.prog 78 [(.d (e_aAddr a0))] [] (.sref 900000 1 0 r.length) [(900000,some (.row 5 1 (r.map (eI .u8))))]:=by
 refine ac2 Tryz.func78 rfl rfl fun B hB hN L => ?_
 delta xref01_Bytes_2 at h
 refine sr (SQ tt) ?_
 apply AWp.seq
 obtain⟨r1,hr1,h⟩:=bindS h
 refine sr (SQ (fa (cl [] (xref01_Valid_ac a0 r1 hr1)) tt)) ?_
 apply AWp.cond rfl<;>intro hg2
 ·have h:=ite_t hg2 h
  refine sr (SQ tt) ?_
  apply AWp.ret
  apply seqQ_r
  obtain rfl:=oi h
  exact rt (Mat.trans (Mat.beginP (n:=900500) (e:=5) (sz:=1) (Ts:=[(2,(.sref 900500 1 0 0))]) (Bs:=[]) hB (by decide) (by rfl) (by decide) (TwT.cons (x:=.nils) (by rfl) (Tw.leaf ⟨rfl,rfl⟩) TwT.nil) TwB.nil) (Mat.trans (Mat.lenP (Ts:=[(2,(.sref 900500 1 0 (([]:List Int).length)))]) (Bs:=[]) (TwT.cons (x:=(.sref 900500 1 0 0)) (by rfl) (Tw.leaf ⟨_,_,_,_,_,rfl,rfl,(by first | rfl | (simp;done) | (simp;omega) | omega)⟩) TwT.nil) TwB.nil) (mp [(900000,900500)] [(2,(.sref 900000 1 0 (([]:List Int).length)))] [(900000,some (.row 5 1 (([]:List Int).map (eI .u8))))] hB))) [(.sref 900000 1 0 (([]:List Int).length))] (Res.tmp (by rfl) (by rfl) Res.nil) rfl
 ·have h:=ite_f hg2 h
  apply AWp.skip
  apply seqQ_n
  refine sr (SQ tt) ?_
  apply AWp.seq
  refine sr (SQ tt) ?_
  refine gh [(1,_),(3,_),(11,_)] [(1001,some _)] hB rfl rfl (by rfl) ?_
  refine AWp.cut h (fun m4:Int=>([(1,(pt 1001)),(3,(i6 m4))]:EL)) (fun m4:Int=>([(1001,bd 44 (e_aAddr a0))]:OL)) (fun m4 h E' O' hmat => ?_) (fun j5 hjj5 h => ?_)
  ·apply seqQ_n
   refine AWp.ghost hmat ?_
   refine sr (SQ tt) ?_
   apply AWp.seq
   refine sr (SQ tt) ?_
   apply AWp.block
   obtain⟨p19,hx27,h⟩:=bindS h
   refine lg (xref01_Bytes_2_L0 a0) (fun s6:Int×(List Int)=>([(1,(pt 1001)),(4,(.sref 3004 1 0 s6.2.length)),(5,(i6 s6.1))]:EL)) (fun s6:Int×(List Int)=>([(1001,bd 44 (e_aAddr a0)),(3004,some (.row 5 1 (s6.2.map (eI .u8))))]:OL)) (fun(p19:((List Int))) e E' O'=>e = .exit 0∧Mat B E' O' ([(4,(.sref 3004 1 0 p19.length))]:EL) ([(3004,some (.row 5 1 (p19.map (eI .u8))))]:OL)) hx27 (Mat.trans (Mat.beginP (n:=3004) (e:=5) (sz:=1) (Ts:=[(4,(.sref 3004 1 0 0))]) (Bs:=[]) hB (by decide) (by rfl) (by decide) (TwT.cons (x:=.nils) (by rfl) (Tw.leaf ⟨rfl,rfl⟩) TwT.nil) TwB.nil) (mp [] _ _ hB)) (fun s6 y h => ?_) (fun e E' O' hR => ?_)
   ·unfold xref01_Bytes_2_L0 at h
    apply AWp.seq
    refine sr (SQ tt) ?_
    apply AWp.cond rfl<;>intro hg20
    ·have h:=ite_t hg20 h
     apply AWp.skip
     apply seqQ_n
     apply AWp.seq
     apply AWp.block
     refine sr (SQ tt) ?_
     apply AWp.seq
     refine sr (SQ tt) ?_
     refine gh [(1,_),(4,_),(5,_),(6,_),(21,_)] [(1001,some _),(3004,some _)] hB rfl rfl (by rfl) ?_
     refine AWp.cut h (fun m22:Int=>([(1,(pt 1001)),(4,(.sref 3004 1 0 s6.2.length)),(5,(i6 s6.1)),(6,(.d (.int .u64 m22)))]:EL)) (fun m22:Int=>([(1001,bd 44 (e_aAddr a0)),(3004,some (.row 5 1 (s6.2.map (eI .u8))))]:OL)) (fun m22 h E' O' hmat => ?_) (fun j23 hjj23 h => ?_)
     ·apply seqQ_n
      refine AWp.ghost hmat ?_
      obtain⟨hc24,h⟩:=chk_some h
      refine rg (SQ (fa hc24 tt)) ?_
      apply blkQ_n
      apply seqQ_n
      refine rg (SQ tt) ?_
      obtain rfl:=oi h
      exact⟨rfl,(mp [(3004,1033)] _ _ hB)⟩
     ·apply AWp.cond rfl<;>intro hg25
      ·have h:=ite_t hg25 h
       refine rg (SQ tt) ?_
       exact hjj23 _ h _ _ (mp [] _ _ hB)
      ·have h:=ite_f hg25 h
       apply AWp.skip
       exact hjj23 _ h _ _ (mp [] _ _ hB)
    ·have h:=ite_f hg20 h
     apply AWp.exit
     apply seqQ_e
     obtain rfl:=oi h
     exact⟨(fun hc=>by cases hc),rfl,(mp [] _ _ hB)⟩
   ·obtain⟨rfl,hmat⟩:=hR
    apply blkQ_hit
    apply seqQ_n
    refine AWp.ghost hmat ?_
    refine sr (SQ tt) ?_
    apply AWp.ret
    obtain rfl:=oi h
    exact rt (mp [(900000,3004)] [(2,(.sref 900000 1 0 p19.length))] [(900000,some (.row 5 1 (p19.map (eI .u8))))] hB) [(.sref 900000 1 0 p19.length)] (Res.tmp (by rfl) (by rfl) Res.nil) rfl
  ·apply AWp.cond rfl<;>intro hg28
   ·have h:=ite_t hg28 h
    refine rg (SQ tt) ?_
    exact hjj5 _ h _ _ (mp [] _ _ hB)
   ·have h:=ite_f hg28 h
    apply AWp.skip
    exact hjj5 _ h _ _ (mp [] _ _ hB)
def xref01_FromBytes_L0 (a0:(List Int)) (s2:Int×Int×Int):Option (((Int×Int))⊕(Int×Int×Int)) :=
 (if (decide (s2.1<(a0.length:Int)))=true then
 (idx a0 s2.1).bind fun x9 =>
 some (.inr ((w64 (s2.1+1)),(bitI .or .u64 (shlI .u64 s2.2.1 8) (shrI .u64 s2.2.2 56)),(bitI .or .u64 (shlI .u64 s2.2.2 8) (IntKind.u64.wrap x9))))
 else
 some (.inl (s2.2.1,s2.2.2)))
def xref01_FromBytes (a0:(List Int)):Option (aAddr×Int) :=
 (if (((a0.length:Int) != 4)&&((a0.length:Int) != 16))=true then
 some ((aAddr.mk false 0 0),1)
 else
 (loop (xref01_FromBytes_L0 a0) (0,0,0)).bind fun p7 =>
 some ((aAddr.mk ((a0.length:Int)==16) p7.1 p7.2),0))
theorem xref01_FromBytes_ac (a0:(List Int)) (r:aAddr×Int) (h:xref01_FromBytes a0=some r):AC Tryz.prog 79 [(.d (.list 1 (a0.map (eI .u8))))] [] (.tup [(.d (e_aAddr r.1)),(.d (.int .i64 r.2))]) []:=by
 refine ac2 Tryz.func79 rfl rfl fun B hB hN L => ?_
 delta xref01_FromBytes at h
 refine sr (SQ tt) ?_
 apply AWp.seq
 refine sr (SQ tt) ?_
 apply AWp.cond rfl<;>intro hg1
 ·have h:=ite_t hg1 h
  refine sr (SQ tt) ?_
  apply AWp.ret
  apply seqQ_r
  obtain rfl:=oi h
  exact rt (kp [(2,_),(3,_)] [(1002,some _)] hB rfl rfl (by rfl)) [(.d (.st [(.bool false),(.int .u64 0),(.int .u64 0)])),(i6 1)] (Res.cell (c:=(.d (.st [(.bool false),(.int .u64 0),(.int .u64 0)]))) (by rfl) (by rfl) tyS44 (by rfl) (by rfl) (by rfl) (Res.tmp (by rfl) (by rfl) Res.nil)) rfl
 ·have h:=ite_f hg1 h
  apply AWp.skip
  apply seqQ_n
  refine sr (SQ tt) ?_
  apply AWp.seq
  refine sr (SQ tt) ?_
  apply AWp.block
  obtain⟨p7,hx11,h⟩:=bindS h
  refine lg (xref01_FromBytes_L0 a0) (fun s2:Int×Int×Int=>([(2,(pt 1002)),(4,(pt 1004)),(20,(.d (.list 1 (a0.map (eI .u8))))),(21,(i6 (a0.length:Int))),(22,(i6 s2.1))]:EL)) (fun s2:Int×Int×Int=>([(1002,bd 44 (.st [(.bool false),(.int .u64 0),(.int .u64 0)])),(1004,bd 44 (.st [(.bool ((a0.length:Int)==16)),(.int .u64 s2.2.1),(.int .u64 s2.2.2)]))]:OL)) (fun(p7:(Int×Int)) e E' O'=>e = .exit 0∧Mat B E' O' ([(2,(pt 1002)),(4,(pt 1004))]:EL) ([(1002,bd 44 (.st [(.bool false),(.int .u64 0),(.int .u64 0)])),(1004,bd 44 (.st [(.bool ((a0.length:Int)==16)),(.int .u64 p7.1),(.int .u64 p7.2)]))]:OL)) hx11 (mp [] _ _ hB) (fun s2 y h => ?_) (fun e E' O' hR => ?_)
  ·unfold xref01_FromBytes_L0 at h
   refine sr (SQ tt) ?_
   apply AWp.seq
   apply AWp.cond rfl<;>intro hg8
   ·have h:=ite_t hg8 h
    apply AWp.skip
    apply seqQ_n
    apply AWp.seq
    apply AWp.block
    obtain⟨_,hx9,h⟩:=bindS h
    refine sr (SQ (fa hx9 tt)) ?_
    refine sr (SQ tt) ?_
    refine rg (SQ tt) ?_
    apply blkQ_n
    apply seqQ_n
    refine rg (SQ tt) ?_
    obtain rfl:=oi h
    exact⟨rfl,(mp [] _ _ hB)⟩
   ·have h:=ite_f hg8 h
    apply AWp.exit
    apply seqQ_e
    obtain rfl:=oi h
    exact⟨(fun hc=>by cases hc),rfl,(mp [] _ _ hB)⟩
  ·obtain⟨rfl,hmat⟩:=hR
   apply blkQ_hit
   apply seqQ_n
   refine AWp.ghost hmat ?_
   refine sr (SQ tt) ?_
   apply AWp.ret
   obtain rfl:=oi h
   exact rt (kp [(2,_),(3,_)] [(1002,some _)] hB rfl rfl (by rfl)) [(.d (.st [(.bool ((a0.length:Int)==16)),(.int .u64 p7.1),(.int .u64 p7.2)])),(i6 0)] (Res.cell (c:=(.d (.st [(.bool ((a0.length:Int)==16)),(.int .u64 p7.1),(.int .u64 p7.2)]))) (by rfl) (by rfl) tyS44 (by rfl) (by rfl) (by rfl) (Res.tmp (by rfl) (by rfl) Res.nil)) rfl
def xref02_Make_L0 (s9:Int×(List Int)):Option ((((List Int)))⊕(Int×(List Int))) :=
 (if (decide (s9.1<(w64 (8*(s9.2.length:Int)))))=true then
 (idx s9.2 (w64 (Int.tdiv s9.1 8))).bind fun x22 =>
 (idx s9.2 (w64 (Int.tdiv s9.1 8))).bind fun x23 =>
 (idx s9.2 (w64 (Int.tdiv s9.1 8))).bind fun x24 =>
 (idx s9.2 (w64 (Int.tdiv s9.1 8))).bind fun x25 =>
 some (.inr ((w64 (s9.1+1)),(s9.2.set (w64 (Int.tdiv s9.1 8)).toNat (bitI .andNot .u8 x23 (shrI .u8 128 (IntKind.u64.wrap (Int.tmod s9.1 8)))))))
 else
 some (.inl s9.2))
def xref02_Make (a0:aAddr) (a1:Int):Option (aPrefix×Int) :=
 (xref01_Valid a0).bind fun r1 =>
 (if (!r1)=true then
 some ((aPrefix.mk (aAddr.mk false 0 0) 0),1)
 else
 jn (fun m5:Bool =>
 (if m5=true then
 some ((aPrefix.mk (aAddr.mk false 0 0) 0),9)
 else
 (xref01_Bytes_2 a0).bind fun r8 =>
 (loop (xref02_Make_L0) (a1,r8)).bind fun p20 =>
 (xref01_FromBytes p20).bind fun r28 =>
 some ((aPrefix.mk r28.1 a1),0))) (fun j6 =>
 (if (decide (a1<0))=true then
 j6 true
 else
 (xref02_width a0).bind fun r30 =>
 j6 (decide (r30<a1)))))
theorem xref02_Make_ac (a0:aAddr) (a1:Int) (r:aPrefix×Int) (h:xref02_Make a0 a1=some r):AC Tryz.prog 44 [(.d (e_aAddr a0)),(.d (.int .i64 a1))] [] (.tup [(.d (e_aPrefix r.1)),(.d (.int .i64 r.2))]) []:=by
 refine ac2 Tryz.func44 rfl rfl fun B hB hN L => ?_
 delta xref02_Make at h
 refine sr (SQ tt) ?_
 apply AWp.seq
 apply AWp.block
 obtain⟨r1,hr1,h⟩:=bindS h
 refine sr (SQ (fa (cl [] (xref01_Valid_ac a0 r1 hr1)) tt)) ?_
 apply AWp.cond rfl<;>intro hg2
 ·have h:=ite_t hg2 h
  refine sr (SQ tt) ?_
  apply AWp.ret
  apply blkQ_r
  apply seqQ_r
  obtain rfl:=oi h
  exact rt (kp [(4,_),(5,_)] [(1004,some _)] hB rfl rfl (by rfl)) [(.d (.st [(.st [(.bool false),(.int .u64 0),(.int .u64 0)]),(.int .i64 0)])),(i6 1)] (Res.cell (c:=(.d (.st [(.st [(.bool false),(.int .u64 0),(.int .u64 0)]),(.int .i64 0)]))) (by rfl) (by rfl) tyS46 (by rfl) (by rfl) (by rfl) (Res.tmp (by rfl) (by rfl) Res.nil)) rfl
 ·have h:=ite_f hg2 h
  apply AWp.seq
  refine AWp.cut h (fun m5:Bool=>([(1,(i6 a1)),(2,(pt 1002)),(4,(pt 1004)),(15,(bo m5))]:EL)) (fun m5:Bool=>([(1002,bd 44 (e_aAddr a0)),(1004,bd 46 (.st [(.st [(.bool false),(.int .u64 0),(.int .u64 0)]),(.int .i64 0)]))]:OL)) (fun m5 h E' O' hmat => ?_) (fun j6 hjj6 h => ?_)
  ·apply seqQ_n
   refine AWp.ghost hmat ?_
   apply AWp.cond rfl<;>intro hg7
   ·have h:=ite_t hg7 h
    refine sr (SQ tt) ?_
    apply AWp.ret
    apply blkQ_r
    apply seqQ_r
    obtain rfl:=oi h
    exact rt (kp [(4,_),(5,_)] [(1004,some _)] hB rfl rfl (by rfl)) [(.d (.st [(.st [(.bool false),(.int .u64 0),(.int .u64 0)]),(.int .i64 0)])),(i6 9)] (Res.cell (c:=(.d (.st [(.st [(.bool false),(.int .u64 0),(.int .u64 0)]),(.int .i64 0)]))) (by rfl) (by rfl) tyS46 (by rfl) (by rfl) (by rfl) (Res.tmp (by rfl) (by rfl) Res.nil)) rfl
   ·have h:=ite_f hg7 h
    apply AWp.skip
    apply blkQ_n
    apply seqQ_n
    apply AWp.seq
    obtain⟨r8,hr8,h⟩:=bindS h
    refine rg (SQ (fa (cl [(900000,100200)] (xref01_Bytes_2_ac a0 r8 hr8)) tt)) ?_
    apply seqQ_n
    refine AWp.ghost (mp [] [(1,(i6 a1)),(4,(pt 1004)),(6,(.sref 100200 1 0 r8.length))] [(1004,bd 46 (.st [(.st [(.bool false),(.int .u64 0),(.int .u64 0)]),(.int .i64 0)])),(100200,some (.row 5 1 (r8.map (eI .u8))))] hB) ?_
    apply AWp.seq
    refine sr (SQ tt) ?_
    apply AWp.block
    obtain⟨p20,hx27,h⟩:=bindS h
    refine lg (xref02_Make_L0) (fun s9:Int×(List Int)=>([(1,(i6 a1)),(4,(pt 1004)),(6,(.sref 100200 1 0 s9.2.length)),(7,(i6 s9.1))]:EL)) (fun s9:Int×(List Int)=>([(1004,bd 46 (.st [(.st [(.bool false),(.int .u64 0),(.int .u64 0)]),(.int .i64 0)])),(100200,some (.row 5 1 (s9.2.map (eI .u8))))]:OL)) (fun(p20:((List Int))) e E' O'=>e = .exit 1∧Mat B E' O' ([(1,(i6 a1)),(4,(pt 1004)),(6,(.sref 100200 1 0 p20.length))]:EL) ([(1004,bd 46 (.st [(.st [(.bool false),(.int .u64 0),(.int .u64 0)]),(.int .i64 0)])),(100200,some (.row 5 1 (p20.map (eI .u8))))]:OL)) hx27 (mp [] _ _ hB) (fun s9 y h => ?_) (fun e E' O' hR => ?_)
    ·unfold xref02_Make_L0 at h
     apply AWp.seq
     refine sr (SQ tt) ?_
     apply AWp.cond rfl<;>intro hg21
     ·have h:=ite_t hg21 h
      apply AWp.skip
      apply seqQ_n
      apply AWp.seq
      apply AWp.block
      obtain⟨_,hx22,h⟩:=bindS h
      obtain⟨x23,hx23,h⟩:=bindS h
      obtain⟨_,hx24,h⟩:=bindS h
      obtain⟨_,hx25,h⟩:=bindS h
      refine rg (SQ (fa hx22 (fa hx23 (fa hx24 (fa hx25 (fa (sv (bitI .andNot .u8 x23 (shrI .u8 128 (IntKind.u64.wrap (Int.tmod s9.1 8))))) tt)))))) ?_
      apply blkQ_n
      apply seqQ_n
      refine rg (SQ tt) ?_
      obtain rfl:=oi h
      exact⟨rfl,(Mat.trans (mp [] [(1,(i6 a1)),(4,(pt 1004)),(6,(.sref 100200 1 0 s9.2.length)),(7,(i6 (w64 (s9.1+1))))] [(1004,bd 46 (.st [(.st [(.bool false),(.int .u64 0),(.int .u64 0)]),(.int .i64 0)])),(100200,some (.row 5 1 ((s9.2.set (w64 (Int.tdiv s9.1 8)).toNat (bitI .andNot .u8 x23 (shrI .u8 128 (IntKind.u64.wrap (Int.tmod s9.1 8))))).map (eI .u8))))] hB) (Mat.trans (Mat.lenP (Ts:=[(6,(.sref 100200 1 0 ((s9.2.set (w64 (Int.tdiv s9.1 8)).toNat (bitI .andNot .u8 x23 (shrI .u8 128 (IntKind.u64.wrap (Int.tmod s9.1 8))))).length)))]) (Bs:=[]) (TwT.cons (x:=(.sref 100200 1 0 s9.2.length)) (by rfl) (Tw.leaf ⟨_,_,_,_,_,rfl,rfl,(by first | rfl | (simp;done) | (simp;omega) | omega)⟩) TwT.nil) TwB.nil) (mp [] _ _ hB)))⟩
     ·have h:=ite_f hg21 h
      apply AWp.exit
      apply seqQ_e
      obtain rfl:=oi h
      exact⟨(fun hc=>by cases hc),rfl,(mp [] _ _ hB)⟩
    ·obtain⟨rfl,hmat⟩:=hR
     apply blkQ_hit
     apply seqQ_n
     refine AWp.ghost hmat ?_
     apply AWp.seq
     refine AWp.ghost (Mat.freezeP (n:=100200) (e:=5) (sz:=1) (es:=p20.map (eI .u8)) (Ts:=[(6,(.d (.list 1 (p20.map (eI .u8)))))]) (Bs:=[]) (by rfl) (TwT.cons (x:=(.sref 100200 1 0 p20.length)) (by rfl) (FrzL.all (by first | rfl | (simp;done) | (simp;omega) | omega)) TwT.nil) TwB.nil) ?_
     obtain⟨r28,hr28,h⟩:=bindS h
     refine rg (SQ (fa (cl [] (xref01_FromBytes_ac p20 r28 hr28)) tt)) ?_
     apply seqQ_n
     refine sr (SQ tt) ?_
     apply AWp.ret
     obtain rfl:=oi h
     exact rt (kp [(4,_),(5,_)] [(1004,some _)] hB rfl rfl (by rfl)) [(.d (.st [(e_aAddr r28.1),(.int .i64 a1)])),(i6 0)] (Res.cell (c:=(.d (.st [(e_aAddr r28.1),(.int .i64 a1)]))) (by rfl) (by rfl) tyS46 (by rfl) (by rfl) (by rfl) (Res.tmp (by rfl) (by rfl) Res.nil)) rfl
  ·rcases bft (decide (a1<0)) with hg29 | hg29
   ·have h:=ite_t hg29 h
    refine rg (SQ (fa hg29 tt)) ?_
    exact hjj6 _ h _ _ (mp [] _ _ hB)
   ·have h:=ite_f hg29 h
    obtain⟨r30,hr30,h⟩:=bindS h
    refine rg (SQ (fa hg29 (fa (cl [] (xref02_width_ac a0 r30 hr30)) tt))) ?_
    exact hjj6 _ h _ _ (mp [] _ _ hB)
def xref02_Valid (a0:aPrefix):Option (Bool) :=
 (xref02_Make a0.fAddr a0.fLen).bind fun r1 =>
 some ((r1.2==0)&&(((a0.fAddr.fV6==r1.1.fAddr.fV6)&&((a0.fAddr.fHi==r1.1.fAddr.fHi)&&((a0.fAddr.fLo==r1.1.fAddr.fLo)&&true)))&&((a0.fLen==r1.1.fLen)&&true)))
theorem xref02_Valid_ac (a0:aPrefix) (r:Bool) (h:xref02_Valid a0=some r):AC Tryz.prog 53 [(.d (e_aPrefix a0))] [] (.d (.bool r)) []:=by
 refine AC.of_code2 Tryz.func53 rfl rfl (Nat.le_of_ble_eq_true (by rfl)) fun B hB hN => ?_
 delta xref02_Valid at h
 refine sr (SQ tt) ?_
 obtain⟨r1,hr1,h⟩:=bindS h
 refine sr (SQ (fa (cl [] (xref02_Make_ac a0.fAddr a0.fLen r1 hr1)) tt)) ?_
 apply sr (c (mv hN (q 4)) rfl (c (eqlI (ltN hN rfl) (q 13) (ii 0)) rfl (c (mv hN (q 14)) rfl (c (oq hN 15 (lb hN 46 _ _ tyS46 (At.here _) (q 1)) (OptL.keep (by rfl) OptL.nil) (GuardV.plain _)) rfl (c (oq hN 15 (lb hN 46 _ _ tyS46 (At.here _) (q 3)) (OptL.keep (by rfl) OptL.nil) (GuardV.plain _)) rfl (c (oq hN 15 (OpJ.eqlD (h:=3) (FitE.st underlying46 rfl held46 (FitF.cons (x:=(e_aAddr a0.fAddr)) (y:=(e_aAddr r1.1.fAddr)) (by decide) rfl tyS44 ⟨rfl,rfl⟩ ⟨rfl,rfl⟩ (FitE.st underlying44 rfl held44 (FitF.cons (x:=(.bool a0.fAddr.fV6)) (y:=(.bool r1.1.fAddr.fV6)) (by decide) rfl tyS4 ⟨rfl,rfl⟩ ⟨rfl,rfl⟩ (FitE.bool (h:=0) a0.fAddr.fV6 r1.1.fAddr.fV6 underlying4) (FitF.cons (x:=(.int .u64 a0.fAddr.fHi)) (y:=(.int .u64 r1.1.fAddr.fHi)) (by decide) rfl tyS42 ⟨rfl,rfl⟩ ⟨rfl,rfl⟩ (FitE.int (h:=0) a0.fAddr.fHi r1.1.fAddr.fHi underlying42) (FitF.cons (x:=(.int .u64 a0.fAddr.fLo)) (y:=(.int .u64 r1.1.fAddr.fLo)) (by decide) rfl tyS42 ⟨rfl,rfl⟩ ⟨rfl,rfl⟩ (FitE.int (h:=0) a0.fAddr.fLo r1.1.fAddr.fLo underlying42) FitF.nil)))) (FitF.cons (x:=(.int .i64 a0.fLen)) (y:=(.int .i64 r1.1.fLen)) (by decide) rfl tyS3 ⟨rfl,rfl⟩ ⟨rfl,rfl⟩ (FitE.int (h:=1) a0.fLen r1.1.fLen underlying3) FitF.nil))) eqg46 ⟨rfl,rfl⟩ (by rfl) (ltN hN rfl) (q 16) (q 17)) (OptL.opt (OptL.opt OptL.nil)) (GuardV.plain _)) rfl (c (pickAnd rfl (ltN hN rfl) (q 15) (q 18)) rfl (c (assign (ltN hN rfl) (q 19)) rfl cn))))))))
 apply AWp.ret
 obtain rfl:=oi h
 exact rt (kp [(2,_)] [] hB rfl rfl (by rfl)) [(bo ((r1.2==0)&&(((a0.fAddr.fV6==r1.1.fAddr.fV6)&&((a0.fAddr.fHi==r1.1.fAddr.fHi)&&((a0.fAddr.fLo==r1.1.fAddr.fLo)&&true)))&&((a0.fLen==r1.1.fLen)&&true))))] (Res.tmp (by rfl) (by rfl) Res.nil) rfl
def xref02_Last_L0 (s2:Int×(List Int)):Option ((((List Int)))⊕(Int×(List Int))) :=
 (if (decide (s2.1<(w64 (8*(s2.2.length:Int)))))=true then
 (idx s2.2 (w64 (Int.tdiv s2.1 8))).bind fun x15 =>
 (idx s2.2 (w64 (Int.tdiv s2.1 8))).bind fun x16 =>
 (idx s2.2 (w64 (Int.tdiv s2.1 8))).bind fun x17 =>
 (idx s2.2 (w64 (Int.tdiv s2.1 8))).bind fun x18 =>
 some (.inr ((w64 (s2.1+1)),(s2.2.set (w64 (Int.tdiv s2.1 8)).toNat (bitI .or .u8 x16 (shrI .u8 128 (IntKind.u64.wrap (Int.tmod s2.1 8)))))))
 else
 some (.inl s2.2))
def xref02_Last (a0:aPrefix):Option (aAddr) :=
 (xref01_Bytes_2 a0.fAddr).bind fun r1 =>
 (loop (xref02_Last_L0) ((maxI 0 a0.fLen),r1)).bind fun p13 =>
 (xref01_FromBytes p13).bind fun r21 =>
 some r21.1
theorem xref02_Last_ac (a0:aPrefix) (r:aAddr) (h:xref02_Last a0=some r):AC Tryz.prog 47 [(.d (e_aPrefix a0))] [] (.d (e_aAddr r)) []:=by
 refine ac2 Tryz.func47 rfl rfl fun B hB hN L => ?_
 delta xref02_Last at h
 refine sr (SQ tt) ?_
 apply AWp.seq
 obtain⟨r1,hr1,h⟩:=bindS h
 refine rg (SQ (fa (cl [(900000,100000)] (xref01_Bytes_2_ac a0.fAddr r1 hr1)) tt)) ?_
 apply seqQ_n
 refine AWp.ghost (mp [] [(1,(pt 1001)),(2,(pt 1002)),(3,(.sref 100000 1 0 r1.length))] [(1001,bd 46 (e_aPrefix a0)),(1002,bd 44 (.st [(.bool false),(.int .u64 0),(.int .u64 0)])),(100000,some (.row 5 1 (r1.map (eI .u8))))] hB) ?_
 apply AWp.seq
 refine sr (SQ tt) ?_
 apply AWp.block
 obtain⟨p13,hx20,h⟩:=bindS h
 refine lg (xref02_Last_L0) (fun s2:Int×(List Int)=>([(2,(pt 1002)),(3,(.sref 100000 1 0 s2.2.length)),(4,(i6 s2.1))]:EL)) (fun s2:Int×(List Int)=>([(1002,bd 44 (.st [(.bool false),(.int .u64 0),(.int .u64 0)])),(100000,some (.row 5 1 (s2.2.map (eI .u8))))]:OL)) (fun(p13:((List Int))) e E' O'=>e = .exit 0∧Mat B E' O' ([(2,(pt 1002)),(3,(.sref 100000 1 0 p13.length))]:EL) ([(1002,bd 44 (.st [(.bool false),(.int .u64 0),(.int .u64 0)])),(100000,some (.row 5 1 (p13.map (eI .u8))))]:OL)) hx20 (mp [] _ _ hB) (fun s2 y h => ?_) (fun e E' O' hR => ?_)
 ·unfold xref02_Last_L0 at h
  apply AWp.seq
  refine sr (SQ tt) ?_
  apply AWp.cond rfl<;>intro hg14
  ·have h:=ite_t hg14 h
   apply AWp.skip
   apply seqQ_n
   apply AWp.seq
   apply AWp.block
   obtain⟨_,hx15,h⟩:=bindS h
   obtain⟨x16,hx16,h⟩:=bindS h
   obtain⟨_,hx17,h⟩:=bindS h
   obtain⟨_,hx18,h⟩:=bindS h
   refine rg (SQ (fa hx15 (fa hx16 (fa hx17 (fa hx18 (fa (sv (bitI .or .u8 x16 (shrI .u8 128 (IntKind.u64.wrap (Int.tmod s2.1 8))))) tt)))))) ?_
   apply blkQ_n
   apply seqQ_n
   refine rg (SQ tt) ?_
   obtain rfl:=oi h
   exact⟨rfl,(Mat.trans (mp [] [(2,(pt 1002)),(3,(.sref 100000 1 0 s2.2.length)),(4,(i6 (w64 (s2.1+1))))] [(1002,bd 44 (.st [(.bool false),(.int .u64 0),(.int .u64 0)])),(100000,some (.row 5 1 ((s2.2.set (w64 (Int.tdiv s2.1 8)).toNat (bitI .or .u8 x16 (shrI .u8 128 (IntKind.u64.wrap (Int.tmod s2.1 8))))).map (eI .u8))))] hB) (Mat.trans (Mat.lenP (Ts:=[(3,(.sref 100000 1 0 ((s2.2.set (w64 (Int.tdiv s2.1 8)).toNat (bitI .or .u8 x16 (shrI .u8 128 (IntKind.u64.wrap (Int.tmod s2.1 8))))).length)))]) (Bs:=[]) (TwT.cons (x:=(.sref 100000 1 0 s2.2.length)) (by rfl) (Tw.leaf ⟨_,_,_,_,_,rfl,rfl,(by first | rfl | (simp;done) | (simp;omega) | omega)⟩) TwT.nil) TwB.nil) (mp [] _ _ hB)))⟩
  ·have h:=ite_f hg14 h
   apply AWp.exit
   apply seqQ_e
   obtain rfl:=oi h
   exact⟨(fun hc=>by cases hc),rfl,(mp [] _ _ hB)⟩
 ·obtain⟨rfl,hmat⟩:=hR
  apply blkQ_hit
  apply seqQ_n
  refine AWp.ghost hmat ?_
  apply AWp.seq
  refine AWp.ghost (Mat.freezeP (n:=100000) (e:=5) (sz:=1) (es:=p13.map (eI .u8)) (Ts:=[(3,(.d (.list 1 (p13.map (eI .u8)))))]) (Bs:=[]) (by rfl) (TwT.cons (x:=(.sref 100000 1 0 p13.length)) (by rfl) (FrzL.all (by first | rfl | (simp;done) | (simp;omega) | omega)) TwT.nil) TwB.nil) ?_
  obtain⟨r21,hr21,h⟩:=bindS h
  refine rg (SQ (fa (cl [] (xref01_FromBytes_ac p13 r21 hr21)) tt)) ?_
  apply seqQ_n
  refine sr (SQ tt) ?_
  apply AWp.ret
  obtain rfl:=oi h
  exact rt (kp [(2,_)] [(1002,some _)] hB rfl rfl (by rfl)) [(.d (e_aAddr r21.1))] (Res.cell (c:=(.d (e_aAddr r21.1))) (by rfl) (by rfl) tyS44 (by rfl) (by rfl) (by rfl) Res.nil) rfl
def xref01_Cmp (a0:aAddr) (a1:aAddr):Option (Int) :=
 (if ((a0.fV6==a1.fV6)&&((a0.fHi==a1.fHi)&&((a0.fLo==a1.fLo)&&true)))=true then
 some 0
 else
 (if (a0.fV6 != a1.fV6)=true then
 (if a1.fV6=true then
 some (-1)
 else
 some 1)
 else
 jn (fun m5:Bool =>
 (if m5=true then
 some (-1)
 else
 some 1)) (fun j6 =>
 (if (decide (a0.fHi<a1.fHi))=true then
 j6 true
 else
 j6 ((a0.fHi==a1.fHi)&&(decide (a0.fLo<a1.fLo)))))))
theorem xref01_Cmp_ac (a0:aAddr) (a1:aAddr) (r:Int) (h:xref01_Cmp a0 a1=some r):AC Tryz.prog 46 [(.d (e_aAddr a0)),(.d (e_aAddr a1))] [] (.d (.int .i64 r)) []:=by
 refine ac2 Tryz.func46 rfl rfl fun B hB hN L => ?_
 delta xref01_Cmp at h
 refine sr (SQ tt) ?_
 apply AWp.seq
 apply AWp.block
 apply sr (c (lb hN 44 _ _ tyS44 (At.here _) (q 2)) rfl (c (lb hN 44 _ _ tyS44 (At.here _) (q 3)) rfl (c (OpJ.eqlD (h:=2) (FitE.st underlying44 rfl held44 (FitF.cons (x:=(.bool a0.fV6)) (y:=(.bool a1.fV6)) (by decide) rfl tyS4 ⟨rfl,rfl⟩ ⟨rfl,rfl⟩ (FitE.bool (h:=0) a0.fV6 a1.fV6 underlying4) (FitF.cons (x:=(.int .u64 a0.fHi)) (y:=(.int .u64 a1.fHi)) (by decide) rfl tyS42 ⟨rfl,rfl⟩ ⟨rfl,rfl⟩ (FitE.int (h:=0) a0.fHi a1.fHi underlying42) (FitF.cons (x:=(.int .u64 a0.fLo)) (y:=(.int .u64 a1.fLo)) (by decide) rfl tyS42 ⟨rfl,rfl⟩ ⟨rfl,rfl⟩ (FitE.int (h:=0) a0.fLo a1.fLo underlying42) FitF.nil)))) eqg44 ⟨rfl,rfl⟩ (by rfl) (L rfl) (q 6) (q 7)) rfl (c (assign (L rfl) (q 8)) rfl cn))))
 apply AWp.cond rfl<;>intro hg1
 ·have h:=ite_t hg1 h
  refine sr (SQ tt) ?_
  apply AWp.ret
  apply blkQ_r
  apply seqQ_r
  obtain rfl:=oi h
  exact rt (kp [(4,_)] [] hB rfl rfl (by rfl)) [(i6 0)] (Res.tmp (by rfl) (by rfl) Res.nil) rfl
 ·have h:=ite_f hg1 h
  refine sr (SQ tt) ?_
  apply AWp.cond rfl<;>intro hg2
  ·have h:=ite_t hg2 h
   apply AWp.seq
   refine sr (SQ tt) ?_
   apply AWp.cond rfl<;>intro hg3
   ·have h:=ite_t hg3 h
    refine sr (SQ tt) ?_
    apply AWp.ret
    apply seqQ_r
    apply blkQ_r
    apply seqQ_r
    obtain rfl:=oi h
    exact rt (kp [(4,_)] [] hB rfl rfl (by rfl)) [(i6 (-1))] (Res.tmp (by rfl) (by rfl) Res.nil) rfl
   ·have h:=ite_f hg3 h
    apply AWp.skip
    apply seqQ_n
    refine sr (SQ tt) ?_
    apply AWp.ret
    apply blkQ_r
    apply seqQ_r
    obtain rfl:=oi h
    exact rt (kp [(4,_)] [] hB rfl rfl (by rfl)) [(i6 1)] (Res.tmp (by rfl) (by rfl) Res.nil) rfl
  ·have h:=ite_f hg2 h
   apply AWp.seq
   refine AWp.cut h (fun m5:Bool=>([(17,(bo m5))]:EL)) (fun m5:Bool=>([]:OL)) (fun m5 h E' O' hmat => ?_) (fun j6 hjj6 h => ?_)
   ·apply seqQ_n
    refine AWp.ghost hmat ?_
    apply AWp.cond rfl<;>intro hg7
    ·have h:=ite_t hg7 h
     refine sr (SQ tt) ?_
     apply AWp.ret
     apply blkQ_r
     apply seqQ_r
     obtain rfl:=oi h
     exact rt (kp [(4,_)] [] hB rfl rfl (by rfl)) [(i6 (-1))] (Res.tmp (by rfl) (by rfl) Res.nil) rfl
    ·have h:=ite_f hg7 h
     apply AWp.skip
     apply blkQ_n
     apply seqQ_n
     refine sr (SQ tt) ?_
     apply AWp.ret
     obtain rfl:=oi h
     exact rt (kp [(4,_)] [] hB rfl rfl (by rfl)) [(i6 1)] (Res.tmp (by rfl) (by rfl) Res.nil) rfl
   ·rcases bft (decide (a0.fHi<a1.fHi)) with hg8 | hg8
    ·have h:=ite_t hg8 h
     refine rg (SQ (fa hg8 tt)) ?_
     exact hjj6 _ h _ _ (mp [] _ _ hB)
    ·have h:=ite_f hg8 h
     refine rg (SQ (fa hg8 tt)) ?_
     exact hjj6 _ h _ _ (mp [] _ _ hB)
def xref01_Next (a0:aAddr):Option (aAddr×Bool) :=
 jn (fun m2:Int =>
 jn (fun m5:Bool =>
 (if m5=true then
 some ((aAddr.mk false 0 0),false)
 else
 some ((aAddr.mk a0.fV6 m2 (IntKind.u64.wrap (a0.fLo+1))),true))) (fun j6 =>
 (if ((a0.fV6&&(m2==0))&&((IntKind.u64.wrap (a0.fLo+1))==0))=true then
 j6 true
 else
 j6 ((!a0.fV6)&&(decide (4294967296≤(IntKind.u64.wrap (a0.fLo+1)))))))) (fun j3 =>
 (if ((IntKind.u64.wrap (a0.fLo+1))==0)=true then
 j3 (IntKind.u64.wrap (a0.fHi+1))
 else
 j3 a0.fHi))
theorem xref01_Next_ac (a0:aAddr) (r:aAddr×Bool) (h:xref01_Next a0=some r):AC Tryz.prog 69 [(.d (e_aAddr a0))] [] (.tup [(.d (e_aAddr r.1)),(.d (.bool r.2))]) []:=by
 refine ac2 Tryz.func69 rfl rfl fun B hB hN L => ?_
 delta xref01_Next at h
 refine sr (SQ tt) ?_
 refine sr (SQ tt) ?_
 apply AWp.seq
 refine sr (SQ tt) ?_
 refine gh [(1,_),(2,_),(10,_)] [(1001,some _),(1002,some _)] hB rfl rfl (by rfl) ?_
 refine AWp.cut h (fun m2:Int=>([(1,(pt 1001)),(2,(pt 1002))]:EL)) (fun m2:Int=>([(1001,some (.box 44 (.d (.st [(.bool a0.fV6),(.int .u64 m2),(.int .u64 (IntKind.u64.wrap (a0.fLo+1)))])))),(1002,bd 44 (.st [(.bool false),(.int .u64 0),(.int .u64 0)]))]:OL)) (fun m2 h E' O' hmat => ?_) (fun j3 hjj3 h => ?_)
 ·apply seqQ_n
  refine AWp.ghost hmat ?_
  apply AWp.seq
  apply AWp.seq
  refine AWp.cut h (fun m5:Bool=>([(1,(pt 1001)),(2,(pt 1002)),(36,(bo m5))]:EL)) (fun m5:Bool=>([(1001,some (.box 44 (.d (.st [(.bool a0.fV6),(.int .u64 m2),(.int .u64 (IntKind.u64.wrap (a0.fLo+1)))])))),(1002,bd 44 (.st [(.bool false),(.int .u64 0),(.int .u64 0)]))]:OL)) (fun m5 h E' O' hmat => ?_) (fun j6 hjj6 h => ?_)
  ·apply seqQ_n
   refine AWp.ghost hmat ?_
   apply AWp.cond rfl<;>intro hg7
   ·have h:=ite_t hg7 h
    refine sr (SQ tt) ?_
    apply AWp.ret
    apply seqQ_r
    obtain rfl:=oi h
    exact rt (kp [(2,_),(3,_)] [(1002,some _)] hB rfl rfl (by rfl)) [(.d (.st [(.bool false),(.int .u64 0),(.int .u64 0)])),(bo false)] (Res.cell (c:=(.d (.st [(.bool false),(.int .u64 0),(.int .u64 0)]))) (by rfl) (by rfl) tyS44 (by rfl) (by rfl) (by rfl) (Res.tmp (by rfl) (by rfl) Res.nil)) rfl
   ·have h:=ite_f hg7 h
    apply AWp.skip
    apply seqQ_n
    refine sr (SQ tt) ?_
    apply AWp.ret
    obtain rfl:=oi h
    exact rt (kp [(2,_),(3,_)] [(1002,some _)] hB rfl rfl (by rfl)) [(.d (.st [(.bool a0.fV6),(.int .u64 m2),(.int .u64 (IntKind.u64.wrap (a0.fLo+1)))])),(bo true)] (Res.cell (c:=(.d (.st [(.bool a0.fV6),(.int .u64 m2),(.int .u64 (IntKind.u64.wrap (a0.fLo+1)))]))) (by rfl) (by rfl) tyS44 (by rfl) (by rfl) (by rfl) (Res.tmp (by rfl) (by rfl) Res.nil)) rfl
  ·rcases bft ((a0.fV6&&(m2==0))&&((IntKind.u64.wrap (a0.fLo+1))==0)) with hg8 | hg8
   ·have h:=ite_t hg8 h
    refine rg (SQ (fa hg8 tt)) ?_
    exact hjj6 _ h _ _ (mp [] _ _ hB)
   ·have h:=ite_f hg8 h
    refine rg (SQ (fa hg8 tt)) ?_
    exact hjj6 _ h _ _ (mp [] _ _ hB)
 ·apply AWp.cond rfl<;>intro hg9
  ·have h:=ite_t hg9 h
   refine rg (SQ tt) ?_
   exact hjj3 _ h _ _ (mp [] _ _ hB)
  ·have h:=ite_f hg9 h
   apply AWp.skip
   exact hjj3 _ h _ _ (mp [] _ _ hB)
def xref21_ranges_L1 (s1:Int×(List aRange)) (x93:aRange) (s94:Int):Option (((Int))⊕(Int)) :=
 jn (fun m122:Bool =>
 (if m122=true then
 some (.inr (w64 (s94+1)))
 else
 some (.inl s94))) (fun j123 =>
 (if (decide (s94<(s1.2.length:Int)))=true then
 (idx s1.2 s94).bind fun x126 =>
 (idx s1.2 s94).bind fun x127 =>
 (xref01_Cmp x127.fFrom x93.fFrom).bind fun r128 =>
 j123 (decide (r128≤0))
 else
 j123 false))
def xref21_ranges_L0 (a0:(List aRange)) (s1:Int×(List aRange)):Option ((((List aRange)))⊕(Int×(List aRange))) :=
 (if (decide (s1.1<(a0.length:Int)))=true then
 (idx a0 s1.1).bind fun x93 =>
 (loop (xref21_ranges_L1 s1 x93) 0).bind fun p117 =>
 chk ((decide (0≤p117)&&decide (0≤p117.toNat)&&decide (p117.toNat≤s1.2.length))) <|
 chk (decide (((s1.2.take p117.toNat).drop 0).length≤LIM)) <|
 chk (decide ((((s1.2.take p117.toNat).drop 0)++[x93]).length≤LIM)) <|
 chk ((decide (0≤p117)&&decide (p117.toNat≤s1.2.length)&&decide (s1.2.length≤s1.2.length))) <|
 chk (decide (((((s1.2.take p117.toNat).drop 0)++[x93])++((s1.2.take s1.2.length).drop p117.toNat)).length≤LIM)) <|
 some (.inr ((w64 (s1.1+1)),((((s1.2.take p117.toNat).drop 0)++[x93])++((s1.2.take s1.2.length).drop p117.toNat))))
 else
 some (.inl s1.2))
def xref21_ranges_L2 (p91:(List aRange)) (s143:Int×(List aRange)):Option ((((List aRange)))⊕(Int×(List aRange))) :=
 (if (decide (s143.1<(p91.length:Int)))=true then
 jn (fun m353:(List aRange) =>
 some (.inr ((w64 (s143.1+1)),m353))) (fun j354 =>
 (idx p91 s143.1).bind fun x355 =>
 (idx p91 s143.1).bind fun x356 =>
 jn (fun _:Unit =>
 chk (decide ((s143.2++[x356]).length≤LIM)) <|
 j354 (s143.2++[x356])) (fun j378 =>
 (if (decide (0<(s143.2.length:Int)))=true then
 (idx s143.2 (w64 ((s143.2.length:Int)-1))).bind fun x381 =>
 (idx s143.2 (w64 ((s143.2.length:Int)-1))).bind fun x382 =>
 (xref01_Next x382.fTo).bind fun r383 =>
 jn (fun m389:Bool =>
 (if m389=true then
 (idx s143.2 (w64 ((s143.2.length:Int)-1))).bind fun x392 =>
 (xref01_Cmp x392.fTo x356.fTo).bind fun r393 =>
 (if (decide (r393<0))=true then
 (idx s143.2 (w64 ((s143.2.length:Int)-1))).bind fun x395 =>
 j354 (s143.2.set (w64 ((s143.2.length:Int)-1)).toNat (aRange.mk x395.fFrom x356.fTo))
 else
 j354 s143.2)
 else
 j378 ())) (fun j390 =>
 (idx s143.2 (w64 ((s143.2.length:Int)-1))).bind fun x396 =>
 (if (x396.fTo.fV6==x356.fFrom.fV6)=true then
 (if (!r383.2)=true then
 j390 true
 else
 (xref01_Cmp x356.fFrom r383.1).bind fun r399 =>
 j390 (decide (r399≤0)))
 else
 j390 false))
 else
 j378 ())))
 else
 some (.inl s143.2))
def xref21_ranges (a0:(List aRange)):Option ((List aRange)) :=
 (loop (xref21_ranges_L0 a0) (0,([]:List aRange))).bind fun p91 =>
 (loop (xref21_ranges_L2 p91) (0,([]:List aRange))).bind fun p306 =>
 some p306
theorem xref21_ranges_ac (a0:(List aRange)) (r:(List aRange)) (h:xref21_ranges a0=some r):AC Tryz.prog 55 [(.d (.list 6 (a0.map e_aRange)))] [] (.d (.list 6 (r.map e_aRange))) []:=by
 refine ac2 Tryz.func55 rfl rfl fun B hB hN L => ?_
 delta xref21_ranges at h
 refine sr (SQ tt) ?_
 refine sr (SQ tt) ?_
 apply AWp.seq
 refine sr (SQ tt) ?_
 apply AWp.block
 obtain⟨p91,hx142,h⟩:=bindS h
 refine lg (xref21_ranges_L0 a0) (fun s1:Int×(List aRange)=>([(3,(.sref 3003 6 0 s1.2.length)),(14,(qe_aRange_6 a0)),(15,(i6 (a0.length:Int))),(16,(i6 s1.1))]:EL)) (fun s1:Int×(List aRange)=>([(3003,some (we_aRange_92_6 s1.2))]:OL)) (fun(p91:((List aRange))) e E' O'=>e = .exit 0∧Mat B E' O' ([(3,(.sref 3003 6 0 p91.length))]:EL) ([(3003,some (we_aRange_92_6 p91))]:OL)) hx142 (Mat.trans (Mat.beginP (n:=3003) (e:=92) (sz:=6) (Ts:=[(3,(.sref 3003 6 0 0))]) (Bs:=[]) hB (by decide) (by rfl) (by decide) (TwT.cons (x:=.nils) (by rfl) (Tw.leaf ⟨rfl,rfl⟩) TwT.nil) TwB.nil) (mp [] _ _ hB)) (fun s1 y h => ?_) (fun e E' O' hR => ?_)
 ·unfold xref21_ranges_L0 at h
  refine sr (SQ tt) ?_
  apply AWp.seq
  apply AWp.cond rfl<;>intro hg92
  ·have h:=ite_t hg92 h
   apply AWp.skip
   apply seqQ_n
   apply AWp.seq
   apply AWp.block
   obtain⟨x93,hx93,h⟩:=bindS h
   refine sr (SQ (fa hx93 tt)) ?_
   refine sr (SQ tt) ?_
   apply AWp.seq
   apply AWp.block
   obtain⟨p117,hx130,h⟩:=bindS h
   refine lg (xref21_ranges_L1 s1 x93) (fun s94:Int=>([(3,(.sref 3003 6 0 s1.2.length)),(5,(pt 1005)),(6,(i6 s94)),(14,(qe_aRange_6 a0)),(15,(i6 (a0.length:Int))),(16,(i6 s1.1))]:EL)) (fun s94:Int=>([(1005,bd 92 (e_aRange x93)),(3003,some (we_aRange_92_6 s1.2))]:OL)) (fun(p117:(Int)) e E' O'=>e = .exit 2∧Mat B E' O' ([(3,(.sref 3003 6 0 s1.2.length)),(5,(pt 1005)),(6,(i6 p117)),(14,(qe_aRange_6 a0)),(15,(i6 (a0.length:Int))),(16,(i6 s1.1))]:EL) ([(1005,bd 92 (e_aRange x93)),(3003,some (we_aRange_92_6 s1.2))]:OL)) hx130 (mp [] _ _ hB) (fun s94 y h => ?_) (fun e E' O' hR => ?_)
   ·unfold xref21_ranges_L1 at h
    apply AWp.seq
    apply AWp.seq
    refine AWp.cut h (fun m122:Bool=>([(3,(.sref 3003 6 0 s1.2.length)),(5,(pt 1005)),(6,(i6 s94)),(14,(qe_aRange_6 a0)),(15,(i6 (a0.length:Int))),(16,(i6 s1.1)),(34,(bo m122))]:EL)) (fun m122:Bool=>([(1005,bd 92 (e_aRange x93)),(3003,some (we_aRange_92_6 s1.2))]:OL)) (fun m122 h E' O' hmat => ?_) (fun j123 hjj123 h => ?_)
    ·apply seqQ_n
     refine AWp.ghost hmat ?_
     apply AWp.cond rfl<;>intro hg124
     ·have h:=ite_t hg124 h
      apply AWp.skip
      apply seqQ_n
      apply AWp.block
      refine rg (SQ tt) ?_
      apply blkQ_n
      obtain rfl:=oi h
      exact⟨rfl,(mp [] _ _ hB)⟩
     ·have h:=ite_f hg124 h
      apply AWp.exit
      apply seqQ_e
      obtain rfl:=oi h
      exact⟨(fun hc=>by cases hc),rfl,(mp [] _ _ hB)⟩
    ·rcases bft (decide (s94<(s1.2.length:Int))) with hg125 | hg125
     ·have h:=ite_t hg125 h
      obtain⟨_,hx126,h⟩:=bindS h
      obtain⟨x127,hx127,h⟩:=bindS h
      obtain⟨r128,hr128,h⟩:=bindS h
      refine drS (SQ (fa hg125 (fa hx126 (fa hx127 (fa (cl [] (xref01_Cmp_ac x127.fFrom x93.fFrom r128 hr128)) tt))))) ?_
      exact hjj123 _ h _ _ (mp [] _ _ hB)
     ·have h:=ite_f hg125 h
      refine drS (SQ (fa hg125 tt)) ?_
      exact hjj123 _ h _ _ (mp [] _ _ hB)
   ·obtain⟨rfl,hmat⟩:=hR
    apply blkQ_hit
    apply seqQ_n
    refine AWp.ghost hmat ?_
    refine AWp.ghost (Mat.freezeP (n:=3003) (e:=92) (sz:=6) (es:=s1.2.map e_aRange) (Ts:=[(3,(qe_aRange_6 s1.2))]) (Bs:=[]) (by rfl) (TwT.cons (x:=(.sref 3003 6 0 s1.2.length)) (by rfl) (FrzL.all (by first | rfl | (simp;done) | (simp;omega) | omega)) TwT.nil) TwB.nil) ?_
    obtain⟨hc136,h⟩:=chk_some h
    obtain⟨hc137,h⟩:=chk_some h
    obtain⟨hc138,h⟩:=chk_some h
    obtain⟨hc139,h⟩:=chk_some h
    obtain⟨hc140,h⟩:=chk_some h
    apply dr (c (mv hN (q 3)) rfl (c (mv hN (q 6)) rfl (c (OpJ.cutD underlying54 tyS92 (es':=((s1.2.take p117.toNat).drop 0).map e_aRange) (l:=0) (h:=p117.toNat) (.inl ⟨rfl,rfl,rfl⟩) (.inr ⟨_,_,_,rfl,(ot 38 (i6 p117)),(of_decide_eq_true (and_l2 (and_l2 hc136))),rfl⟩) (of_decide_eq_true (and_r2 (and_l2 hc136))) (by first | (simp;done) | simpa using (of_decide_eq_true (and_r2 hc136))) (by first | rw [List.map_drop,List.map_take] | simp [List.map_take,List.map_drop]) (L rfl) (q 37)) rfl (cg (OpJ.appendN hB underlying54 tyE92 (nm:=1040) (by decide) (ys:=((s1.2.take p117.toNat).drop 0).map e_aRange) (len:=((s1.2.take p117.toNat).drop 0).length) (by simp) (map_sz (f:=e_aRange) (fun _=>rfl)) (by rw [List.length_map];exact lim_mulN hc137 (by decide)) (by rw [List.length_map];exact lim_leN hc137) (L rfl) Opd.nils (q 39)) rfl (c (lb hN 92 _ _ tyS92 (At.here _) (q 5)) rfl (c (buildSlice underlying54 tyS92 tyZD92 (by rfl) (by decide) (by decide) (Opds.cons (q 41) Opds.nil) (by kernel_rfl) (es:=([(e_aRange x93)]:List D)) (by rfl) (by rfl) (by kernel_rfl) (by simp) (L rfl)) rfl (cg (apd hB underlying54 tyE92 1043 e_aRange ((s1.2.take p117.toNat).drop 0) [x93] hc138 (L rfl) (q 40) (q 42)) rfl (c (mv hN (q 3)) rfl (c (mv hN (q 6)) rfl (c (OpJ.cutD underlying54 tyS92 (es':=((s1.2.take s1.2.length).drop p117.toNat).map e_aRange) (l:=p117.toNat) (h:=s1.2.length) (.inr ⟨_,_,_,rfl,(ot 45 (i6 p117)),(of_decide_eq_true (and_l2 (and_l2 hc139))),rfl⟩) (.inl ⟨rfl,by simp,rfl⟩) (of_decide_eq_true (and_r2 (and_l2 hc139))) (by first | (simp;done) | simpa using (of_decide_eq_true (and_r2 hc139))) (by first | rw [List.map_drop,List.map_take] | simp [List.map_take,List.map_drop]) (L rfl) (q 44)) rfl (cg (apd hB underlying54 tyE92 1047 e_aRange (((s1.2.take p117.toNat).drop 0)++[x93]) ((s1.2.take s1.2.length).drop p117.toNat) hc140 (L rfl) (q 43) (q 46)) rfl (c (assign (L rfl) (q 47)) rfl cn)))))))))))) (by kernel_rfl) (by kernel_rfl)
    apply blkQ_n
    apply seqQ_n
    refine rg (SQ tt) ?_
    obtain rfl:=oi h
    exact⟨rfl,(mp [(3003,1047)] _ _ hB)⟩
  ·have h:=ite_f hg92 h
   apply AWp.exit
   apply seqQ_e
   obtain rfl:=oi h
   exact⟨(fun hc=>by cases hc),rfl,(mp [] _ _ hB)⟩
 ·obtain⟨rfl,hmat⟩:=hR
  apply blkQ_hit
  apply seqQ_n
  refine AWp.ghost hmat ?_
  refine sr (SQ tt) ?_
  apply AWp.seq
  refine sr (SQ tt) ?_
  apply AWp.block
  obtain⟨p306,hx401,h⟩:=bindS h
  refine lg (xref21_ranges_L2 p91) (fun s143:Int×(List aRange)=>([(7,(.sref 3007 6 0 s143.2.length)),(49,(.sref 3003 6 0 p91.length)),(50,(i6 (p91.length:Int))),(51,(i6 s143.1))]:EL)) (fun s143:Int×(List aRange)=>([(3003,some (we_aRange_92_6 p91)),(3007,some (we_aRange_92_6 s143.2))]:OL)) (fun(p306:((List aRange))) e E' O'=>e = .exit 4∧Mat B E' O' ([(7,(.sref 3007 6 0 p306.length))]:EL) ([(3007,some (we_aRange_92_6 p306))]:OL)) hx401 (Mat.trans (Mat.beginP (n:=3007) (e:=92) (sz:=6) (Ts:=[(7,(.sref 3007 6 0 0))]) (Bs:=[]) hB (by decide) (by rfl) (by decide) (TwT.cons (x:=.nils) (by rfl) (Tw.leaf ⟨rfl,rfl⟩) TwT.nil) TwB.nil) (mp [] _ _ hB)) (fun s143 y h => ?_) (fun e E' O' hR => ?_)
  ·unfold xref21_ranges_L2 at h
   refine sr (SQ tt) ?_
   apply AWp.seq
   apply AWp.cond rfl<;>intro hg307
   ·have h:=ite_t hg307 h
    apply AWp.skip
    apply seqQ_n
    apply AWp.seq
    refine AWp.cut h (fun m353:(List aRange)=>([(7,(.sref 3007 6 0 m353.length)),(49,(.sref 3003 6 0 p91.length)),(50,(i6 (p91.length:Int))),(51,(i6 s143.1))]:EL)) (fun m353:(List aRange)=>([(3003,some (we_aRange_92_6 p91)),(3007,some (we_aRange_92_6 m353))]:OL)) (fun m353 h E' O' hmat => ?_) (fun j354 hjj354 h => ?_)
    ·apply seqQ_n
     refine AWp.ghost hmat ?_
     refine rg (SQ tt) ?_
     obtain rfl:=oi h
     exact⟨rfl,(mp [] _ _ hB)⟩
    ·apply AWp.block
     obtain⟨_,hx355,h⟩:=bindS h
     obtain⟨x356,hx356,h⟩:=bindS h
     refine sr (SQ (fa hx355 (fa hx356 tt))) ?_
     apply AWp.seq
     refine sr (SQ tt) ?_
     refine sr (SQ tt) ?_
     refine gh [(7,_),(9,_),(10,_),(49,_),(50,_),(51,_),(58,_)] [(1009,some _),(3003,some _),(3007,some _)] hB rfl rfl (by rfl) ?_
     refine AWp.cut h (fun _:Unit=>([(7,(.sref 3007 6 0 s143.2.length)),(9,(pt 1009)),(49,(.sref 3003 6 0 p91.length)),(50,(i6 (p91.length:Int))),(51,(i6 s143.1))]:EL)) (fun _:Unit=>([(1009,bd 92 (e_aRange x356)),(3003,some (we_aRange_92_6 p91)),(3007,some (we_aRange_92_6 s143.2))]:OL)) (fun _m h E' O' hmat => ?_) (fun j378 hjj378 h => ?_)
     ·apply seqQ_n
      refine AWp.ghost hmat ?_
      obtain⟨hc379,h⟩:=chk_some h
      refine rg (SQ (fa hc379 tt)) ?_
      apply blkQ_n
      exact hjj354 _ h _ _ (mp [(3007,1107)] _ _ hB)
     ·apply AWp.cond rfl<;>intro hg380
      ·have h:=ite_t hg380 h
       obtain⟨_,hx381,h⟩:=bindS h
       refine sr (SQ (fa hx381 tt)) ?_
       obtain⟨x382,hx382,h⟩:=bindS h
       obtain⟨r383,hr383,h⟩:=bindS h
       refine sr (SQ (fa hx382 (fa (cl [] (xref01_Next_ac x382.fTo r383 hr383)) tt))) ?_
       apply AWp.seq
       refine AWp.cut h (fun m389:Bool=>([(7,(.sref 3007 6 0 s143.2.length)),(9,(pt 1009)),(11,(.ptr 3007 ((w64 ((s143.2.length:Int)-1)).toNat*6) [(w64 ((s143.2.length:Int)-1)).toNat])),(49,(.sref 3003 6 0 p91.length)),(50,(i6 (p91.length:Int))),(51,(i6 s143.1)),(90,(bo m389))]:EL)) (fun m389:Bool=>([(1009,bd 92 (e_aRange x356)),(3003,some (we_aRange_92_6 p91)),(3007,some (we_aRange_92_6 s143.2))]:OL)) (fun m389 h E' O' hmat => ?_) (fun j390 hjj390 h => ?_)
       ·apply seqQ_n
        refine AWp.ghost hmat ?_
        apply AWp.cond rfl<;>intro hg391
        ·have h:=ite_t hg391 h
         apply AWp.seq
         obtain⟨x392,hx392,h⟩:=bindS h
         obtain⟨r393,hr393,h⟩:=bindS h
         refine sdS (SQ (fa hx392 (fa (cl [] (xref01_Cmp_ac x392.fTo x356.fTo r393 hr393)) tt))) ?_
         apply AWp.cond rfl<;>intro hg394
         ·have h:=ite_t hg394 h
          obtain⟨x395,hx395,h⟩:=bindS h
          refine rg (SQ (fa hx395 (fa (sv (aRange.mk x395.fFrom x356.fTo)) tt))) ?_
          apply seqQ_n
          refine gh [(7,_),(49,_),(50,_),(51,_)] [(3003,some _),(3007,some _)] hB rfl rfl (by rfl) ?_
          apply AWp.exit
          apply seqQ_e
          apply blkQ_hit
          exact hjj354 _ h _ _ (Mat.trans (Mat.lenP (Ts:=[(7,(.sref 3007 6 0 ((s143.2.set (w64 ((s143.2.length:Int)-1)).toNat (aRange.mk x395.fFrom x356.fTo)).length)))]) (Bs:=[]) (TwT.cons (x:=(.sref 3007 6 0 s143.2.length)) (by rfl) (Tw.leaf ⟨_,_,_,_,_,rfl,rfl,(by first | rfl | (simp;done) | (simp;omega) | omega)⟩) TwT.nil) TwB.nil) (mp [] _ _ hB))
         ·have h:=ite_f hg394 h
          apply AWp.skip
          apply seqQ_n
          apply AWp.exit
          apply seqQ_e
          apply blkQ_hit
          exact hjj354 _ h _ _ (mp [] _ _ hB)
        ·have h:=ite_f hg391 h
         apply AWp.skip
         exact hjj378 _ h _ _ (mp [] _ _ hB)
       ·obtain⟨x396,hx396,h⟩:=bindS h
        rcases bft (x396.fTo.fV6==x356.fFrom.fV6) with hg397 | hg397
        ·have h:=ite_t hg397 h
         rcases bft (!r383.2) with hg398 | hg398
         ·have h:=ite_t hg398 h
          refine drS (SQ (fa hx396 (fa hg397 (fa hg398 tt)))) ?_
          exact hjj390 _ h _ _ (mp [] _ _ hB)
         ·have h:=ite_f hg398 h
          obtain⟨r399,hr399,h⟩:=bindS h
          refine drS (SQ (fa hx396 (fa hg397 (fa hg398 (fa (cl [] (xref01_Cmp_ac x356.fFrom r383.1 r399 hr399)) tt))))) ?_
          exact hjj390 _ h _ _ (mp [] _ _ hB)
        ·have h:=ite_f hg397 h
         refine drS (SQ (fa hx396 (fa hg397 tt))) ?_
         exact hjj390 _ h _ _ (mp [] _ _ hB)
      ·have h:=ite_f hg380 h
       apply AWp.skip
       exact hjj378 _ h _ _ (mp [] _ _ hB)
   ·have h:=ite_f hg307 h
    apply AWp.exit
    apply seqQ_e
    obtain rfl:=oi h
    exact⟨(fun hc=>by cases hc),rfl,(mp [] _ _ hB)⟩
  ·obtain⟨rfl,hmat⟩:=hR
   apply blkQ_hit
   apply seqQ_n
   refine AWp.ghost hmat ?_
   refine sr (SQ tt) ?_
   apply AWp.ret
   obtain rfl:=oi h
   exact rt (Mat.trans (Mat.freezeP (n:=3007) (e:=92) (sz:=6) (es:=p306.map e_aRange) (Ts:=[(2,(qe_aRange_6 p306))]) (Bs:=[]) (by rfl) (TwT.cons (x:=(.sref 3007 6 0 p306.length)) (by rfl) (FrzL.all (by first | rfl | (simp;done) | (simp;omega) | omega)) TwT.nil) TwB.nil) (mp [] [(2,(qe_aRange_6 p306))] [] hB)) [(qe_aRange_6 p306)] (Res.tmp (by rfl) (by rfl) Res.nil) rfl
def xref21_spans_L1 (s1:Int×(List aSpan)) (x81:aSpan) (s82:Int):Option (((Int))⊕(Int)) :=
 jn (fun m105:Bool =>
 (if m105=true then
 some (.inr (w64 (s82+1)))
 else
 some (.inl s82))) (fun j106 =>
 (if (decide (s82<(s1.2.length:Int)))=true then
 (idx s1.2 s82).bind fun x109 =>
 (idx s1.2 s82).bind fun x110 =>
 j106 (decide (x110.fFrom≤x81.fFrom))
 else
 j106 false))
def xref21_spans_L0 (a0:(List aSpan)) (s1:Int×(List aSpan)):Option ((((List aSpan)))⊕(Int×(List aSpan))) :=
 (if (decide (s1.1<(a0.length:Int)))=true then
 (idx a0 s1.1).bind fun x81 =>
 (loop (xref21_spans_L1 s1 x81) 0).bind fun p101 =>
 chk ((decide (0≤p101)&&decide (0≤p101.toNat)&&decide (p101.toNat≤s1.2.length))) <|
 chk (decide (((s1.2.take p101.toNat).drop 0).length≤LIM)) <|
 chk (decide ((((s1.2.take p101.toNat).drop 0)++[x81]).length≤LIM)) <|
 chk ((decide (0≤p101)&&decide (p101.toNat≤s1.2.length)&&decide (s1.2.length≤s1.2.length))) <|
 chk (decide (((((s1.2.take p101.toNat).drop 0)++[x81])++((s1.2.take s1.2.length).drop p101.toNat)).length≤LIM)) <|
 some (.inr ((w64 (s1.1+1)),((((s1.2.take p101.toNat).drop 0)++[x81])++((s1.2.take s1.2.length).drop p101.toNat))))
 else
 some (.inl s1.2))
def xref21_spans_L2 (p79:(List aSpan)) (s125:Int×(List aSpan)):Option ((((List aSpan)))⊕(Int×(List aSpan))) :=
 (if (decide (s125.1<(p79.length:Int)))=true then
 jn (fun m206:(List aSpan) =>
 some (.inr ((w64 (s125.1+1)),m206))) (fun j207 =>
 (idx p79 s125.1).bind fun x208 =>
 (idx p79 s125.1).bind fun x209 =>
 jn (fun m213:Bool =>
 (if m213=true then
 (idx s125.2 (w64 ((s125.2.length:Int)-1))).bind fun x216 =>
 (idx s125.2 (w64 ((s125.2.length:Int)-1))).bind fun x217 =>
 (idx s125.2 (w64 ((s125.2.length:Int)-1))).bind fun x218 =>
 (idx s125.2 (w64 ((s125.2.length:Int)-1))).bind fun x219 =>
 j207 (s125.2.set (w64 ((s125.2.length:Int)-1)).toNat (aSpan.mk x219.fFrom (maxI x217.fTo x209.fTo)))
 else
 chk (decide ((s125.2++[x209]).length≤LIM)) <|
 j207 (s125.2++[x209]))) (fun j214 =>
 (if (decide (0<(s125.2.length:Int)))=true then
 (idx s125.2 (w64 ((s125.2.length:Int)-1))).bind fun x222 =>
 (idx s125.2 (w64 ((s125.2.length:Int)-1))).bind fun x223 =>
 j214 (decide (x209.fFrom≤(w64 (x223.fTo+1))))
 else
 j214 false)))
 else
 some (.inl s125.2))
def xref21_spans (a0:(List aSpan)):Option ((List aSpan)) :=
 (loop (xref21_spans_L0 a0) (0,([]:List aSpan))).bind fun p79 =>
 (loop (xref21_spans_L2 p79) (0,([]:List aSpan))).bind fun p188 =>
 some p188
theorem xref21_spans_ac (a0:(List aSpan)) (r:(List aSpan)) (h:xref21_spans a0=some r):AC Tryz.prog 56 [(.d (.list 2 (a0.map e_aSpan)))] [] (.d (.list 2 (r.map e_aSpan))) []:=by
 refine ac2 Tryz.func56 rfl rfl fun B hB hN L => ?_
 delta xref21_spans at h
 refine sr (SQ tt) ?_
 refine sr (SQ tt) ?_
 apply AWp.seq
 refine sr (SQ tt) ?_
 apply AWp.block
 obtain⟨p79,hx124,h⟩:=bindS h
 refine lg (xref21_spans_L0 a0) (fun s1:Int×(List aSpan)=>([(3,(.sref 3003 2 0 s1.2.length)),(11,(qe_aSpan_2 a0)),(12,(i6 (a0.length:Int))),(13,(i6 s1.1))]:EL)) (fun s1:Int×(List aSpan)=>([(3003,some (we_aSpan_101_2 s1.2))]:OL)) (fun(p79:((List aSpan))) e E' O'=>e = .exit 0∧Mat B E' O' ([(3,(.sref 3003 2 0 p79.length))]:EL) ([(3003,some (we_aSpan_101_2 p79))]:OL)) hx124 (Mat.trans (Mat.beginP (n:=3003) (e:=101) (sz:=2) (Ts:=[(3,(.sref 3003 2 0 0))]) (Bs:=[]) hB (by decide) (by rfl) (by decide) (TwT.cons (x:=.nils) (by rfl) (Tw.leaf ⟨rfl,rfl⟩) TwT.nil) TwB.nil) (mp [] _ _ hB)) (fun s1 y h => ?_) (fun e E' O' hR => ?_)
 ·unfold xref21_spans_L0 at h
  refine sr (SQ tt) ?_
  apply AWp.seq
  apply AWp.cond rfl<;>intro hg80
  ·have h:=ite_t hg80 h
   apply AWp.skip
   apply seqQ_n
   apply AWp.seq
   apply AWp.block
   obtain⟨x81,hx81,h⟩:=bindS h
   refine sr (SQ (fa hx81 tt)) ?_
   refine sr (SQ tt) ?_
   apply AWp.seq
   apply AWp.block
   obtain⟨p101,hx112,h⟩:=bindS h
   refine lg (xref21_spans_L1 s1 x81) (fun s82:Int=>([(3,(.sref 3003 2 0 s1.2.length)),(5,(pt 1005)),(6,(i6 s82)),(11,(qe_aSpan_2 a0)),(12,(i6 (a0.length:Int))),(13,(i6 s1.1))]:EL)) (fun s82:Int=>([(1005,bd 101 (e_aSpan x81)),(3003,some (we_aSpan_101_2 s1.2))]:OL)) (fun(p101:(Int)) e E' O'=>e = .exit 2∧Mat B E' O' ([(3,(.sref 3003 2 0 s1.2.length)),(5,(pt 1005)),(6,(i6 p101)),(11,(qe_aSpan_2 a0)),(12,(i6 (a0.length:Int))),(13,(i6 s1.1))]:EL) ([(1005,bd 101 (e_aSpan x81)),(3003,some (we_aSpan_101_2 s1.2))]:OL)) hx112 (mp [] _ _ hB) (fun s82 y h => ?_) (fun e E' O' hR => ?_)
   ·unfold xref21_spans_L1 at h
    apply AWp.seq
    apply AWp.seq
    refine AWp.cut h (fun m105:Bool=>([(3,(.sref 3003 2 0 s1.2.length)),(5,(pt 1005)),(6,(i6 s82)),(11,(qe_aSpan_2 a0)),(12,(i6 (a0.length:Int))),(13,(i6 s1.1)),(30,(bo m105))]:EL)) (fun m105:Bool=>([(1005,bd 101 (e_aSpan x81)),(3003,some (we_aSpan_101_2 s1.2))]:OL)) (fun m105 h E' O' hmat => ?_) (fun j106 hjj106 h => ?_)
    ·apply seqQ_n
     refine AWp.ghost hmat ?_
     apply AWp.cond rfl<;>intro hg107
     ·have h:=ite_t hg107 h
      apply AWp.skip
      apply seqQ_n
      apply AWp.block
      refine rg (SQ tt) ?_
      apply blkQ_n
      obtain rfl:=oi h
      exact⟨rfl,(mp [] _ _ hB)⟩
     ·have h:=ite_f hg107 h
      apply AWp.exit
      apply seqQ_e
      obtain rfl:=oi h
      exact⟨(fun hc=>by cases hc),rfl,(mp [] _ _ hB)⟩
    ·rcases bft (decide (s82<(s1.2.length:Int))) with hg108 | hg108
     ·have h:=ite_t hg108 h
      obtain⟨_,hx109,h⟩:=bindS h
      obtain⟨_,hx110,h⟩:=bindS h
      refine drS (SQ (fa hg108 (fa hx109 (fa hx110 tt)))) ?_
      exact hjj106 _ h _ _ (mp [] _ _ hB)
     ·have h:=ite_f hg108 h
      refine drS (SQ (fa hg108 tt)) ?_
      exact hjj106 _ h _ _ (mp [] _ _ hB)
   ·obtain⟨rfl,hmat⟩:=hR
    apply blkQ_hit
    apply seqQ_n
    refine AWp.ghost hmat ?_
    refine AWp.ghost (Mat.freezeP (n:=3003) (e:=101) (sz:=2) (es:=s1.2.map e_aSpan) (Ts:=[(3,(qe_aSpan_2 s1.2))]) (Bs:=[]) (by rfl) (TwT.cons (x:=(.sref 3003 2 0 s1.2.length)) (by rfl) (FrzL.all (by first | rfl | (simp;done) | (simp;omega) | omega)) TwT.nil) TwB.nil) ?_
    obtain⟨hc118,h⟩:=chk_some h
    obtain⟨hc119,h⟩:=chk_some h
    obtain⟨hc120,h⟩:=chk_some h
    obtain⟨hc121,h⟩:=chk_some h
    obtain⟨hc122,h⟩:=chk_some h
    apply dr (c (mv hN (q 3)) rfl (c (mv hN (q 6)) rfl (c (OpJ.cutD underlying55 tyS101 (es':=((s1.2.take p101.toNat).drop 0).map e_aSpan) (l:=0) (h:=p101.toNat) (.inl ⟨rfl,rfl,rfl⟩) (.inr ⟨_,_,_,rfl,(ot 34 (i6 p101)),(of_decide_eq_true (and_l2 (and_l2 hc118))),rfl⟩) (of_decide_eq_true (and_r2 (and_l2 hc118))) (by first | (simp;done) | simpa using (of_decide_eq_true (and_r2 hc118))) (by first | rw [List.map_drop,List.map_take] | simp [List.map_take,List.map_drop]) (L rfl) (q 33)) rfl (cg (OpJ.appendN hB underlying55 tyE101 (nm:=1036) (by decide) (ys:=((s1.2.take p101.toNat).drop 0).map e_aSpan) (len:=((s1.2.take p101.toNat).drop 0).length) (by simp) (map_sz (f:=e_aSpan) (fun _=>rfl)) (by rw [List.length_map];exact lim_mulN hc119 (by decide)) (by rw [List.length_map];exact lim_leN hc119) (L rfl) Opd.nils (q 35)) rfl (c (lb hN 101 _ _ tyS101 (At.here _) (q 5)) rfl (c (buildSlice underlying55 tyS101 tyZD101 (by rfl) (by decide) (by decide) (Opds.cons (q 37) Opds.nil) (by kernel_rfl) (es:=([(e_aSpan x81)]:List D)) (by rfl) (by rfl) (by kernel_rfl) (by simp) (L rfl)) rfl (cg (apd hB underlying55 tyE101 1039 e_aSpan ((s1.2.take p101.toNat).drop 0) [x81] hc120 (L rfl) (q 36) (q 38)) rfl (c (mv hN (q 3)) rfl (c (mv hN (q 6)) rfl (c (OpJ.cutD underlying55 tyS101 (es':=((s1.2.take s1.2.length).drop p101.toNat).map e_aSpan) (l:=p101.toNat) (h:=s1.2.length) (.inr ⟨_,_,_,rfl,(ot 41 (i6 p101)),(of_decide_eq_true (and_l2 (and_l2 hc121))),rfl⟩) (.inl ⟨rfl,by simp,rfl⟩) (of_decide_eq_true (and_r2 (and_l2 hc121))) (by first | (simp;done) | simpa using (of_decide_eq_true (and_r2 hc121))) (by first | rw [List.map_drop,List.map_take] | simp [List.map_take,List.map_drop]) (L rfl) (q 40)) rfl (cg (apd hB underlying55 tyE101 1043 e_aSpan (((s1.2.take p101.toNat).drop 0)++[x81]) ((s1.2.take s1.2.length).drop p101.toNat) hc122 (L rfl) (q 39) (q 42)) rfl (c (assign (L rfl) (q 43)) rfl cn)))))))))))) (by kernel_rfl) (by kernel_rfl)
    apply blkQ_n
    apply seqQ_n
    refine rg (SQ tt) ?_
    obtain rfl:=oi h
    exact⟨rfl,(mp [(3003,1043)] _ _ hB)⟩
  ·have h:=ite_f hg80 h
   apply AWp.exit
   apply seqQ_e
   obtain rfl:=oi h
   exact⟨(fun hc=>by cases hc),rfl,(mp [] _ _ hB)⟩
 ·obtain⟨rfl,hmat⟩:=hR
  apply blkQ_hit
  apply seqQ_n
  refine AWp.ghost hmat ?_
  refine sr (SQ tt) ?_
  apply AWp.seq
  refine sr (SQ tt) ?_
  apply AWp.block
  obtain⟨p188,hx225,h⟩:=bindS h
  refine lg (xref21_spans_L2 p79) (fun s125:Int×(List aSpan)=>([(7,(.sref 3007 2 0 s125.2.length)),(45,(.sref 3003 2 0 p79.length)),(46,(i6 (p79.length:Int))),(47,(i6 s125.1))]:EL)) (fun s125:Int×(List aSpan)=>([(3003,some (we_aSpan_101_2 p79)),(3007,some (we_aSpan_101_2 s125.2))]:OL)) (fun(p188:((List aSpan))) e E' O'=>e = .exit 4∧Mat B E' O' ([(7,(.sref 3007 2 0 p188.length))]:EL) ([(3007,some (we_aSpan_101_2 p188))]:OL)) hx225 (Mat.trans (Mat.beginP (n:=3007) (e:=101) (sz:=2) (Ts:=[(7,(.sref 3007 2 0 0))]) (Bs:=[]) hB (by decide) (by rfl) (by decide) (TwT.cons (x:=.nils) (by rfl) (Tw.leaf ⟨rfl,rfl⟩) TwT.nil) TwB.nil) (mp [] _ _ hB)) (fun s125 y h => ?_) (fun e E' O' hR => ?_)
  ·unfold xref21_spans_L2 at h
   refine sr (SQ tt) ?_
   apply AWp.seq
   apply AWp.cond rfl<;>intro hg189
   ·have h:=ite_t hg189 h
    apply AWp.skip
    apply seqQ_n
    apply AWp.seq
    refine AWp.cut h (fun m206:(List aSpan)=>([(7,(.sref 3007 2 0 m206.length)),(45,(.sref 3003 2 0 p79.length)),(46,(i6 (p79.length:Int))),(47,(i6 s125.1))]:EL)) (fun m206:(List aSpan)=>([(3003,some (we_aSpan_101_2 p79)),(3007,some (we_aSpan_101_2 m206))]:OL)) (fun m206 h E' O' hmat => ?_) (fun j207 hjj207 h => ?_)
    ·apply seqQ_n
     refine AWp.ghost hmat ?_
     refine rg (SQ tt) ?_
     obtain rfl:=oi h
     exact⟨rfl,(mp [] _ _ hB)⟩
    ·apply AWp.block
     obtain⟨_,hx208,h⟩:=bindS h
     obtain⟨x209,hx209,h⟩:=bindS h
     refine sr (SQ (fa hx208 (fa hx209 tt))) ?_
     apply AWp.seq
     refine sr (SQ tt) ?_
     apply AWp.seq
     refine AWp.cut h (fun m213:Bool=>([(7,(.sref 3007 2 0 s125.2.length)),(9,(pt 1009)),(10,(i6 (s125.2.length:Int))),(45,(.sref 3003 2 0 p79.length)),(46,(i6 (p79.length:Int))),(47,(i6 s125.1)),(66,(bo m213))]:EL)) (fun m213:Bool=>([(1009,bd 101 (e_aSpan x209)),(3003,some (we_aSpan_101_2 p79)),(3007,some (we_aSpan_101_2 s125.2))]:OL)) (fun m213 h E' O' hmat => ?_) (fun j214 hjj214 h => ?_)
     ·apply seqQ_n
      refine AWp.ghost hmat ?_
      apply AWp.cond rfl<;>intro hg215
      ·have h:=ite_t hg215 h
       obtain⟨_,hx216,h⟩:=bindS h
       obtain⟨x217,hx217,h⟩:=bindS h
       obtain⟨_,hx218,h⟩:=bindS h
       obtain⟨x219,hx219,h⟩:=bindS h
       refine sdS (SQ (fa hx216 (fa hx217 (fa hx218 (fa hx219 (fa (sv (aSpan.mk x219.fFrom (maxI x217.fTo x209.fTo))) tt)))))) ?_
       refine gh [(7,_),(45,_),(46,_),(47,_)] [(3003,some _),(3007,some _)] hB rfl rfl (by rfl) ?_
       apply AWp.exit
       apply seqQ_e
       apply blkQ_hit
       exact hjj207 _ h _ _ (Mat.trans (Mat.lenP (Ts:=[(7,(.sref 3007 2 0 ((s125.2.set (w64 ((s125.2.length:Int)-1)).toNat (aSpan.mk x219.fFrom (maxI x217.fTo x209.fTo))).length)))]) (Bs:=[]) (TwT.cons (x:=(.sref 3007 2 0 s125.2.length)) (by rfl) (Tw.leaf ⟨_,_,_,_,_,rfl,rfl,(by first | rfl | (simp;done) | (simp;omega) | omega)⟩) TwT.nil) TwB.nil) (mp [] _ _ hB))
      ·have h:=ite_f hg215 h
       apply AWp.skip
       apply seqQ_n
       obtain⟨hc220,h⟩:=chk_some h
       refine rg (SQ (fa hc220 tt)) ?_
       apply blkQ_n
       exact hjj207 _ h _ _ (mp [(3007,1084)] _ _ hB)
     ·rcases bft (decide (0<(s125.2.length:Int))) with hg221 | hg221
      ·have h:=ite_t hg221 h
       obtain⟨_,hx222,h⟩:=bindS h
       obtain⟨_,hx223,h⟩:=bindS h
       refine drS (SQ (fa hg221 (fa hx222 (fa hx223 tt)))) ?_
       exact hjj214 _ h _ _ (mp [] _ _ hB)
      ·have h:=ite_f hg221 h
       refine drS (SQ (fa hg221 tt)) ?_
       exact hjj214 _ h _ _ (mp [] _ _ hB)
   ·have h:=ite_f hg189 h
    apply AWp.exit
    apply seqQ_e
    obtain rfl:=oi h
    exact⟨(fun hc=>by cases hc),rfl,(mp [] _ _ hB)⟩
  ·obtain⟨rfl,hmat⟩:=hR
   apply blkQ_hit
   apply seqQ_n
   refine AWp.ghost hmat ?_
   refine sr (SQ tt) ?_
   apply AWp.ret
   obtain rfl:=oi h
   exact rt (Mat.trans (Mat.freezeP (n:=3007) (e:=101) (sz:=2) (es:=p188.map e_aSpan) (Ts:=[(2,(qe_aSpan_2 p188))]) (Bs:=[]) (by rfl) (TwT.cons (x:=(.sref 3007 2 0 p188.length)) (by rfl) (FrzL.all (by first | rfl | (simp;done) | (simp;omega) | omega)) TwT.nil) TwB.nil) (mp [] [(2,(qe_aSpan_2 p188))] [] hB)) [(qe_aSpan_2 p188)] (Res.tmp (by rfl) (by rfl) Res.nil) rfl
def xref21_limited (a0:(List aRange)) (a1:(List aSpan)):Option (aResources×Int) :=
 (if ((decide (256<(a0.length:Int))) || (decide (256<(a1.length:Int))))=true then
 some ((aResources.mk ([]:List aRange) ([]:List aSpan)),3)
 else
 some ((aResources.mk a0 a1),0))
theorem xref21_limited_ac (a0:(List aRange)) (a1:(List aSpan)) (r:aResources×Int) (h:xref21_limited a0 a1=some r):AC Tryz.prog 54 [(.d (.list 6 (a0.map e_aRange))),(.d (.list 2 (a1.map e_aSpan)))] [] (.tup [(.d (e_aResources r.1)),(.d (.int .i64 r.2))]) []:=by
 refine AC.of_code2 Tryz.func54 rfl rfl (Nat.le_of_ble_eq_true (by rfl)) fun B hB hN => ?_
 delta xref21_limited at h
 refine sr (SQ tt) ?_
 apply AWp.seq
 refine sr (SQ tt) ?_
 apply AWp.cond rfl<;>intro hg1
 ·have h:=ite_t hg1 h
  refine sr (SQ tt) ?_
  apply AWp.ret
  apply seqQ_r
  obtain rfl:=oi h
  exact rt (Mat.trans (Mat.coeP (Ts:=[]) (Bs:=[(1004,bd 57 (.st [(.list 6 (([]:List aRange).map e_aRange)),(.list 2 (([]:List aSpan).map e_aSpan))]))]) TwT.nil (TwB.cons (x:=(.st [.nils,.nils])) (by rfl) (Tw.leaf ⟨_,(Co.st (CoL.cons (Co.nils 6) (CoL.cons (Co.nils 2) CoL.nil))),rfl⟩) TwB.nil)) (mp [] [(4,(pt 1004)),(5,(i6 3))] [(1004,bd 57 (.st [(.list 6 (([]:List aRange).map e_aRange)),(.list 2 (([]:List aSpan).map e_aSpan))]))] hB)) [(.d (.st [(.list 6 (([]:List aRange).map e_aRange)),(.list 2 (([]:List aSpan).map e_aSpan))])),(i6 3)] (Res.cell (c:=(.d (.st [(.list 6 (([]:List aRange).map e_aRange)),(.list 2 (([]:List aSpan).map e_aSpan))]))) (by rfl) (by rfl) tyS57 (by rfl) (by rfl) (by rfl) (Res.tmp (by rfl) (by rfl) Res.nil)) rfl
 ·have h:=ite_f hg1 h
  apply AWp.skip
  apply seqQ_n
  refine sr (SQ tt) ?_
  apply AWp.ret
  obtain rfl:=oi h
  exact rt (kp [(4,_),(5,_)] [(1004,some _)] hB rfl rfl (by rfl)) [(.d (.st [(.list 6 (a0.map e_aRange)),(.list 2 (a1.map e_aSpan))])),(i6 0)] (Res.cell (c:=(.d (.st [(.list 6 (a0.map e_aRange)),(.list 2 (a1.map e_aSpan))]))) (by rfl) (by rfl) tyS57 (by rfl) (by rfl) (by rfl) (Res.tmp (by rfl) (by rfl) Res.nil)) rfl
def xref21_Of_L0 (a0:(List aPrefix)) (s1:Int×(List aRange)):Option (((Unit)⊕((List aRange)))⊕(Int×(List aRange))) :=
 (if (decide (s1.1<(a0.length:Int)))=true then
 (idx a0 s1.1).bind fun x17 =>
 (xref02_Valid x17).bind fun r18 =>
 (if (!r18)=true then
 some (.inl (.inl ()))
 else
 (xref02_Last x17).bind fun r20 =>
 chk (decide ((s1.2++[(aRange.mk x17.fAddr r20)]).length≤LIM)) <|
 some (.inr ((w64 (s1.1+1)),(s1.2++[(aRange.mk x17.fAddr r20)]))))
 else
 some (.inl (.inr s1.2)))
def xref21_Of_L1 (a1:(List aSpan)) (s24:Int):Option (((Unit)⊕(Unit))⊕(Int)) :=
 (if (decide (s24<(a1.length:Int)))=true then
 (idx a1 s24).bind fun x34 =>
 (if (((decide (x34.fFrom<0)) || (decide (x34.fTo<x34.fFrom))) || (decide (4294967295<x34.fTo)))=true then
 some (.inl (.inl ()))
 else
 some (.inr (w64 (s24+1))))
 else
 some (.inl (.inr ())))
def xref21_Of (a0:(List aPrefix)) (a1:(List aSpan)):Option (aResources×Int) :=
 (loop (xref21_Of_L0 a0) (0,([]:List aRange))).bind fun x22=>match x22 with
 | (.inl _) =>
  some ((aResources.mk ([]:List aRange) ([]:List aSpan)),1)
 | (.inr p15) =>
  (loop (xref21_Of_L1 a1) 0).bind fun x36=>match x36 with
  | (.inl _) =>
   some ((aResources.mk ([]:List aRange) ([]:List aSpan)),1)
  | (.inr _) =>
   (xref21_ranges p15).bind fun r38 =>
   (xref21_spans a1).bind fun r39 =>
   (xref21_limited r38 r39).bind fun r40 =>
   some (r40.1,r40.2)
theorem xref21_Of_ac (a0:(List aPrefix)) (a1:(List aSpan)) (r:aResources×Int) (h:xref21_Of a0 a1=some r):AC Tryz.prog 28 [(.d (.list 4 (a0.map e_aPrefix))),(.d (.list 2 (a1.map e_aSpan)))] [] (.tup [(.d (e_aResources r.1)),(.d (.int .i64 r.2))]) []:=by
 refine ac2 Tryz.func28 rfl rfl fun B hB hN L => ?_
 delta xref21_Of at h
 refine sr (SQ tt) ?_
 refine sr (SQ tt) ?_
 apply AWp.seq
 refine sr (SQ tt) ?_
 apply AWp.block
 obtain⟨x22,hx23,h⟩:=bindS h
 refine lg (xref21_Of_L0 a0) (fun s1:Int×(List aRange)=>([(1,(qe_aSpan_2 a1)),(4,(pt 1004)),(6,(.sref 3006 6 0 s1.2.length)),(11,(qe_aPrefix_4 a0)),(12,(i6 (a0.length:Int))),(13,(i6 s1.1))]:EL)) (fun s1:Int×(List aRange)=>([(1004,some (.box 57 (.st [.nils,.nils]))),(3006,some (we_aRange_92_6 s1.2))]:OL)) (fun(x:(Unit)⊕((List aRange))) e E' O'=>match x with | (.inl _p)=>e = .ret∧Mat B E' O' ([(4,(pt 1004)),(5,(i6 1))]:EL) ([(1004,some (.box 57 (.st [.nils,.nils])))]:OL) | (.inr p15)=>e = .exit 0∧Mat B E' O' ([(1,(qe_aSpan_2 a1)),(4,(pt 1004)),(6,(.sref 3006 6 0 p15.length))]:EL) ([(1004,some (.box 57 (.st [.nils,.nils]))),(3006,some (we_aRange_92_6 p15))]:OL)) hx23 (Mat.trans (Mat.beginP (n:=3006) (e:=92) (sz:=6) (Ts:=[(6,(.sref 3006 6 0 0))]) (Bs:=[]) hB (by decide) (by rfl) (by decide) (TwT.cons (x:=.nils) (by rfl) (Tw.leaf ⟨rfl,rfl⟩) TwT.nil) TwB.nil) (mp [] _ _ hB)) (fun s1 y h => ?_) (fun e E' O' hR => ?_)
 ·unfold xref21_Of_L0 at h
  refine sr (SQ tt) ?_
  apply AWp.seq
  apply AWp.cond rfl<;>intro hg16
  ·have h:=ite_t hg16 h
   apply AWp.skip
   apply seqQ_n
   apply AWp.seq
   apply AWp.block
   obtain⟨x17,hx17,h⟩:=bindS h
   refine sr (SQ (fa hx17 tt)) ?_
   apply AWp.seq
   obtain⟨r18,hr18,h⟩:=bindS h
   refine sr (SQ (fa (cl [] (xref02_Valid_ac x17 r18 hr18)) tt)) ?_
   apply AWp.cond rfl<;>intro hg19
   ·have h:=ite_t hg19 h
    refine sr (SQ tt) ?_
    apply AWp.ret
    apply seqQ_r
    apply blkQ_r
    apply seqQ_r
    obtain rfl:=oi h
    exact⟨(fun hc=>by cases hc),rfl,(mp [] _ _ hB)⟩
   ·have h:=ite_f hg19 h
    apply AWp.skip
    apply seqQ_n
    obtain⟨r20,hr20,h⟩:=bindS h
    obtain⟨hc21,h⟩:=chk_some h
    refine drS (SQ (fa (cl [] (xref02_Last_ac x17 r20 hr20)) (fa hc21 tt))) ?_
    apply blkQ_n
    apply seqQ_n
    refine rg (SQ tt) ?_
    obtain rfl:=oi h
    exact⟨rfl,(mp [(3006,1028)] _ _ hB)⟩
  ·have h:=ite_f hg16 h
   apply AWp.exit
   apply seqQ_e
   obtain rfl:=oi h
   exact⟨(fun hc=>by cases hc),rfl,(mp [] _ _ hB)⟩
 ·rcases x22 with _ | p15
  ·obtain⟨rfl,hmat⟩:=hR
   apply blkQ_r
   apply seqQ_r
   obtain rfl:=oi h
   exact rt (Mat.trans hmat (Mat.trans (Mat.coeP (Ts:=[]) (Bs:=[(1004,bd 57 (.st [(.list 6 (([]:List aRange).map e_aRange)),(.list 2 (([]:List aSpan).map e_aSpan))]))]) TwT.nil (TwB.cons (x:=(.st [.nils,.nils])) (by rfl) (Tw.leaf ⟨_,(Co.st (CoL.cons (Co.nils 6) (CoL.cons (Co.nils 2) CoL.nil))),rfl⟩) TwB.nil)) (mp [] [(4,(pt 1004)),(5,(i6 1))] [(1004,bd 57 (.st [(.list 6 (([]:List aRange).map e_aRange)),(.list 2 (([]:List aSpan).map e_aSpan))]))] hB))) [(.d (.st [(.list 6 (([]:List aRange).map e_aRange)),(.list 2 (([]:List aSpan).map e_aSpan))])),(i6 1)] (Res.cell (c:=(.d (.st [(.list 6 (([]:List aRange).map e_aRange)),(.list 2 (([]:List aSpan).map e_aSpan))]))) (by rfl) (by rfl) tyS57 (by rfl) (by rfl) (by rfl) (Res.tmp (by rfl) (by rfl) Res.nil)) rfl
  ·obtain⟨rfl,hmat⟩:=hR
   apply blkQ_hit
   apply seqQ_n
   refine AWp.ghost hmat ?_
   apply AWp.seq
   refine sr (SQ tt) ?_
   apply AWp.block
   obtain⟨x36,hx37,h⟩:=bindS h
   refine lg (xref21_Of_L1 a1) (fun s24:Int=>([(1,(qe_aSpan_2 a1)),(4,(pt 1004)),(6,(.sref 3006 6 0 p15.length)),(30,(qe_aSpan_2 a1)),(31,(i6 (a1.length:Int))),(32,(i6 s24))]:EL)) (fun s24:Int=>([(1004,some (.box 57 (.st [.nils,.nils]))),(3006,some (we_aRange_92_6 p15))]:OL)) (fun(x:(Unit)⊕(Unit)) e E' O'=>match x with | (.inl _p)=>e = .ret∧Mat B E' O' ([(4,(pt 1004)),(5,(i6 1))]:EL) ([(1004,some (.box 57 (.st [.nils,.nils])))]:OL) | (.inr _p)=>e = .exit 2∧Mat B E' O' ([(1,(qe_aSpan_2 a1)),(4,(pt 1004)),(6,(.sref 3006 6 0 p15.length))]:EL) ([(1004,some (.box 57 (.st [.nils,.nils]))),(3006,some (we_aRange_92_6 p15))]:OL)) hx37 (mp [] _ _ hB) (fun s24 y h => ?_) (fun e E' O' hR => ?_)
   ·unfold xref21_Of_L1 at h
    refine sr (SQ tt) ?_
    apply AWp.seq
    apply AWp.cond rfl<;>intro hg33
    ·have h:=ite_t hg33 h
     apply AWp.skip
     apply seqQ_n
     apply AWp.seq
     apply AWp.block
     obtain⟨_,hx34,h⟩:=bindS h
     refine sr (SQ (fa hx34 tt)) ?_
     refine sr (SQ tt) ?_
     apply AWp.cond rfl<;>intro hg35
     ·have h:=ite_t hg35 h
      refine sr (SQ tt) ?_
      apply AWp.ret
      apply blkQ_r
      apply seqQ_r
      obtain rfl:=oi h
      exact⟨(fun hc=>by cases hc),rfl,(mp [] _ _ hB)⟩
     ·have h:=ite_f hg35 h
      apply AWp.skip
      apply blkQ_n
      apply seqQ_n
      refine rg (SQ tt) ?_
      obtain rfl:=oi h
      exact⟨rfl,(mp [] _ _ hB)⟩
    ·have h:=ite_f hg33 h
     apply AWp.exit
     apply seqQ_e
     obtain rfl:=oi h
     exact⟨(fun hc=>by cases hc),rfl,(mp [] _ _ hB)⟩
   ·rcases x36 with _ | _
    ·obtain⟨rfl,hmat⟩:=hR
     apply blkQ_r
     apply seqQ_r
     obtain rfl:=oi h
     exact rt (Mat.trans hmat (Mat.trans (Mat.coeP (Ts:=[]) (Bs:=[(1004,bd 57 (.st [(.list 6 (([]:List aRange).map e_aRange)),(.list 2 (([]:List aSpan).map e_aSpan))]))]) TwT.nil (TwB.cons (x:=(.st [.nils,.nils])) (by rfl) (Tw.leaf ⟨_,(Co.st (CoL.cons (Co.nils 6) (CoL.cons (Co.nils 2) CoL.nil))),rfl⟩) TwB.nil)) (mp [] [(4,(pt 1004)),(5,(i6 1))] [(1004,bd 57 (.st [(.list 6 (([]:List aRange).map e_aRange)),(.list 2 (([]:List aSpan).map e_aSpan))]))] hB))) [(.d (.st [(.list 6 (([]:List aRange).map e_aRange)),(.list 2 (([]:List aSpan).map e_aSpan))])),(i6 1)] (Res.cell (c:=(.d (.st [(.list 6 (([]:List aRange).map e_aRange)),(.list 2 (([]:List aSpan).map e_aSpan))]))) (by rfl) (by rfl) tyS57 (by rfl) (by rfl) (by rfl) (Res.tmp (by rfl) (by rfl) Res.nil)) rfl
    ·obtain⟨rfl,hmat⟩:=hR
     apply blkQ_hit
     apply seqQ_n
     refine AWp.ghost hmat ?_
     apply AWp.seq
     refine AWp.ghost (Mat.freezeP (n:=3006) (e:=92) (sz:=6) (es:=p15.map e_aRange) (Ts:=[(6,(qe_aRange_6 p15))]) (Bs:=[]) (by rfl) (TwT.cons (x:=(.sref 3006 6 0 p15.length)) (by rfl) (FrzL.all (by first | rfl | (simp;done) | (simp;omega) | omega)) TwT.nil) TwB.nil) ?_
     obtain⟨r38,hr38,h⟩:=bindS h
     obtain⟨r39,hr39,h⟩:=bindS h
     obtain⟨r40,hr40,h⟩:=bindS h
     refine rg (SQ (fa (cl [] (xref21_ranges_ac p15 r38 hr38)) (fa (cl [] (xref21_spans_ac a1 r39 hr39)) (fa (cl [] (xref21_limited_ac r38 r39 r40 hr40)) tt)))) ?_
     apply seqQ_n
     apply AWp.ret
     obtain rfl:=oi h
     exact rt (kp [(4,_),(5,_)] [(1004,some _)] hB rfl rfl (by rfl)) [(.d (e_aResources r40.1)),(i6 r40.2)] (Res.cell (c:=(.d (e_aResources r40.1))) (by rfl) (by rfl) tyS57 (by rfl) (by rfl) (by rfl) (Res.tmp (by rfl) (by rfl) Res.nil)) rfl
def origin_current (a0:Int) (a1:Int) (a2:Int):Option (Bool) :=
 some ((decide (a0≤a2))&&(decide (a2≤a1)))
theorem origin_current_ac (a0:Int) (a1:Int) (a2:Int) (r:Bool) (h:origin_current a0 a1 a2=some r):AC Tryz.prog 31 [(.d (.int .i64 a0)),(.d (.int .i64 a1)),(.d (.int .i64 a2))] [] (.d (.bool r)) []:=by
 refine AC.of_code2 Tryz.func31 rfl rfl (Nat.le_of_ble_eq_true (by rfl)) fun B hB hN => ?_
 delta origin_current at h
 refine sr (SQ tt) ?_
 refine sr (SQ tt) ?_
 apply AWp.ret
 obtain rfl:=oi h
 exact rt (kp [(6,_)] [] hB rfl rfl (by rfl)) [(bo ((decide (a0≤a2))&&(decide (a2≤a1))))] (Res.tmp (by rfl) (by rfl) Res.nil) rfl
def addr_Valid (a0:aAddr):Option (Bool) :=
 jn (fun m2:Bool =>
 some m2) (fun j3 =>
 (if a0.fV6=true then
 j3 true
 else
 j3 ((a0.fHi==0)&&(decide (a0.fLo<4294967296)))))
theorem addr_Valid_ac (a0:aAddr) (r:Bool) (h:addr_Valid a0=some r):AC Tryz.prog 59 [(.d (e_aAddr a0))] [] (.d (.bool r)) []:=by
 refine ac2 Tryz.func59 rfl rfl fun B hB hN L => ?_
 delta addr_Valid at h
 refine sr (SQ tt) ?_
 apply AWp.seq
 refine AWp.cut h (fun m2:Bool=>([(2,(bo m2))]:EL)) (fun m2:Bool=>([]:OL)) (fun m2 h E' O' hmat => ?_) (fun j3 hjj3 h => ?_)
 ·apply seqQ_n
  refine AWp.ghost hmat ?_
  apply AWp.ret
  obtain rfl:=oi h
  exact rt (kp [(2,_)] [] hB rfl rfl (by rfl)) [(bo m2)] (Res.tmp (by rfl) (by rfl) Res.nil) rfl
 ·rcases bft a0.fV6 with hg4 | hg4
  ·have h:=ite_t hg4 h
   refine rg (SQ (fa hg4 tt)) ?_
   exact hjj3 _ h _ _ (mp [] _ _ hB)
  ·have h:=ite_f hg4 h
   refine rg (SQ (fa hg4 tt)) ?_
   exact hjj3 _ h _ _ (mp [] _ _ hB)
def resource_span (a0:aSpan):Option (Bool) :=
 some (((decide (0≤a0.fFrom))&&(decide (a0.fFrom≤a0.fTo)))&&(decide (a0.fTo≤4294967295)))
theorem resource_span_ac (a0:aSpan) (r:Bool) (h:resource_span a0=some r):AC Tryz.prog 62 [(.d (e_aSpan a0))] [] (.d (.bool r)) []:=by
 refine AC.of_code2 Tryz.func62 rfl rfl (Nat.le_of_ble_eq_true (by rfl)) fun B hB hN => ?_
 delta resource_span at h
 refine sr (SQ tt) ?_
 refine sr (SQ tt) ?_
 apply AWp.ret
 obtain rfl:=oi h
 exact rt (kp [(2,_)] [] hB rfl rfl (by rfl)) [(bo (((decide (0≤a0.fFrom))&&(decide (a0.fFrom≤a0.fTo)))&&(decide (a0.fTo≤4294967295))))] (Res.tmp (by rfl) (by rfl) Res.nil) rfl
def resource_Valid_1 (a0:aSpan):Option (Bool) :=
 (resource_span a0).bind fun r1 =>
 some (!r1)
theorem resource_Valid_1_ac (a0:aSpan) (r:Bool) (h:resource_Valid_1 a0=some r):AC Tryz.prog 61 [(.d (e_aSpan a0))] [] (.d (.bool r)) []:=by
 refine AC.of_code2 Tryz.func61 rfl rfl (Nat.le_of_ble_eq_true (by rfl)) fun B hB hN => ?_
 delta resource_Valid_1 at h
 refine sr (SQ tt) ?_
 obtain⟨r1,hr1,h⟩:=bindS h
 refine sr (SQ (fa (cl [] (resource_span_ac a0 r1 hr1)) tt)) ?_
 apply AWp.ret
 obtain rfl:=oi h
 exact rt (kp [(2,_)] [] hB rfl rfl (by rfl)) [(bo (!r1))] (Res.tmp (by rfl) (by rfl) Res.nil) rfl
def slices_IndexFunc_L0 (a0:(List aSpan)) (s1:Int):Option (((Int)⊕(Unit))⊕(Int)) :=
 (if (decide (s1<(a0.length:Int)))=true then
 (idx a0 s1).bind fun x13 =>
 (resource_Valid_1 x13).bind fun r14 =>
 (if r14=true then
 some (.inl (.inl s1))
 else
 some (.inr (w64 (s1+1))))
 else
 some (.inl (.inr ())))
def slices_IndexFunc (a0:(List aSpan)):Option (Int) :=
 (loop (slices_IndexFunc_L0 a0) 0).bind fun x16=>match x16 with
 | (.inl p10) =>
  some p10
 | (.inr _) =>
  some (-1)
theorem slices_IndexFunc_ac (a0:(List aSpan)) (r:Int) (h:slices_IndexFunc a0=some r):AC Tryz.prog 85 [(.d (.list 2 (a0.map e_aSpan))),(.func 61 [])] [] (.d (.int .i64 r)) []:=by
 refine AC.of_code2 Tryz.func85 rfl rfl (Nat.le_of_ble_eq_true (by rfl)) fun B hB hN => ?_
 delta slices_IndexFunc at h
 refine sr (SQ tt) ?_
 apply AWp.seq
 refine sr (SQ tt) ?_
 apply AWp.block
 obtain⟨x16,hx17,h⟩:=bindS h
 refine lg (slices_IndexFunc_L0 a0) (fun s1:Int=>([(0,(qe_aSpan_2 a0)),(1,(.func 61 [])),(7,(i6 (a0.length:Int))),(8,(i6 s1))]:EL)) (fun s1:Int=>([]:OL)) (fun(x:(Int)⊕(Unit)) e E' O'=>match x with | (.inl p10)=>e = .ret∧Mat B E' O' ([(4,(i6 p10))]:EL) ([]:OL) | (.inr _p)=>e = .exit 0∧Mat B E' O' ([]:EL) ([]:OL)) hx17 (mp [] _ _ hB) (fun s1 y h => ?_) (fun e E' O' hR => ?_)
 ·unfold slices_IndexFunc_L0 at h
  refine sr (SQ tt) ?_
  apply AWp.seq
  apply AWp.cond rfl<;>intro hg12
  ·have h:=ite_t hg12 h
   apply AWp.skip
   apply seqQ_n
   apply AWp.seq
   apply AWp.block
   refine sr (SQ tt) ?_
   obtain⟨x13,hx13,h⟩:=bindS h
   obtain⟨r14,hr14,h⟩:=bindS h
   refine sr (SQ (fa hx13 (fa (cl [] (resource_Valid_1_ac x13 r14 hr14)) tt))) ?_
   apply AWp.cond rfl<;>intro hg15
   ·have h:=ite_t hg15 h
    refine sr (SQ tt) ?_
    apply AWp.ret
    apply blkQ_r
    apply seqQ_r
    obtain rfl:=oi h
    exact⟨(fun hc=>by cases hc),rfl,(mp [] _ _ hB)⟩
   ·have h:=ite_f hg15 h
    apply AWp.skip
    apply blkQ_n
    apply seqQ_n
    refine rg (SQ tt) ?_
    obtain rfl:=oi h
    exact⟨rfl,(mp [] _ _ hB)⟩
  ·have h:=ite_f hg12 h
   apply AWp.exit
   apply seqQ_e
   obtain rfl:=oi h
   exact⟨(fun hc=>by cases hc),rfl,(mp [] _ _ hB)⟩
 ·rcases x16 with p10 | _
  ·obtain⟨rfl,hmat⟩:=hR
   apply blkQ_r
   apply seqQ_r
   obtain rfl:=oi h
   exact rt (Mat.trans hmat (mp [] [(4,(i6 p10))] [] hB)) [(i6 p10)] (Res.tmp (by rfl) (by rfl) Res.nil) rfl
  ·obtain⟨rfl,hmat⟩:=hR
   apply blkQ_hit
   apply seqQ_n
   refine AWp.ghost hmat ?_
   refine sr (SQ tt) ?_
   apply AWp.ret
   obtain rfl:=oi h
   exact rt (kp [(4,_)] [] hB rfl rfl (by rfl)) [(i6 (-1))] (Res.tmp (by rfl) (by rfl) Res.nil) rfl
def slices_ContainsFunc (a0:(List aSpan)):Option (Bool) :=
 (slices_IndexFunc a0).bind fun r1 =>
 some (decide (0≤r1))
theorem slices_ContainsFunc_ac (a0:(List aSpan)) (r:Bool) (h:slices_ContainsFunc a0=some r):AC Tryz.prog 60 [(.d (.list 2 (a0.map e_aSpan))),(.func 61 [])] [] (.d (.bool r)) []:=by
 refine AC.of_code2 Tryz.func60 rfl rfl (Nat.le_of_ble_eq_true (by rfl)) fun B hB hN => ?_
 delta slices_ContainsFunc at h
 refine sr (SQ tt) ?_
 obtain⟨r1,hr1,h⟩:=bindS h
 refine sr (SQ (fa (cl [] (slices_IndexFunc_ac a0 r1 hr1)) tt)) ?_
 apply AWp.ret
 obtain rfl:=oi h
 exact rt (kp [(4,_)] [] hB rfl rfl (by rfl)) [(bo (decide (0≤r1)))] (Res.tmp (by rfl) (by rfl) Res.nil) rfl
def resource_of_L0 (a0:aResources) (s1:Int×(List aAddr_)):Option ((((List aAddr_)))⊕(Int×(List aAddr_))) :=
 (if (decide (s1.1<(a0.fAddrs.length:Int)))=true then
 (idx a0.fAddrs s1.1).bind fun x10 =>
 chk (decide ((s1.2++[(aAddr_.mk x10.fFrom x10.fTo)]).length≤LIM)) <|
 some (.inr ((w64 (s1.1+1)),(s1.2++[(aAddr_.mk x10.fFrom x10.fTo)])))
 else
 some (.inl s1.2))
def resource_of_L1 (a0:aResources) (s14:Int×(List resource_part_int_)):Option ((((List resource_part_int_)))⊕(Int×(List resource_part_int_))) :=
 (if (decide (s14.1<(a0.fASNs.length:Int)))=true then
 (idx a0.fASNs s14.1).bind fun x23 =>
 chk (decide ((s14.2++[(resource_part_int_.mk x23.fFrom x23.fTo)]).length≤LIM)) <|
 some (.inr ((w64 (s14.1+1)),(s14.2++[(resource_part_int_.mk x23.fFrom x23.fTo)])))
 else
 some (.inl s14.2))
def resource_of (a0:aResources):Option (resource_set) :=
 (loop (resource_of_L0 a0) (0,([]:List aAddr_))).bind fun p8 =>
 (loop (resource_of_L1 a0) (0,([]:List resource_part_int_))).bind fun p21 =>
 some (resource_set.mk p8 p21)
theorem resource_of_ac (a0:aResources) (r:resource_set) (h:resource_of a0=some r):AC Tryz.prog 63 [(.d (e_aResources a0))] [] (.d (e_resource_set r)) []:=by
 refine ac2 Tryz.func63 rfl rfl fun B hB hN L => ?_
 delta resource_of at h
 refine sr (SQ tt) ?_
 refine sr (SQ tt) ?_
 apply AWp.seq
 refine sr (SQ tt) ?_
 apply AWp.block
 obtain⟨p8,hx13,h⟩:=bindS h
 refine lg (resource_of_L0 a0) (fun s1:Int×(List aAddr_)=>([(1,(pt 1001)),(2,(pt 1002)),(3,(pt 1003)),(9,(qe_aRange_6 a0.fAddrs)),(10,(i6 (a0.fAddrs.length:Int))),(11,(i6 s1.1))]:EL)) (fun s1:Int×(List aAddr_)=>([(1001,bd 57 (e_aResources a0)),(1002,some (.box 113 (.st [.nils,.nils]))),(1003,some (.box 113 (.st [(.sref 13030 6 0 s1.2.length),.nils]))),(13030,some (we_aAddr__139_6 s1.2))]:OL)) (fun(p8:((List aAddr_))) e E' O'=>e = .exit 0∧Mat B E' O' ([(1,(pt 1001)),(2,(pt 1002)),(3,(pt 1003))]:EL) ([(1001,bd 57 (e_aResources a0)),(1002,some (.box 113 (.st [.nils,.nils]))),(1003,some (.box 113 (.st [(.sref 13030 6 0 p8.length),.nils]))),(13030,some (we_aAddr__139_6 p8))]:OL)) hx13 (Mat.trans (Mat.beginP (n:=13030) (e:=139) (sz:=6) (Ts:=[]) (Bs:=[(1003,some (.box 113 (.st [(.sref 13030 6 0 0),.nils])))]) hB (by decide) (by rfl) (by decide) TwT.nil (TwB.cons (x:=(.st [.nils,.nils])) (by rfl) (Tw.st (TwL.cons (Tw.leaf ⟨rfl,rfl⟩) (TwL.cons (Tw.same _) TwL.nil))) TwB.nil)) (mp [] _ _ hB)) (fun s1 y h => ?_) (fun e E' O' hR => ?_)
 ·unfold resource_of_L0 at h
  refine sr (SQ tt) ?_
  apply AWp.seq
  apply AWp.cond rfl<;>intro hg9
  ·have h:=ite_t hg9 h
   apply AWp.skip
   apply seqQ_n
   apply AWp.seq
   apply AWp.block
   obtain⟨_,hx10,h⟩:=bindS h
   refine sr (SQ (fa hx10 tt)) ?_
   obtain⟨hc11,h⟩:=chk_some h
   refine rg (SQ (fa hc11 tt)) ?_
   apply blkQ_n
   apply seqQ_n
   refine rg (SQ tt) ?_
   obtain rfl:=oi h
   exact⟨rfl,(mp [(13030,1023)] _ _ hB)⟩
  ·have h:=ite_f hg9 h
   apply AWp.exit
   apply seqQ_e
   obtain rfl:=oi h
   exact⟨(fun hc=>by cases hc),rfl,(mp [] _ _ hB)⟩
 ·obtain⟨rfl,hmat⟩:=hR
  apply blkQ_hit
  apply seqQ_n
  refine AWp.ghost hmat ?_
  apply AWp.seq
  refine sr (SQ tt) ?_
  apply AWp.block
  obtain⟨p21,hx26,h⟩:=bindS h
  refine lg (resource_of_L1 a0) (fun s14:Int×(List resource_part_int_)=>([(2,(pt 1002)),(3,(pt 1003)),(27,(qe_aSpan_2 a0.fASNs)),(28,(i6 (a0.fASNs.length:Int))),(29,(i6 s14.1))]:EL)) (fun s14:Int×(List resource_part_int_)=>([(1002,some (.box 113 (.st [.nils,.nils]))),(1003,some (.box 113 (.st [(.sref 13030 6 0 p8.length),(.sref 13031 2 0 s14.2.length)]))),(13030,some (we_aAddr__139_6 p8)),(13031,some (.row 141 2 (s14.2.map e_resource_part_int_)))]:OL)) (fun(p21:((List resource_part_int_))) e E' O'=>e = .exit 2∧Mat B E' O' ([(2,(pt 1002)),(3,(pt 1003))]:EL) ([(1002,some (.box 113 (.st [.nils,.nils]))),(1003,some (.box 113 (.st [(.sref 13030 6 0 p8.length),(.sref 13031 2 0 p21.length)]))),(13030,some (we_aAddr__139_6 p8)),(13031,some (.row 141 2 (p21.map e_resource_part_int_)))]:OL)) hx26 (Mat.trans (Mat.beginP (n:=13031) (e:=141) (sz:=2) (Ts:=[]) (Bs:=[(1003,some (.box 113 (.st [(.sref 13030 6 0 p8.length),(.sref 13031 2 0 0)])))]) hB (by decide) (by rfl) (by decide) TwT.nil (TwB.cons (x:=(.st [(.sref 13030 6 0 p8.length),.nils])) (by rfl) (Tw.st (TwL.cons (Tw.same _) (TwL.cons (Tw.leaf ⟨rfl,rfl⟩) TwL.nil))) TwB.nil)) (mp [] _ _ hB)) (fun s14 y h => ?_) (fun e E' O' hR => ?_)
  ·unfold resource_of_L1 at h
   refine sr (SQ tt) ?_
   apply AWp.seq
   apply AWp.cond rfl<;>intro hg22
   ·have h:=ite_t hg22 h
    apply AWp.skip
    apply seqQ_n
    apply AWp.seq
    apply AWp.block
    obtain⟨_,hx23,h⟩:=bindS h
    refine sr (SQ (fa hx23 tt)) ?_
    obtain⟨hc24,h⟩:=chk_some h
    refine rg (SQ (fa hc24 tt)) ?_
    apply blkQ_n
    apply seqQ_n
    refine rg (SQ tt) ?_
    obtain rfl:=oi h
    exact⟨rfl,(mp [(13031,1041)] _ _ hB)⟩
   ·have h:=ite_f hg22 h
    apply AWp.exit
    apply seqQ_e
    obtain rfl:=oi h
    exact⟨(fun hc=>by cases hc),rfl,(mp [] _ _ hB)⟩
  ·obtain⟨rfl,hmat⟩:=hR
   apply blkQ_hit
   apply seqQ_n
   refine AWp.ghost hmat ?_
   refine sr (SQ tt) ?_
   apply AWp.ret
   obtain rfl:=oi h
   exact rt (Mat.trans (Mat.freezeP (n:=13030) (e:=139) (sz:=6) (es:=p8.map e_aAddr_) (Ts:=[]) (Bs:=[(1002,some (.box 113 (.st [(qe_aAddr__6 p8),(.sref 13031 2 0 p21.length)])))]) (by rfl) TwT.nil (TwB.cons (x:=(.st [(.sref 13030 6 0 p8.length),(.sref 13031 2 0 p21.length)])) (by rfl) (Tw.st (TwL.cons (FrzL.all (by first | rfl | (simp;done) | (simp;omega) | omega)) (TwL.cons (Tw.same _) TwL.nil))) TwB.nil)) (Mat.trans (Mat.freezeP (n:=13031) (e:=141) (sz:=2) (es:=p21.map e_resource_part_int_) (Ts:=[]) (Bs:=[(1002,some (.box 113 (.st [(qe_aAddr__6 p8),(.d (.list 2 (p21.map e_resource_part_int_)))])))]) (by rfl) TwT.nil (TwB.cons (x:=(.st [(qe_aAddr__6 p8),(.sref 13031 2 0 p21.length)])) (by rfl) (Tw.st (TwL.cons (Tw.same _) (TwL.cons (FrzL.all (by first | rfl | (simp;done) | (simp;omega) | omega)) TwL.nil))) TwB.nil)) (Mat.trans (Mat.coeP (Ts:=[]) (Bs:=[(1002,bd 113 (.st [(.list 6 (p8.map e_aAddr_)),(.list 2 (p21.map e_resource_part_int_))]))]) TwT.nil (TwB.cons (x:=(.st [(qe_aAddr__6 p8),(.d (.list 2 (p21.map e_resource_part_int_)))])) (by rfl) (Tw.leaf ⟨_,(Co.st (CoL.cons (Co.d _) (CoL.cons (Co.d _) CoL.nil))),rfl⟩) TwB.nil)) (mp [] [(2,(pt 1002))] [(1002,bd 113 (.st [(.list 6 (p8.map e_aAddr_)),(.list 2 (p21.map e_resource_part_int_))]))] hB)))) [(.d (.st [(.list 6 (p8.map e_aAddr_)),(.list 2 (p21.map e_resource_part_int_))]))] (Res.cell (c:=(.d (.st [(.list 6 (p8.map e_aAddr_)),(.list 2 (p21.map e_resource_part_int_))]))) (by rfl) (by rfl) tyS113 (by rfl) (by rfl) (by rfl) Res.nil) rfl
def addr_family (a0:aAddr):Option (Int) :=
 (if a0.fV6=true then
 some 1
 else
 some 0)
theorem addr_family_ac (a0:aAddr) (r:Int) (h:addr_family a0=some r):AC Tryz.prog 124 [(.d (e_aAddr a0))] [] (.d (.int .i64 r)) []:=by
 refine AC.of_code2 Tryz.func124 rfl rfl (Nat.le_of_ble_eq_true (by rfl)) fun B hB hN => ?_
 delta addr_family at h
 refine sr (SQ tt) ?_
 apply AWp.seq
 refine sr (SQ tt) ?_
 apply AWp.cond rfl<;>intro hg1
 ·have h:=ite_t hg1 h
  refine sr (SQ tt) ?_
  apply AWp.ret
  apply seqQ_r
  obtain rfl:=oi h
  exact rt (kp [(2,_)] [] hB rfl rfl (by rfl)) [(i6 1)] (Res.tmp (by rfl) (by rfl) Res.nil) rfl
 ·have h:=ite_f hg1 h
  apply AWp.skip
  apply seqQ_n
  refine sr (SQ tt) ?_
  apply AWp.ret
  obtain rfl:=oi h
  exact rt (kp [(2,_)] [] hB rfl rfl (by rfl)) [(i6 0)] (Res.tmp (by rfl) (by rfl) Res.nil) rfl
def cmp_isNaN (a0:Int):Option (Bool) :=
 some (a0 != a0)
theorem cmp_isNaN_ac (a0:Int) (r:Bool) (h:cmp_isNaN a0=some r):AC Tryz.prog 121 [(.d (.int .i64 a0))] [] (.d (.bool r)) []:=by
 refine AC.of_code2 Tryz.func121 rfl rfl (Nat.le_of_ble_eq_true (by rfl)) fun B hB hN => ?_
 delta cmp_isNaN at h
 refine sr (SQ tt) ?_
 refine sr (SQ tt) ?_
 apply AWp.ret
 obtain rfl:=oi h
 exact rt (kp [(2,_)] [] hB rfl rfl (by rfl)) [(bo (a0 != a0))] (Res.tmp (by rfl) (by rfl) Res.nil) rfl
def cmp_Compare (a0:Int) (a1:Int):Option (Int) :=
 (cmp_isNaN a0).bind fun r1 =>
 (cmp_isNaN a1).bind fun r2 =>
 (if r1=true then
 (if r2=true then
 some 0
 else
 some (-1))
 else
 (if r2=true then
 some 1
 else
 (if (decide (a0<a1))=true then
 some (-1)
 else
 (if (decide (a1<a0))=true then
 some 1
 else
 some 0))))
theorem cmp_Compare_ac (a0:Int) (a1:Int) (r:Int) (h:cmp_Compare a0 a1=some r):AC Tryz.prog 98 [(.d (.int .i64 a0)),(.d (.int .i64 a1))] [] (.d (.int .i64 r)) []:=by
 refine ac2 Tryz.func98 rfl rfl fun B hB hN L => ?_
 delta cmp_Compare at h
 refine sr (SQ tt) ?_
 obtain⟨r1,hr1,h⟩:=bindS h
 refine sr (SQ (fa (cl [] (cmp_isNaN_ac a0 r1 hr1)) tt)) ?_
 obtain⟨r2,hr2,h⟩:=bindS h
 refine sr (SQ (fa (cl [] (cmp_isNaN_ac a1 r2 hr2)) tt)) ?_
 apply AWp.seq
 refine sr (SQ tt) ?_
 apply AWp.cond rfl<;>intro hg3
 ·have h:=ite_t hg3 h
  apply AWp.seq
  refine sr (SQ tt) ?_
  apply AWp.cond rfl<;>intro hg4
  ·have h:=ite_t hg4 h
   refine sr (SQ tt) ?_
   apply AWp.ret
   apply seqQ_r
   apply seqQ_r
   obtain rfl:=oi h
   exact rt (kp [(4,_)] [] hB rfl rfl (by rfl)) [(i6 0)] (Res.tmp (by rfl) (by rfl) Res.nil) rfl
  ·have h:=ite_f hg4 h
   apply AWp.skip
   apply seqQ_n
   refine sr (SQ tt) ?_
   apply AWp.ret
   apply seqQ_r
   obtain rfl:=oi h
   exact rt (kp [(4,_)] [] hB rfl rfl (by rfl)) [(i6 (-1))] (Res.tmp (by rfl) (by rfl) Res.nil) rfl
 ·have h:=ite_f hg3 h
  apply AWp.skip
  apply seqQ_n
  apply AWp.seq
  refine sr (SQ tt) ?_
  apply AWp.cond rfl<;>intro hg5
  ·have h:=ite_t hg5 h
   refine sr (SQ tt) ?_
   apply AWp.ret
   apply seqQ_r
   obtain rfl:=oi h
   exact rt (kp [(4,_)] [] hB rfl rfl (by rfl)) [(i6 1)] (Res.tmp (by rfl) (by rfl) Res.nil) rfl
  ·have h:=ite_f hg5 h
   apply AWp.skip
   apply seqQ_n
   apply AWp.seq
   refine sr (SQ tt) ?_
   apply AWp.cond rfl<;>intro hg6
   ·have h:=ite_t hg6 h
    refine sr (SQ tt) ?_
    apply AWp.ret
    apply seqQ_r
    obtain rfl:=oi h
    exact rt (kp [(4,_)] [] hB rfl rfl (by rfl)) [(i6 (-1))] (Res.tmp (by rfl) (by rfl) Res.nil) rfl
   ·have h:=ite_f hg6 h
    apply AWp.skip
    apply seqQ_n
    apply AWp.seq
    refine sr (SQ tt) ?_
    apply AWp.cond rfl<;>intro hg7
    ·have h:=ite_t hg7 h
     refine sr (SQ tt) ?_
     apply AWp.ret
     apply seqQ_r
     obtain rfl:=oi h
     exact rt (kp [(4,_)] [] hB rfl rfl (by rfl)) [(i6 1)] (Res.tmp (by rfl) (by rfl) Res.nil) rfl
    ·have h:=ite_f hg7 h
     apply AWp.skip
     apply seqQ_n
     refine sr (SQ tt) ?_
     apply AWp.ret
     obtain rfl:=oi h
     exact rt (kp [(4,_)] [] hB rfl rfl (by rfl)) [(i6 0)] (Res.tmp (by rfl) (by rfl) Res.nil) rfl
def cmp_isNaN_2 (a0:Int):Option (Bool) :=
 some (a0 != a0)
theorem cmp_isNaN_2_ac (a0:Int) (r:Bool) (h:cmp_isNaN_2 a0=some r):AC Tryz.prog 131 [(.d (.int .u64 a0))] [] (.d (.bool r)) []:=by
 refine AC.of_code2 Tryz.func131 rfl rfl (Nat.le_of_ble_eq_true (by rfl)) fun B hB hN => ?_
 delta cmp_isNaN_2 at h
 refine sr (SQ tt) ?_
 refine sr (SQ tt) ?_
 apply AWp.ret
 obtain rfl:=oi h
 exact rt (kp [(2,_)] [] hB rfl rfl (by rfl)) [(bo (a0 != a0))] (Res.tmp (by rfl) (by rfl) Res.nil) rfl
def cmp_Compare_2 (a0:Int) (a1:Int):Option (Int) :=
 (cmp_isNaN_2 a0).bind fun r1 =>
 (cmp_isNaN_2 a1).bind fun r2 =>
 (if r1=true then
 (if r2=true then
 some 0
 else
 some (-1))
 else
 (if r2=true then
 some 1
 else
 (if (decide (a0<a1))=true then
 some (-1)
 else
 (if (decide (a1<a0))=true then
 some 1
 else
 some 0))))
theorem cmp_Compare_2_ac (a0:Int) (a1:Int) (r:Int) (h:cmp_Compare_2 a0 a1=some r):AC Tryz.prog 125 [(.d (.int .u64 a0)),(.d (.int .u64 a1))] [] (.d (.int .i64 r)) []:=by
 refine ac2 Tryz.func125 rfl rfl fun B hB hN L => ?_
 delta cmp_Compare_2 at h
 refine sr (SQ tt) ?_
 obtain⟨r1,hr1,h⟩:=bindS h
 refine sr (SQ (fa (cl [] (cmp_isNaN_2_ac a0 r1 hr1)) tt)) ?_
 obtain⟨r2,hr2,h⟩:=bindS h
 refine sr (SQ (fa (cl [] (cmp_isNaN_2_ac a1 r2 hr2)) tt)) ?_
 apply AWp.seq
 refine sr (SQ tt) ?_
 apply AWp.cond rfl<;>intro hg3
 ·have h:=ite_t hg3 h
  apply AWp.seq
  refine sr (SQ tt) ?_
  apply AWp.cond rfl<;>intro hg4
  ·have h:=ite_t hg4 h
   refine sr (SQ tt) ?_
   apply AWp.ret
   apply seqQ_r
   apply seqQ_r
   obtain rfl:=oi h
   exact rt (kp [(4,_)] [] hB rfl rfl (by rfl)) [(i6 0)] (Res.tmp (by rfl) (by rfl) Res.nil) rfl
  ·have h:=ite_f hg4 h
   apply AWp.skip
   apply seqQ_n
   refine sr (SQ tt) ?_
   apply AWp.ret
   apply seqQ_r
   obtain rfl:=oi h
   exact rt (kp [(4,_)] [] hB rfl rfl (by rfl)) [(i6 (-1))] (Res.tmp (by rfl) (by rfl) Res.nil) rfl
 ·have h:=ite_f hg3 h
  apply AWp.skip
  apply seqQ_n
  apply AWp.seq
  refine sr (SQ tt) ?_
  apply AWp.cond rfl<;>intro hg5
  ·have h:=ite_t hg5 h
   refine sr (SQ tt) ?_
   apply AWp.ret
   apply seqQ_r
   obtain rfl:=oi h
   exact rt (kp [(4,_)] [] hB rfl rfl (by rfl)) [(i6 1)] (Res.tmp (by rfl) (by rfl) Res.nil) rfl
  ·have h:=ite_f hg5 h
   apply AWp.skip
   apply seqQ_n
   apply AWp.seq
   refine sr (SQ tt) ?_
   apply AWp.cond rfl<;>intro hg6
   ·have h:=ite_t hg6 h
    refine sr (SQ tt) ?_
    apply AWp.ret
    apply seqQ_r
    obtain rfl:=oi h
    exact rt (kp [(4,_)] [] hB rfl rfl (by rfl)) [(i6 (-1))] (Res.tmp (by rfl) (by rfl) Res.nil) rfl
   ·have h:=ite_f hg6 h
    apply AWp.skip
    apply seqQ_n
    apply AWp.seq
    refine sr (SQ tt) ?_
    apply AWp.cond rfl<;>intro hg7
    ·have h:=ite_t hg7 h
     refine sr (SQ tt) ?_
     apply AWp.ret
     apply seqQ_r
     obtain rfl:=oi h
     exact rt (kp [(4,_)] [] hB rfl rfl (by rfl)) [(i6 1)] (Res.tmp (by rfl) (by rfl) Res.nil) rfl
    ·have h:=ite_f hg7 h
     apply AWp.skip
     apply seqQ_n
     refine sr (SQ tt) ?_
     apply AWp.ret
     obtain rfl:=oi h
     exact rt (kp [(4,_)] [] hB rfl rfl (by rfl)) [(i6 0)] (Res.tmp (by rfl) (by rfl) Res.nil) rfl
def cmp_Or_L0 (a0:(List Int)) (s1:Int):Option (((Int)⊕(Unit))⊕(Int)) :=
 (if (decide (s1<(a0.length:Int)))=true then
 (idx a0 s1).bind fun x11 =>
 (if (x11 != 0)=true then
 some (.inl (.inl x11))
 else
 some (.inr (w64 (s1+1))))
 else
 some (.inl (.inr ())))
def cmp_Or (a0:(List Int)):Option (Int) :=
 (loop (cmp_Or_L0 a0) 0).bind fun x13=>match x13 with
 | (.inl p8) =>
  some p8
 | (.inr _) =>
  some 0
theorem cmp_Or_ac (a0:(List Int)) (r:Int) (h:cmp_Or a0=some r):AC Tryz.prog 96 [(.d (.list 1 (a0.map (eI .i64))))] [] (.d (.int .i64 r)) []:=by
 refine AC.of_code2 Tryz.func96 rfl rfl (Nat.le_of_ble_eq_true (by rfl)) fun B hB hN => ?_
 delta cmp_Or at h
 refine sr (SQ tt) ?_
 refine sr (SQ tt) ?_
 apply AWp.seq
 refine sr (SQ tt) ?_
 apply AWp.block
 obtain⟨x13,hx14,h⟩:=bindS h
 refine lg (cmp_Or_L0 a0) (fun s1:Int=>([(3,(i6 0)),(6,(qI_1 a0)),(7,(i6 (a0.length:Int))),(8,(i6 s1))]:EL)) (fun s1:Int=>([]:OL)) (fun(x:(Int)⊕(Unit)) e E' O'=>match x with | (.inl p8)=>e = .ret∧Mat B E' O' ([(2,(i6 p8))]:EL) ([]:OL) | (.inr _p)=>e = .exit 0∧Mat B E' O' ([(3,(i6 0))]:EL) ([]:OL)) hx14 (mp [] _ _ hB) (fun s1 y h => ?_) (fun e E' O' hR => ?_)
 ·unfold cmp_Or_L0 at h
  refine sr (SQ tt) ?_
  apply AWp.seq
  apply AWp.cond rfl<;>intro hg10
  ·have h:=ite_t hg10 h
   apply AWp.skip
   apply seqQ_n
   apply AWp.seq
   apply AWp.block
   obtain⟨_,hx11,h⟩:=bindS h
   refine sr (SQ (fa hx11 tt)) ?_
   refine sr (SQ tt) ?_
   apply AWp.cond rfl<;>intro hg12
   ·have h:=ite_t hg12 h
    refine sr (SQ tt) ?_
    apply AWp.ret
    apply blkQ_r
    apply seqQ_r
    obtain rfl:=oi h
    exact⟨(fun hc=>by cases hc),rfl,(mp [] _ _ hB)⟩
   ·have h:=ite_f hg12 h
    apply AWp.skip
    apply blkQ_n
    apply seqQ_n
    refine rg (SQ tt) ?_
    obtain rfl:=oi h
    exact⟨rfl,(mp [] _ _ hB)⟩
  ·have h:=ite_f hg10 h
   apply AWp.exit
   apply seqQ_e
   obtain rfl:=oi h
   exact⟨(fun hc=>by cases hc),rfl,(mp [] _ _ hB)⟩
 ·rcases x13 with p8 | _
  ·obtain⟨rfl,hmat⟩:=hR
   apply blkQ_r
   apply seqQ_r
   obtain rfl:=oi h
   exact rt (Mat.trans hmat (mp [] [(2,(i6 p8))] [] hB)) [(i6 p8)] (Res.tmp (by rfl) (by rfl) Res.nil) rfl
  ·obtain⟨rfl,hmat⟩:=hR
   apply blkQ_hit
   apply seqQ_n
   refine AWp.ghost hmat ?_
   refine sr (SQ tt) ?_
   apply AWp.ret
   obtain rfl:=oi h
   exact rt (kp [(2,_)] [] hB rfl rfl (by rfl)) [(i6 0)] (Res.tmp (by rfl) (by rfl) Res.nil) rfl
def addr_Cmp (a0:aAddr) (a1:aAddr):Option (Int) :=
 (addr_family a0).bind fun r1 =>
 (addr_family a1).bind fun r2 =>
 (cmp_Compare r1 r2).bind fun r3 =>
 (cmp_Compare_2 a0.fHi a1.fHi).bind fun r4 =>
 (cmp_Compare_2 a0.fLo a1.fLo).bind fun r5 =>
 (cmp_Or ([r3,r4,r5]:List Int)).bind fun r6 =>
 some r6
theorem addr_Cmp_ac (a0:aAddr) (a1:aAddr) (r:Int) (h:addr_Cmp a0 a1=some r):AC Tryz.prog 109 [(.d (e_aAddr a0)),(.d (e_aAddr a1))] [] (.d (.int .i64 r)) []:=by
 refine AC.of_code2 Tryz.func109 rfl rfl (Nat.le_of_ble_eq_true (by rfl)) fun B hB hN => ?_
 delta addr_Cmp at h
 refine sr (SQ tt) ?_
 obtain⟨r1,hr1,h⟩:=bindS h
 obtain⟨r2,hr2,h⟩:=bindS h
 obtain⟨r3,hr3,h⟩:=bindS h
 obtain⟨r4,hr4,h⟩:=bindS h
 obtain⟨r5,hr5,h⟩:=bindS h
 obtain⟨r6,hr6,h⟩:=bindS h
 refine sdS (SQ (fa (cl [] (addr_family_ac a0 r1 hr1)) (fa (cl [] (addr_family_ac a1 r2 hr2)) (fa (cl [] (cmp_Compare_ac r1 r2 r3 hr3)) (fa (cl [] (cmp_Compare_2_ac a0.fHi a1.fHi r4 hr4)) (fa (cl [] (cmp_Compare_2_ac a0.fLo a1.fLo r5 hr5)) (fa (cl [] (cmp_Or_ac ([r3,r4,r5]:List Int) r6 hr6)) tt))))))) ?_
 apply AWp.ret
 obtain rfl:=oi h
 exact rt (kp [(4,_)] [] hB rfl rfl (by rfl)) [(i6 r6)] (Res.tmp (by rfl) (by rfl) Res.nil) rfl
def addr_Next (a0:aAddr):Option (aAddr×Bool) :=
 jn (fun m2:Int =>
 jn (fun m6:Bool =>
 (if m6=true then
 some ((aAddr.mk false 0 0),false)
 else
 some ((aAddr.mk a0.fV6 m2 (IntKind.u64.wrap (a0.fLo+1))),true))) (fun j7 =>
 (if ((a0.fV6&&(m2==0))&&((IntKind.u64.wrap (a0.fLo+1))==0))=true then
 j7 true
 else
 (addr_Valid (aAddr.mk a0.fV6 m2 (IntKind.u64.wrap (a0.fLo+1)))).bind fun r10 =>
 j7 (!r10)))) (fun j3 =>
 (if (a0.fV6&&((IntKind.u64.wrap (a0.fLo+1))==0))=true then
 j3 (IntKind.u64.wrap (a0.fHi+1))
 else
 j3 a0.fHi))
theorem addr_Next_ac (a0:aAddr) (r:aAddr×Bool) (h:addr_Next a0=some r):AC Tryz.prog 150 [(.d (e_aAddr a0))] [] (.tup [(.d (e_aAddr r.1)),(.d (.bool r.2))]) []:=by
 refine ac2 Tryz.func150 rfl rfl fun B hB hN L => ?_
 delta addr_Next at h
 refine sr (SQ tt) ?_
 refine sr (SQ tt) ?_
 apply AWp.seq
 refine sr (SQ tt) ?_
 refine gh [(1,_),(2,_),(14,_)] [(1001,some _),(1002,some _)] hB rfl rfl (by rfl) ?_
 refine AWp.cut h (fun m2:Int=>([(1,(pt 1001)),(2,(pt 1002))]:EL)) (fun m2:Int=>([(1001,some (.box 44 (.d (.st [(.bool a0.fV6),(.int .u64 m2),(.int .u64 (IntKind.u64.wrap (a0.fLo+1)))])))),(1002,bd 44 (.st [(.bool false),(.int .u64 0),(.int .u64 0)]))]:OL)) (fun m2 h E' O' hmat => ?_) (fun j3 hjj3 h => ?_)
 ·apply seqQ_n
  refine AWp.ghost hmat ?_
  apply AWp.seq
  apply AWp.seq
  refine AWp.cut h (fun m6:Bool=>([(1,(pt 1001)),(2,(pt 1002)),(35,(bo m6))]:EL)) (fun m6:Bool=>([(1001,some (.box 44 (.d (.st [(.bool a0.fV6),(.int .u64 m2),(.int .u64 (IntKind.u64.wrap (a0.fLo+1)))])))),(1002,bd 44 (.st [(.bool false),(.int .u64 0),(.int .u64 0)]))]:OL)) (fun m6 h E' O' hmat => ?_) (fun j7 hjj7 h => ?_)
  ·apply seqQ_n
   refine AWp.ghost hmat ?_
   apply AWp.cond rfl<;>intro hg8
   ·have h:=ite_t hg8 h
    refine sr (SQ tt) ?_
    apply AWp.ret
    apply seqQ_r
    obtain rfl:=oi h
    exact rt (kp [(2,_),(3,_)] [(1002,some _)] hB rfl rfl (by rfl)) [(.d (.st [(.bool false),(.int .u64 0),(.int .u64 0)])),(bo false)] (Res.cell (c:=(.d (.st [(.bool false),(.int .u64 0),(.int .u64 0)]))) (by rfl) (by rfl) tyS44 (by rfl) (by rfl) (by rfl) (Res.tmp (by rfl) (by rfl) Res.nil)) rfl
   ·have h:=ite_f hg8 h
    apply AWp.skip
    apply seqQ_n
    refine sr (SQ tt) ?_
    apply AWp.ret
    obtain rfl:=oi h
    exact rt (kp [(2,_),(3,_)] [(1002,some _)] hB rfl rfl (by rfl)) [(.d (.st [(.bool a0.fV6),(.int .u64 m2),(.int .u64 (IntKind.u64.wrap (a0.fLo+1)))])),(bo true)] (Res.cell (c:=(.d (.st [(.bool a0.fV6),(.int .u64 m2),(.int .u64 (IntKind.u64.wrap (a0.fLo+1)))]))) (by rfl) (by rfl) tyS44 (by rfl) (by rfl) (by rfl) (Res.tmp (by rfl) (by rfl) Res.nil)) rfl
  ·rcases bft ((a0.fV6&&(m2==0))&&((IntKind.u64.wrap (a0.fLo+1))==0)) with hg9 | hg9
   ·have h:=ite_t hg9 h
    refine rg (SQ (fa hg9 tt)) ?_
    exact hjj7 _ h _ _ (mp [] _ _ hB)
   ·have h:=ite_f hg9 h
    obtain⟨r10,hr10,h⟩:=bindS h
    refine rg (SQ (fa hg9 (fa (cl [] (addr_Valid_ac (aAddr.mk a0.fV6 m2 (IntKind.u64.wrap (a0.fLo+1))) r10 hr10)) tt))) ?_
    exact hjj7 _ h _ _ (mp [] _ _ hB)
 ·apply AWp.cond rfl<;>intro hg11
  ·have h:=ite_t hg11 h
   refine rg (SQ tt) ?_
   exact hjj3 _ h _ _ (mp [] _ _ hB)
  ·have h:=ite_f hg11 h
   apply AWp.skip
   exact hjj3 _ h _ _ (mp [] _ _ hB)
def resource_order_valid_L0 (a0:(List aAddr_)) (s1:Int):Option (((Unit)⊕(Unit))⊕(Int)) :=
 (if (decide (s1<(a0.length:Int)))=true then
 jn (fun _:Unit =>
 some (.inr (w64 (s1+1)))) (fun j117 =>
 (idx a0 s1).bind fun x118 =>
 (addr_Cmp x118.ffrom x118.fto).bind fun r119 =>
 (if (decide (0<r119))=true then
 some (.inl (.inl ()))
 else
 (if (s1==0)=true then
 j117 ()
 else
 (idx a0 (w64 (s1-1))).bind fun x122 =>
 (addr_Next x122.fto).bind fun r123 =>
 jn (fun m131:Bool =>
 (if m131=true then
 some (.inl (.inl ()))
 else
 j117 ())) (fun j132 =>
 (idx a0 (w64 (s1-1))).bind fun x134 =>
 (addr_Cmp x134.fto x118.ffrom).bind fun r135 =>
 (if (decide (0≤r135))=true then
 j132 true
 else
 (if r123.2=true then
 (addr_Cmp r123.1 x118.ffrom).bind fun r138 =>
 j132 (r138==0)
 else
 j132 false))))))
 else
 some (.inl (.inr ())))
def resource_order_valid (a0:(List aAddr_)):Option (Bool) :=
 (loop (resource_order_valid_L0 a0) 0).bind fun x139=>match x139 with
 | (.inl _) =>
  some false
 | (.inr _) =>
  some true
theorem resource_order_valid_ac (a0:(List aAddr_)) (r:Bool) (h:resource_order_valid a0=some r):AC Tryz.prog 64 [(.st [(.func 109 []),(.func 150 []),(.func 151 [])]),(.d (.list 6 (a0.map e_aAddr_)))] [] (.d (.bool r)) []:=by
 refine ac2 Tryz.func64 rfl rfl fun B hB hN L => ?_
 delta resource_order_valid at h
 refine sr (SQ tt) ?_
 apply AWp.seq
 refine sr (SQ tt) ?_
 apply AWp.block
 obtain⟨x139,hx140,h⟩:=bindS h
 refine lg (resource_order_valid_L0 a0) (fun s1:Int=>([(1,(qe_aAddr__6 a0)),(2,(pt 1002)),(9,(qe_aAddr__6 a0)),(10,(i6 (a0.length:Int))),(11,(i6 s1))]:EL)) (fun s1:Int=>([(1002,some (.box 117 (.st [(.func 109 []),(.func 150 []),(.func 151 [])])))]:OL)) (fun(x:(Unit)⊕(Unit)) e E' O'=>match x with | (.inl _p)=>e = .ret∧Mat B E' O' ([(4,(bo false))]:EL) ([]:OL) | (.inr _p)=>e = .exit 0∧Mat B E' O' ([]:EL) ([]:OL)) hx140 (mp [] _ _ hB) (fun s1 y h => ?_) (fun e E' O' hR => ?_)
 ·unfold resource_order_valid_L0 at h
  refine sr (SQ tt) ?_
  apply AWp.seq
  apply AWp.cond rfl<;>intro hg94
  ·have h:=ite_t hg94 h
   apply AWp.skip
   apply seqQ_n
   apply AWp.seq
   refine AWp.cut h (fun _:Unit=>([(1,(qe_aAddr__6 a0)),(2,(pt 1002)),(9,(qe_aAddr__6 a0)),(10,(i6 (a0.length:Int))),(11,(i6 s1))]:EL)) (fun _:Unit=>([(1002,some (.box 117 (.st [(.func 109 []),(.func 150 []),(.func 151 [])])))]:OL)) (fun _m h E' O' hmat => ?_) (fun j117 hjj117 h => ?_)
   ·apply seqQ_n
    refine AWp.ghost hmat ?_
    refine rg (SQ tt) ?_
    obtain rfl:=oi h
    exact⟨rfl,(mp [] _ _ hB)⟩
   ·apply AWp.block
    obtain⟨x118,hx118,h⟩:=bindS h
    refine sr (SQ (fa hx118 tt)) ?_
    apply AWp.seq
    obtain⟨r119,hr119,h⟩:=bindS h
    refine sr (SQ (fa (cl [] (addr_Cmp_ac x118.ffrom x118.fto r119 hr119)) tt)) ?_
    apply AWp.cond rfl<;>intro hg120
    ·have h:=ite_t hg120 h
     refine sr (SQ tt) ?_
     apply AWp.ret
     apply seqQ_r
     apply blkQ_r
     apply seqQ_r
     obtain rfl:=oi h
     exact⟨(fun hc=>by cases hc),rfl,(mp [] _ _ hB)⟩
    ·have h:=ite_f hg120 h
     apply AWp.skip
     apply seqQ_n
     apply AWp.seq
     refine sr (SQ tt) ?_
     apply AWp.cond rfl<;>intro hg121
     ·have h:=ite_t hg121 h
      apply AWp.exit
      apply seqQ_e
      apply blkQ_hit
      exact hjj117 _ h _ _ (mp [] _ _ hB)
     ·have h:=ite_f hg121 h
      apply AWp.skip
      apply seqQ_n
      obtain⟨x122,hx122,h⟩:=bindS h
      obtain⟨r123,hr123,h⟩:=bindS h
      refine sdS (SQ (fa hx122 (fa (cl [] (addr_Next_ac x122.fto r123 hr123)) tt))) ?_
      apply AWp.seq
      refine AWp.cut h (fun m131:Bool=>([(1,(qe_aAddr__6 a0)),(2,(pt 1002)),(9,(qe_aAddr__6 a0)),(10,(i6 (a0.length:Int))),(11,(i6 s1)),(61,(bo m131))]:EL)) (fun m131:Bool=>([(1002,some (.box 117 (.st [(.func 109 []),(.func 150 []),(.func 151 [])])))]:OL)) (fun m131 h E' O' hmat => ?_) (fun j132 hjj132 h => ?_)
      ·apply seqQ_n
       refine AWp.ghost hmat ?_
       apply AWp.cond rfl<;>intro hg133
       ·have h:=ite_t hg133 h
        refine sr (SQ tt) ?_
        apply AWp.ret
        apply blkQ_r
        apply seqQ_r
        obtain rfl:=oi h
        exact⟨(fun hc=>by cases hc),rfl,(mp [] _ _ hB)⟩
       ·have h:=ite_f hg133 h
        apply AWp.skip
        apply blkQ_n
        exact hjj117 _ h _ _ (mp [] _ _ hB)
      ·obtain⟨x134,hx134,h⟩:=bindS h
       obtain⟨r135,hr135,h⟩:=bindS h
       rcases bft (decide (0≤r135)) with hg136 | hg136
       ·have h:=ite_t hg136 h
        refine drS (SQ (fa hx134 (fa (cl [] (addr_Cmp_ac x134.fto x118.ffrom r135 hr135)) (fa hg136 tt)))) ?_
        exact hjj132 _ h _ _ (mp [] _ _ hB)
       ·have h:=ite_f hg136 h
        rcases bft r123.2 with hg137 | hg137
        ·have h:=ite_t hg137 h
         obtain⟨r138,hr138,h⟩:=bindS h
         refine drS (SQ (fa hx134 (fa (cl [] (addr_Cmp_ac x134.fto x118.ffrom r135 hr135)) (fa hg136 (fa hg137 (fa (cl [] (addr_Cmp_ac r123.1 x118.ffrom r138 hr138)) tt)))))) ?_
         exact hjj132 _ h _ _ (mp [] _ _ hB)
        ·have h:=ite_f hg137 h
         refine drS (SQ (fa hx134 (fa (cl [] (addr_Cmp_ac x134.fto x118.ffrom r135 hr135)) (fa hg136 (fa hg137 tt))))) ?_
         exact hjj132 _ h _ _ (mp [] _ _ hB)
  ·have h:=ite_f hg94 h
   apply AWp.exit
   apply seqQ_e
   obtain rfl:=oi h
   exact⟨(fun hc=>by cases hc),rfl,(mp [] _ _ hB)⟩
 ·rcases x139 with _ | _
  ·obtain⟨rfl,hmat⟩:=hR
   apply blkQ_r
   apply seqQ_r
   obtain rfl:=oi h
   exact rt (Mat.trans hmat (mp [] [(4,(bo false))] [] hB)) [(bo false)] (Res.tmp (by rfl) (by rfl) Res.nil) rfl
  ·obtain⟨rfl,hmat⟩:=hR
   apply blkQ_hit
   apply seqQ_n
   refine AWp.ghost hmat ?_
   refine sr (SQ tt) ?_
   apply AWp.ret
   obtain rfl:=oi h
   exact rt (kp [(4,_)] [] hB rfl rfl (by rfl)) [(bo true)] (Res.tmp (by rfl) (by rfl) Res.nil) rfl
def resource_numbers_1 (a0:Int):Option (Int×Bool) :=
 some ((w64 (a0+1)),(decide (a0<4294967295)))
theorem resource_numbers_1_ac (a0:Int) (r:Int×Bool) (h:resource_numbers_1 a0=some r):AC Tryz.prog 152 [(.d (.int .i64 a0))] [] (.tup [(.d (.int .i64 r.1)),(.d (.bool r.2))]) []:=by
 refine AC.of_code2 Tryz.func152 rfl rfl (Nat.le_of_ble_eq_true (by rfl)) fun B hB hN => ?_
 delta resource_numbers_1 at h
 refine sr (SQ tt) ?_
 refine sr (SQ tt) ?_
 apply AWp.ret
 obtain rfl:=oi h
 exact rt (kp [(2,_),(3,_)] [] hB rfl rfl (by rfl)) [(i6 (w64 (a0+1))),(bo (decide (a0<4294967295)))] (Res.tmp (by rfl) (by rfl) (Res.tmp (by rfl) (by rfl) Res.nil)) rfl
def resource_order_valid_2_L0 (a0:(List resource_part_int_)) (s1:Int):Option (((Unit)⊕(Unit))⊕(Int)) :=
 (if (decide (s1<(a0.length:Int)))=true then
 jn (fun _:Unit =>
 some (.inr (w64 (s1+1)))) (fun j117 =>
 (idx a0 s1).bind fun x118 =>
 (cmp_Compare x118.ffrom x118.fto).bind fun r119 =>
 (if (decide (0<r119))=true then
 some (.inl (.inl ()))
 else
 (if (s1==0)=true then
 j117 ()
 else
 (idx a0 (w64 (s1-1))).bind fun x122 =>
 (resource_numbers_1 x122.fto).bind fun r123 =>
 jn (fun m131:Bool =>
 (if m131=true then
 some (.inl (.inl ()))
 else
 j117 ())) (fun j132 =>
 (idx a0 (w64 (s1-1))).bind fun x134 =>
 (cmp_Compare x134.fto x118.ffrom).bind fun r135 =>
 (if (decide (0≤r135))=true then
 j132 true
 else
 (if r123.2=true then
 (cmp_Compare r123.1 x118.ffrom).bind fun r138 =>
 j132 (r138==0)
 else
 j132 false))))))
 else
 some (.inl (.inr ())))
def resource_order_valid_2 (a0:(List resource_part_int_)):Option (Bool) :=
 (loop (resource_order_valid_2_L0 a0) 0).bind fun x139=>match x139 with
 | (.inl _) =>
  some false
 | (.inr _) =>
  some true
theorem resource_order_valid_2_ac (a0:(List resource_part_int_)) (r:Bool) (h:resource_order_valid_2 a0=some r):AC Tryz.prog 65 [(.st [(.func 98 []),(.func 152 []),(.func 153 [])]),(.d (.list 2 (a0.map e_resource_part_int_)))] [] (.d (.bool r)) []:=by
 refine ac2 Tryz.func65 rfl rfl fun B hB hN L => ?_
 delta resource_order_valid_2 at h
 refine sr (SQ tt) ?_
 apply AWp.seq
 refine sr (SQ tt) ?_
 apply AWp.block
 obtain⟨x139,hx140,h⟩:=bindS h
 refine lg (resource_order_valid_2_L0 a0) (fun s1:Int=>([(1,(.d (.list 2 (a0.map e_resource_part_int_)))),(2,(pt 1002)),(9,(.d (.list 2 (a0.map e_resource_part_int_)))),(10,(i6 (a0.length:Int))),(11,(i6 s1))]:EL)) (fun s1:Int=>([(1002,some (.box 121 (.st [(.func 98 []),(.func 152 []),(.func 153 [])])))]:OL)) (fun(x:(Unit)⊕(Unit)) e E' O'=>match x with | (.inl _p)=>e = .ret∧Mat B E' O' ([(4,(bo false))]:EL) ([]:OL) | (.inr _p)=>e = .exit 0∧Mat B E' O' ([]:EL) ([]:OL)) hx140 (mp [] _ _ hB) (fun s1 y h => ?_) (fun e E' O' hR => ?_)
 ·unfold resource_order_valid_2_L0 at h
  refine sr (SQ tt) ?_
  apply AWp.seq
  apply AWp.cond rfl<;>intro hg94
  ·have h:=ite_t hg94 h
   apply AWp.skip
   apply seqQ_n
   apply AWp.seq
   refine AWp.cut h (fun _:Unit=>([(1,(.d (.list 2 (a0.map e_resource_part_int_)))),(2,(pt 1002)),(9,(.d (.list 2 (a0.map e_resource_part_int_)))),(10,(i6 (a0.length:Int))),(11,(i6 s1))]:EL)) (fun _:Unit=>([(1002,some (.box 121 (.st [(.func 98 []),(.func 152 []),(.func 153 [])])))]:OL)) (fun _m h E' O' hmat => ?_) (fun j117 hjj117 h => ?_)
   ·apply seqQ_n
    refine AWp.ghost hmat ?_
    refine rg (SQ tt) ?_
    obtain rfl:=oi h
    exact⟨rfl,(mp [] _ _ hB)⟩
   ·apply AWp.block
    obtain⟨x118,hx118,h⟩:=bindS h
    refine sr (SQ (fa hx118 tt)) ?_
    apply AWp.seq
    obtain⟨r119,hr119,h⟩:=bindS h
    refine sr (SQ (fa (cl [] (cmp_Compare_ac x118.ffrom x118.fto r119 hr119)) tt)) ?_
    apply AWp.cond rfl<;>intro hg120
    ·have h:=ite_t hg120 h
     refine sr (SQ tt) ?_
     apply AWp.ret
     apply seqQ_r
     apply blkQ_r
     apply seqQ_r
     obtain rfl:=oi h
     exact⟨(fun hc=>by cases hc),rfl,(mp [] _ _ hB)⟩
    ·have h:=ite_f hg120 h
     apply AWp.skip
     apply seqQ_n
     apply AWp.seq
     refine sr (SQ tt) ?_
     apply AWp.cond rfl<;>intro hg121
     ·have h:=ite_t hg121 h
      apply AWp.exit
      apply seqQ_e
      apply blkQ_hit
      exact hjj117 _ h _ _ (mp [] _ _ hB)
     ·have h:=ite_f hg121 h
      apply AWp.skip
      apply seqQ_n
      obtain⟨x122,hx122,h⟩:=bindS h
      obtain⟨r123,hr123,h⟩:=bindS h
      refine sdS (SQ (fa hx122 (fa (cl [] (resource_numbers_1_ac x122.fto r123 hr123)) tt))) ?_
      apply AWp.seq
      refine AWp.cut h (fun m131:Bool=>([(1,(.d (.list 2 (a0.map e_resource_part_int_)))),(2,(pt 1002)),(9,(.d (.list 2 (a0.map e_resource_part_int_)))),(10,(i6 (a0.length:Int))),(11,(i6 s1)),(61,(bo m131))]:EL)) (fun m131:Bool=>([(1002,some (.box 121 (.st [(.func 98 []),(.func 152 []),(.func 153 [])])))]:OL)) (fun m131 h E' O' hmat => ?_) (fun j132 hjj132 h => ?_)
      ·apply seqQ_n
       refine AWp.ghost hmat ?_
       apply AWp.cond rfl<;>intro hg133
       ·have h:=ite_t hg133 h
        refine sr (SQ tt) ?_
        apply AWp.ret
        apply blkQ_r
        apply seqQ_r
        obtain rfl:=oi h
        exact⟨(fun hc=>by cases hc),rfl,(mp [] _ _ hB)⟩
       ·have h:=ite_f hg133 h
        apply AWp.skip
        apply blkQ_n
        exact hjj117 _ h _ _ (mp [] _ _ hB)
      ·obtain⟨x134,hx134,h⟩:=bindS h
       obtain⟨r135,hr135,h⟩:=bindS h
       rcases bft (decide (0≤r135)) with hg136 | hg136
       ·have h:=ite_t hg136 h
        refine drS (SQ (fa hx134 (fa (cl [] (cmp_Compare_ac x134.fto x118.ffrom r135 hr135)) (fa hg136 tt)))) ?_
        exact hjj132 _ h _ _ (mp [] _ _ hB)
       ·have h:=ite_f hg136 h
        rcases bft r123.2 with hg137 | hg137
        ·have h:=ite_t hg137 h
         obtain⟨r138,hr138,h⟩:=bindS h
         refine drS (SQ (fa hx134 (fa (cl [] (cmp_Compare_ac x134.fto x118.ffrom r135 hr135)) (fa hg136 (fa hg137 (fa (cl [] (cmp_Compare_ac r123.1 x118.ffrom r138 hr138)) tt)))))) ?_
         exact hjj132 _ h _ _ (mp [] _ _ hB)
        ·have h:=ite_f hg137 h
         refine drS (SQ (fa hx134 (fa (cl [] (cmp_Compare_ac x134.fto x118.ffrom r135 hr135)) (fa hg136 (fa hg137 tt))))) ?_
         exact hjj132 _ h _ _ (mp [] _ _ hB)
  ·have h:=ite_f hg94 h
   apply AWp.exit
   apply seqQ_e
   obtain rfl:=oi h
   exact⟨(fun hc=>by cases hc),rfl,(mp [] _ _ hB)⟩
 ·rcases x139 with _ | _
  ·obtain⟨rfl,hmat⟩:=hR
   apply blkQ_r
   apply seqQ_r
   obtain rfl:=oi h
   exact rt (Mat.trans hmat (mp [] [(4,(bo false))] [] hB)) [(bo false)] (Res.tmp (by rfl) (by rfl) Res.nil) rfl
  ·obtain⟨rfl,hmat⟩:=hR
   apply blkQ_hit
   apply seqQ_n
   refine AWp.ghost hmat ?_
   refine sr (SQ tt) ?_
   apply AWp.ret
   obtain rfl:=oi h
   exact rt (kp [(4,_)] [] hB rfl rfl (by rfl)) [(bo true)] (Res.tmp (by rfl) (by rfl) Res.nil) rfl
def resource_Valid_L0 (a0:aResources) (s1:Int):Option (((Unit)⊕(Unit))⊕(Int)) :=
 (if (decide (s1<(a0.fAddrs.length:Int)))=true then
 (idx a0.fAddrs s1).bind fun x29 =>
 jn (fun m34:Bool =>
 (if m34=true then
 some (.inl (.inl ()))
 else
 some (.inr (w64 (s1+1))))) (fun j35 =>
 (addr_Valid x29.fFrom).bind fun r37 =>
 (if (!r37)=true then
 j35 true
 else
 (addr_Valid x29.fTo).bind fun r39 =>
 j35 ((!r39) || (x29.fFrom.fV6 != x29.fTo.fV6))))
 else
 some (.inl (.inr ())))
def resource_Valid (a0:aResources):Option (Bool) :=
 (loop (resource_Valid_L0 a0) 0).bind fun x40=>match x40 with
 | (.inl _) =>
  some false
 | (.inr _) =>
  (slices_ContainsFunc a0.fASNs).bind fun r42 =>
  (if r42=true then
  some false
  else
  (resource_of a0).bind fun r44 =>
  jn (fun m49:Bool =>
  some m49) (fun j50 =>
  (if ((decide ((a0.fAddrs.length:Int)≤256))&&(decide ((a0.fASNs.length:Int)≤256)))=true then
  (resource_order_valid r44.faddrs).bind fun r52 =>
  (if r52=true then
  (resource_order_valid_2 r44.fasns).bind fun r54 =>
  j50 r54
  else
  j50 false)
  else
  j50 false)))
theorem resource_Valid_ac (a0:aResources) (r:Bool) (h:resource_Valid a0=some r):AC Tryz.prog 32 [(.d (e_aResources a0))] [(500,(.know (globF 0 [109,150,151]))),(501,(.know (globF 1 [98,152,153])))] (.d (.bool r)) [(500,some (.know (globF 0 [109,150,151]))),(501,some (.know (globF 1 [98,152,153])))]:=by
 refine ac2 Tryz.func32 rfl rfl fun B hB hN L => ?_
 delta resource_Valid at h
 refine sr (SQ tt) ?_
 apply AWp.seq
 refine sr (SQ tt) ?_
 apply AWp.block
 obtain⟨x40,hx41,h⟩:=bindS h
 refine lg (resource_Valid_L0 a0) (fun s1:Int=>([(1,(pt 1001)),(7,(qe_aRange_6 a0.fAddrs)),(8,(i6 (a0.fAddrs.length:Int))),(9,(i6 s1))]:EL)) (fun s1:Int=>([(500,some (.know (globF 0 [109,150,151]))),(501,some (.know (globF 1 [98,152,153]))),(1001,bd 57 (e_aResources a0))]:OL)) (fun(x:(Unit)⊕(Unit)) e E' O'=>match x with | (.inl _p)=>e = .ret∧Mat B E' O' ([(2,(bo false))]:EL) ([(500,some (.know (globF 0 [109,150,151]))),(501,some (.know (globF 1 [98,152,153])))]:OL) | (.inr _p)=>e = .exit 0∧Mat B E' O' ([(1,(pt 1001))]:EL) ([(500,some (.know (globF 0 [109,150,151]))),(501,some (.know (globF 1 [98,152,153]))),(1001,bd 57 (e_aResources a0))]:OL)) hx41 (mp [] _ _ hB) (fun s1 y h => ?_) (fun e E' O' hR => ?_)
 ·unfold resource_Valid_L0 at h
  refine sr (SQ tt) ?_
  apply AWp.seq
  apply AWp.cond rfl<;>intro hg28
  ·have h:=ite_t hg28 h
   apply AWp.skip
   apply seqQ_n
   apply AWp.seq
   apply AWp.block
   obtain⟨x29,hx29,h⟩:=bindS h
   refine sr (SQ (fa hx29 tt)) ?_
   apply AWp.seq
   refine AWp.cut h (fun m34:Bool=>([(1,(pt 1001)),(7,(qe_aRange_6 a0.fAddrs)),(8,(i6 (a0.fAddrs.length:Int))),(9,(i6 s1)),(31,(bo m34))]:EL)) (fun m34:Bool=>([(500,some (.know (globF 0 [109,150,151]))),(501,some (.know (globF 1 [98,152,153]))),(1001,bd 57 (e_aResources a0))]:OL)) (fun m34 h E' O' hmat => ?_) (fun j35 hjj35 h => ?_)
   ·apply seqQ_n
    refine AWp.ghost hmat ?_
    apply AWp.cond rfl<;>intro hg36
    ·have h:=ite_t hg36 h
     refine sr (SQ tt) ?_
     apply AWp.ret
     apply blkQ_r
     apply seqQ_r
     obtain rfl:=oi h
     exact⟨(fun hc=>by cases hc),rfl,(mp [] _ _ hB)⟩
    ·have h:=ite_f hg36 h
     apply AWp.skip
     apply blkQ_n
     apply seqQ_n
     refine rg (SQ tt) ?_
     obtain rfl:=oi h
     exact⟨rfl,(mp [] _ _ hB)⟩
   ·obtain⟨r37,hr37,h⟩:=bindS h
    rcases bft (!r37) with hg38 | hg38
    ·have h:=ite_t hg38 h
     refine rg (SQ (fa (cl [] (addr_Valid_ac x29.fFrom r37 hr37)) (fa hg38 tt))) ?_
     exact hjj35 _ h _ _ (mp [] _ _ hB)
    ·have h:=ite_f hg38 h
     obtain⟨r39,hr39,h⟩:=bindS h
     refine rg (SQ (fa (cl [] (addr_Valid_ac x29.fFrom r37 hr37)) (fa hg38 (fa (cl [] (addr_Valid_ac x29.fTo r39 hr39)) tt)))) ?_
     exact hjj35 _ h _ _ (mp [] _ _ hB)
  ·have h:=ite_f hg28 h
   apply AWp.exit
   apply seqQ_e
   obtain rfl:=oi h
   exact⟨(fun hc=>by cases hc),rfl,(mp [] _ _ hB)⟩
 ·rcases x40 with _ | _
  ·obtain⟨rfl,hmat⟩:=hR
   apply blkQ_r
   apply seqQ_r
   obtain rfl:=oi h
   exact rt (Mat.trans hmat (mp [] [(2,(bo false))] [(500,some (.know (globF 0 [109,150,151]))),(501,some (.know (globF 1 [98,152,153])))] hB)) [(bo false)] (Res.tmp (by rfl) (by rfl) Res.nil) rfl
  ·obtain⟨rfl,hmat⟩:=hR
   apply blkQ_hit
   apply seqQ_n
   refine AWp.ghost hmat ?_
   apply AWp.seq
   obtain⟨r42,hr42,h⟩:=bindS h
   refine sr (SQ (fa (cl [] (slices_ContainsFunc_ac a0.fASNs r42 hr42)) tt)) ?_
   apply AWp.cond rfl<;>intro hg43
   ·have h:=ite_t hg43 h
    refine sr (SQ tt) ?_
    apply AWp.ret
    apply seqQ_r
    obtain rfl:=oi h
    exact rt (kp [(2,_)] [(500,some _),(501,some _)] hB rfl rfl (by rfl)) [(bo false)] (Res.tmp (by rfl) (by rfl) Res.nil) rfl
   ·have h:=ite_f hg43 h
    apply AWp.skip
    apply seqQ_n
    obtain⟨r44,hr44,h⟩:=bindS h
    refine sr (SQ (fa (cl [] (resource_of_ac a0 r44 hr44)) tt)) ?_
    refine gh [(1,_),(5,_)] [(500,some _),(501,some _),(1001,some _),(1005,some _)] hB rfl rfl (by rfl) ?_
    apply AWp.seq
    refine AWp.cut h (fun m49:Bool=>([(2,(bo m49))]:EL)) (fun m49:Bool=>([(500,some (.know (globF 0 [109,150,151]))),(501,some (.know (globF 1 [98,152,153])))]:OL)) (fun m49 h E' O' hmat => ?_) (fun j50 hjj50 h => ?_)
    ·apply seqQ_n
     refine AWp.ghost hmat ?_
     apply AWp.ret
     obtain rfl:=oi h
     exact rt (kp [(2,_)] [(500,some _),(501,some _)] hB rfl rfl (by rfl)) [(bo m49)] (Res.tmp (by rfl) (by rfl) Res.nil) rfl
    ·rcases bft ((decide ((a0.fAddrs.length:Int)≤256))&&(decide ((a0.fASNs.length:Int)≤256))) with hg51 | hg51
     ·have h:=ite_t hg51 h
      obtain⟨r52,hr52,h⟩:=bindS h
      rcases bft r52 with hg53 | hg53
      ·have h:=ite_t hg53 h
       obtain⟨r54,hr54,h⟩:=bindS h
       apply rg (c (fo 1001 0 [0] hN underlying57 0 tyS54 (q 1)) rfl (c (la hN 57 tyS54 (q 38)) rfl (c (OpJ.val (v':=(i6 (a0.fAddrs.length:Int))) (by simp) (lenD underlying54 (L rfl) (q 39))) rfl (c (leq (L rfl) (q 40) (ii 256)) rfl (c (mv hN (q 41)) rfl (c (oq hN 42 (fo 1001 1 [1] hN underlying57 1 tyS55 (q 1)) (OptL.keep (by rfl) OptL.nil) (GuardV.plain _)) rfl (c (oq hN 42 (la hN 57 tyS55 (q 43)) (OptL.opt OptL.nil) (GuardV.plain _)) rfl (c (oq hN 42 (OpJ.val (v':=(i6 (a0.fASNs.length:Int))) (by simp) (lenD underlying55 (L rfl) (q 44))) (OptL.opt OptL.nil) (GuardV.plain _)) rfl (c (oq hN 42 (leq (L rfl) (q 45) (ii 256)) (OptL.opt OptL.nil) (GuardV.plain _)) rfl (c (pickAnd rfl (L rfl) (q 42) (q 46)) rfl (c (OpJ.val (v':=.d (.bool true)) (by rw [hg51]<;>rfl) (mv hN (q 47))) rfl (cg (gd 48 (OpJ.loadG (nm:=500) [109,150,151] tyS117 rfl (L rfl))) rfl (c (gd 48 (fo 1005 0 [0] hN underlying113 0 tyS110 (q 5))) rfl (c (gd 48 (la hN 113 tyS110 (q 50))) rfl (cg (gd 48 (cf hB fnOk64 (resource_order_valid_ac r44.faddrs r52 hr52) (L rfl) (OpdL.cons (q 49) (OpdL.cons (q 51) OpdL.nil)))) rfl (c (pickT (L rfl) (q 48) (q 52)) rfl (c (OpJ.val (v':=.d (.bool true)) (by rw [hg53]<;>rfl) (mv hN (q 53))) rfl (cg (gd 54 (OpJ.loadG (nm:=501) [98,152,153] tyS121 rfl (L rfl))) rfl (c (gd 54 (fo 1005 1 [1] hN underlying113 1 tyS111 (q 5))) rfl (c (gd 54 (la hN 113 tyS111 (q 56))) rfl (cg (gd 54 (cf hB fnOk65 (resource_order_valid_2_ac r44.fasns r54 hr54) (L rfl) (OpdL.cons (q 55) (OpdL.cons (q 57) OpdL.nil)))) rfl (c (pickT (L rfl) (q 54) (q 58)) rfl (c (assign (L rfl) (q 59)) rfl cn)))))))))))))))))))))))
       exact hjj50 _ h _ _ (mp [] _ _ hB)
      ·have h:=ite_f hg53 h
       apply rg (c (fo 1001 0 [0] hN underlying57 0 tyS54 (q 1)) rfl (c (la hN 57 tyS54 (q 38)) rfl (c (OpJ.val (v':=(i6 (a0.fAddrs.length:Int))) (by simp) (lenD underlying54 (L rfl) (q 39))) rfl (c (leq (L rfl) (q 40) (ii 256)) rfl (c (mv hN (q 41)) rfl (c (oq hN 42 (fo 1001 1 [1] hN underlying57 1 tyS55 (q 1)) (OptL.keep (by rfl) OptL.nil) (GuardV.plain _)) rfl (c (oq hN 42 (la hN 57 tyS55 (q 43)) (OptL.opt OptL.nil) (GuardV.plain _)) rfl (c (oq hN 42 (OpJ.val (v':=(i6 (a0.fASNs.length:Int))) (by simp) (lenD underlying55 (L rfl) (q 44))) (OptL.opt OptL.nil) (GuardV.plain _)) rfl (c (oq hN 42 (leq (L rfl) (q 45) (ii 256)) (OptL.opt OptL.nil) (GuardV.plain _)) rfl (c (pickAnd rfl (L rfl) (q 42) (q 46)) rfl (c (OpJ.val (v':=.d (.bool true)) (by rw [hg51]<;>rfl) (mv hN (q 47))) rfl (cg (gd 48 (OpJ.loadG (nm:=500) [109,150,151] tyS117 rfl (L rfl))) rfl (c (gd 48 (fo 1005 0 [0] hN underlying113 0 tyS110 (q 5))) rfl (c (gd 48 (la hN 113 tyS110 (q 50))) rfl (cg (gd 48 (cf hB fnOk64 (resource_order_valid_ac r44.faddrs r52 hr52) (L rfl) (OpdL.cons (q 49) (OpdL.cons (q 51) OpdL.nil)))) rfl (c (pickT (L rfl) (q 48) (q 52)) rfl (c (OpJ.val (v':=.d (.bool false)) (by rw [hg53]<;>rfl) (mv hN (q 53))) rfl (ks 54 (L rfl) (ks 54 (L rfl) (ks 54 (L rfl) (ks 54 (L rfl) (c (pickF (L rfl) (q 54) (Opd.bool false)) rfl (c (assign (L rfl) (q 59)) rfl cn)))))))))))))))))))))))
       exact hjj50 _ h _ _ (mp [] _ _ hB)
     ·have h:=ite_f hg51 h
      refine rg (SQ (fa hg51 tt)) ?_
      exact hjj50 _ h _ _ (mp [] _ _ hB)
end
end Go.Proofs.YtgfoabcickjphaaGreatDoor
