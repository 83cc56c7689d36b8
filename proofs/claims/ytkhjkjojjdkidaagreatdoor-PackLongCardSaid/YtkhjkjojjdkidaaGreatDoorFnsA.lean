/- Printed by gen.py: the Go functions as plain functions, and that the code does what they say. -/
import Derived.Test.YtkhjkjojjdkidaaGreatDoorChecked
import Derived.Test.YtkhjkjojjdkidaaGreatDoorVcYB
import Derived.Test.YtkhjkjojjdkidaaGreatDoorVcZ
import Derived.Test.YtkhjkjojjdkidaaGreatDoorVcGC
import Derived.KernelRfl
import Derived.Test.YtkhjkjojjdkidaaGreatDoorVcMD
import Derived.Test.YtkhjkjojjdkidaaGreatDoorVcMQ
import Derived.Test.YtkhjkjojjdkidaaGreatDoorVcSG
import Derived.Test.YtkhjkjojjdkidaaGreatDoorExt
import Derived.Test.YtkhjkjojjdkidaaGreatDoorVcPm
import Derived.Test.YtkhjkjojjdkidaaGreatDoorVcRg
import Derived.Test.YtkhjkjojjdkidaaGreatDoorVcSt
import Derived.Test.YtkhjkjojjdkidaaGreatDoorVcMR
namespace Go.Proofs.YtkhjkjojjdkidaaGreatDoor
open Go Go.Vc
open Tryz
open Go.Vc.OpJ (assign alloc lss pickT pickF extract lenD indexD loadD eqlI gtr callVal leq geq loadR nilP indexS buildSlice lenS fieldD neqI pickAnd pickOr)
open Go.Vc.AWp (seq ghost ret block)
set_option maxHeartbeats 4000000
set_option maxRecDepth 100000
noncomputable section
structure D0 where
 fV6:Bool
 fHi:Int
 fLo:Int
def D2 (x:D0):D:=.st [(.bool x.fV6),(.int .u64 x.fHi),(.int .u64 x.fLo)]
structure A2 where
 fAddr:D0
 fLen:Int
def C4 (x:A2):D:=.st [(D2 x.fAddr),(.int .i64 x.fLen)]
def B6w (x:(List Int)):D:=(.list 1 (x.map (eI .i64)))
structure B2 where
 fSet:Bool
 fASNs:(List Int)
def C7 (x:B2):D:=.st [(.bool x.fSet),(.list 1 (x.fASNs.map (eI .i64)))]
def B4h (x:(List B2)):D:=(.list 2 (x.map C7))
structure A9 where
 fA:Int
 fB:Int
def C0 (x:A9):D:=.st [(.int .i64 x.fA),(.int .i64 x.fB)]
def B3p (x:(List A9)):D:=(.list 2 (x.map C0))
structure E0 where
 fA:Int
 fB:Int
 fC:Int
def D9 (x:E0):D:=.st [(.int .i64 x.fA),(.int .i64 x.fB),(.int .i64 x.fC)]
def B5p (x:(List E0)):D:=(.list 3 (x.map D9))
def A5f (x:(List Int)):D:=(.list 1 (x.map (eI .u8)))
structure A1 where
 fFlags:Int
 fType:Int
 fData:(List Int)
def A7 (x:A1):D:=.st [(.int .i64 x.fFlags),(.int .i64 x.fType),(.list 1 (x.fData.map (eI .u8)))]
def B4i (x:(List A1)):D:=(.list 3 (x.map A7))
structure C8 where
 fOrigin:Int
 fPath:(List B2)
 fNext:D0
 fMED:Int
 fPref:Int
 fOTC:Int
 fCommunities:(List A9)
 fLarge:(List E0)
 fOther:(List A1)
def B9 (x:C8):D:=.st [(.int .i64 x.fOrigin),(.list 2 (x.fPath.map C7)),(D2 x.fNext),(.int .i64 x.fMED),(.int .i64 x.fPref),(.int .i64 x.fOTC),(.list 2 (x.fCommunities.map C0)),(.list 3 (x.fLarge.map D9)),(.list 3 (x.fOther.map A7))]
structure V7 where
 fPrefix:A2
 fFrom:Int
 fAttrs:C8
def B4j (x:V7):D:=.st [(C4 x.fPrefix),(.int .i64 x.fFrom),(B9 x.fAttrs)]
structure B8 where
 fTo:Int
 fPrefix:A2
 fHas:Bool
 fRoute:V7
def F4 (x:B8):D:=.st [(.int .i64 x.fTo),(C4 x.fPrefix),(.bool x.fHas),(B4j x.fRoute)]
def gv0:List (Int×Int):=[(1,64),(2,64),(3,64),(4,128),(5,64),(8,192),(32,192),(35,192)]
def B5c (x:(List A2)):D:=(.list 4 (x.map C4))
structure A6 where
 fWithdraw:(List A2)
 fAttrs:C8
 fAnnounce:(List A2)
def D1 (x:A6):D:=.st [(.list 4 (x.fWithdraw.map C4)),(B9 x.fAttrs),(.list 4 (x.fAnnounce.map C4))]
def keq3 (a b:Int):Bool:=(a==b)
structure C2 where
 fattrs:C8
 fprefixes:(List A2)
def D5 (x:C2):D:=.st [(B9 x.fattrs),(.list 4 (x.fprefixes.map C4))]
structure B7 where
 fL:(List Int)
 fAt:Int
def E5 (x:B7):D:=.st [(.list 1 (x.fL.map (eI .i64))),(.int .i64 x.fAt)]
def B5d (x:(List B8)):D:=(.list 22 (x.map F4))
@[reducible] def qI_1 (x:List Int):V:=.d (.list 1 (x.map (eI .i64)))
@[reducible] def B75 (x:List Int):Ob:=.row 3 1 (x.map (eI .i64))
@[reducible] def B4 (x:List A9):V:=.d (.list 2 (x.map C0))
@[reducible] def A2m (x:List A9):Ob:=.row 98 2 (x.map C0)
@[reducible] def D3 (x:List E0):V:=.d (.list 3 (x.map D9))
@[reducible] def A4c (x:List E0):Ob:=.row 100 3 (x.map D9)
@[reducible] def B5 (x:List B2):V:=.d (.list 2 (x.map C7))
@[reducible] def B0 (x:List A1):V:=.d (.list 3 (x.map A7))
@[reducible] def I4 (x:List B2):Ob:=.row 66 2 (x.map C7)
@[reducible] def C9 (x:List A1):Ob:=.row 69 3 (x.map A7)
@[reducible] def E6 (x:List A2):V:=.d (.list 4 (x.map C4))
@[reducible] def I1 (x:List A2):Ob:=.row 29 4 (x.map C4)
@[reducible] def C6 (x:List A6):Ob:=.row 61 13 (x.map D1)
@[reducible] def E4 (x:List A6):V:=.d (.list 13 (x.map D1))
@[reducible] def C1 (x:List B8):V:=.d (.list 22 (x.map F4))
@[reducible] def G0 (x:List B8):Ob:=.row 39 22 (x.map F4)
theorem tyZS27:TyZ Tryz.prog 27 (.st [(.d (.bool false)),(.d (.int .u64 0)),(.d (.int .u64 0))]):=⟨by kernel_rfl,fun w=>by kernel_rfl⟩
theorem tyZS29:TyZ Tryz.prog 29 (.st [(.d (.st [(.bool false),(.int .u64 0),(.int .u64 0)])),(.d (.int .i64 0))]):=⟨by kernel_rfl,fun w=>by kernel_rfl⟩
theorem tyZ29:TyZ Tryz.prog 29 (.d (.st [(.st [(.bool false),(.int .u64 0),(.int .u64 0)]),(.int .i64 0)])):=⟨by kernel_rfl,fun w=>by kernel_rfl⟩
theorem tyS29:TyS Tryz.prog 29 4 true:=⟨by kernel_rfl,by kernel_rfl⟩
theorem tyZS39:TyZ Tryz.prog 39 (.st [(.d (.int .i64 0)),(.d (.st [(.st [(.bool false),(.int .u64 0),(.int .u64 0)]),(.int .i64 0)])),(.d (.bool false)),(.st [(.d (.st [(.st [(.bool false),(.int .u64 0),(.int .u64 0)]),(.int .i64 0)])),(.d (.int .i64 0)),(.st [(.d (.int .i64 0)),.nils,(.d (.st [(.bool false),(.int .u64 0),(.int .u64 0)])),(.d (.int .i64 0)),(.d (.int .i64 0)),(.d (.int .i64 0)),.nils,.nils,.nils])])]):=⟨by kernel_rfl,fun w=>by kernel_rfl⟩
theorem tyS39:TyS Tryz.prog 39 22 true:=⟨by kernel_rfl,by kernel_rfl⟩
theorem tyZD39:TyZ Tryz.prog 39 (.d (.st [(.int .i64 0),(.st [(.st [(.bool false),(.int .u64 0),(.int .u64 0)]),(.int .i64 0)]),(.bool false),(.st [(.st [(.st [(.bool false),(.int .u64 0),(.int .u64 0)]),(.int .i64 0)]),(.int .i64 0),(.st [(.int .i64 0),(.list 2 (([]:List B2).map C7)),(.st [(.bool false),(.int .u64 0),(.int .u64 0)]),(.int .i64 0),(.int .i64 0),(.int .i64 0),(.list 2 (([]:List A9).map C0)),(.list 3 (([]:List E0).map D9)),(.list 3 (([]:List A1).map A7))])])])):=⟨by kernel_rfl,fun w=>by kernel_rfl⟩
theorem tyZ79:TyZ Tryz.prog 79 (.st [(.st [(.d (.int .i64 0)),.nils,(.d (.st [(.bool false),(.int .u64 0),(.int .u64 0)])),(.d (.int .i64 0)),(.d (.int .i64 0)),(.d (.int .i64 0)),.nils,.nils,.nils]),.nils]):=⟨by kernel_rfl,fun w=>by kernel_rfl⟩
theorem tyZ39:TyZ Tryz.prog 39 (.st [(.d (.int .i64 0)),(.d (.st [(.st [(.bool false),(.int .u64 0),(.int .u64 0)]),(.int .i64 0)])),(.d (.bool false)),(.st [(.d (.st [(.st [(.bool false),(.int .u64 0),(.int .u64 0)]),(.int .i64 0)])),(.d (.int .i64 0)),(.st [(.d (.int .i64 0)),.nils,(.d (.st [(.bool false),(.int .u64 0),(.int .u64 0)])),(.d (.int .i64 0)),(.d (.int .i64 0)),(.d (.int .i64 0)),.nils,.nils,.nils])])]):=⟨by kernel_rfl,fun w=>by kernel_rfl⟩
theorem tyS27:TyS Tryz.prog 27 3 true:=⟨by kernel_rfl,by kernel_rfl⟩
theorem tyS4:TyS Tryz.prog 4 1 false:=⟨by kernel_rfl,by kernel_rfl⟩
theorem tyS25:TyS Tryz.prog 25 1 false:=⟨by kernel_rfl,by kernel_rfl⟩
theorem fnOk86:FnOk Tryz.prog 86:=⟨by kernel_rfl⟩
theorem tyS3:TyS Tryz.prog 3 1 false:=⟨by kernel_rfl,by kernel_rfl⟩
theorem fnOk87:FnOk Tryz.prog 87:=⟨by kernel_rfl⟩
theorem tyZ27:TyZ Tryz.prog 27 (.d (.st [(.bool false),(.int .u64 0),(.int .u64 0)])):=⟨by kernel_rfl,fun w=>by kernel_rfl⟩
theorem fnOk107:FnOk Tryz.prog 107:=⟨by kernel_rfl⟩
theorem fnOk88:FnOk Tryz.prog 88:=⟨by kernel_rfl⟩
theorem held27:Program.stoodInHeld Tryz.prog 27=false:=by kernel_rfl
theorem feq27:∀ a b:D0,FitE Tryz.prog 2 27 (D2 a) (D2 b) ((a.fV6==b.fV6)&&((a.fHi==b.fHi)&&((a.fLo==b.fLo)&&true))):=fun a b=>(FitE.st underlying27 rfl held27 (FitF.cons (x:=(.bool a.fV6)) (y:=(.bool b.fV6)) (by decide) rfl tyS4 ⟨rfl,rfl⟩ ⟨rfl,rfl⟩ (FitE.bool (h:=0) a.fV6 b.fV6 underlying4) (FitF.cons (x:=(.int .u64 a.fHi)) (y:=(.int .u64 b.fHi)) (by decide) rfl tyS25 ⟨rfl,rfl⟩ ⟨rfl,rfl⟩ (FitE.int (h:=0) a.fHi b.fHi underlying25) (FitF.cons (x:=(.int .u64 a.fLo)) (y:=(.int .u64 b.fLo)) (by decide) rfl tyS25 ⟨rfl,rfl⟩ ⟨rfl,rfl⟩ (FitE.int (h:=0) a.fLo b.fLo underlying25) FitF.nil))))
theorem eqg27:Program.eqGuardType Tryz.prog (Program.depth Tryz.prog) 27=false:=by kernel_rfl
theorem fnOk51:FnOk Tryz.prog 51:=⟨by kernel_rfl⟩
theorem tyS37:TyS Tryz.prog 37 16 true:=⟨by kernel_rfl,by kernel_rfl⟩
theorem held29:Program.stoodInHeld Tryz.prog 29=false:=by kernel_rfl
theorem feq29:∀ a b:A2,FitE Tryz.prog 3 29 (C4 a) (C4 b) (((a.fAddr.fV6==b.fAddr.fV6)&&((a.fAddr.fHi==b.fAddr.fHi)&&((a.fAddr.fLo==b.fAddr.fLo)&&true)))&&((a.fLen==b.fLen)&&true)):=fun a b=>(FitE.st underlying29 rfl held29 (FitF.cons (x:=(D2 a.fAddr)) (y:=(D2 b.fAddr)) (by decide) rfl tyS27 ⟨rfl,rfl⟩ ⟨rfl,rfl⟩ (FitE.st underlying27 rfl held27 (FitF.cons (x:=(.bool a.fAddr.fV6)) (y:=(.bool b.fAddr.fV6)) (by decide) rfl tyS4 ⟨rfl,rfl⟩ ⟨rfl,rfl⟩ (FitE.bool (h:=0) a.fAddr.fV6 b.fAddr.fV6 underlying4) (FitF.cons (x:=(.int .u64 a.fAddr.fHi)) (y:=(.int .u64 b.fAddr.fHi)) (by decide) rfl tyS25 ⟨rfl,rfl⟩ ⟨rfl,rfl⟩ (FitE.int (h:=0) a.fAddr.fHi b.fAddr.fHi underlying25) (FitF.cons (x:=(.int .u64 a.fAddr.fLo)) (y:=(.int .u64 b.fAddr.fLo)) (by decide) rfl tyS25 ⟨rfl,rfl⟩ ⟨rfl,rfl⟩ (FitE.int (h:=0) a.fAddr.fLo b.fAddr.fLo underlying25) FitF.nil)))) (FitF.cons (x:=(.int .i64 a.fLen)) (y:=(.int .i64 b.fLen)) (by decide) rfl tyS3 ⟨rfl,rfl⟩ ⟨rfl,rfl⟩ (FitE.int (h:=1) a.fLen b.fLen underlying3) FitF.nil)))
theorem eqg29:Program.eqGuardType Tryz.prog (Program.depth Tryz.prog) 29=false:=by kernel_rfl
theorem tyS35:TyS Tryz.prog 35 11 true:=⟨by kernel_rfl,by kernel_rfl⟩
theorem tyZD29:TyZ Tryz.prog 29 (.d (.st [(.st [(.bool false),(.int .u64 0),(.int .u64 0)]),(.int .i64 0)])):=⟨by kernel_rfl,fun w=>by kernel_rfl⟩
theorem tyZ61:TyZ Tryz.prog 61 (.st [.nils,(.st [(.d (.int .i64 0)),.nils,(.d (.st [(.bool false),(.int .u64 0),(.int .u64 0)])),(.d (.int .i64 0)),(.d (.int .i64 0)),(.d (.int .i64 0)),.nils,.nils,.nils]),.nils]):=⟨by kernel_rfl,fun w=>by kernel_rfl⟩
theorem tyZ35:TyZ Tryz.prog 35 (.st [(.d (.int .i64 0)),.nils,(.d (.st [(.bool false),(.int .u64 0),(.int .u64 0)])),(.d (.int .i64 0)),(.d (.int .i64 0)),(.d (.int .i64 0)),.nils,.nils,.nils]):=⟨by kernel_rfl,fun w=>by kernel_rfl⟩
theorem tyS30:TyS Tryz.prog 30 1 false:=⟨by kernel_rfl,by kernel_rfl⟩
theorem tyS33:TyS Tryz.prog 33 1 false:=⟨by kernel_rfl,by kernel_rfl⟩
theorem tyS66:TyS Tryz.prog 66 2 true:=⟨by kernel_rfl,by kernel_rfl⟩
theorem tyZ66:TyZ Tryz.prog 66 (.st [(.d (.bool false)),.nils]):=⟨by kernel_rfl,fun w=>by kernel_rfl⟩
theorem tyS23:TyS Tryz.prog 23 1 false:=⟨by kernel_rfl,by kernel_rfl⟩
theorem tyE3:TyE Tryz.prog 3 1 8:=⟨by kernel_rfl,by decide⟩
theorem fnOk67:FnOk Tryz.prog 67:=⟨by kernel_rfl⟩
theorem tyZS66:TyZ Tryz.prog 66 (.st [(.d (.bool false)),.nils]):=⟨by kernel_rfl,fun w=>by kernel_rfl⟩
theorem tyZD66:TyZ Tryz.prog 66 (.d (.st [(.bool false),(.list 1 (([]:List Int).map (eI .i64)))])):=⟨by kernel_rfl,fun w=>by kernel_rfl⟩
theorem tyE66:TyE Tryz.prog 66 2 32:=⟨by kernel_rfl,by decide⟩
theorem tyS69:TyS Tryz.prog 69 3 true:=⟨by kernel_rfl,by kernel_rfl⟩
theorem tyZ69:TyZ Tryz.prog 69 (.st [(.d (.int .i64 0)),(.d (.int .i64 0)),.nils]):=⟨by kernel_rfl,fun w=>by kernel_rfl⟩
theorem tyS67:TyS Tryz.prog 67 1 false:=⟨by kernel_rfl,by kernel_rfl⟩
theorem tyE5:TyE Tryz.prog 5 1 1:=⟨by kernel_rfl,by decide⟩
theorem fnOk68:FnOk Tryz.prog 68:=⟨by kernel_rfl⟩
theorem tyZS69:TyZ Tryz.prog 69 (.st [(.d (.int .i64 0)),(.d (.int .i64 0)),.nils]):=⟨by kernel_rfl,fun w=>by kernel_rfl⟩
theorem tyZD69:TyZ Tryz.prog 69 (.d (.st [(.int .i64 0),(.int .i64 0),(.list 1 (([]:List Int).map (eI .u8)))])):=⟨by kernel_rfl,fun w=>by kernel_rfl⟩
theorem tyE69:TyE Tryz.prog 69 3 40:=⟨by kernel_rfl,by decide⟩
theorem tyS31:TyS Tryz.prog 31 1 false:=⟨by kernel_rfl,by kernel_rfl⟩
theorem tyE98:TyE Tryz.prog 98 2 16:=⟨by kernel_rfl,by decide⟩
theorem fnOk69:FnOk Tryz.prog 69:=⟨by kernel_rfl⟩
theorem tyS32:TyS Tryz.prog 32 1 false:=⟨by kernel_rfl,by kernel_rfl⟩
theorem tyE100:TyE Tryz.prog 100 3 24:=⟨by kernel_rfl,by decide⟩
theorem fnOk70:FnOk Tryz.prog 70:=⟨by kernel_rfl⟩
theorem fnOk40:FnOk Tryz.prog 40:=⟨by kernel_rfl⟩
theorem tyE29:TyE Tryz.prog 29 4 32:=⟨by kernel_rfl,by decide⟩
theorem fnOk93:FnOk Tryz.prog 93:=⟨by kernel_rfl⟩
theorem tyZS61:TyZ Tryz.prog 61 (.st [.nils,(.st [(.d (.int .i64 0)),.nils,(.d (.st [(.bool false),(.int .u64 0),(.int .u64 0)])),(.d (.int .i64 0)),(.d (.int .i64 0)),(.d (.int .i64 0)),.nils,.nils,.nils]),.nils]):=⟨by kernel_rfl,fun w=>by kernel_rfl⟩
theorem tyS61:TyS Tryz.prog 61 13 true:=⟨by kernel_rfl,by kernel_rfl⟩
theorem tyZS35:TyZ Tryz.prog 35 (.st [(.d (.int .i64 0)),.nils,(.d (.st [(.bool false),(.int .u64 0),(.int .u64 0)])),(.d (.int .i64 0)),(.d (.int .i64 0)),(.d (.int .i64 0)),.nils,.nils,.nils]):=⟨by kernel_rfl,fun w=>by kernel_rfl⟩
theorem fnOk94:FnOk Tryz.prog 94:=⟨by kernel_rfl⟩
theorem fnOk53:FnOk Tryz.prog 53:=⟨by kernel_rfl⟩
theorem tyS59:TyS Tryz.prog 59 1 false:=⟨by kernel_rfl,by kernel_rfl⟩
theorem fnOk89:FnOk Tryz.prog 89:=⟨by kernel_rfl⟩
theorem fnOk108:FnOk Tryz.prog 108:=⟨by kernel_rfl⟩
theorem fnOk90:FnOk Tryz.prog 90:=⟨by kernel_rfl⟩
theorem fnOk109:FnOk Tryz.prog 109:=⟨by kernel_rfl⟩
theorem fnOk117:FnOk Tryz.prog 117:=⟨by kernel_rfl⟩
theorem fnOk98:FnOk Tryz.prog 98:=⟨by kernel_rfl⟩
theorem fnOk66:FnOk Tryz.prog 66:=⟨by kernel_rfl⟩
theorem tyS98:TyS Tryz.prog 98 2 true:=⟨by kernel_rfl,by kernel_rfl⟩
theorem tyZ98:TyZ Tryz.prog 98 (.d (.st [(.int .i64 0),(.int .i64 0)])):=⟨by kernel_rfl,fun w=>by kernel_rfl⟩
theorem tyZD3:TyZ Tryz.prog 3 (.d (.int .i64 0)):=⟨by kernel_rfl,fun w=>by kernel_rfl⟩
theorem fnOk152:FnOk Tryz.prog 152:=⟨by kernel_rfl⟩
theorem fnOk153:FnOk Tryz.prog 153:=⟨by kernel_rfl⟩
theorem fnOk141:FnOk Tryz.prog 141:=⟨by kernel_rfl⟩
theorem fnOk126:FnOk Tryz.prog 126:=⟨by kernel_rfl⟩
theorem fnOk97:FnOk Tryz.prog 97:=⟨by kernel_rfl⟩
theorem fnOk56:FnOk Tryz.prog 56:=⟨by kernel_rfl⟩
theorem fnOk54:FnOk Tryz.prog 54:=⟨by kernel_rfl⟩
theorem fnOk127:FnOk Tryz.prog 127:=⟨by kernel_rfl⟩
theorem fnOk125:FnOk Tryz.prog 125:=⟨by kernel_rfl⟩
theorem fnOk118:FnOk Tryz.prog 118:=⟨by kernel_rfl⟩
theorem tyS100:TyS Tryz.prog 100 3 true:=⟨by kernel_rfl,by kernel_rfl⟩
theorem tyZ100:TyZ Tryz.prog 100 (.d (.st [(.int .i64 0),(.int .i64 0),(.int .i64 0)])):=⟨by kernel_rfl,fun w=>by kernel_rfl⟩
theorem fnOk129:FnOk Tryz.prog 129:=⟨by kernel_rfl⟩
theorem fnOk130:FnOk Tryz.prog 130:=⟨by kernel_rfl⟩
theorem fnOk128:FnOk Tryz.prog 128:=⟨by kernel_rfl⟩
theorem fnOk119:FnOk Tryz.prog 119:=⟨by kernel_rfl⟩
theorem tyS164:TyS Tryz.prog 164 1 false:=⟨by kernel_rfl,by kernel_rfl⟩
theorem keyEq3:KeyEq Tryz.prog 3 (eI .i64) keq3:=⟨⟨1,by decide,fun a b=>(FitE.int (h:=0) a b underlying3)⟩,fun a b h=>by
 unfold keq3 at h
 simp at h
 simp [eI,h]⟩
theorem tyU164:Tryz.prog.underlying 164=some (.map 3 3):=by kernel_rfl
theorem fnOk131:FnOk Tryz.prog 131:=⟨by kernel_rfl⟩
theorem fnOk120:FnOk Tryz.prog 120:=⟨by kernel_rfl⟩
theorem fnOk111:FnOk Tryz.prog 111:=⟨by kernel_rfl⟩
theorem B5q:∀ a:D0,FitE Tryz.prog 2 27 (D2 a) (.st [(.bool false),(.int .u64 0),(.int .u64 0)]) ((a.fV6==false)&&((a.fHi==0)&&((a.fLo==0)&&true))):=fun a=>(FitE.st underlying27 rfl held27 (FitF.cons (x:=(.bool a.fV6)) (y:=(.bool false)) (by decide) rfl tyS4 ⟨rfl,rfl⟩ ⟨rfl,rfl⟩ (FitE.bool (h:=0) a.fV6 false underlying4) (FitF.cons (x:=(.int .u64 a.fHi)) (y:=(.int .u64 0)) (by decide) rfl tyS25 ⟨rfl,rfl⟩ ⟨rfl,rfl⟩ (FitE.int (h:=0) a.fHi 0 underlying25) (FitF.cons (x:=(.int .u64 a.fLo)) (y:=(.int .u64 0)) (by decide) rfl tyS25 ⟨rfl,rfl⟩ ⟨rfl,rfl⟩ (FitE.int (h:=0) a.fLo 0 underlying25) FitF.nil))))
theorem fnOk110:FnOk Tryz.prog 110:=⟨by kernel_rfl⟩
theorem fnOk91:FnOk Tryz.prog 91:=⟨by kernel_rfl⟩
theorem tyZ33:TyZ Tryz.prog 33 .nils:=⟨by kernel_rfl,fun w=>by kernel_rfl⟩
theorem tyS5:TyS Tryz.prog 5 1 false:=⟨by kernel_rfl,by kernel_rfl⟩
theorem tyZD5:TyZ Tryz.prog 5 (.d (.int .u8 0)):=⟨by kernel_rfl,fun w=>by kernel_rfl⟩
theorem fnOk132:FnOk Tryz.prog 132:=⟨by kernel_rfl⟩
theorem fnOk134:FnOk Tryz.prog 134:=⟨by kernel_rfl⟩
theorem fnOk133:FnOk Tryz.prog 133:=⟨by kernel_rfl⟩
theorem fnOk122:FnOk Tryz.prog 122:=⟨by kernel_rfl⟩
theorem fnOk135:FnOk Tryz.prog 135:=⟨by kernel_rfl⟩
theorem fnOk136:FnOk Tryz.prog 136:=⟨by kernel_rfl⟩
theorem fnOk137:FnOk Tryz.prog 137:=⟨by kernel_rfl⟩
theorem fnOk138:FnOk Tryz.prog 138:=⟨by kernel_rfl⟩
theorem fnOk123:FnOk Tryz.prog 123:=⟨by kernel_rfl⟩
theorem fnOk121:FnOk Tryz.prog 121:=⟨by kernel_rfl⟩
theorem fnOk114:FnOk Tryz.prog 114:=⟨by kernel_rfl⟩
theorem fnOk124:FnOk Tryz.prog 124:=⟨by kernel_rfl⟩
theorem fnOk113:FnOk Tryz.prog 113:=⟨by kernel_rfl⟩
theorem fnOk112:FnOk Tryz.prog 112:=⟨by kernel_rfl⟩
theorem fnOk115:FnOk Tryz.prog 115:=⟨by kernel_rfl⟩
theorem fnOk92:FnOk Tryz.prog 92:=⟨by kernel_rfl⟩
theorem fnOk52:FnOk Tryz.prog 52:=⟨by kernel_rfl⟩
theorem fnOk28:FnOk Tryz.prog 28:=⟨by kernel_rfl⟩
theorem fnOk95:FnOk Tryz.prog 95:=⟨by kernel_rfl⟩
theorem fnOk116:FnOk Tryz.prog 116:=⟨by kernel_rfl⟩
theorem fnOk96:FnOk Tryz.prog 96:=⟨by kernel_rfl⟩
theorem fnOk55:FnOk Tryz.prog 55:=⟨by kernel_rfl⟩
theorem fnOk29:FnOk Tryz.prog 29:=⟨by kernel_rfl⟩
theorem tyS79:TyS Tryz.prog 79 12 true:=⟨by kernel_rfl,by kernel_rfl⟩
theorem fnOk58:FnOk Tryz.prog 58:=⟨by kernel_rfl⟩
theorem fnOk57:FnOk Tryz.prog 57:=⟨by kernel_rfl⟩
theorem fnOk61:FnOk Tryz.prog 61:=⟨by kernel_rfl⟩
theorem held98:Program.stoodInHeld Tryz.prog 98=false:=by kernel_rfl
theorem feq98:∀ a b:A9,FitE Tryz.prog 2 98 (C0 a) (C0 b) ((a.fA==b.fA)&&((a.fB==b.fB)&&true)):=fun a b=>(FitE.st underlying98 rfl held98 (FitF.cons (x:=(.int .i64 a.fA)) (y:=(.int .i64 b.fA)) (by decide) rfl tyS3 ⟨rfl,rfl⟩ ⟨rfl,rfl⟩ (FitE.int (h:=0) a.fA b.fA underlying3) (FitF.cons (x:=(.int .i64 a.fB)) (y:=(.int .i64 b.fB)) (by decide) rfl tyS3 ⟨rfl,rfl⟩ ⟨rfl,rfl⟩ (FitE.int (h:=0) a.fB b.fB underlying3) FitF.nil)))
theorem eqg98:Program.eqGuardType Tryz.prog (Program.depth Tryz.prog) 98=false:=by kernel_rfl
theorem fnOk62:FnOk Tryz.prog 62:=⟨by kernel_rfl⟩
theorem held100:Program.stoodInHeld Tryz.prog 100=false:=by kernel_rfl
theorem feq100:∀ a b:E0,FitE Tryz.prog 2 100 (D9 a) (D9 b) ((a.fA==b.fA)&&((a.fB==b.fB)&&((a.fC==b.fC)&&true))):=fun a b=>(FitE.st underlying100 rfl held100 (FitF.cons (x:=(.int .i64 a.fA)) (y:=(.int .i64 b.fA)) (by decide) rfl tyS3 ⟨rfl,rfl⟩ ⟨rfl,rfl⟩ (FitE.int (h:=0) a.fA b.fA underlying3) (FitF.cons (x:=(.int .i64 a.fB)) (y:=(.int .i64 b.fB)) (by decide) rfl tyS3 ⟨rfl,rfl⟩ ⟨rfl,rfl⟩ (FitE.int (h:=0) a.fB b.fB underlying3) (FitF.cons (x:=(.int .i64 a.fC)) (y:=(.int .i64 b.fC)) (by decide) rfl tyS3 ⟨rfl,rfl⟩ ⟨rfl,rfl⟩ (FitE.int (h:=0) a.fC b.fC underlying3) FitF.nil))))
theorem eqg100:Program.eqGuardType Tryz.prog (Program.depth Tryz.prog) 100=false:=by kernel_rfl
theorem fnOk63:FnOk Tryz.prog 63:=⟨by kernel_rfl⟩
theorem fnOk60:FnOk Tryz.prog 60:=⟨by kernel_rfl⟩
theorem fnOk59:FnOk Tryz.prog 59:=⟨by kernel_rfl⟩
theorem fnOk64:FnOk Tryz.prog 64:=⟨by kernel_rfl⟩
theorem fnOk32:FnOk Tryz.prog 32:=⟨by kernel_rfl⟩
theorem fnOk31:FnOk Tryz.prog 31:=⟨by kernel_rfl⟩
theorem fnOk30:FnOk Tryz.prog 30:=⟨by kernel_rfl⟩
theorem tyZS79:TyZ Tryz.prog 79 (.st [(.st [(.d (.int .i64 0)),.nils,(.d (.st [(.bool false),(.int .u64 0),(.int .u64 0)])),(.d (.int .i64 0)),(.d (.int .i64 0)),(.d (.int .i64 0)),.nils,.nils,.nils]),.nils]):=⟨by kernel_rfl,fun w=>by kernel_rfl⟩
theorem tyZD79:TyZ Tryz.prog 79 (.d (.st [(.st [(.int .i64 0),(.list 2 (([]:List B2).map C7)),(.st [(.bool false),(.int .u64 0),(.int .u64 0)]),(.int .i64 0),(.int .i64 0),(.int .i64 0),(.list 2 (([]:List A9).map C0)),(.list 3 (([]:List E0).map D9)),(.list 3 (([]:List A1).map A7))]),(.list 4 (([]:List A2).map C4))])):=⟨by kernel_rfl,fun w=>by kernel_rfl⟩
theorem tyE79:TyE Tryz.prog 79 12 176:=⟨by kernel_rfl,by decide⟩
theorem tyZD61:TyZ Tryz.prog 61 (.d (.st [(.list 4 (([]:List A2).map C4)),(.st [(.int .i64 0),(.list 2 (([]:List B2).map C7)),(.st [(.bool false),(.int .u64 0),(.int .u64 0)]),(.int .i64 0),(.int .i64 0),(.int .i64 0),(.list 2 (([]:List A9).map C0)),(.list 3 (([]:List E0).map D9)),(.list 3 (([]:List A1).map A7))]),(.list 4 (([]:List A2).map C4))])):=⟨by kernel_rfl,fun w=>by kernel_rfl⟩
theorem tyE61:TyE Tryz.prog 61 13 200:=⟨by kernel_rfl,by decide⟩
theorem fnOk33:FnOk Tryz.prog 33:=⟨by kernel_rfl⟩
theorem fnOk12:FnOk Tryz.prog 12:=⟨by kernel_rfl⟩
theorem tyE39:TyE Tryz.prog 39 22 240:=⟨by kernel_rfl,by decide⟩
theorem fnOk39:FnOk Tryz.prog 39:=⟨by kernel_rfl⟩
theorem tyZS37:TyZ Tryz.prog 37 (.st [(.d (.st [(.st [(.bool false),(.int .u64 0),(.int .u64 0)]),(.int .i64 0)])),(.d (.int .i64 0)),(.st [(.d (.int .i64 0)),.nils,(.d (.st [(.bool false),(.int .u64 0),(.int .u64 0)])),(.d (.int .i64 0)),(.d (.int .i64 0)),(.d (.int .i64 0)),.nils,.nils,.nils])]):=⟨by kernel_rfl,fun w=>by kernel_rfl⟩
theorem fnOk16:FnOk Tryz.prog 16:=⟨by kernel_rfl⟩
theorem B5r:∀ a:A2,FitE Tryz.prog 3 29 (C4 a) (.st [(.st [(.bool false),(.int .u64 0),(.int .u64 184549376)]),(.int .i64 8)]) (((a.fAddr.fV6==false)&&((a.fAddr.fHi==0)&&((a.fAddr.fLo==184549376)&&true)))&&((a.fLen==8)&&true)):=fun a=>(FitE.st underlying29 rfl held29 (FitF.cons (x:=(D2 a.fAddr)) (y:=(.st [(.bool false),(.int .u64 0),(.int .u64 184549376)])) (by decide) rfl tyS27 ⟨rfl,rfl⟩ ⟨rfl,rfl⟩ (FitE.st underlying27 rfl held27 (FitF.cons (x:=(.bool a.fAddr.fV6)) (y:=(.bool false)) (by decide) rfl tyS4 ⟨rfl,rfl⟩ ⟨rfl,rfl⟩ (FitE.bool (h:=0) a.fAddr.fV6 false underlying4) (FitF.cons (x:=(.int .u64 a.fAddr.fHi)) (y:=(.int .u64 0)) (by decide) rfl tyS25 ⟨rfl,rfl⟩ ⟨rfl,rfl⟩ (FitE.int (h:=0) a.fAddr.fHi 0 underlying25) (FitF.cons (x:=(.int .u64 a.fAddr.fLo)) (y:=(.int .u64 184549376)) (by decide) rfl tyS25 ⟨rfl,rfl⟩ ⟨rfl,rfl⟩ (FitE.int (h:=0) a.fAddr.fLo 184549376 underlying25) FitF.nil)))) (FitF.cons (x:=(.int .i64 a.fLen)) (y:=(.int .i64 8)) (by decide) rfl tyS3 ⟨rfl,rfl⟩ ⟨rfl,rfl⟩ (FitE.int (h:=1) a.fLen 8 underlying3) FitF.nil)))
theorem fnOk7:FnOk Tryz.prog 7:=⟨by kernel_rfl⟩
theorem tyZS71:TyZ Tryz.prog 71 (.st [.nils,(.d (.int .i64 0))]):=⟨by kernel_rfl,fun w=>by kernel_rfl⟩
theorem fnOk9:FnOk Tryz.prog 9:=⟨by kernel_rfl⟩
theorem fnOk11:FnOk Tryz.prog 11:=⟨by kernel_rfl⟩
theorem fnOk24:FnOk Tryz.prog 24:=⟨by kernel_rfl⟩
theorem fnOk25:FnOk Tryz.prog 25:=⟨by kernel_rfl⟩
theorem fnOk65:FnOk Tryz.prog 65:=⟨by kernel_rfl⟩
theorem fnOk35:FnOk Tryz.prog 35:=⟨by kernel_rfl⟩
theorem fnOk47:FnOk Tryz.prog 47:=⟨by kernel_rfl⟩
theorem tyU67:Tryz.prog.underlying 67=some (.slice 5):=by kernel_rfl
theorem fnOk22:FnOk Tryz.prog 22:=⟨by kernel_rfl⟩
theorem fnOk37:FnOk Tryz.prog 37:=⟨by kernel_rfl⟩
theorem fnOk78:FnOk Tryz.prog 78:=⟨by kernel_rfl⟩
theorem fnOk99:FnOk Tryz.prog 99:=⟨by kernel_rfl⟩
theorem fnOk84:FnOk Tryz.prog 84:=⟨by kernel_rfl⟩
theorem fnOk100:FnOk Tryz.prog 100:=⟨by kernel_rfl⟩
theorem fnOk72:FnOk Tryz.prog 72:=⟨by kernel_rfl⟩
theorem fnOk42:FnOk Tryz.prog 42:=⟨by kernel_rfl⟩
theorem fnOk73:FnOk Tryz.prog 73:=⟨by kernel_rfl⟩
theorem fnOk74:FnOk Tryz.prog 74:=⟨by kernel_rfl⟩
theorem fnOk75:FnOk Tryz.prog 75:=⟨by kernel_rfl⟩
theorem fnOk76:FnOk Tryz.prog 76:=⟨by kernel_rfl⟩
theorem fnOk43:FnOk Tryz.prog 43:=⟨by kernel_rfl⟩
theorem fnOk101:FnOk Tryz.prog 101:=⟨by kernel_rfl⟩
theorem fnOk77:FnOk Tryz.prog 77:=⟨by kernel_rfl⟩
theorem fnOk71:FnOk Tryz.prog 71:=⟨by kernel_rfl⟩
theorem fnOk102:FnOk Tryz.prog 102:=⟨by kernel_rfl⟩
theorem fnOk103:FnOk Tryz.prog 103:=⟨by kernel_rfl⟩
theorem fnOk79:FnOk Tryz.prog 79:=⟨by kernel_rfl⟩
theorem fnOk104:FnOk Tryz.prog 104:=⟨by kernel_rfl⟩
theorem fnOk105:FnOk Tryz.prog 105:=⟨by kernel_rfl⟩
theorem fnOk80:FnOk Tryz.prog 80:=⟨by kernel_rfl⟩
theorem fnOk44:FnOk Tryz.prog 44:=⟨by kernel_rfl⟩
theorem tyU147:Tryz.prog.underlying 147=some (.map 3 67):=by kernel_rfl
theorem fnOk106:FnOk Tryz.prog 106:=⟨by kernel_rfl⟩
theorem tyZ67:TyZ Tryz.prog 67 .nils:=⟨by kernel_rfl,fun w=>by kernel_rfl⟩
theorem tyZD67:TyZ Tryz.prog 67 (.d (.list 1 (([]:List Int).map (eI .u8)))):=⟨by kernel_rfl,fun w=>by kernel_rfl⟩
theorem fnOk81:FnOk Tryz.prog 81:=⟨by kernel_rfl⟩
theorem fnOk82:FnOk Tryz.prog 82:=⟨by kernel_rfl⟩
theorem fnOk83:FnOk Tryz.prog 83:=⟨by kernel_rfl⟩
theorem fnOk85:FnOk Tryz.prog 85:=⟨by kernel_rfl⟩
theorem fnOk45:FnOk Tryz.prog 45:=⟨by kernel_rfl⟩
theorem fnOk20:FnOk Tryz.prog 20:=⟨by kernel_rfl⟩
theorem fnOk34:FnOk Tryz.prog 34:=⟨by kernel_rfl⟩
theorem fnOk36:FnOk Tryz.prog 36:=⟨by kernel_rfl⟩
theorem tyE4:TyE Tryz.prog 4 1 1:=⟨by kernel_rfl,by decide⟩
theorem tyZD4:TyZ Tryz.prog 4 (.d (.bool false)):=⟨by kernel_rfl,fun w=>by kernel_rfl⟩
theorem fnOk13:FnOk Tryz.prog 13:=⟨by kernel_rfl⟩
theorem fnOk38:FnOk Tryz.prog 38:=⟨by kernel_rfl⟩
theorem fnOk14:FnOk Tryz.prog 14:=⟨by kernel_rfl⟩
theorem fnOk18:FnOk Tryz.prog 18:=⟨by kernel_rfl⟩
instance iS29:TS Tryz.prog 29 4 true:=⟨tyS29⟩
instance iS39:TS Tryz.prog 39 22 true:=⟨tyS39⟩
instance iS27:TS Tryz.prog 27 3 true:=⟨tyS27⟩
instance iS4:TS Tryz.prog 4 1 false:=⟨tyS4⟩
instance iS25:TS Tryz.prog 25 1 false:=⟨tyS25⟩
instance iS3:TS Tryz.prog 3 1 false:=⟨tyS3⟩
instance iS37:TS Tryz.prog 37 16 true:=⟨tyS37⟩
instance iS35:TS Tryz.prog 35 11 true:=⟨tyS35⟩
instance iS30:TS Tryz.prog 30 1 false:=⟨tyS30⟩
instance iS33:TS Tryz.prog 33 1 false:=⟨tyS33⟩
instance iS66:TS Tryz.prog 66 2 true:=⟨tyS66⟩
instance iS23:TS Tryz.prog 23 1 false:=⟨tyS23⟩
instance iS69:TS Tryz.prog 69 3 true:=⟨tyS69⟩
instance iS67:TS Tryz.prog 67 1 false:=⟨tyS67⟩
instance iS31:TS Tryz.prog 31 1 false:=⟨tyS31⟩
instance iS32:TS Tryz.prog 32 1 false:=⟨tyS32⟩
instance iS61:TS Tryz.prog 61 13 true:=⟨tyS61⟩
instance iS59:TS Tryz.prog 59 1 false:=⟨tyS59⟩
instance iS98:TS Tryz.prog 98 2 true:=⟨tyS98⟩
instance iS100:TS Tryz.prog 100 3 true:=⟨tyS100⟩
instance iS164:TS Tryz.prog 164 1 false:=⟨tyS164⟩
instance iS5:TS Tryz.prog 5 1 false:=⟨tyS5⟩
instance iS79:TS Tryz.prog 79 12 true:=⟨tyS79⟩
instance iZ29:TZ Tryz.prog 29 (.d (.st [(.st [(.bool false),(.int .u64 0),(.int .u64 0)]),(.int .i64 0)])):=⟨tyZ29⟩
instance iZ79:TZ Tryz.prog 79 (.st [(.st [(.d (.int .i64 0)),.nils,(.d (.st [(.bool false),(.int .u64 0),(.int .u64 0)])),(.d (.int .i64 0)),(.d (.int .i64 0)),(.d (.int .i64 0)),.nils,.nils,.nils]),.nils]):=⟨tyZ79⟩
instance iZ39:TZ Tryz.prog 39 (.st [(.d (.int .i64 0)),(.d (.st [(.st [(.bool false),(.int .u64 0),(.int .u64 0)]),(.int .i64 0)])),(.d (.bool false)),(.st [(.d (.st [(.st [(.bool false),(.int .u64 0),(.int .u64 0)]),(.int .i64 0)])),(.d (.int .i64 0)),(.st [(.d (.int .i64 0)),.nils,(.d (.st [(.bool false),(.int .u64 0),(.int .u64 0)])),(.d (.int .i64 0)),(.d (.int .i64 0)),(.d (.int .i64 0)),.nils,.nils,.nils])])]):=⟨tyZ39⟩
instance iZ27:TZ Tryz.prog 27 (.d (.st [(.bool false),(.int .u64 0),(.int .u64 0)])):=⟨tyZ27⟩
instance iZ61:TZ Tryz.prog 61 (.st [.nils,(.st [(.d (.int .i64 0)),.nils,(.d (.st [(.bool false),(.int .u64 0),(.int .u64 0)])),(.d (.int .i64 0)),(.d (.int .i64 0)),(.d (.int .i64 0)),.nils,.nils,.nils]),.nils]):=⟨tyZ61⟩
instance iZ35:TZ Tryz.prog 35 (.st [(.d (.int .i64 0)),.nils,(.d (.st [(.bool false),(.int .u64 0),(.int .u64 0)])),(.d (.int .i64 0)),(.d (.int .i64 0)),(.d (.int .i64 0)),.nils,.nils,.nils]):=⟨tyZ35⟩
instance iZ66:TZ Tryz.prog 66 (.st [(.d (.bool false)),.nils]):=⟨tyZ66⟩
instance iZ69:TZ Tryz.prog 69 (.st [(.d (.int .i64 0)),(.d (.int .i64 0)),.nils]):=⟨tyZ69⟩
instance iZ98:TZ Tryz.prog 98 (.d (.st [(.int .i64 0),(.int .i64 0)])):=⟨tyZ98⟩
instance iZ100:TZ Tryz.prog 100 (.d (.st [(.int .i64 0),(.int .i64 0),(.int .i64 0)])):=⟨tyZ100⟩
instance iZ33:TZ Tryz.prog 33 .nils:=⟨tyZ33⟩
instance iZ67:TZ Tryz.prog 67 .nils:=⟨tyZ67⟩
instance iL27:TZL Tryz.prog 27 [(.d (.bool false)),(.d (.int .u64 0)),(.d (.int .u64 0))]:=⟨tyZS27⟩
instance iP27:TP Tryz.prog 27 [(0,1),(1,1),(2,1)]:=⟨⟨_,underlying27,fun w=>by kernel_rfl⟩⟩
instance iL29:TZL Tryz.prog 29 [(.d (.st [(.bool false),(.int .u64 0),(.int .u64 0)])),(.d (.int .i64 0))]:=⟨tyZS29⟩
instance iP29:TP Tryz.prog 29 [(0,3),(3,1)]:=⟨⟨_,underlying29,fun w=>by kernel_rfl⟩⟩
instance iL39:TZL Tryz.prog 39 [(.d (.int .i64 0)),(.d (.st [(.st [(.bool false),(.int .u64 0),(.int .u64 0)]),(.int .i64 0)])),(.d (.bool false)),(.st [(.d (.st [(.st [(.bool false),(.int .u64 0),(.int .u64 0)]),(.int .i64 0)])),(.d (.int .i64 0)),(.st [(.d (.int .i64 0)),.nils,(.d (.st [(.bool false),(.int .u64 0),(.int .u64 0)])),(.d (.int .i64 0)),(.d (.int .i64 0)),(.d (.int .i64 0)),.nils,.nils,.nils])])]:=⟨tyZS39⟩
instance iP39:TP Tryz.prog 39 [(0,1),(1,4),(5,1),(6,16)]:=⟨⟨_,underlying39,fun w=>by kernel_rfl⟩⟩
instance iL66:TZL Tryz.prog 66 [(.d (.bool false)),.nils]:=⟨tyZS66⟩
instance iP66:TP Tryz.prog 66 [(0,1),(1,1)]:=⟨⟨_,underlying66,fun w=>by kernel_rfl⟩⟩
instance iL69:TZL Tryz.prog 69 [(.d (.int .i64 0)),(.d (.int .i64 0)),.nils]:=⟨tyZS69⟩
instance iP69:TP Tryz.prog 69 [(0,1),(1,1),(2,1)]:=⟨⟨_,underlying69,fun w=>by kernel_rfl⟩⟩
instance iL61:TZL Tryz.prog 61 [.nils,(.st [(.d (.int .i64 0)),.nils,(.d (.st [(.bool false),(.int .u64 0),(.int .u64 0)])),(.d (.int .i64 0)),(.d (.int .i64 0)),(.d (.int .i64 0)),.nils,.nils,.nils]),.nils]:=⟨tyZS61⟩
instance iP61:TP Tryz.prog 61 [(0,1),(1,11),(12,1)]:=⟨⟨_,underlying61,fun w=>by kernel_rfl⟩⟩
instance iL35:TZL Tryz.prog 35 [(.d (.int .i64 0)),.nils,(.d (.st [(.bool false),(.int .u64 0),(.int .u64 0)])),(.d (.int .i64 0)),(.d (.int .i64 0)),(.d (.int .i64 0)),.nils,.nils,.nils]:=⟨tyZS35⟩
instance iP35:TP Tryz.prog 35 [(0,1),(1,1),(2,3),(5,1),(6,1),(7,1),(8,1),(9,1),(10,1)]:=⟨⟨_,underlying35,fun w=>by kernel_rfl⟩⟩
instance iL79:TZL Tryz.prog 79 [(.st [(.d (.int .i64 0)),.nils,(.d (.st [(.bool false),(.int .u64 0),(.int .u64 0)])),(.d (.int .i64 0)),(.d (.int .i64 0)),(.d (.int .i64 0)),.nils,.nils,.nils]),.nils]:=⟨tyZS79⟩
instance iP79:TP Tryz.prog 79 [(0,11),(11,1)]:=⟨⟨_,underlying79,fun w=>by kernel_rfl⟩⟩
instance iL37:TZL Tryz.prog 37 [(.d (.st [(.st [(.bool false),(.int .u64 0),(.int .u64 0)]),(.int .i64 0)])),(.d (.int .i64 0)),(.st [(.d (.int .i64 0)),.nils,(.d (.st [(.bool false),(.int .u64 0),(.int .u64 0)])),(.d (.int .i64 0)),(.d (.int .i64 0)),(.d (.int .i64 0)),.nils,.nils,.nils])]:=⟨tyZS37⟩
instance iP37:TP Tryz.prog 37 [(0,4),(4,1),(5,11)]:=⟨⟨_,underlying37,fun w=>by kernel_rfl⟩⟩
instance iL71:TZL Tryz.prog 71 [.nils,(.d (.int .i64 0))]:=⟨tyZS71⟩
instance iP71:TP Tryz.prog 71 [(0,1),(1,1)]:=⟨⟨_,underlying71,fun w=>by kernel_rfl⟩⟩
instance iD39:TZD Tryz.prog 39 (.st [(.int .i64 0),(.st [(.st [(.bool false),(.int .u64 0),(.int .u64 0)]),(.int .i64 0)]),(.bool false),(.st [(.st [(.st [(.bool false),(.int .u64 0),(.int .u64 0)]),(.int .i64 0)]),(.int .i64 0),(.st [(.int .i64 0),(.list 2 (([]:List B2).map C7)),(.st [(.bool false),(.int .u64 0),(.int .u64 0)]),(.int .i64 0),(.int .i64 0),(.int .i64 0),(.list 2 (([]:List A9).map C0)),(.list 3 (([]:List E0).map D9)),(.list 3 (([]:List A1).map A7))])])]):=⟨tyZD39⟩
instance iD29:TZD Tryz.prog 29 (.st [(.st [(.bool false),(.int .u64 0),(.int .u64 0)]),(.int .i64 0)]):=⟨tyZD29⟩
instance iD66:TZD Tryz.prog 66 (.st [(.bool false),(.list 1 (([]:List Int).map (eI .i64)))]):=⟨tyZD66⟩
instance iD69:TZD Tryz.prog 69 (.st [(.int .i64 0),(.int .i64 0),(.list 1 (([]:List Int).map (eI .u8)))]):=⟨tyZD69⟩
instance iD3:TZD Tryz.prog 3 (.int .i64 0):=⟨tyZD3⟩
instance iD5:TZD Tryz.prog 5 (.int .u8 0):=⟨tyZD5⟩
instance iD79:TZD Tryz.prog 79 (.st [(.st [(.int .i64 0),(.list 2 (([]:List B2).map C7)),(.st [(.bool false),(.int .u64 0),(.int .u64 0)]),(.int .i64 0),(.int .i64 0),(.int .i64 0),(.list 2 (([]:List A9).map C0)),(.list 3 (([]:List E0).map D9)),(.list 3 (([]:List A1).map A7))]),(.list 4 (([]:List A2).map C4))]):=⟨tyZD79⟩
instance iD61:TZD Tryz.prog 61 (.st [(.list 4 (([]:List A2).map C4)),(.st [(.int .i64 0),(.list 2 (([]:List B2).map C7)),(.st [(.bool false),(.int .u64 0),(.int .u64 0)]),(.int .i64 0),(.int .i64 0),(.int .i64 0),(.list 2 (([]:List A9).map C0)),(.list 3 (([]:List E0).map D9)),(.list 3 (([]:List A1).map A7))]),(.list 4 (([]:List A2).map C4))]):=⟨tyZD61⟩
instance iD67:TZD Tryz.prog 67 (.list 1 (([]:List Int).map (eI .u8))):=⟨tyZD67⟩
instance iD4:TZD Tryz.prog 4 (.bool false):=⟨tyZD4⟩
instance iE3:TE Tryz.prog 3 1 8:=⟨tyE3⟩
instance iE66:TE Tryz.prog 66 2 32:=⟨tyE66⟩
instance iE5:TE Tryz.prog 5 1 1:=⟨tyE5⟩
instance iE69:TE Tryz.prog 69 3 40:=⟨tyE69⟩
instance iE98:TE Tryz.prog 98 2 16:=⟨tyE98⟩
instance iE100:TE Tryz.prog 100 3 24:=⟨tyE100⟩
instance iE29:TE Tryz.prog 29 4 32:=⟨tyE29⟩
instance iE79:TE Tryz.prog 79 12 176:=⟨tyE79⟩
instance iE61:TE Tryz.prog 61 13 200:=⟨tyE61⟩
instance iE39:TE Tryz.prog 39 22 240:=⟨tyE39⟩
instance iE4:TE Tryz.prog 4 1 1:=⟨tyE4⟩
instance iQ27 (a b:D0):FE Tryz.prog 27 (D2 a) (D2 b) ((a.fV6==b.fV6)&&((a.fHi==b.fHi)&&((a.fLo==b.fLo)&&true))):=⟨⟨2,rfl,feq27 a b⟩,eqg27,rfl,rfl⟩
instance iQ29 (a b:A2):FE Tryz.prog 29 (C4 a) (C4 b) (((a.fAddr.fV6==b.fAddr.fV6)&&((a.fAddr.fHi==b.fAddr.fHi)&&((a.fAddr.fLo==b.fAddr.fLo)&&true)))&&((a.fLen==b.fLen)&&true)):=⟨⟨3,rfl,feq29 a b⟩,eqg29,rfl,rfl⟩
instance iQ98 (a b:A9):FE Tryz.prog 98 (C0 a) (C0 b) ((a.fA==b.fA)&&((a.fB==b.fB)&&true)):=⟨⟨2,rfl,feq98 a b⟩,eqg98,rfl,rfl⟩
instance iQ100 (a b:E0):FE Tryz.prog 100 (D9 a) (D9 b) ((a.fA==b.fA)&&((a.fB==b.fB)&&((a.fC==b.fC)&&true))):=⟨⟨2,rfl,feq100 a b⟩,eqg100,rfl,rfl⟩
instance iR27_0 (a:D0):FE Tryz.prog 27 (D2 a) (.st [(.bool false),(.int .u64 0),(.int .u64 0)]) ((a.fV6==false)&&((a.fHi==0)&&((a.fLo==0)&&true))):=⟨⟨2,rfl,B5q a⟩,eqg27,rfl,rfl⟩
instance iR29_1 (a:A2):FE Tryz.prog 29 (C4 a) (.st [(.st [(.bool false),(.int .u64 0),(.int .u64 184549376)]),(.int .i64 8)]) (((a.fAddr.fV6==false)&&((a.fAddr.fHi==0)&&((a.fAddr.fLo==184549376)&&true)))&&((a.fLen==8)&&true)):=⟨⟨3,rfl,B5r a⟩,eqg29,rfl,rfl⟩
instance iF86:FO Tryz.prog 86:=⟨fnOk86⟩
instance iF87:FO Tryz.prog 87:=⟨fnOk87⟩
instance iF107:FO Tryz.prog 107:=⟨fnOk107⟩
instance iF88:FO Tryz.prog 88:=⟨fnOk88⟩
instance iF51:FO Tryz.prog 51:=⟨fnOk51⟩
instance iF67:FO Tryz.prog 67:=⟨fnOk67⟩
instance iF68:FO Tryz.prog 68:=⟨fnOk68⟩
instance iF69:FO Tryz.prog 69:=⟨fnOk69⟩
instance iF70:FO Tryz.prog 70:=⟨fnOk70⟩
instance iF40:FO Tryz.prog 40:=⟨fnOk40⟩
instance iF93:FO Tryz.prog 93:=⟨fnOk93⟩
instance iF94:FO Tryz.prog 94:=⟨fnOk94⟩
instance iF53:FO Tryz.prog 53:=⟨fnOk53⟩
instance iF89:FO Tryz.prog 89:=⟨fnOk89⟩
instance iF108:FO Tryz.prog 108:=⟨fnOk108⟩
instance iF90:FO Tryz.prog 90:=⟨fnOk90⟩
instance iF109:FO Tryz.prog 109:=⟨fnOk109⟩
instance iF117:FO Tryz.prog 117:=⟨fnOk117⟩
instance iF98:FO Tryz.prog 98:=⟨fnOk98⟩
instance iF66:FO Tryz.prog 66:=⟨fnOk66⟩
instance iF152:FO Tryz.prog 152:=⟨fnOk152⟩
instance iF153:FO Tryz.prog 153:=⟨fnOk153⟩
instance iF141:FO Tryz.prog 141:=⟨fnOk141⟩
instance iF126:FO Tryz.prog 126:=⟨fnOk126⟩
instance iF97:FO Tryz.prog 97:=⟨fnOk97⟩
instance iF56:FO Tryz.prog 56:=⟨fnOk56⟩
instance iF54:FO Tryz.prog 54:=⟨fnOk54⟩
instance iF127:FO Tryz.prog 127:=⟨fnOk127⟩
instance iF125:FO Tryz.prog 125:=⟨fnOk125⟩
instance iF118:FO Tryz.prog 118:=⟨fnOk118⟩
instance iF129:FO Tryz.prog 129:=⟨fnOk129⟩
instance iF130:FO Tryz.prog 130:=⟨fnOk130⟩
instance iF128:FO Tryz.prog 128:=⟨fnOk128⟩
instance iF119:FO Tryz.prog 119:=⟨fnOk119⟩
instance iF131:FO Tryz.prog 131:=⟨fnOk131⟩
instance iF120:FO Tryz.prog 120:=⟨fnOk120⟩
instance iF111:FO Tryz.prog 111:=⟨fnOk111⟩
instance iF110:FO Tryz.prog 110:=⟨fnOk110⟩
instance iF91:FO Tryz.prog 91:=⟨fnOk91⟩
instance iF132:FO Tryz.prog 132:=⟨fnOk132⟩
instance iF134:FO Tryz.prog 134:=⟨fnOk134⟩
instance iF133:FO Tryz.prog 133:=⟨fnOk133⟩
instance iF122:FO Tryz.prog 122:=⟨fnOk122⟩
instance iF135:FO Tryz.prog 135:=⟨fnOk135⟩
instance iF136:FO Tryz.prog 136:=⟨fnOk136⟩
instance iF137:FO Tryz.prog 137:=⟨fnOk137⟩
instance iF138:FO Tryz.prog 138:=⟨fnOk138⟩
instance iF123:FO Tryz.prog 123:=⟨fnOk123⟩
instance iF121:FO Tryz.prog 121:=⟨fnOk121⟩
instance iF114:FO Tryz.prog 114:=⟨fnOk114⟩
instance iF124:FO Tryz.prog 124:=⟨fnOk124⟩
instance iF113:FO Tryz.prog 113:=⟨fnOk113⟩
instance iF112:FO Tryz.prog 112:=⟨fnOk112⟩
instance iF115:FO Tryz.prog 115:=⟨fnOk115⟩
instance iF92:FO Tryz.prog 92:=⟨fnOk92⟩
instance iF52:FO Tryz.prog 52:=⟨fnOk52⟩
instance iF28:FO Tryz.prog 28:=⟨fnOk28⟩
instance iF95:FO Tryz.prog 95:=⟨fnOk95⟩
instance iF116:FO Tryz.prog 116:=⟨fnOk116⟩
instance iF96:FO Tryz.prog 96:=⟨fnOk96⟩
instance iF55:FO Tryz.prog 55:=⟨fnOk55⟩
instance iF29:FO Tryz.prog 29:=⟨fnOk29⟩
instance iF58:FO Tryz.prog 58:=⟨fnOk58⟩
instance iF57:FO Tryz.prog 57:=⟨fnOk57⟩
instance iF61:FO Tryz.prog 61:=⟨fnOk61⟩
instance iF62:FO Tryz.prog 62:=⟨fnOk62⟩
instance iF63:FO Tryz.prog 63:=⟨fnOk63⟩
instance iF60:FO Tryz.prog 60:=⟨fnOk60⟩
instance iF59:FO Tryz.prog 59:=⟨fnOk59⟩
instance iF64:FO Tryz.prog 64:=⟨fnOk64⟩
instance iF32:FO Tryz.prog 32:=⟨fnOk32⟩
instance iF31:FO Tryz.prog 31:=⟨fnOk31⟩
instance iF30:FO Tryz.prog 30:=⟨fnOk30⟩
instance iF33:FO Tryz.prog 33:=⟨fnOk33⟩
instance iF12:FO Tryz.prog 12:=⟨fnOk12⟩
instance iF39:FO Tryz.prog 39:=⟨fnOk39⟩
instance iF16:FO Tryz.prog 16:=⟨fnOk16⟩
instance iF7:FO Tryz.prog 7:=⟨fnOk7⟩
instance iF9:FO Tryz.prog 9:=⟨fnOk9⟩
instance iF11:FO Tryz.prog 11:=⟨fnOk11⟩
instance iF24:FO Tryz.prog 24:=⟨fnOk24⟩
instance iF25:FO Tryz.prog 25:=⟨fnOk25⟩
instance iF65:FO Tryz.prog 65:=⟨fnOk65⟩
instance iF35:FO Tryz.prog 35:=⟨fnOk35⟩
instance iF47:FO Tryz.prog 47:=⟨fnOk47⟩
instance iF22:FO Tryz.prog 22:=⟨fnOk22⟩
instance iF37:FO Tryz.prog 37:=⟨fnOk37⟩
instance iF78:FO Tryz.prog 78:=⟨fnOk78⟩
instance iF99:FO Tryz.prog 99:=⟨fnOk99⟩
instance iF84:FO Tryz.prog 84:=⟨fnOk84⟩
instance iF100:FO Tryz.prog 100:=⟨fnOk100⟩
instance iF72:FO Tryz.prog 72:=⟨fnOk72⟩
instance iF42:FO Tryz.prog 42:=⟨fnOk42⟩
instance iF73:FO Tryz.prog 73:=⟨fnOk73⟩
instance iF74:FO Tryz.prog 74:=⟨fnOk74⟩
instance iF75:FO Tryz.prog 75:=⟨fnOk75⟩
instance iF76:FO Tryz.prog 76:=⟨fnOk76⟩
instance iF43:FO Tryz.prog 43:=⟨fnOk43⟩
instance iF101:FO Tryz.prog 101:=⟨fnOk101⟩
instance iF77:FO Tryz.prog 77:=⟨fnOk77⟩
instance iF71:FO Tryz.prog 71:=⟨fnOk71⟩
instance iF102:FO Tryz.prog 102:=⟨fnOk102⟩
instance iF103:FO Tryz.prog 103:=⟨fnOk103⟩
instance iF79:FO Tryz.prog 79:=⟨fnOk79⟩
instance iF104:FO Tryz.prog 104:=⟨fnOk104⟩
instance iF105:FO Tryz.prog 105:=⟨fnOk105⟩
instance iF80:FO Tryz.prog 80:=⟨fnOk80⟩
instance iF44:FO Tryz.prog 44:=⟨fnOk44⟩
instance iF106:FO Tryz.prog 106:=⟨fnOk106⟩
instance iF81:FO Tryz.prog 81:=⟨fnOk81⟩
instance iF82:FO Tryz.prog 82:=⟨fnOk82⟩
instance iF83:FO Tryz.prog 83:=⟨fnOk83⟩
instance iF85:FO Tryz.prog 85:=⟨fnOk85⟩
instance iF45:FO Tryz.prog 45:=⟨fnOk45⟩
instance iF20:FO Tryz.prog 20:=⟨fnOk20⟩
instance iF34:FO Tryz.prog 34:=⟨fnOk34⟩
instance iF36:FO Tryz.prog 36:=⟨fnOk36⟩
instance iF13:FO Tryz.prog 13:=⟨fnOk13⟩
instance iF38:FO Tryz.prog 38:=⟨fnOk38⟩
instance iF14:FO Tryz.prog 14:=⟨fnOk14⟩
instance iF18:FO Tryz.prog 18:=⟨fnOk18⟩
instance iU3:Und Tryz.prog 3 (.int .i64):=⟨underlying3⟩
instance iU4:Und Tryz.prog 4 .bool:=⟨underlying4⟩
instance iU5:Und Tryz.prog 5 (.int .u8):=⟨underlying5⟩
instance iU9:Und Tryz.prog 9 .string:=⟨underlying9⟩
instance iU22:Und Tryz.prog 22 (.slice 39):=⟨underlying22⟩
instance iU23:Und Tryz.prog 23 (.slice 3):=⟨underlying23⟩
instance iU25:Und Tryz.prog 25 (.int .u64):=⟨underlying25⟩
instance iU27:UF Tryz.prog 27 [(4,0),(25,1),(25,2)]:=⟨⟨_,underlying27,rfl⟩⟩
instance iU29:UF Tryz.prog 29 [(27,0),(3,3)]:=⟨⟨_,underlying29,rfl⟩⟩
instance iU30:Und Tryz.prog 30 (.slice 66):=⟨underlying30⟩
instance iU31:Und Tryz.prog 31 (.slice 98):=⟨underlying31⟩
instance iU32:Und Tryz.prog 32 (.slice 100):=⟨underlying32⟩
instance iU33:Und Tryz.prog 33 (.slice 69):=⟨underlying33⟩
instance iU35:UF Tryz.prog 35 [(3,0),(30,1),(27,2),(3,5),(3,6),(3,7),(31,8),(32,9),(33,10)]:=⟨⟨_,underlying35,rfl⟩⟩
instance iU37:UF Tryz.prog 37 [(29,0),(3,4),(35,5)]:=⟨⟨_,underlying37,rfl⟩⟩
instance iU39:UF Tryz.prog 39 [(3,0),(29,1),(4,5),(37,6)]:=⟨⟨_,underlying39,rfl⟩⟩
instance iU47:Und Tryz.prog 47 (.slice 61):=⟨underlying47⟩
instance iU59:Und Tryz.prog 59 (.slice 29):=⟨underlying59⟩
instance iU61:UF Tryz.prog 61 [(59,0),(35,1),(59,12)]:=⟨⟨_,underlying61,rfl⟩⟩
instance iU66:UF Tryz.prog 66 [(4,0),(23,1)]:=⟨⟨_,underlying66,rfl⟩⟩
instance iU67:Und Tryz.prog 67 (.slice 5):=⟨underlying67⟩
instance iU69:UF Tryz.prog 69 [(3,0),(3,1),(67,2)]:=⟨⟨_,underlying69,rfl⟩⟩
instance iU71:UF Tryz.prog 71 [(23,0),(3,1)]:=⟨⟨_,underlying71,rfl⟩⟩
instance iU79:UF Tryz.prog 79 [(35,0),(59,11)]:=⟨⟨_,underlying79,rfl⟩⟩
instance iU80:Und Tryz.prog 80 (.slice 79):=⟨underlying80⟩
instance iU87:Und Tryz.prog 87 (.slice 4):=⟨underlying87⟩
instance iU92:Und Tryz.prog 92 (.int .u64):=⟨underlying92⟩
instance iU98:UF Tryz.prog 98 [(3,0),(3,1)]:=⟨⟨_,underlying98,rfl⟩⟩
instance iU100:UF Tryz.prog 100 [(3,0),(3,1),(3,2)]:=⟨⟨_,underlying100,rfl⟩⟩
instance iM3:Emb Tryz.prog 3 Int (eI .i64):=⟨fun _ _=>rfl⟩
instance iM4:Emb Tryz.prog 4 Bool eB:=⟨fun _ _=>rfl⟩
instance iM5:Emb Tryz.prog 5 Int (eI .u8):=⟨fun _ _=>rfl⟩
instance iM29:Emb Tryz.prog 29 A2 C4:=⟨fun _ _=>rfl⟩
instance iM39:Emb Tryz.prog 39 B8 F4:=⟨fun _ _=>rfl⟩
instance iM61:Emb Tryz.prog 61 A6 D1:=⟨fun _ _=>rfl⟩
instance iM66:Emb Tryz.prog 66 B2 C7:=⟨fun _ _=>rfl⟩
instance iM69:Emb Tryz.prog 69 A1 A7:=⟨fun _ _=>rfl⟩
instance iM79:Emb Tryz.prog 79 C2 D5:=⟨fun _ _=>rfl⟩
instance iM98:Emb Tryz.prog 98 A9 C0:=⟨fun _ _=>rfl⟩
instance iM100:Emb Tryz.prog 100 E0 D9:=⟨fun _ _=>rfl⟩
def S2 (a0:D0):Option (Bool) :=
 jn (fun m2:Bool =>
 some m2) (fun j3 =>
 (if a0.fV6=true then
 j3 true
 else
 j3 ((a0.fHi==0)&&(decide (a0.fLo<4294967296)))))
theorem G2 (a0:D0) (r:Bool) (h:S2 a0=some r):AC Tryz.prog 86 [(.d (D2 a0))] [] (.d (.bool r)) []:=by
 refine ac2 Tryz.func86 rfl rfl fun B hB hN L => ?_
 delta S2 at h
 refine sr (SQ tt) ?_
 apply seq
 refine AWp.cut h (fun m2:Bool=>([(2,(bo m2))]:EL)) (fun m2:Bool=>([]:OL)) (fun m2 h E' O' hmat => ?_) (fun j3 hjj3 h => ?_)
 ·apply A0
  refine ghost hmat ?_
  apply ret
  obtain rfl:=oi h
  exact rt (kp [(2,_)] [] hB rfl rfl (by rfl)) [(bo m2)] (rT rN) rfl
 ·rcases bft a0.fV6 with hg4 | hg4
  ·have h:=A4 hg4 h
   refine rg (SQ (fa hg4 tt)) ?_
   exact hjj3 _ h _ _ (mp [] _ _ hB)
  ·have h:=A5 hg4 h
   refine rg (SQ (fa hg4 tt)) ?_
   exact hjj3 _ h _ _ (mp [] _ _ hB)
def X5 (a0:D0):Option (Int) :=
 (if a0.fV6=true then
 some 128
 else
 some 32)
theorem A23 (a0:D0) (r:Int) (h:X5 a0=some r):AC Tryz.prog 87 [(.d (D2 a0))] [] (.d (.int .i64 r)) []:=by
 refine AC.of_code2 Tryz.func87 rfl rfl (Nat.le_of_ble_eq_true (by rfl)) fun B hB hN => ?_
 delta X5 at h
 refine sr (SQ tt) ?_
 apply seq
 refine sr (SQ tt) ?_
 apply AWp.cond rfl<;>intro hg1
 ·have h:=A4 hg1 h
  refine sr (SQ tt) ?_
  apply ret
  apply B3
  obtain rfl:=oi h
  exact rt (kp [(2,_)] [] hB rfl rfl (by rfl)) [(i6 128)] (rT rN) rfl
 ·have h:=A5 hg1 h
  apply AWp.skip
  apply A0
  refine sr (SQ tt) ?_
  apply ret
  obtain rfl:=oi h
  exact rt (kp [(2,_)] [] hB rfl rfl (by rfl)) [(i6 32)] (rT rN) rfl
def A0j (a0:Int):Option (Int×Int) :=
 (if (decide (64<a0))=true then
 some ((IntKind.u64.wrap ((shlI .u64 1 (IntKind.u64.wrap (w64 (a0-64))))-1)),18446744073709551615)
 else
 some (0,(IntKind.u64.wrap ((shlI .u64 1 (IntKind.u64.wrap a0))-1))))
theorem A7h (a0:Int) (r:Int×Int) (h:A0j a0=some r):AC Tryz.prog 107 [(.d (.int .i64 a0))] [] (.tup [(.d (.int .u64 r.1)),(.d (.int .u64 r.2))]) []:=by
 refine ac2 Tryz.func107 rfl rfl fun B hB hN L => ?_
 delta A0j at h
 refine sr (SQ tt) ?_
 apply seq
 refine sr (SQ tt) ?_
 apply AWp.cond rfl<;>intro hg1
 ·have h:=A4 hg1 h
  refine sr (SQ tt) ?_
  apply ret
  apply B3
  obtain rfl:=oi h
  exact rt (kp [(2,_),(3,_)] [] hB rfl rfl (by rfl)) [(.d (.int .u64 (IntKind.u64.wrap ((shlI .u64 1 (IntKind.u64.wrap (w64 (a0-64))))-1)))),(.d (.int .u64 18446744073709551615))] (rT (rT rN)) rfl
 ·have h:=A5 hg1 h
  apply AWp.skip
  apply A0
  refine sr (SQ tt) ?_
  apply ret
  obtain rfl:=oi h
  exact rt (kp [(2,_),(3,_)] [] hB rfl rfl (by rfl)) [(.d (.int .u64 0)),(.d (.int .u64 (IntKind.u64.wrap ((shlI .u64 1 (IntKind.u64.wrap a0))-1))))] (rT (rT rN)) rfl
def A0k (a0:D0) (a1:Int):Option (D0) :=
 (X5 a0).bind fun r1 =>
 (A0j (w64 (r1-a1))).bind fun r2 =>
 some (D0.mk a0.fV6 (bitI .andNot .u64 a0.fHi r2.1) (bitI .andNot .u64 a0.fLo r2.2))
theorem A7i (a0:D0) (a1:Int) (r:D0) (h:A0k a0 a1=some r):AC Tryz.prog 88 [(.d (D2 a0)),(.d (.int .i64 a1))] [] (.d (D2 r)) []:=by
 refine AC.of_code2 Tryz.func88 rfl rfl (Nat.le_of_ble_eq_true (by rfl)) fun B hB hN => ?_
 delta A0k at h
 refine sr (SQ tt) ?_
 obtain⟨r1,hr1,h⟩:=bindS h
 obtain⟨r2,hr2,h⟩:=bindS h
 refine sr (SQ (fa (cl [] (A23 a0 r1 hr1)) (fa (cl [] (A7h (w64 (r1-a1)) r2 hr2)) tt))) ?_
 refine sr (SQ tt) ?_
 refine sr (SQ tt) ?_
 refine sr (SQ tt) ?_
 apply ret
 obtain rfl:=oi h
 exact rt (kp [(4,_)] [(1004,some _)] hB rfl rfl (by rfl)) [(.d (.st [(.bool a0.fV6),(.int .u64 (bitI .andNot .u64 a0.fHi r2.1)),(.int .u64 (bitI .andNot .u64 a0.fLo r2.2))]))] (Res.cell (c:=(.d (.st [(.bool a0.fV6),(.int .u64 (bitI .andNot .u64 a0.fHi r2.1)),(.int .u64 (bitI .andNot .u64 a0.fLo r2.2))]))) (by rfl) (by rfl) tyS27 (by rfl) (by rfl) (by rfl) rN) rfl
def X6 (a0:A2):Option (Bool) :=
 jn (fun m7:Bool =>
 some m7) (fun j8 =>
 (S2 a0.fAddr).bind fun r9 =>
 (if (r9&&(decide (0≤a0.fLen)))=true then
 (X5 a0.fAddr).bind fun r11 =>
 (if (decide (a0.fLen≤r11))=true then
 (A0k a0.fAddr a0.fLen).bind fun r13 =>
 j8 ((r13.fV6==a0.fAddr.fV6)&&((r13.fHi==a0.fAddr.fHi)&&((r13.fLo==a0.fAddr.fLo)&&true)))
 else
 j8 false)
 else
 j8 false))
theorem T2 (a0:A2) (r:Bool) (h:X6 a0=some r):AC Tryz.prog 51 [(.d (C4 a0))] [] (.d (.bool r)) []:=by
 refine ac2 Tryz.func51 rfl rfl fun B hB hN L => ?_
 delta X6 at h
 refine sr (SQ tt) ?_
 apply seq
 refine AWp.cut h (fun m7:Bool=>([(2,(bo m7))]:EL)) (fun m7:Bool=>([]:OL)) (fun m7 h E' O' hmat => ?_) (fun j8 hjj8 h => ?_)
 ·apply A0
  refine ghost hmat ?_
  apply ret
  obtain rfl:=oi h
  exact rt (kp [(2,_)] [] hB rfl rfl (by rfl)) [(bo m7)] (rT rN) rfl
 ·obtain⟨r9,hr9,h⟩:=bindS h
  rcases bft (r9&&(decide (0≤a0.fLen))) with hg10 | hg10
  ·have h:=A4 hg10 h
   obtain⟨r11,hr11,h⟩:=bindS h
   rcases bft (decide (a0.fLen≤r11)) with hg12 | hg12
   ·have h:=A4 hg12 h
    obtain⟨r13,hr13,h⟩:=bindS h
    refine drS (SQ (fa (cl [] (G2 a0.fAddr r9 hr9)) (fa hg10 (fa (cl [] (A23 a0.fAddr r11 hr11)) (fa hg12 (fa (cl [] (A7i a0.fAddr a0.fLen r13 hr13)) tt)))))) ?_
    exact hjj8 _ h _ _ (mp [] _ _ hB)
   ·have h:=A5 hg12 h
    refine drS (SQ (fa (cl [] (G2 a0.fAddr r9 hr9)) (fa hg10 (fa (cl [] (A23 a0.fAddr r11 hr11)) (fa hg12 tt))))) ?_
    exact hjj8 _ h _ _ (mp [] _ _ hB)
  ·have h:=A5 hg10 h
   refine drS (SQ (fa (cl [] (G2 a0.fAddr r9 hr9)) (fa hg10 tt))) ?_
   exact hjj8 _ h _ _ (mp [] _ _ hB)
def A46 (a0:(List Int)):Option ((List Int)) :=
 chk (decide (a0.length≤LIM)) <|
 some a0
theorem A9e (a0:(List Int)) (r:(List Int)) (h:A46 a0=some r):AC Tryz.prog 67 [(.d (.list 1 (a0.map (eI .i64))))] [] (.d (.list 1 (r.map (eI .i64)))) []:=by
 refine AC.of_code2 Tryz.func67 rfl rfl (Nat.le_of_ble_eq_true (by rfl)) fun B hB hN => ?_
 delta A46 at h
 refine sr (SQ tt) ?_
 obtain⟨hc1,h⟩:=B6 h
 refine sr (SQ (fa hc1 tt)) ?_
 apply ret
 obtain rfl:=oi h
 exact rt (Mat.trans (Mat.freezeP (n:=1004) (e:=3) (sz:=1) (es:=a0.map (eI .i64)) (Ts:=[(2,(qI_1 a0))]) (Bs:=[]) (by rfl) (TwT.cons (x:=(.sref 1004 1 0 a0.length)) (by rfl) (FrzL.all (by first | rfl | (simp;done) | (simp;omega) | omega)) TwT.nil) TwB.nil) (mp [] [(2,(qI_1 a0))] [] hB)) [(qI_1 a0)] (rT rN) rfl
def A47 (a0:(List Int)):Option ((List Int)) :=
 chk (decide (a0.length≤LIM)) <|
 some a0
theorem A7j (a0:(List Int)) (r:(List Int)) (h:A47 a0=some r):AC Tryz.prog 68 [(.d (.list 1 (a0.map (eI .u8))))] [] (.d (.list 1 (r.map (eI .u8)))) []:=by
 refine AC.of_code2 Tryz.func68 rfl rfl (Nat.le_of_ble_eq_true (by rfl)) fun B hB hN => ?_
 delta A47 at h
 refine sr (SQ tt) ?_
 obtain⟨hc1,h⟩:=B6 h
 refine sr (SQ (fa hc1 tt)) ?_
 apply ret
 obtain rfl:=oi h
 exact rt (Mat.trans (Mat.freezeP (n:=1004) (e:=5) (sz:=1) (es:=a0.map (eI .u8)) (Ts:=[(2,(.d (.list 1 (a0.map (eI .u8)))))]) (Bs:=[]) (by rfl) (TwT.cons (x:=(.sref 1004 1 0 a0.length)) (by rfl) (FrzL.all (by first | rfl | (simp;done) | (simp;omega) | omega)) TwT.nil) TwB.nil) (mp [] [(2,(.d (.list 1 (a0.map (eI .u8)))))] [] hB)) [(.d (.list 1 (a0.map (eI .u8))))] (rT rN) rfl
def A2d (a0:(List A9)):Option ((List A9)) :=
 chk (decide (a0.length≤LIM)) <|
 some a0
theorem A7k (a0:(List A9)) (r:(List A9)) (h:A2d a0=some r):AC Tryz.prog 69 [(.d (.list 2 (a0.map C0)))] [] (.d (.list 2 (r.map C0))) []:=by
 refine AC.of_code2 Tryz.func69 rfl rfl (Nat.le_of_ble_eq_true (by rfl)) fun B hB hN => ?_
 delta A2d at h
 refine sr (SQ tt) ?_
 obtain⟨hc1,h⟩:=B6 h
 refine sr (SQ (fa hc1 tt)) ?_
 apply ret
 obtain rfl:=oi h
 exact rt (Mat.trans (Mat.freezeP (n:=1004) (e:=98) (sz:=2) (es:=a0.map C0) (Ts:=[(2,(B4 a0))]) (Bs:=[]) (by rfl) (TwT.cons (x:=(.sref 1004 2 0 a0.length)) (by rfl) (FrzL.all (by first | rfl | (simp;done) | (simp;omega) | omega)) TwT.nil) TwB.nil) (mp [] [(2,(B4 a0))] [] hB)) [(B4 a0)] (rT rN) rfl
def A2e (a0:(List E0)):Option ((List E0)) :=
 chk (decide (a0.length≤LIM)) <|
 some a0
theorem A7l (a0:(List E0)) (r:(List E0)) (h:A2e a0=some r):AC Tryz.prog 70 [(.d (.list 3 (a0.map D9)))] [] (.d (.list 3 (r.map D9))) []:=by
 refine AC.of_code2 Tryz.func70 rfl rfl (Nat.le_of_ble_eq_true (by rfl)) fun B hB hN => ?_
 delta A2e at h
 refine sr (SQ tt) ?_
 obtain⟨hc1,h⟩:=B6 h
 refine sr (SQ (fa hc1 tt)) ?_
 apply ret
 obtain rfl:=oi h
 exact rt (Mat.trans (Mat.freezeP (n:=1004) (e:=100) (sz:=3) (es:=a0.map D9) (Ts:=[(2,(D3 a0))]) (Bs:=[]) (by rfl) (TwT.cons (x:=(.sref 1004 3 0 a0.length)) (by rfl) (FrzL.all (by first | rfl | (simp;done) | (simp;omega) | omega)) TwT.nil) TwB.nil) (mp [] [(2,(D3 a0))] [] hB)) [(D3 a0)] (rT rN) rfl
def V8 (a0:C8) (s1:Int×(List B2)):Option ((((List B2)))⊕(Int×(List B2))) :=
 (if (decide (s1.1<(a0.fPath.length:Int)))=true then
 (idx a0.fPath s1.1).bind fun x12 =>
 (A46 x12.fASNs).bind fun r13 =>
 chk (decide ((s1.2++[(B2.mk x12.fSet r13)]).length≤LIM)) <|
 some (.inr ((w64 (s1.1+1)),(s1.2++[(B2.mk x12.fSet r13)])))
 else
 some (.inl s1.2))
def A0l (a0:C8) (s17:Int×(List A1)):Option ((((List A1)))⊕(Int×(List A1))) :=
 (if (decide (s17.1<(a0.fOther.length:Int)))=true then
 (idx a0.fOther s17.1).bind fun x28 =>
 (A47 x28.fData).bind fun r29 =>
 chk (decide ((s17.2++[(A1.mk x28.fFlags x28.fType r29)]).length≤LIM)) <|
 some (.inr ((w64 (s17.1+1)),(s17.2++[(A1.mk x28.fFlags x28.fType r29)])))
 else
 some (.inl s17.2))
def A0b (a0:C8):Option (C8) :=
 (loop (V8 a0) (0,([]:List B2))).bind fun p10 =>
 (loop (A0l a0) (0,([]:List A1))).bind fun p26 =>
 (A2d a0.fCommunities).bind fun r33 =>
 (A2e a0.fLarge).bind fun r34 =>
 some (C8.mk a0.fOrigin p10 a0.fNext a0.fMED a0.fPref a0.fOTC r33 r34 p26)
theorem A4z (a0:C8) (r:C8) (h:A0b a0=some r):AC Tryz.prog 40 [(.d (B9 a0))] [] (.d (B9 r)) []:=by
 refine ac2 Tryz.func40 rfl rfl fun B hB hN L => ?_
 delta A0b at h
 refine sr (SQ tt) ?_
 refine sdS (SQ tt) ?_
 refine sr (SQ tt) ?_
 apply seq
 refine sr (SQ tt) ?_
 apply block
 obtain⟨p10,hx16,h⟩:=bindS h
 refine lg (V8 a0) (fun s1:Int×(List B2)=>([(1,(pt 1001)),(2,(pt 1002)),(4,(B0 a0.fOther)),(15,(B5 a0.fPath)),(16,(i6 (a0.fPath.length:Int))),(17,(i6 s1.1))]:EL)) (fun s1:Int×(List B2)=>([(1001,some (.box 35 (.st [(i6 a0.fOrigin),(.sref 13011 2 0 s1.2.length),(.d (D2 a0.fNext)),(i6 a0.fMED),(i6 a0.fPref),(i6 a0.fOTC),(B4 a0.fCommunities),(D3 a0.fLarge),.nils]))),(1002,some (.box 35 (.st [(i6 0),.nils,(.d (.st [(.bool false),(.int .u64 0),(.int .u64 0)])),(i6 0),(i6 0),(i6 0),.nils,.nils,.nils]))),(13011,some (I4 s1.2))]:OL)) (fun(p10:((List B2))) e E' O'=>e = .exit 0∧Mat B E' O' ([(1,(pt 1001)),(2,(pt 1002)),(4,(B0 a0.fOther))]:EL) ([(1001,some (.box 35 (.st [(i6 a0.fOrigin),(.sref 13011 2 0 p10.length),(.d (D2 a0.fNext)),(i6 a0.fMED),(i6 a0.fPref),(i6 a0.fOTC),(B4 a0.fCommunities),(D3 a0.fLarge),.nils]))),(1002,some (.box 35 (.st [(i6 0),.nils,(.d (.st [(.bool false),(.int .u64 0),(.int .u64 0)])),(i6 0),(i6 0),(i6 0),.nils,.nils,.nils]))),(13011,some (I4 p10))]:OL)) hx16 (Mat.trans (Mat.beginP (n:=13011) (e:=66) (sz:=2) (Ts:=[]) (Bs:=[(1001,some (.box 35 (.st [(i6 a0.fOrigin),(.sref 13011 2 0 0),(.d (D2 a0.fNext)),(i6 a0.fMED),(i6 a0.fPref),(i6 a0.fOTC),(B4 a0.fCommunities),(D3 a0.fLarge),.nils])))]) hB (by decide) (by rfl) (by decide) TwT.nil (TwB.cons (x:=(.st [(i6 a0.fOrigin),.nils,(.d (D2 a0.fNext)),(i6 a0.fMED),(i6 a0.fPref),(i6 a0.fOTC),(B4 a0.fCommunities),(D3 a0.fLarge),.nils])) (by rfl) (Tw.st (TwL.cons (Tw.same _) (TwL.cons (Tw.leaf ⟨rfl,rfl⟩) (TwL.cons (Tw.same _) (TwL.cons (Tw.same _) (TwL.cons (Tw.same _) (TwL.cons (Tw.same _) (TwL.cons (Tw.same _) (TwL.cons (Tw.same _) (TwL.cons (Tw.same _) TwL.nil)))))))))) TwB.nil)) (mp [] _ _ hB)) (fun s1 y h => ?_) (fun e E' O' hR => ?_)
 ·unfold V8 at h
  refine sr (SQ tt) ?_
  apply seq
  apply AWp.cond rfl<;>intro hg11
  ·have h:=A4 hg11 h
   apply AWp.skip
   apply A0
   apply seq
   apply block
   obtain⟨x12,hx12,h⟩:=bindS h
   refine sr (SQ (fa hx12 tt)) ?_
   obtain⟨r13,hr13,h⟩:=bindS h
   obtain⟨hc14,h⟩:=B6 h
   refine drS (SQ (fa (cl [] (A9e x12.fASNs r13 hr13)) (fa hc14 tt))) ?_
   apply D7
   apply A0
   refine rg (SQ tt) ?_
   obtain rfl:=oi h
   exact⟨rfl,(mp [(13011,1030)] _ _ hB)⟩
  ·have h:=A5 hg11 h
   apply AWp.exit
   apply D8
   obtain rfl:=oi h
   exact⟨(fun hc=>by cases hc),rfl,(mp [] _ _ hB)⟩
 ·obtain⟨rfl,hmat⟩:=hR
  apply C3
  apply A0
  refine ghost hmat ?_
  apply seq
  refine sr (SQ tt) ?_
  apply block
  obtain⟨p26,hx32,h⟩:=bindS h
  refine lg (A0l a0) (fun s17:Int×(List A1)=>([(1,(pt 1001)),(2,(pt 1002)),(33,(B0 a0.fOther)),(34,(i6 (a0.fOther.length:Int))),(35,(i6 s17.1))]:EL)) (fun s17:Int×(List A1)=>([(1001,some (.box 35 (.st [(i6 a0.fOrigin),(.sref 13011 2 0 p10.length),(.d (D2 a0.fNext)),(i6 a0.fMED),(i6 a0.fPref),(i6 a0.fOTC),(B4 a0.fCommunities),(D3 a0.fLarge),(.sref 13018 3 0 s17.2.length)]))),(1002,some (.box 35 (.st [(i6 0),.nils,(.d (.st [(.bool false),(.int .u64 0),(.int .u64 0)])),(i6 0),(i6 0),(i6 0),.nils,.nils,.nils]))),(13011,some (I4 p10)),(13018,some (C9 s17.2))]:OL)) (fun(p26:((List A1))) e E' O'=>e = .exit 2∧Mat B E' O' ([(1,(pt 1001)),(2,(pt 1002))]:EL) ([(1001,some (.box 35 (.st [(i6 a0.fOrigin),(.sref 13011 2 0 p10.length),(.d (D2 a0.fNext)),(i6 a0.fMED),(i6 a0.fPref),(i6 a0.fOTC),(B4 a0.fCommunities),(D3 a0.fLarge),(.sref 13018 3 0 p26.length)]))),(1002,some (.box 35 (.st [(i6 0),.nils,(.d (.st [(.bool false),(.int .u64 0),(.int .u64 0)])),(i6 0),(i6 0),(i6 0),.nils,.nils,.nils]))),(13011,some (I4 p10)),(13018,some (C9 p26))]:OL)) hx32 (Mat.trans (Mat.beginP (n:=13018) (e:=69) (sz:=3) (Ts:=[]) (Bs:=[(1001,some (.box 35 (.st [(i6 a0.fOrigin),(.sref 13011 2 0 p10.length),(.d (D2 a0.fNext)),(i6 a0.fMED),(i6 a0.fPref),(i6 a0.fOTC),(B4 a0.fCommunities),(D3 a0.fLarge),(.sref 13018 3 0 0)])))]) hB (by decide) (by rfl) (by decide) TwT.nil (TwB.cons (x:=(.st [(i6 a0.fOrigin),(.sref 13011 2 0 p10.length),(.d (D2 a0.fNext)),(i6 a0.fMED),(i6 a0.fPref),(i6 a0.fOTC),(B4 a0.fCommunities),(D3 a0.fLarge),.nils])) (by rfl) (Tw.st (TwL.cons (Tw.same _) (TwL.cons (Tw.same _) (TwL.cons (Tw.same _) (TwL.cons (Tw.same _) (TwL.cons (Tw.same _) (TwL.cons (Tw.same _) (TwL.cons (Tw.same _) (TwL.cons (Tw.same _) (TwL.cons (Tw.leaf ⟨rfl,rfl⟩) TwL.nil)))))))))) TwB.nil)) (mp [] _ _ hB)) (fun s17 y h => ?_) (fun e E' O' hR => ?_)
  ·unfold A0l at h
   refine sr (SQ tt) ?_
   apply seq
   apply AWp.cond rfl<;>intro hg27
   ·have h:=A4 hg27 h
    apply AWp.skip
    apply A0
    apply seq
    apply block
    obtain⟨x28,hx28,h⟩:=bindS h
    refine sr (SQ (fa hx28 tt)) ?_
    obtain⟨r29,hr29,h⟩:=bindS h
    obtain⟨hc30,h⟩:=B6 h
    refine drS (SQ (fa (cl [] (A7j x28.fData r29 hr29)) (fa hc30 tt))) ?_
    apply D7
    apply A0
    refine rg (SQ tt) ?_
    obtain rfl:=oi h
    exact⟨rfl,(mp [(13018,1050)] _ _ hB)⟩
   ·have h:=A5 hg27 h
    apply AWp.exit
    apply D8
    obtain rfl:=oi h
    exact⟨(fun hc=>by cases hc),rfl,(mp [] _ _ hB)⟩
  ·obtain⟨rfl,hmat⟩:=hR
   apply C3
   apply A0
   refine ghost hmat ?_
   obtain⟨r33,hr33,h⟩:=bindS h
   obtain⟨r34,hr34,h⟩:=bindS h
   refine sdS (SQ (fa (cl [] (A7k a0.fCommunities r33 hr33)) (fa (cl [] (A7l a0.fLarge r34 hr34)) tt))) ?_
   refine sr (SQ tt) ?_
   apply ret
   obtain rfl:=oi h
   exact rt (Mat.trans (Mat.freezeP (n:=13011) (e:=66) (sz:=2) (es:=p10.map C7) (Ts:=[]) (Bs:=[(1002,some (.box 35 (.st [(i6 a0.fOrigin),(B5 p10),(.d (D2 a0.fNext)),(i6 a0.fMED),(i6 a0.fPref),(i6 a0.fOTC),(B4 r33),(D3 r34),(.sref 13018 3 0 p26.length)])))]) (by rfl) TwT.nil (TwB.cons (x:=(.st [(i6 a0.fOrigin),(.sref 13011 2 0 p10.length),(.d (D2 a0.fNext)),(i6 a0.fMED),(i6 a0.fPref),(i6 a0.fOTC),(B4 r33),(D3 r34),(.sref 13018 3 0 p26.length)])) (by rfl) (Tw.st (TwL.cons (Tw.same _) (TwL.cons (FrzL.all (by first | rfl | (simp;done) | (simp;omega) | omega)) (TwL.cons (Tw.same _) (TwL.cons (Tw.same _) (TwL.cons (Tw.same _) (TwL.cons (Tw.same _) (TwL.cons (Tw.same _) (TwL.cons (Tw.same _) (TwL.cons (Tw.same _) TwL.nil)))))))))) TwB.nil)) (Mat.trans (Mat.freezeP (n:=13018) (e:=69) (sz:=3) (es:=p26.map A7) (Ts:=[]) (Bs:=[(1002,some (.box 35 (.st [(i6 a0.fOrigin),(B5 p10),(.d (D2 a0.fNext)),(i6 a0.fMED),(i6 a0.fPref),(i6 a0.fOTC),(B4 r33),(D3 r34),(B0 p26)])))]) (by rfl) TwT.nil (TwB.cons (x:=(.st [(i6 a0.fOrigin),(B5 p10),(.d (D2 a0.fNext)),(i6 a0.fMED),(i6 a0.fPref),(i6 a0.fOTC),(B4 r33),(D3 r34),(.sref 13018 3 0 p26.length)])) (by rfl) (Tw.st (TwL.cons (Tw.same _) (TwL.cons (Tw.same _) (TwL.cons (Tw.same _) (TwL.cons (Tw.same _) (TwL.cons (Tw.same _) (TwL.cons (Tw.same _) (TwL.cons (Tw.same _) (TwL.cons (Tw.same _) (TwL.cons (FrzL.all (by first | rfl | (simp;done) | (simp;omega) | omega)) TwL.nil)))))))))) TwB.nil)) (Mat.trans (Mat.coeP (Ts:=[]) (Bs:=[(1002,bd 35 (.st [(.int .i64 a0.fOrigin),(.list 2 (p10.map C7)),(D2 a0.fNext),(.int .i64 a0.fMED),(.int .i64 a0.fPref),(.int .i64 a0.fOTC),(.list 2 (r33.map C0)),(.list 3 (r34.map D9)),(.list 3 (p26.map A7))]))]) TwT.nil (TwB.cons (x:=(.st [(i6 a0.fOrigin),(B5 p10),(.d (D2 a0.fNext)),(i6 a0.fMED),(i6 a0.fPref),(i6 a0.fOTC),(B4 r33),(D3 r34),(B0 p26)])) (by rfl) (Tw.leaf ⟨_,(Co.st (CoL.cons (Co.d _) (CoL.cons (Co.d _) (CoL.cons (Co.d _) (CoL.cons (Co.d _) (CoL.cons (Co.d _) (CoL.cons (Co.d _) (CoL.cons (Co.d _) (CoL.cons (Co.d _) (CoL.cons (Co.d _) CoL.nil)))))))))),rfl⟩) TwB.nil)) (mp [] [(2,(pt 1002))] [(1002,bd 35 (.st [(.int .i64 a0.fOrigin),(.list 2 (p10.map C7)),(D2 a0.fNext),(.int .i64 a0.fMED),(.int .i64 a0.fPref),(.int .i64 a0.fOTC),(.list 2 (r33.map C0)),(.list 3 (r34.map D9)),(.list 3 (p26.map A7))]))] hB)))) [(.d (.st [(.int .i64 a0.fOrigin),(.list 2 (p10.map C7)),(D2 a0.fNext),(.int .i64 a0.fMED),(.int .i64 a0.fPref),(.int .i64 a0.fOTC),(.list 2 (r33.map C0)),(.list 3 (r34.map D9)),(.list 3 (p26.map A7))]))] (Res.cell (c:=(.d (.st [(.int .i64 a0.fOrigin),(.list 2 (p10.map C7)),(D2 a0.fNext),(.int .i64 a0.fMED),(.int .i64 a0.fPref),(.int .i64 a0.fOTC),(.list 2 (r33.map C0)),(.list 3 (r34.map D9)),(.list 3 (p26.map A7))]))) (by rfl) (by rfl) tyS35 (by rfl) (by rfl) (by rfl) rN) rfl
def X7 (a0:(List A2)):Option ((List A2)) :=
 chk (decide (a0.length≤LIM)) <|
 some a0
theorem A4d (a0:(List A2)) (r:(List A2)) (h:X7 a0=some r):AC Tryz.prog 93 [(.d (.list 4 (a0.map C4)))] [] (.d (.list 4 (r.map C4))) []:=by
 refine AC.of_code2 Tryz.func93 rfl rfl (Nat.le_of_ble_eq_true (by rfl)) fun B hB hN => ?_
 delta X7 at h
 refine sr (SQ tt) ?_
 obtain⟨hc1,h⟩:=B6 h
 refine sr (SQ (fa hc1 tt)) ?_
 apply ret
 obtain rfl:=oi h
 exact rt (Mat.trans (Mat.freezeP (n:=1004) (e:=29) (sz:=4) (es:=a0.map C4) (Ts:=[(2,(E6 a0))]) (Bs:=[]) (by rfl) (TwT.cons (x:=(.sref 1004 4 0 a0.length)) (by rfl) (FrzL.all (by first | rfl | (simp;done) | (simp;omega) | omega)) TwT.nil) TwB.nil) (mp [] [(2,(E6 a0))] [] hB)) [(E6 a0)] (rT rN) rfl
def T3:Option (C8) :=
 some (C8.mk (-1) ([]:List B2) (D0.mk false 0 0) (-1) (-1) (-1) ([]:List A9) ([]:List E0) ([]:List A1))
theorem A2n (r:C8) (h:T3=some r):AC Tryz.prog 94 [] [] (.d (B9 r)) []:=by
 refine AC.of_code2 Tryz.func94 rfl rfl (Nat.le_of_ble_eq_true (by rfl)) fun B hB hN => ?_
 delta T3 at h
 refine sr (SQ tt) ?_
 refine sr (SQ tt) ?_
 apply ret
 obtain rfl:=oi h
 exact rt (Mat.trans (Mat.coeP (Ts:=[]) (Bs:=[(1000,bd 35 (.st [(.int .i64 (-1)),(.list 2 (([]:List B2).map C7)),(.st [(.bool false),(.int .u64 0),(.int .u64 0)]),(.int .i64 (-1)),(.int .i64 (-1)),(.int .i64 (-1)),(.list 2 (([]:List A9).map C0)),(.list 3 (([]:List E0).map D9)),(.list 3 (([]:List A1).map A7))]))]) TwT.nil (TwB.cons (x:=(.st [(i6 (-1)),.nils,(.d (.st [(.bool false),(.int .u64 0),(.int .u64 0)])),(i6 (-1)),(i6 (-1)),(i6 (-1)),.nils,.nils,.nils])) (by rfl) (Tw.leaf ⟨_,(Co.st (CoL.cons (Co.d _) (CoL.cons (Co.nils 2) (CoL.cons (Co.d _) (CoL.cons (Co.d _) (CoL.cons (Co.d _) (CoL.cons (Co.d _) (CoL.cons (Co.nils 2) (CoL.cons (Co.nils 3) (CoL.cons (Co.nils 3) CoL.nil)))))))))),rfl⟩) TwB.nil)) (mp [] [(0,(pt 1000))] [(1000,bd 35 (.st [(.int .i64 (-1)),(.list 2 (([]:List B2).map C7)),(.st [(.bool false),(.int .u64 0),(.int .u64 0)]),(.int .i64 (-1)),(.int .i64 (-1)),(.int .i64 (-1)),(.list 2 (([]:List A9).map C0)),(.list 3 (([]:List E0).map D9)),(.list 3 (([]:List A1).map A7))]))] hB)) [(.d (.st [(.int .i64 (-1)),(.list 2 (([]:List B2).map C7)),(.st [(.bool false),(.int .u64 0),(.int .u64 0)]),(.int .i64 (-1)),(.int .i64 (-1)),(.int .i64 (-1)),(.list 2 (([]:List A9).map C0)),(.list 3 (([]:List E0).map D9)),(.list 3 (([]:List A1).map A7))]))] (Res.cell (c:=(.d (.st [(.int .i64 (-1)),(.list 2 (([]:List B2).map C7)),(.st [(.bool false),(.int .u64 0),(.int .u64 0)]),(.int .i64 (-1)),(.int .i64 (-1)),(.int .i64 (-1)),(.list 2 (([]:List A9).map C0)),(.list 3 (([]:List E0).map D9)),(.list 3 (([]:List A1).map A7))]))) (by rfl) (by rfl) tyS35 (by rfl) (by rfl) (by rfl) rN) rfl
def G8 (a0:C8) (a1:(List A2)) (a2:Bool):Option (A6) :=
 (if a2=true then
 (A0b a0).bind fun r2 =>
 (X7 a1).bind fun r3 =>
 some (A6.mk ([]:List A2) r2 r3)
 else
 (T3).bind fun r4 =>
 (X7 a1).bind fun r5 =>
 some (A6.mk r5 r4 ([]:List A2)))
theorem T4 (a0:C8) (a1:(List A2)) (a2:Bool) (r:A6) (h:G8 a0 a1 a2=some r):AC Tryz.prog 53 [(.d (B9 a0)),(.d (.list 4 (a1.map C4))),(.d (.bool a2))] [] (.d (D1 r)) []:=by
 refine AC.of_code2 Tryz.func53 rfl rfl (Nat.le_of_ble_eq_true (by rfl)) fun B hB hN => ?_
 delta G8 at h
 refine sr (SQ tt) ?_
 apply seq
 refine sr (SQ tt) ?_
 apply AWp.cond rfl<;>intro hg1
 ·have h:=A4 hg1 h
  obtain⟨r2,hr2,h⟩:=bindS h
  obtain⟨r3,hr3,h⟩:=bindS h
  refine sr (SQ (fa (cl [] (A4z a0 r2 hr2)) (fa (cl [] (A4d a1 r3 hr3)) tt))) ?_
  apply ret
  apply B3
  obtain rfl:=oi h
  exact rt (Mat.trans (Mat.coeP (Ts:=[]) (Bs:=[(1006,bd 61 (.st [(.list 4 (([]:List A2).map C4)),(B9 r2),(.list 4 (r3.map C4))]))]) TwT.nil (TwB.cons (x:=(.st [.nils,(.d (B9 r2)),(E6 r3)])) (by rfl) (Tw.leaf ⟨_,(Co.st (CoL.cons (Co.nils 4) (CoL.cons (Co.d _) (CoL.cons (Co.d _) CoL.nil)))),rfl⟩) TwB.nil)) (mp [] [(6,(pt 1006))] [(1006,bd 61 (.st [(.list 4 (([]:List A2).map C4)),(B9 r2),(.list 4 (r3.map C4))]))] hB)) [(.d (.st [(.list 4 (([]:List A2).map C4)),(B9 r2),(.list 4 (r3.map C4))]))] (Res.cell (c:=(.d (.st [(.list 4 (([]:List A2).map C4)),(B9 r2),(.list 4 (r3.map C4))]))) (by rfl) (by rfl) tyS61 (by rfl) (by rfl) (by rfl) rN) rfl
 ·have h:=A5 hg1 h
  apply AWp.skip
  apply A0
  obtain⟨r4,hr4,h⟩:=bindS h
  obtain⟨r5,hr5,h⟩:=bindS h
  refine sr (SQ (fa (cl [] (A2n r4 hr4)) (fa (cl [] (A4d a1 r5 hr5)) tt))) ?_
  apply ret
  obtain rfl:=oi h
  exact rt (Mat.trans (Mat.coeP (Ts:=[]) (Bs:=[(1006,bd 61 (.st [(.list 4 (r5.map C4)),(B9 r4),(.list 4 (([]:List A2).map C4))]))]) TwT.nil (TwB.cons (x:=(.st [(E6 r5),(.d (B9 r4)),.nils])) (by rfl) (Tw.leaf ⟨_,(Co.st (CoL.cons (Co.d _) (CoL.cons (Co.d _) (CoL.cons (Co.nils 4) CoL.nil)))),rfl⟩) TwB.nil)) (mp [] [(6,(pt 1006))] [(1006,bd 61 (.st [(.list 4 (r5.map C4)),(B9 r4),(.list 4 (([]:List A2).map C4))]))] hB)) [(.d (.st [(.list 4 (r5.map C4)),(B9 r4),(.list 4 (([]:List A2).map C4))]))] (Res.cell (c:=(.d (.st [(.list 4 (r5.map C4)),(B9 r4),(.list 4 (([]:List A2).map C4))]))) (by rfl) (by rfl) tyS61 (by rfl) (by rfl) (by rfl) rN) rfl
def A0m (a0:A2):Option (Bool) :=
 (X6 a0).bind fun r1 =>
 some (!r1)
theorem A67 (a0:A2) (r:Bool) (h:A0m a0=some r):AC Tryz.prog 89 [(.d (C4 a0))] [] (.d (.bool r)) []:=by
 refine AC.of_code2 Tryz.func89 rfl rfl (Nat.le_of_ble_eq_true (by rfl)) fun B hB hN => ?_
 delta A0m at h
 refine sr (SQ tt) ?_
 obtain⟨r1,hr1,h⟩:=bindS h
 refine sr (SQ (fa (cl [] (T2 a0 r1 hr1)) tt)) ?_
 apply ret
 obtain rfl:=oi h
 exact rt (kp [(2,_)] [] hB rfl rfl (by rfl)) [(bo (!r1))] (rT rN) rfl
def M6 (a0:(List A2)) (s1:Int):Option (((Int)⊕(Unit))⊕(Int)) :=
 (if (decide (s1<(a0.length:Int)))=true then
 (idx a0 s1).bind fun x13 =>
 (A0m x13).bind fun r14 =>
 (if r14=true then
 some (.inl (.inl s1))
 else
 some (.inr (w64 (s1+1))))
 else
 some (.inl (.inr ())))
def X8 (a0:(List A2)):Option (Int) :=
 (loop (M6 a0) 0).bind fun x16=>match x16 with
 | (.inl p10) =>
  some p10
 | (.inr _) =>
  some (-1)
theorem A5i (a0:(List A2)) (r:Int) (h:X8 a0=some r):AC Tryz.prog 108 [(.d (.list 4 (a0.map C4))),(.func 89 [])] [] (.d (.int .i64 r)) []:=by
 refine AC.of_code2 Tryz.func108 rfl rfl (Nat.le_of_ble_eq_true (by rfl)) fun B hB hN => ?_
 delta X8 at h
 refine sr (SQ tt) ?_
 apply seq
 refine sr (SQ tt) ?_
 apply block
 obtain⟨x16,hx17,h⟩:=bindS h
 refine lg (M6 a0) (fun s1:Int=>([(0,(E6 a0)),(1,(.func 89 [])),(7,(i6 (a0.length:Int))),(8,(i6 s1))]:EL)) (fun s1:Int=>([]:OL)) (fun(x:(Int)⊕(Unit)) e E' O'=>match x with | (.inl p10)=>e = .ret∧Mat B E' O' ([(4,(i6 p10))]:EL) ([]:OL) | (.inr _p)=>e = .exit 0∧Mat B E' O' ([]:EL) ([]:OL)) hx17 (mp [] _ _ hB) (fun s1 y h => ?_) (fun e E' O' hR => ?_)
 ·unfold M6 at h
  refine sr (SQ tt) ?_
  apply seq
  apply AWp.cond rfl<;>intro hg12
  ·have h:=A4 hg12 h
   apply AWp.skip
   apply A0
   apply seq
   apply block
   refine sr (SQ tt) ?_
   obtain⟨x13,hx13,h⟩:=bindS h
   obtain⟨r14,hr14,h⟩:=bindS h
   refine sr (SQ (fa hx13 (fa (cl [] (A67 x13 r14 hr14)) tt))) ?_
   apply AWp.cond rfl<;>intro hg15
   ·have h:=A4 hg15 h
    refine sr (SQ tt) ?_
    apply ret
    apply D4
    apply B3
    obtain rfl:=oi h
    exact⟨(fun hc=>by cases hc),rfl,(mp [] _ _ hB)⟩
   ·have h:=A5 hg15 h
    apply AWp.skip
    apply D7
    apply A0
    refine rg (SQ tt) ?_
    obtain rfl:=oi h
    exact⟨rfl,(mp [] _ _ hB)⟩
  ·have h:=A5 hg12 h
   apply AWp.exit
   apply D8
   obtain rfl:=oi h
   exact⟨(fun hc=>by cases hc),rfl,(mp [] _ _ hB)⟩
 ·rcases x16 with p10 | _
  ·obtain⟨rfl,hmat⟩:=hR
   apply D4
   apply B3
   obtain rfl:=oi h
   exact rt (Mat.trans hmat (mp [] [(4,(i6 p10))] [] hB)) [(i6 p10)] (rT rN) rfl
  ·obtain⟨rfl,hmat⟩:=hR
   apply C3
   apply A0
   refine ghost hmat ?_
   refine sr (SQ tt) ?_
   apply ret
   obtain rfl:=oi h
   exact rt (kp [(4,_)] [] hB rfl rfl (by rfl)) [(i6 (-1))] (rT rN) rfl
def H3 (a0:(List A2)):Option (Bool) :=
 (X8 a0).bind fun r1 =>
 some (decide (0≤r1))
theorem I8 (a0:(List A2)) (r:Bool) (h:H3 a0=some r):AC Tryz.prog 90 [(.d (.list 4 (a0.map C4))),(.func 89 [])] [] (.d (.bool r)) []:=by
 refine AC.of_code2 Tryz.func90 rfl rfl (Nat.le_of_ble_eq_true (by rfl)) fun B hB hN => ?_
 delta H3 at h
 refine sr (SQ tt) ?_
 obtain⟨r1,hr1,h⟩:=bindS h
 refine sr (SQ (fa (cl [] (A5i a0 r1 hr1)) tt)) ?_
 apply ret
 obtain rfl:=oi h
 exact rt (kp [(4,_)] [] hB rfl rfl (by rfl)) [(bo (decide (0≤r1)))] (rT rN) rfl
def A0n (a0:C8):Option (Bool) :=
 (T3).bind fun r1 =>
 some ((((((a0.fOrigin==r1.fOrigin)&&(a0.fMED==r1.fMED))&&(a0.fPref==r1.fPref))&&(a0.fOTC==r1.fOTC))&&((a0.fNext.fV6==r1.fNext.fV6)&&((a0.fNext.fHi==r1.fNext.fHi)&&((a0.fNext.fLo==r1.fNext.fLo)&&true))))&&((w64 ((w64 ((w64 ((a0.fPath.length:Int)+(a0.fCommunities.length:Int)))+(a0.fLarge.length:Int)))+(a0.fOther.length:Int)))==0))
theorem A7m (a0:C8) (r:Bool) (h:A0n a0=some r):AC Tryz.prog 109 [(.d (B9 a0))] [] (.d (.bool r)) []:=by
 refine ac2 Tryz.func109 rfl rfl fun B hB hN L => ?_
 delta A0n at h
 refine sr (SQ tt) ?_
 obtain⟨r1,hr1,h⟩:=bindS h
 refine sr (SQ (fa (cl [] (A2n r1 hr1)) tt)) ?_
 refine sr (SQ tt) ?_
 apply ret
 obtain rfl:=oi h
 exact rt (kp [(2,_)] [] hB rfl rfl (by rfl)) [(bo ((((((a0.fOrigin==r1.fOrigin)&&(a0.fMED==r1.fMED))&&(a0.fPref==r1.fPref))&&(a0.fOTC==r1.fOTC))&&((a0.fNext.fV6==r1.fNext.fV6)&&((a0.fNext.fHi==r1.fNext.fHi)&&((a0.fNext.fLo==r1.fNext.fLo)&&true))))&&((w64 ((w64 ((w64 ((a0.fPath.length:Int)+(a0.fCommunities.length:Int)))+(a0.fLarge.length:Int)))+(a0.fOther.length:Int)))==0)))] (rT rN) rfl
def G1 (a0:Int) (a1:Int) (a2:Int):Option (Bool) :=
 some ((decide (a1≤a0))&&(decide (a0≤a2)))
theorem B1 (a0:Int) (a1:Int) (a2:Int) (r:Bool) (h:G1 a0 a1 a2=some r):AC Tryz.prog 117 [(.d (.int .i64 a0)),(.d (.int .i64 a1)),(.d (.int .i64 a2))] [] (.d (.bool r)) []:=by
 refine AC.of_code2 Tryz.func117 rfl rfl (Nat.le_of_ble_eq_true (by rfl)) fun B hB hN => ?_
 delta G1 at h
 refine sr (SQ tt) ?_
 refine sr (SQ tt) ?_
 apply ret
 obtain rfl:=oi h
 exact rt (kp [(6,_)] [] hB rfl rfl (by rfl)) [(bo ((decide (a1≤a0))&&(decide (a0≤a2))))] (rT rN) rfl
def Y9 (a0:Int):Option (Bool) :=
 some ((decide (1≤a0))&&(decide (a0≤4294967295)))
theorem K6 (a0:Int) (r:Bool) (h:Y9 a0=some r):AC Tryz.prog 98 [(.d (.int .i64 a0))] [] (.d (.bool r)) []:=by
 refine AC.of_code2 Tryz.func98 rfl rfl (Nat.le_of_ble_eq_true (by rfl)) fun B hB hN => ?_
 delta Y9 at h
 refine sr (SQ tt) ?_
 refine sr (SQ tt) ?_
 apply ret
 obtain rfl:=oi h
 exact rt (kp [(2,_)] [] hB rfl rfl (by rfl)) [(bo ((decide (1≤a0))&&(decide (a0≤4294967295))))] (rT rN) rfl
def T5 (x123:B2) (s130:Int):Option (((Unit)⊕(Unit))⊕(Int)) :=
 (if (decide (s130<(x123.fASNs.length:Int)))=true then
 (idx x123.fASNs s130).bind fun x162 =>
 jn (fun m168:Bool =>
 (if m168=true then
 some (.inl (.inl ()))
 else
 some (.inr (w64 (s130+1))))) (fun j169 =>
 (Y9 x162).bind fun r171 =>
 (if (!r171)=true then
 j169 true
 else
 (if (x123.fSet&&(decide (0<s130)))=true then
 (idx x123.fASNs (w64 (s130-1))).bind fun x174 =>
 j169 (decide (x162≤x174))
 else
 j169 false)))
 else
 some (.inl (.inr ())))
def O6 (a0:(List B2)) (s1:Int×Int):Option (((Unit)⊕(Int))⊕(Int×Int)) :=
 (if (decide (s1.2<(a0.length:Int)))=true then
 (idx a0 s1.2).bind fun x123 =>
 jn (fun m127:Bool =>
 (if m127=true then
 some (.inl (.inl ()))
 else
 (loop (T5 x123) 0).bind fun x175=>match x175 with
 | (.inl _) =>
  some (.inl (.inl ()))
 | (.inr _) =>
  some (.inr ((w64 (s1.1+(x123.fASNs.length:Int))),(w64 (s1.2+1)))))) (fun j128 =>
 (if ((x123.fASNs.length:Int)==0)=true then
 j128 true
 else
 (if ((decide (0<s1.2))&&(!x123.fSet))=true then
 (idx a0 (w64 (s1.2-1))).bind fun x179 =>
 j128 (!x179.fSet)
 else
 j128 false)))
 else
 some (.inl (.inr s1.1)))
def P3 (a0:(List B2)):Option (Bool) :=
 (loop (O6 a0) (0,0)).bind fun x180=>match x180 with
 | (.inl _) =>
  some false
 | (.inr p121) =>
  some (decide (p121≤64))
theorem F5 (a0:(List B2)) (r:Bool) (h:P3 a0=some r):AC Tryz.prog 66 [(.d (.list 2 (a0.map C7)))] [] (.d (.bool r)) []:=by
 refine ac2 Tryz.func66 rfl rfl fun B hB hN L => ?_
 delta P3 at h
 refine sr (SQ tt) ?_
 refine sr (SQ tt) ?_
 apply seq
 refine sr (SQ tt) ?_
 apply block
 obtain⟨x180,hx181,h⟩:=bindS h
 refine lg (O6 a0) (fun s1:Int×Int=>([(0,(B5 a0)),(3,(i6 s1.1)),(8,(B5 a0)),(9,(i6 (a0.length:Int))),(10,(i6 s1.2))]:EL)) (fun s1:Int×Int=>([]:OL)) (fun(x:(Unit)⊕(Int)) e E' O'=>match x with | (.inl _p)=>e = .ret∧Mat B E' O' ([(2,(bo false))]:EL) ([]:OL) | (.inr p121)=>e = .exit 0∧Mat B E' O' ([(3,(i6 p121))]:EL) ([]:OL)) hx181 (mp [] _ _ hB) (fun s1 y h => ?_) (fun e E' O' hR => ?_)
 ·unfold O6 at h
  refine sr (SQ tt) ?_
  apply seq
  apply AWp.cond rfl<;>intro hg122
  ·have h:=A4 hg122 h
   apply AWp.skip
   apply A0
   apply seq
   apply block
   obtain⟨x123,hx123,h⟩:=bindS h
   refine sr (SQ (fa hx123 tt)) ?_
   apply seq
   apply seq
   refine AWp.cut h (fun m127:Bool=>([(0,(B5 a0)),(3,(i6 s1.1)),(5,(pt 1005)),(8,(B5 a0)),(9,(i6 (a0.length:Int))),(10,(i6 s1.2)),(36,(bo m127))]:EL)) (fun m127:Bool=>([(1005,bd 66 (C7 x123))]:OL)) (fun m127 h E' O' hmat => ?_) (fun j128 hjj128 h => ?_)
   ·apply A0
    refine ghost hmat ?_
    apply AWp.cond rfl<;>intro hg129
    ·have h:=A4 hg129 h
     refine sr (SQ tt) ?_
     apply ret
     apply B3
     apply D4
     apply B3
     obtain rfl:=oi h
     exact⟨(fun hc=>by cases hc),rfl,(mp [] _ _ hB)⟩
    ·have h:=A5 hg129 h
     apply AWp.skip
     apply A0
     apply seq
     refine sr (SQ tt) ?_
     apply block
     obtain⟨x175,hx176,h⟩:=bindS h
     refine lg (T5 x123) (fun s130:Int=>([(0,(B5 a0)),(3,(i6 s1.1)),(5,(pt 1005)),(8,(B5 a0)),(9,(i6 (a0.length:Int))),(10,(i6 s1.2)),(38,(qI_1 x123.fASNs)),(39,(i6 (x123.fASNs.length:Int))),(40,(i6 s130))]:EL)) (fun s130:Int=>([(1005,bd 66 (C7 x123))]:OL)) (fun(x:(Unit)⊕(Unit)) e E' O'=>match x with | (.inl _p)=>e = .ret∧Mat B E' O' ([(2,(bo false))]:EL) ([]:OL) | (.inr _p)=>e = .exit 2∧Mat B E' O' ([(0,(B5 a0)),(3,(i6 s1.1)),(5,(pt 1005)),(8,(B5 a0)),(9,(i6 (a0.length:Int))),(10,(i6 s1.2))]:EL) ([(1005,bd 66 (C7 x123))]:OL)) hx176 (mp [] _ _ hB) (fun s130 y h => ?_) (fun e E' O' hR => ?_)
     ·unfold T5 at h
      refine sr (SQ tt) ?_
      apply seq
      apply AWp.cond rfl<;>intro hg161
      ·have h:=A4 hg161 h
       apply AWp.skip
       apply A0
       apply seq
       apply block
       obtain⟨x162,hx162,h⟩:=bindS h
       refine sr (SQ (fa hx162 tt)) ?_
       apply seq
       refine AWp.cut h (fun m168:Bool=>([(0,(B5 a0)),(3,(i6 s1.1)),(5,(pt 1005)),(8,(B5 a0)),(9,(i6 (a0.length:Int))),(10,(i6 s1.2)),(38,(qI_1 x123.fASNs)),(39,(i6 (x123.fASNs.length:Int))),(40,(i6 s130)),(65,(bo m168))]:EL)) (fun m168:Bool=>([(1005,bd 66 (C7 x123))]:OL)) (fun m168 h E' O' hmat => ?_) (fun j169 hjj169 h => ?_)
       ·apply A0
        refine ghost hmat ?_
        apply AWp.cond rfl<;>intro hg170
        ·have h:=A4 hg170 h
         refine sr (SQ tt) ?_
         apply ret
         apply D4
         apply B3
         obtain rfl:=oi h
         exact⟨(fun hc=>by cases hc),rfl,(mp [] _ _ hB)⟩
        ·have h:=A5 hg170 h
         apply AWp.skip
         apply D7
         apply A0
         refine rg (SQ tt) ?_
         obtain rfl:=oi h
         exact⟨rfl,(mp [] _ _ hB)⟩
       ·obtain⟨r171,hr171,h⟩:=bindS h
        rcases bft (!r171) with hg172 | hg172
        ·have h:=A4 hg172 h
         refine rg (SQ (fa (cl [] (K6 x162 r171 hr171)) (fa hg172 tt))) ?_
         exact hjj169 _ h _ _ (mp [] _ _ hB)
        ·have h:=A5 hg172 h
         rcases bft (x123.fSet&&(decide (0<s130))) with hg173 | hg173
         ·have h:=A4 hg173 h
          obtain⟨_,hx174,h⟩:=bindS h
          refine rg (SQ (fa (cl [] (K6 x162 r171 hr171)) (fa hg172 (fa hg173 (fa hx174 tt))))) ?_
          exact hjj169 _ h _ _ (mp [] _ _ hB)
         ·have h:=A5 hg173 h
          refine rg (SQ (fa (cl [] (K6 x162 r171 hr171)) (fa hg172 (fa hg173 tt)))) ?_
          exact hjj169 _ h _ _ (mp [] _ _ hB)
      ·have h:=A5 hg161 h
       apply AWp.exit
       apply D8
       obtain rfl:=oi h
       exact⟨(fun hc=>by cases hc),rfl,(mp [] _ _ hB)⟩
     ·rcases x175 with _ | _
      ·obtain⟨rfl,hmat⟩:=hR
       apply D4
       apply B3
       apply D4
       apply B3
       obtain rfl:=oi h
       exact⟨(fun hc=>by cases hc),rfl,(Mat.trans hmat (mp [] _ _ hB))⟩
      ·obtain⟨rfl,hmat⟩:=hR
       apply C3
       apply A0
       refine ghost hmat ?_
       refine rg (SQ tt) ?_
       apply D7
       apply A0
       refine rg (SQ tt) ?_
       obtain rfl:=oi h
       exact⟨rfl,(mp [] _ _ hB)⟩
   ·rcases bft ((x123.fASNs.length:Int)==0) with hg177 | hg177
    ·have h:=A4 hg177 h
     refine rg (SQ (fa hg177 tt)) ?_
     exact hjj128 _ h _ _ (mp [] _ _ hB)
    ·have h:=A5 hg177 h
     rcases bft ((decide (0<s1.2))&&(!x123.fSet)) with hg178 | hg178
     ·have h:=A4 hg178 h
      obtain⟨_,hx179,h⟩:=bindS h
      refine rg (SQ (fa hg177 (fa hg178 (fa hx179 tt)))) ?_
      exact hjj128 _ h _ _ (mp [] _ _ hB)
     ·have h:=A5 hg178 h
      refine rg (SQ (fa hg177 (fa hg178 tt))) ?_
      exact hjj128 _ h _ _ (mp [] _ _ hB)
  ·have h:=A5 hg122 h
   apply AWp.exit
   apply D8
   obtain rfl:=oi h
   exact⟨(fun hc=>by cases hc),rfl,(mp [] _ _ hB)⟩
 ·rcases x180 with _ | p121
  ·obtain⟨rfl,hmat⟩:=hR
   apply D4
   apply B3
   obtain rfl:=oi h
   exact rt (Mat.trans hmat (mp [] [(2,(bo false))] [] hB)) [(bo false)] (rT rN) rfl
  ·obtain⟨rfl,hmat⟩:=hR
   apply C3
   apply A0
   refine ghost hmat ?_
   refine sr (SQ tt) ?_
   apply ret
   obtain rfl:=oi h
   exact rt (kp [(2,_)] [] hB rfl rfl (by rfl)) [(bo (decide (p121≤64)))] (rT rN) rfl
def A3f (a0:(List Int)) (s4:Int×Int):Option (((Int))⊕(Int×Int)) :=
 (if (decide (s4.2<(a0.length:Int)))=true then
 (idx a0 s4.2).bind fun x11 =>
 some (.inr ((minI s4.1 x11),(w64 (s4.2+1))))
 else
 some (.inl s4.1))
def A5t (a0:(List Int)):Option (Int) :=
 (if (decide ((a0.length:Int)<1))=true then
 none
 else
 (idx a0 0).bind fun x3 =>
 (loop (A3f a0) (x3,1)).bind fun p9 =>
 some p9)
theorem A5o (a0:(List Int)) (r:Int) (h:A5t a0=some r):AC Tryz.prog 152 [(.d (.list 1 (a0.map (eI .i64))))] [] (.d (.int .i64 r)) []:=by
 refine ac2 Tryz.func152 rfl rfl fun B hB hN L => ?_
 delta A5t at h
 refine sr (SQ tt) ?_
 apply seq
 refine sr (SQ tt) ?_
 apply AWp.cond rfl<;>intro hg2
 ·have h:=A4 hg2 h
  cases h
 ·have h:=A5 hg2 h
  apply AWp.skip
  apply A0
  obtain⟨_,hx3,h⟩:=bindS h
  refine sr (SQ (fa hx3 tt)) ?_
  apply seq
  refine sr (SQ tt) ?_
  apply block
  obtain⟨p9,hx13,h⟩:=bindS h
  refine lg (A3f a0) (fun s4:Int×Int=>([(0,(qI_1 a0)),(3,(i6 s4.1)),(4,(i6 s4.2))]:EL)) (fun s4:Int×Int=>([]:OL)) (fun(p9:(Int)) e E' O'=>e = .exit 0∧Mat B E' O' ([(3,(i6 p9))]:EL) ([]:OL)) hx13 (mp [] _ _ hB) (fun s4 y h => ?_) (fun e E' O' hR => ?_)
  ·unfold A3f at h
   apply seq
   refine sr (SQ tt) ?_
   apply AWp.cond rfl<;>intro hg10
   ·have h:=A4 hg10 h
    apply AWp.skip
    apply A0
    apply seq
    apply block
    obtain⟨_,hx11,h⟩:=bindS h
    refine rg (SQ (fa hx11 tt)) ?_
    apply D7
    apply A0
    refine rg (SQ tt) ?_
    obtain rfl:=oi h
    exact⟨rfl,(mp [] _ _ hB)⟩
   ·have h:=A5 hg10 h
    apply AWp.exit
    apply D8
    obtain rfl:=oi h
    exact⟨(fun hc=>by cases hc),rfl,(mp [] _ _ hB)⟩
  ·obtain⟨rfl,hmat⟩:=hR
   apply C3
   apply A0
   refine ghost hmat ?_
   refine sr (SQ tt) ?_
   apply ret
   obtain rfl:=oi h
   exact rt (kp [(2,_)] [] hB rfl rfl (by rfl)) [(i6 p9)] (rT rN) rfl
def A3g (a0:(List Int)) (s4:Int×Int):Option (((Int))⊕(Int×Int)) :=
 (if (decide (s4.2<(a0.length:Int)))=true then
 (idx a0 s4.2).bind fun x11 =>
 some (.inr ((maxI s4.1 x11),(w64 (s4.2+1))))
 else
 some (.inl s4.1))
def A5u (a0:(List Int)):Option (Int) :=
 (if (decide ((a0.length:Int)<1))=true then
 none
 else
 (idx a0 0).bind fun x3 =>
 (loop (A3g a0) (x3,1)).bind fun p9 =>
 some p9)
theorem A9f (a0:(List Int)) (r:Int) (h:A5u a0=some r):AC Tryz.prog 153 [(.d (.list 1 (a0.map (eI .i64))))] [] (.d (.int .i64 r)) []:=by
 refine ac2 Tryz.func153 rfl rfl fun B hB hN L => ?_
 delta A5u at h
 refine sr (SQ tt) ?_
 apply seq
 refine sr (SQ tt) ?_
 apply AWp.cond rfl<;>intro hg2
 ·have h:=A4 hg2 h
  cases h
 ·have h:=A5 hg2 h
  apply AWp.skip
  apply A0
  obtain⟨_,hx3,h⟩:=bindS h
  refine sr (SQ (fa hx3 tt)) ?_
  apply seq
  refine sr (SQ tt) ?_
  apply block
  obtain⟨p9,hx13,h⟩:=bindS h
  refine lg (A3g a0) (fun s4:Int×Int=>([(0,(qI_1 a0)),(3,(i6 s4.1)),(4,(i6 s4.2))]:EL)) (fun s4:Int×Int=>([]:OL)) (fun(p9:(Int)) e E' O'=>e = .exit 0∧Mat B E' O' ([(3,(i6 p9))]:EL) ([]:OL)) hx13 (mp [] _ _ hB) (fun s4 y h => ?_) (fun e E' O' hR => ?_)
  ·unfold A3g at h
   apply seq
   refine sr (SQ tt) ?_
   apply AWp.cond rfl<;>intro hg10
   ·have h:=A4 hg10 h
    apply AWp.skip
    apply A0
    apply seq
    apply block
    obtain⟨_,hx11,h⟩:=bindS h
    refine rg (SQ (fa hx11 tt)) ?_
    apply D7
    apply A0
    refine rg (SQ tt) ?_
    obtain rfl:=oi h
    exact⟨rfl,(mp [] _ _ hB)⟩
   ·have h:=A5 hg10 h
    apply AWp.exit
    apply D8
    obtain rfl:=oi h
    exact⟨(fun hc=>by cases hc),rfl,(mp [] _ _ hB)⟩
  ·obtain⟨rfl,hmat⟩:=hR
   apply C3
   apply A0
   refine ghost hmat ?_
   refine sr (SQ tt) ?_
   apply ret
   obtain rfl:=oi h
   exact rt (kp [(2,_)] [] hB rfl rfl (by rfl)) [(i6 p9)] (rT rN) rfl
def X9 (a0:Int) (a1:(List Int)):Option (Bool) :=
 jn (fun m5:Bool =>
 some m5) (fun j6 =>
 (A5t a1).bind fun r7 =>
 (if (decide (0≤r7))=true then
 (A5u a1).bind fun r9 =>
 j6 (decide (r9≤a0))
 else
 j6 false))
theorem A28 (a0:Int) (a1:(List Int)) (r:Bool) (h:X9 a0 a1=some r):AC Tryz.prog 141 [(.d (.int .i64 a0)),(.d (.list 1 (a1.map (eI .i64))))] [] (.d (.bool r)) []:=by
 refine ac2 Tryz.func141 rfl rfl fun B hB hN L => ?_
 delta X9 at h
 refine sr (SQ tt) ?_
 apply seq
 refine AWp.cut h (fun m5:Bool=>([(4,(bo m5))]:EL)) (fun m5:Bool=>([]:OL)) (fun m5 h E' O' hmat => ?_) (fun j6 hjj6 h => ?_)
 ·apply A0
  refine ghost hmat ?_
  apply ret
  obtain rfl:=oi h
  exact rt (kp [(4,_)] [] hB rfl rfl (by rfl)) [(bo m5)] (rT rN) rfl
 ·obtain⟨r7,hr7,h⟩:=bindS h
  rcases bft (decide (0≤r7)) with hg8 | hg8
  ·have h:=A4 hg8 h
   obtain⟨r9,hr9,h⟩:=bindS h
   refine rg (SQ (fa (cl [] (A5o a1 r7 hr7)) (fa hg8 (fa (cl [] (A9f a1 r9 hr9)) tt)))) ?_
   exact hjj6 _ h _ _ (mp [] _ _ hB)
  ·have h:=A5 hg8 h
   refine rg (SQ (fa (cl [] (A5o a1 r7 hr7)) (fa hg8 tt))) ?_
   exact hjj6 _ h _ _ (mp [] _ _ hB)
def A2o (a0:A9):Option (Bool) :=
 (X9 65535 ([a0.fA,a0.fB]:List Int)).bind fun r1 =>
 some r1
theorem A0o (a0:A9) (r:Bool) (h:A2o a0=some r):AC Tryz.prog 126 [(.d (C0 a0))] [] (.d (.bool r)) []:=by
 refine AC.of_code2 Tryz.func126 rfl rfl (Nat.le_of_ble_eq_true (by rfl)) fun B hB hN => ?_
 delta A2o at h
 refine sr (SQ tt) ?_
 obtain⟨r1,hr1,h⟩:=bindS h
 refine sr (SQ (fa (cl [] (A28 65535 ([a0.fA,a0.fB]:List Int) r1 hr1)) tt)) ?_
 apply ret
 obtain rfl:=oi h
 exact rt (kp [(2,_)] [] hB rfl rfl (by rfl)) [(bo r1)] (rT rN) rfl
def A3x (a0:Int):Option (Bool) :=
 some (a0 != a0)
theorem A68 (a0:Int) (r:Bool) (h:A3x a0=some r):AC Tryz.prog 97 [(.d (.int .i64 a0))] [] (.d (.bool r)) []:=by
 refine AC.of_code2 Tryz.func97 rfl rfl (Nat.le_of_ble_eq_true (by rfl)) fun B hB hN => ?_
 delta A3x at h
 refine sr (SQ tt) ?_
 refine sr (SQ tt) ?_
 apply ret
 obtain rfl:=oi h
 exact rt (kp [(2,_)] [] hB rfl rfl (by rfl)) [(bo (a0 != a0))] (rT rN) rfl
def H8 (a0:Int) (a1:Int):Option (Int) :=
 (A3x a0).bind fun r1 =>
 (A3x a1).bind fun r2 =>
 (if r1=true then
 (if r2=true then
 some 0
 else
 some (-1))
 else
 (if r2=true then
 some 1
 else
 (if (decide (a0<a1))=true then
 some (-1)
 else
 (if (decide (a1<a0))=true then
 some 1
 else
 some 0))))
theorem I9 (a0:Int) (a1:Int) (r:Int) (h:H8 a0 a1=some r):AC Tryz.prog 56 [(.d (.int .i64 a0)),(.d (.int .i64 a1))] [] (.d (.int .i64 r)) []:=by
 refine ac2 Tryz.func56 rfl rfl fun B hB hN L => ?_
 delta H8 at h
 refine sr (SQ tt) ?_
 obtain⟨r1,hr1,h⟩:=bindS h
 refine sr (SQ (fa (cl [] (A68 a0 r1 hr1)) tt)) ?_
 obtain⟨r2,hr2,h⟩:=bindS h
 refine sr (SQ (fa (cl [] (A68 a1 r2 hr2)) tt)) ?_
 apply seq
 refine sr (SQ tt) ?_
 apply AWp.cond rfl<;>intro hg3
 ·have h:=A4 hg3 h
  apply seq
  refine sr (SQ tt) ?_
  apply AWp.cond rfl<;>intro hg4
  ·have h:=A4 hg4 h
   refine sr (SQ tt) ?_
   apply ret
   apply B3
   apply B3
   obtain rfl:=oi h
   exact rt (kp [(4,_)] [] hB rfl rfl (by rfl)) [(i6 0)] (rT rN) rfl
  ·have h:=A5 hg4 h
   apply AWp.skip
   apply A0
   refine sr (SQ tt) ?_
   apply ret
   apply B3
   obtain rfl:=oi h
   exact rt (kp [(4,_)] [] hB rfl rfl (by rfl)) [(i6 (-1))] (rT rN) rfl
 ·have h:=A5 hg3 h
  apply AWp.skip
  apply A0
  apply seq
  refine sr (SQ tt) ?_
  apply AWp.cond rfl<;>intro hg5
  ·have h:=A4 hg5 h
   refine sr (SQ tt) ?_
   apply ret
   apply B3
   obtain rfl:=oi h
   exact rt (kp [(4,_)] [] hB rfl rfl (by rfl)) [(i6 1)] (rT rN) rfl
  ·have h:=A5 hg5 h
   apply AWp.skip
   apply A0
   apply seq
   refine sr (SQ tt) ?_
   apply AWp.cond rfl<;>intro hg6
   ·have h:=A4 hg6 h
    refine sr (SQ tt) ?_
    apply ret
    apply B3
    obtain rfl:=oi h
    exact rt (kp [(4,_)] [] hB rfl rfl (by rfl)) [(i6 (-1))] (rT rN) rfl
   ·have h:=A5 hg6 h
    apply AWp.skip
    apply A0
    apply seq
    refine sr (SQ tt) ?_
    apply AWp.cond rfl<;>intro hg7
    ·have h:=A4 hg7 h
     refine sr (SQ tt) ?_
     apply ret
     apply B3
     obtain rfl:=oi h
     exact rt (kp [(4,_)] [] hB rfl rfl (by rfl)) [(i6 1)] (rT rN) rfl
    ·have h:=A5 hg7 h
     apply AWp.skip
     apply A0
     refine sr (SQ tt) ?_
     apply ret
     obtain rfl:=oi h
     exact rt (kp [(4,_)] [] hB rfl rfl (by rfl)) [(i6 0)] (rT rN) rfl
def A3y (a0:(List Int)) (s1:Int):Option (((Int)⊕(Unit))⊕(Int)) :=
 (if (decide (s1<(a0.length:Int)))=true then
 (idx a0 s1).bind fun x11 =>
 (if (x11 != 0)=true then
 some (.inl (.inl x11))
 else
 some (.inr (w64 (s1+1))))
 else
 some (.inl (.inr ())))
def A50 (a0:(List Int)):Option (Int) :=
 (loop (A3y a0) 0).bind fun x13=>match x13 with
 | (.inl p8) =>
  some p8
 | (.inr _) =>
  some 0
theorem A5g (a0:(List Int)) (r:Int) (h:A50 a0=some r):AC Tryz.prog 54 [(.d (.list 1 (a0.map (eI .i64))))] [] (.d (.int .i64 r)) []:=by
 refine AC.of_code2 Tryz.func54 rfl rfl (Nat.le_of_ble_eq_true (by rfl)) fun B hB hN => ?_
 delta A50 at h
 refine sr (SQ tt) ?_
 refine sr (SQ tt) ?_
 apply seq
 refine sr (SQ tt) ?_
 apply block
 obtain⟨x13,hx14,h⟩:=bindS h
 refine lg (A3y a0) (fun s1:Int=>([(3,(i6 0)),(6,(qI_1 a0)),(7,(i6 (a0.length:Int))),(8,(i6 s1))]:EL)) (fun s1:Int=>([]:OL)) (fun(x:(Int)⊕(Unit)) e E' O'=>match x with | (.inl p8)=>e = .ret∧Mat B E' O' ([(2,(i6 p8))]:EL) ([]:OL) | (.inr _p)=>e = .exit 0∧Mat B E' O' ([(3,(i6 0))]:EL) ([]:OL)) hx14 (mp [] _ _ hB) (fun s1 y h => ?_) (fun e E' O' hR => ?_)
 ·unfold A3y at h
  refine sr (SQ tt) ?_
  apply seq
  apply AWp.cond rfl<;>intro hg10
  ·have h:=A4 hg10 h
   apply AWp.skip
   apply A0
   apply seq
   apply block
   obtain⟨_,hx11,h⟩:=bindS h
   refine sr (SQ (fa hx11 tt)) ?_
   refine sr (SQ tt) ?_
   apply AWp.cond rfl<;>intro hg12
   ·have h:=A4 hg12 h
    refine sr (SQ tt) ?_
    apply ret
    apply D4
    apply B3
    obtain rfl:=oi h
    exact⟨(fun hc=>by cases hc),rfl,(mp [] _ _ hB)⟩
   ·have h:=A5 hg12 h
    apply AWp.skip
    apply D7
    apply A0
    refine rg (SQ tt) ?_
    obtain rfl:=oi h
    exact⟨rfl,(mp [] _ _ hB)⟩
  ·have h:=A5 hg10 h
   apply AWp.exit
   apply D8
   obtain rfl:=oi h
   exact⟨(fun hc=>by cases hc),rfl,(mp [] _ _ hB)⟩
 ·rcases x13 with p8 | _
  ·obtain⟨rfl,hmat⟩:=hR
   apply D4
   apply B3
   obtain rfl:=oi h
   exact rt (Mat.trans hmat (mp [] [(2,(i6 p8))] [] hB)) [(i6 p8)] (rT rN) rfl
  ·obtain⟨rfl,hmat⟩:=hR
   apply C3
   apply A0
   refine ghost hmat ?_
   refine sr (SQ tt) ?_
   apply ret
   obtain rfl:=oi h
   exact rt (kp [(2,_)] [] hB rfl rfl (by rfl)) [(i6 0)] (rT rN) rfl
def A0p (a0:A9) (a1:A9):Option (Int) :=
 (H8 a0.fA a1.fA).bind fun r1 =>
 (H8 a0.fB a1.fB).bind fun r2 =>
 (A50 ([r1,r2]:List Int)).bind fun r3 =>
 some r3
theorem A51 (a0:A9) (a1:A9) (r:Int) (h:A0p a0 a1=some r):AC Tryz.prog 127 [(.d (C0 a0)),(.d (C0 a1))] [] (.d (.int .i64 r)) []:=by
 refine AC.of_code2 Tryz.func127 rfl rfl (Nat.le_of_ble_eq_true (by rfl)) fun B hB hN => ?_
 delta A0p at h
 refine sr (SQ tt) ?_
 obtain⟨r1,hr1,h⟩:=bindS h
 obtain⟨r2,hr2,h⟩:=bindS h
 obtain⟨r3,hr3,h⟩:=bindS h
 refine sdS (SQ (fa (cl [] (I9 a0.fA a1.fA r1 hr1)) (fa (cl [] (I9 a0.fB a1.fB r2 hr2)) (fa (cl [] (A5g ([r1,r2]:List Int) r3 hr3)) tt)))) ?_
 apply ret
 obtain rfl:=oi h
 exact rt (kp [(4,_)] [] hB rfl rfl (by rfl)) [(i6 r3)] (rT rN) rfl
def P4 (a0:(List A9)) (s1:Int):Option (((Unit)⊕(Unit))⊕(Int)) :=
 (if (decide (s1<(a0.length:Int)))=true then
 (idx a0 s1).bind fun x37 =>
 jn (fun m44:Bool =>
 (if m44=true then
 some (.inl (.inl ()))
 else
 some (.inr (w64 (s1+1))))) (fun j45 =>
 (A2o x37).bind fun r47 =>
 (if (!r47)=true then
 j45 true
 else
 (if (decide (0<s1))=true then
 (idx a0 (w64 (s1-1))).bind fun x50 =>
 (A0p x50 x37).bind fun r51 =>
 j45 (decide (0≤r51))
 else
 j45 false)))
 else
 some (.inl (.inr ())))
def U9 (a0:(List A9)):Option (Bool) :=
 (loop (P4 a0) 0).bind fun x52=>match x52 with
 | (.inl _) =>
  some false
 | (.inr _) =>
  some (decide ((a0.length:Int)≤64))
theorem A52 (a0:(List A9)) (r:Bool) (h:U9 a0=some r):AC Tryz.prog 125 [(.d (.list 2 (a0.map C0))),(.func 126 []),(.func 127 [])] [] (.d (.bool r)) []:=by
 refine ac2 Tryz.func125 rfl rfl fun B hB hN L => ?_
 delta U9 at h
 refine sr (SQ tt) ?_
 apply seq
 refine sr (SQ tt) ?_
 apply block
 obtain⟨x52,hx53,h⟩:=bindS h
 refine lg (P4 a0) (fun s1:Int=>([(0,(B4 a0)),(1,(.func 126 [])),(2,(.func 127 [])),(9,(B4 a0)),(10,(i6 (a0.length:Int))),(11,(i6 s1))]:EL)) (fun s1:Int=>([]:OL)) (fun(x:(Unit)⊕(Unit)) e E' O'=>match x with | (.inl _p)=>e = .ret∧Mat B E' O' ([(6,(bo false))]:EL) ([]:OL) | (.inr _p)=>e = .exit 0∧Mat B E' O' ([(0,(B4 a0))]:EL) ([]:OL)) hx53 (mp [] _ _ hB) (fun s1 y h => ?_) (fun e E' O' hR => ?_)
 ·unfold P4 at h
  refine sr (SQ tt) ?_
  apply seq
  apply AWp.cond rfl<;>intro hg36
  ·have h:=A4 hg36 h
   apply AWp.skip
   apply A0
   apply seq
   apply block
   obtain⟨x37,hx37,h⟩:=bindS h
   refine sr (SQ (fa hx37 tt)) ?_
   apply seq
   refine AWp.cut h (fun m44:Bool=>([(0,(B4 a0)),(1,(.func 126 [])),(2,(.func 127 [])),(9,(B4 a0)),(10,(i6 (a0.length:Int))),(11,(i6 s1)),(34,(bo m44))]:EL)) (fun m44:Bool=>([]:OL)) (fun m44 h E' O' hmat => ?_) (fun j45 hjj45 h => ?_)
   ·apply A0
    refine ghost hmat ?_
    apply AWp.cond rfl<;>intro hg46
    ·have h:=A4 hg46 h
     refine sr (SQ tt) ?_
     apply ret
     apply D4
     apply B3
     obtain rfl:=oi h
     exact⟨(fun hc=>by cases hc),rfl,(mp [] _ _ hB)⟩
    ·have h:=A5 hg46 h
     apply AWp.skip
     apply D7
     apply A0
     refine rg (SQ tt) ?_
     obtain rfl:=oi h
     exact⟨rfl,(mp [] _ _ hB)⟩
   ·obtain⟨r47,hr47,h⟩:=bindS h
    rcases bft (!r47) with hg48 | hg48
    ·have h:=A4 hg48 h
     refine drS (SQ (fa (cl [] (A0o x37 r47 hr47)) (fa hg48 tt))) ?_
     exact hjj45 _ h _ _ (mp [] _ _ hB)
    ·have h:=A5 hg48 h
     rcases bft (decide (0<s1)) with hg49 | hg49
     ·have h:=A4 hg49 h
      obtain⟨x50,hx50,h⟩:=bindS h
      obtain⟨r51,hr51,h⟩:=bindS h
      refine drS (SQ (fa (cl [] (A0o x37 r47 hr47)) (fa hg48 (fa hg49 (fa hx50 (fa (cl [] (A51 x50 x37 r51 hr51)) tt)))))) ?_
      exact hjj45 _ h _ _ (mp [] _ _ hB)
     ·have h:=A5 hg49 h
      refine drS (SQ (fa (cl [] (A0o x37 r47 hr47)) (fa hg48 (fa hg49 tt)))) ?_
      exact hjj45 _ h _ _ (mp [] _ _ hB)
  ·have h:=A5 hg36 h
   apply AWp.exit
   apply D8
   obtain rfl:=oi h
   exact⟨(fun hc=>by cases hc),rfl,(mp [] _ _ hB)⟩
 ·rcases x52 with _ | _
  ·obtain⟨rfl,hmat⟩:=hR
   apply D4
   apply B3
   obtain rfl:=oi h
   exact rt (Mat.trans hmat (mp [] [(6,(bo false))] [] hB)) [(bo false)] (rT rN) rfl
  ·obtain⟨rfl,hmat⟩:=hR
   apply C3
   apply A0
   refine ghost hmat ?_
   refine sr (SQ tt) ?_
   apply ret
   obtain rfl:=oi h
   exact rt (kp [(6,_)] [] hB rfl rfl (by rfl)) [(bo (decide ((a0.length:Int)≤64)))] (rT rN) rfl
def O7 (a0:(List A9)):Option (Bool) :=
 (U9 a0).bind fun r1 =>
 some r1
theorem K7 (a0:(List A9)) (r:Bool) (h:O7 a0=some r):AC Tryz.prog 118 [(.d (.list 2 (a0.map C0)))] [] (.d (.bool r)) []:=by
 refine AC.of_code2 Tryz.func118 rfl rfl (Nat.le_of_ble_eq_true (by rfl)) fun B hB hN => ?_
 delta O7 at h
 refine sr (SQ tt) ?_
 obtain⟨r1,hr1,h⟩:=bindS h
 refine sr (SQ (fa (cl [] (A52 a0 r1 hr1)) tt)) ?_
 apply ret
 obtain rfl:=oi h
 exact rt (kp [(2,_)] [] hB rfl rfl (by rfl)) [(bo r1)] (rT rN) rfl
def Y7 (a0:E0):Option (Bool) :=
 (X9 4294967295 ([a0.fA,a0.fB,a0.fC]:List Int)).bind fun r1 =>
 some r1
theorem S3 (a0:E0) (r:Bool) (h:Y7 a0=some r):AC Tryz.prog 129 [(.d (D9 a0))] [] (.d (.bool r)) []:=by
 refine AC.of_code2 Tryz.func129 rfl rfl (Nat.le_of_ble_eq_true (by rfl)) fun B hB hN => ?_
 delta Y7 at h
 refine sr (SQ tt) ?_
 obtain⟨r1,hr1,h⟩:=bindS h
 refine sr (SQ (fa (cl [] (A28 4294967295 ([a0.fA,a0.fB,a0.fC]:List Int) r1 hr1)) tt)) ?_
 apply ret
 obtain rfl:=oi h
 exact rt (kp [(2,_)] [] hB rfl rfl (by rfl)) [(bo r1)] (rT rN) rfl
def S4 (a0:E0) (a1:E0):Option (Int) :=
 (H8 a0.fA a1.fA).bind fun r1 =>
 (H8 a0.fB a1.fB).bind fun r2 =>
 (H8 a0.fC a1.fC).bind fun r3 =>
 (A50 ([r1,r2,r3]:List Int)).bind fun r4 =>
 some r4
theorem A30 (a0:E0) (a1:E0) (r:Int) (h:S4 a0 a1=some r):AC Tryz.prog 130 [(.d (D9 a0)),(.d (D9 a1))] [] (.d (.int .i64 r)) []:=by
 refine AC.of_code2 Tryz.func130 rfl rfl (Nat.le_of_ble_eq_true (by rfl)) fun B hB hN => ?_
 delta S4 at h
 refine sr (SQ tt) ?_
 obtain⟨r1,hr1,h⟩:=bindS h
 obtain⟨r2,hr2,h⟩:=bindS h
 obtain⟨r3,hr3,h⟩:=bindS h
 obtain⟨r4,hr4,h⟩:=bindS h
 refine sdS (SQ (fa (cl [] (I9 a0.fA a1.fA r1 hr1)) (fa (cl [] (I9 a0.fB a1.fB r2 hr2)) (fa (cl [] (I9 a0.fC a1.fC r3 hr3)) (fa (cl [] (A5g ([r1,r2,r3]:List Int) r4 hr4)) tt))))) ?_
 apply ret
 obtain rfl:=oi h
 exact rt (kp [(4,_)] [] hB rfl rfl (by rfl)) [(i6 r4)] (rT rN) rfl
def M9 (a0:(List E0)) (s1:Int):Option (((Unit)⊕(Unit))⊕(Int)) :=
 (if (decide (s1<(a0.length:Int)))=true then
 (idx a0 s1).bind fun x37 =>
 jn (fun m44:Bool =>
 (if m44=true then
 some (.inl (.inl ()))
 else
 some (.inr (w64 (s1+1))))) (fun j45 =>
 (Y7 x37).bind fun r47 =>
 (if (!r47)=true then
 j45 true
 else
 (if (decide (0<s1))=true then
 (idx a0 (w64 (s1-1))).bind fun x50 =>
 (S4 x50 x37).bind fun r51 =>
 j45 (decide (0≤r51))
 else
 j45 false)))
 else
 some (.inl (.inr ())))
def Q4 (a0:(List E0)):Option (Bool) :=
 (loop (M9 a0) 0).bind fun x52=>match x52 with
 | (.inl _) =>
  some false
 | (.inr _) =>
  some (decide ((a0.length:Int)≤64))
theorem A48 (a0:(List E0)) (r:Bool) (h:Q4 a0=some r):AC Tryz.prog 128 [(.d (.list 3 (a0.map D9))),(.func 129 []),(.func 130 [])] [] (.d (.bool r)) []:=by
 refine ac2 Tryz.func128 rfl rfl fun B hB hN L => ?_
 delta Q4 at h
 refine sr (SQ tt) ?_
 apply seq
 refine sr (SQ tt) ?_
 apply block
 obtain⟨x52,hx53,h⟩:=bindS h
 refine lg (M9 a0) (fun s1:Int=>([(0,(D3 a0)),(1,(.func 129 [])),(2,(.func 130 [])),(9,(D3 a0)),(10,(i6 (a0.length:Int))),(11,(i6 s1))]:EL)) (fun s1:Int=>([]:OL)) (fun(x:(Unit)⊕(Unit)) e E' O'=>match x with | (.inl _p)=>e = .ret∧Mat B E' O' ([(6,(bo false))]:EL) ([]:OL) | (.inr _p)=>e = .exit 0∧Mat B E' O' ([(0,(D3 a0))]:EL) ([]:OL)) hx53 (mp [] _ _ hB) (fun s1 y h => ?_) (fun e E' O' hR => ?_)
 ·unfold M9 at h
  refine sr (SQ tt) ?_
  apply seq
  apply AWp.cond rfl<;>intro hg36
  ·have h:=A4 hg36 h
   apply AWp.skip
   apply A0
   apply seq
   apply block
   obtain⟨x37,hx37,h⟩:=bindS h
   refine sr (SQ (fa hx37 tt)) ?_
   apply seq
   refine AWp.cut h (fun m44:Bool=>([(0,(D3 a0)),(1,(.func 129 [])),(2,(.func 130 [])),(9,(D3 a0)),(10,(i6 (a0.length:Int))),(11,(i6 s1)),(34,(bo m44))]:EL)) (fun m44:Bool=>([]:OL)) (fun m44 h E' O' hmat => ?_) (fun j45 hjj45 h => ?_)
   ·apply A0
    refine ghost hmat ?_
    apply AWp.cond rfl<;>intro hg46
    ·have h:=A4 hg46 h
     refine sr (SQ tt) ?_
     apply ret
     apply D4
     apply B3
     obtain rfl:=oi h
     exact⟨(fun hc=>by cases hc),rfl,(mp [] _ _ hB)⟩
    ·have h:=A5 hg46 h
     apply AWp.skip
     apply D7
     apply A0
     refine rg (SQ tt) ?_
     obtain rfl:=oi h
     exact⟨rfl,(mp [] _ _ hB)⟩
   ·obtain⟨r47,hr47,h⟩:=bindS h
    rcases bft (!r47) with hg48 | hg48
    ·have h:=A4 hg48 h
     refine drS (SQ (fa (cl [] (S3 x37 r47 hr47)) (fa hg48 tt))) ?_
     exact hjj45 _ h _ _ (mp [] _ _ hB)
    ·have h:=A5 hg48 h
     rcases bft (decide (0<s1)) with hg49 | hg49
     ·have h:=A4 hg49 h
      obtain⟨x50,hx50,h⟩:=bindS h
      obtain⟨r51,hr51,h⟩:=bindS h
      refine drS (SQ (fa (cl [] (S3 x37 r47 hr47)) (fa hg48 (fa hg49 (fa hx50 (fa (cl [] (A30 x50 x37 r51 hr51)) tt)))))) ?_
      exact hjj45 _ h _ _ (mp [] _ _ hB)
     ·have h:=A5 hg49 h
      refine drS (SQ (fa (cl [] (S3 x37 r47 hr47)) (fa hg48 (fa hg49 tt)))) ?_
      exact hjj45 _ h _ _ (mp [] _ _ hB)
  ·have h:=A5 hg36 h
   apply AWp.exit
   apply D8
   obtain rfl:=oi h
   exact⟨(fun hc=>by cases hc),rfl,(mp [] _ _ hB)⟩
 ·rcases x52 with _ | _
  ·obtain⟨rfl,hmat⟩:=hR
   apply D4
   apply B3
   obtain rfl:=oi h
   exact rt (Mat.trans hmat (mp [] [(6,(bo false))] [] hB)) [(bo false)] (rT rN) rfl
  ·obtain⟨rfl,hmat⟩:=hR
   apply C3
   apply A0
   refine ghost hmat ?_
   refine sr (SQ tt) ?_
   apply ret
   obtain rfl:=oi h
   exact rt (kp [(6,_)] [] hB rfl rfl (by rfl)) [(bo (decide ((a0.length:Int)≤64)))] (rT rN) rfl
def I5 (a0:(List E0)):Option (Bool) :=
 (Q4 a0).bind fun r1 =>
 some r1
theorem L9 (a0:(List E0)) (r:Bool) (h:I5 a0=some r):AC Tryz.prog 119 [(.d (.list 3 (a0.map D9)))] [] (.d (.bool r)) []:=by
 refine AC.of_code2 Tryz.func119 rfl rfl (Nat.le_of_ble_eq_true (by rfl)) fun B hB hN => ?_
 delta I5 at h
 refine sr (SQ tt) ?_
 obtain⟨r1,hr1,h⟩:=bindS h
 refine sr (SQ (fa (cl [] (A48 a0 r1 hr1)) tt)) ?_
 apply ret
 obtain rfl:=oi h
 exact rt (kp [(2,_)] [] hB rfl rfl (by rfl)) [(bo r1)] (rT rN) rfl
def A0q (a0:Int):Option (Bool) :=
 some ((((ilk gv0 a0)==0)&&(a0 != 14))&&(a0 != 15))
theorem P5 (a0:Int) (r:Bool) (h:A0q a0=some r):AC Tryz.prog 131 [(.d (.int .i64 a0))] [(500,(.know (globD 0 (.imap gv0))))] (.d (.bool r)) [(500,some (.know (globD 0 (.imap gv0))))]:=by
 refine AC.of_code2 Tryz.func131 rfl rfl (Nat.le_of_ble_eq_true (by rfl)) fun B hB hN => ?_
 delta A0q at h
 refine sr (SQ tt) ?_
 apply sr (cg (OpJ.loadGD (nm:=500) (.imap gv0) tyS164 (by rfl) (by rfl) (by simp) (ltN hN rfl)) rfl (c (mv hN (q 0)) rfl (cg (OpJ.ilook tyU164 underlying3 keyEq3 tyZD3 (ltN hN rfl) (q 3) (q 4)) rfl (c (eqlI (ltN hN rfl) (q 5) (ii 0)) rfl (c (mv hN (q 6)) rfl (c (oq hN 7 (mv hN (q 0)) (OptL.keep (by rfl) OptL.nil) (GuardV.plain _)) rfl (c (oq hN 7 (neqI (ltN hN rfl) (q 8) (ii 14)) (OptL.opt OptL.nil) (GuardV.plain _)) rfl (c (pickAnd rfl (ltN hN rfl) (q 7) (q 9)) rfl (c (mv hN (q 10)) rfl (c (oq hN 11 (mv hN (q 0)) (OptL.keep (by rfl) OptL.nil) (GuardV.plain _)) rfl (c (oq hN 11 (neqI (ltN hN rfl) (q 12) (ii 15)) (OptL.opt OptL.nil) (GuardV.plain _)) rfl (c (pickAnd rfl (ltN hN rfl) (q 11) (q 13)) rfl (c (assign (ltN hN rfl) (q 14)) rfl cn)))))))))))))
 apply ret
 obtain rfl:=oi h
 exact rt (kp [(2,_)] [(500,some _)] hB rfl rfl (by rfl)) [(bo ((((ilk gv0 a0)==0)&&(a0 != 14))&&(a0 != 15)))] (rT rN) rfl
def Q5 (a0:(List A1)) (s1:Int):Option (((Unit)⊕(Unit))⊕(Int)) :=
 (if (decide (s1<(a0.length:Int)))=true then
 (idx a0 s1).bind fun x41 =>
 jn (fun m49:Bool =>
 (if m49=true then
 some (.inl (.inl ()))
 else
 some (.inr (w64 (s1+1))))) (fun j50 =>
 (A0q x41.fType).bind fun r52 =>
 (if (!r52)=true then
 j50 true
 else
 (G1 x41.fType 1 255).bind fun r54 =>
 (if (((!r54) || (x41.fFlags != 224)) || (decide (255<(x41.fData.length:Int))))=true then
 j50 true
 else
 (if (decide (0<s1))=true then
 (idx a0 (w64 (s1-1))).bind fun x57 =>
 j50 (decide (x41.fType≤x57.fType))
 else
 j50 false))))
 else
 some (.inl (.inr ())))
def N0 (a0:(List A1)):Option (Bool) :=
 (loop (Q5 a0) 0).bind fun x58=>match x58 with
 | (.inl _) =>
  some false
 | (.inr _) =>
  some (decide ((a0.length:Int)≤8))
theorem A29 (a0:(List A1)) (r:Bool) (h:N0 a0=some r):AC Tryz.prog 120 [(.d (.list 3 (a0.map A7)))] [(500,(.know (globD 0 (.imap gv0))))] (.d (.bool r)) [(500,some (.know (globD 0 (.imap gv0))))]:=by
 refine ac2 Tryz.func120 rfl rfl fun B hB hN L => ?_
 delta N0 at h
 refine sr (SQ tt) ?_
 apply seq
 refine sr (SQ tt) ?_
 apply block
 obtain⟨x58,hx59,h⟩:=bindS h
 refine lg (Q5 a0) (fun s1:Int=>([(0,(B0 a0)),(5,(B0 a0)),(6,(i6 (a0.length:Int))),(7,(i6 s1))]:EL)) (fun s1:Int=>([(500,some (.know (globD 0 (.imap gv0))))]:OL)) (fun(x:(Unit)⊕(Unit)) e E' O'=>match x with | (.inl _p)=>e = .ret∧Mat B E' O' ([(2,(bo false))]:EL) ([(500,some (.know (globD 0 (.imap gv0))))]:OL) | (.inr _p)=>e = .exit 0∧Mat B E' O' ([(0,(B0 a0))]:EL) ([(500,some (.know (globD 0 (.imap gv0))))]:OL)) hx59 (mp [] _ _ hB) (fun s1 y h => ?_) (fun e E' O' hR => ?_)
 ·unfold Q5 at h
  refine sr (SQ tt) ?_
  apply seq
  apply AWp.cond rfl<;>intro hg40
  ·have h:=A4 hg40 h
   apply AWp.skip
   apply A0
   apply seq
   apply block
   obtain⟨x41,hx41,h⟩:=bindS h
   refine sr (SQ (fa hx41 tt)) ?_
   apply seq
   refine AWp.cut h (fun m49:Bool=>([(0,(B0 a0)),(5,(B0 a0)),(6,(i6 (a0.length:Int))),(7,(i6 s1)),(47,(bo m49))]:EL)) (fun m49:Bool=>([(500,some (.know (globD 0 (.imap gv0))))]:OL)) (fun m49 h E' O' hmat => ?_) (fun j50 hjj50 h => ?_)
   ·apply A0
    refine ghost hmat ?_
    apply AWp.cond rfl<;>intro hg51
    ·have h:=A4 hg51 h
     refine sr (SQ tt) ?_
     apply ret
     apply D4
     apply B3
     obtain rfl:=oi h
     exact⟨(fun hc=>by cases hc),rfl,(mp [] _ _ hB)⟩
    ·have h:=A5 hg51 h
     apply AWp.skip
     apply D7
     apply A0
     refine rg (SQ tt) ?_
     obtain rfl:=oi h
     exact⟨rfl,(mp [] _ _ hB)⟩
   ·obtain⟨r52,hr52,h⟩:=bindS h
    rcases bft (!r52) with hg53 | hg53
    ·have h:=A4 hg53 h
     refine drS (SQ (fa (cl [(500,500)] (P5 x41.fType r52 hr52)) (fa hg53 tt))) ?_
     exact hjj50 _ h _ _ (mp [] _ _ hB)
    ·have h:=A5 hg53 h
     obtain⟨r54,hr54,h⟩:=bindS h
     rcases bft (((!r54) || (x41.fFlags != 224)) || (decide (255<(x41.fData.length:Int)))) with hg55 | hg55
     ·have h:=A4 hg55 h
      refine drS (SQ (fa (cl [(500,500)] (P5 x41.fType r52 hr52)) (fa hg53 (fa (cl [] (B1 x41.fType 1 255 r54 hr54)) (fa hg55 tt))))) ?_
      exact hjj50 _ h _ _ (mp [] _ _ hB)
     ·have h:=A5 hg55 h
      rcases bft (decide (0<s1)) with hg56 | hg56
      ·have h:=A4 hg56 h
       obtain⟨_,hx57,h⟩:=bindS h
       refine drS (SQ (fa (cl [(500,500)] (P5 x41.fType r52 hr52)) (fa hg53 (fa (cl [] (B1 x41.fType 1 255 r54 hr54)) (fa hg55 (fa hg56 (fa hx57 tt))))))) ?_
       exact hjj50 _ h _ _ (mp [] _ _ hB)
      ·have h:=A5 hg56 h
       refine drS (SQ (fa (cl [(500,500)] (P5 x41.fType r52 hr52)) (fa hg53 (fa (cl [] (B1 x41.fType 1 255 r54 hr54)) (fa hg55 (fa hg56 tt)))))) ?_
       exact hjj50 _ h _ _ (mp [] _ _ hB)
  ·have h:=A5 hg40 h
   apply AWp.exit
   apply D8
   obtain rfl:=oi h
   exact⟨(fun hc=>by cases hc),rfl,(mp [] _ _ hB)⟩
 ·rcases x58 with _ | _
  ·obtain⟨rfl,hmat⟩:=hR
   apply D4
   apply B3
   obtain rfl:=oi h
   exact rt (Mat.trans hmat (mp [] [(2,(bo false))] [(500,some (.know (globD 0 (.imap gv0))))] hB)) [(bo false)] (rT rN) rfl
  ·obtain⟨rfl,hmat⟩:=hR
   apply C3
   apply A0
   refine ghost hmat ?_
   refine sr (SQ tt) ?_
   apply ret
   obtain rfl:=oi h
   exact rt (kp [(2,_)] [(500,some _)] hB rfl rfl (by rfl)) [(bo (decide ((a0.length:Int)≤8)))] (rT rN) rfl
def I2 (a0:C8):Option (Bool) :=
 jn (fun m25:Bool =>
 some m25) (fun j26 =>
 (G1 a0.fOrigin (-1) 2).bind fun r27 =>
 (if r27=true then
 (P3 a0.fPath).bind fun r29 =>
 (if r29=true then
 (S2 a0.fNext).bind fun r31 =>
 (if r31=true then
 (G1 a0.fMED (-1) 4294967295).bind fun r33 =>
 (if r33=true then
 (G1 a0.fPref (-1) 4294967295).bind fun r35 =>
 (if r35=true then
 (if (a0.fOTC==(-1))=true then
 (O7 a0.fCommunities).bind fun r38 =>
 (if r38=true then
 (I5 a0.fLarge).bind fun r40 =>
 (if r40=true then
 (N0 a0.fOther).bind fun r42 =>
 j26 r42
 else
 j26 false)
 else
 j26 false)
 else
 (Y9 a0.fOTC).bind fun r43 =>
 (if r43=true then
 (O7 a0.fCommunities).bind fun r45 =>
 (if r45=true then
 (I5 a0.fLarge).bind fun r47 =>
 (if r47=true then
 (N0 a0.fOther).bind fun r49 =>
 j26 r49
 else
 j26 false)
 else
 j26 false)
 else
 j26 false))
 else
 j26 false)
 else
 j26 false)
 else
 j26 false)
 else
 j26 false)
 else
 j26 false))
theorem A05 (a0:C8) (r:Bool) (h:I2 a0=some r):AC Tryz.prog 111 [(.d (B9 a0))] [(500,(.know (globD 0 (.imap gv0))))] (.d (.bool r)) [(500,some (.know (globD 0 (.imap gv0))))]:=by
 refine ac2 Tryz.func111 rfl rfl fun B hB hN L => ?_
 delta I2 at h
 refine sr (SQ tt) ?_
 apply seq
 refine AWp.cut h (fun m25:Bool=>([(2,(bo m25))]:EL)) (fun m25:Bool=>([(500,some (.know (globD 0 (.imap gv0))))]:OL)) (fun m25 h E' O' hmat => ?_) (fun j26 hjj26 h => ?_)
 ·apply A0
  refine ghost hmat ?_
  apply ret
  obtain rfl:=oi h
  exact rt (kp [(2,_)] [(500,some _)] hB rfl rfl (by rfl)) [(bo m25)] (rT rN) rfl
 ·obtain⟨r27,hr27,h⟩:=bindS h
  rcases bft r27 with hg28 | hg28
  ·have h:=A4 hg28 h
   obtain⟨r29,hr29,h⟩:=bindS h
   rcases bft r29 with hg30 | hg30
   ·have h:=A4 hg30 h
    obtain⟨r31,hr31,h⟩:=bindS h
    rcases bft r31 with hg32 | hg32
    ·have h:=A4 hg32 h
     obtain⟨r33,hr33,h⟩:=bindS h
     rcases bft r33 with hg34 | hg34
     ·have h:=A4 hg34 h
      obtain⟨r35,hr35,h⟩:=bindS h
      rcases bft r35 with hg36 | hg36
      ·have h:=A4 hg36 h
       rcases bft (a0.fOTC==(-1)) with hg37 | hg37
       ·have h:=A4 hg37 h
        obtain⟨r38,hr38,h⟩:=bindS h
        rcases bft r38 with hg39 | hg39
        ·have h:=A4 hg39 h
         obtain⟨r40,hr40,h⟩:=bindS h
         rcases bft r40 with hg41 | hg41
         ·have h:=A4 hg41 h
          obtain⟨r42,hr42,h⟩:=bindS h
          refine rg (SQ (fa (cl [] (B1 a0.fOrigin (-1) 2 r27 hr27)) (fa hg28 (fa (cl [] (F5 a0.fPath r29 hr29)) (fa hg30 (fa (cl [] (G2 a0.fNext r31 hr31)) (fa hg32 (fa (cl [] (B1 a0.fMED (-1) 4294967295 r33 hr33)) (fa hg34 (fa (cl [] (B1 a0.fPref (-1) 4294967295 r35 hr35)) (fa hg36 (fa hg37 (fa (cl [] (K7 a0.fCommunities r38 hr38)) (fa hg39 (fa (cl [] (L9 a0.fLarge r40 hr40)) (fa hg41 (fa (cl [(500,500)] (A29 a0.fOther r42 hr42)) tt))))))))))))))))) ?_
          exact hjj26 _ h _ _ (mp [] _ _ hB)
         ·have h:=A5 hg41 h
          refine rg (SQ (fa (cl [] (B1 a0.fOrigin (-1) 2 r27 hr27)) (fa hg28 (fa (cl [] (F5 a0.fPath r29 hr29)) (fa hg30 (fa (cl [] (G2 a0.fNext r31 hr31)) (fa hg32 (fa (cl [] (B1 a0.fMED (-1) 4294967295 r33 hr33)) (fa hg34 (fa (cl [] (B1 a0.fPref (-1) 4294967295 r35 hr35)) (fa hg36 (fa hg37 (fa (cl [] (K7 a0.fCommunities r38 hr38)) (fa hg39 (fa (cl [] (L9 a0.fLarge r40 hr40)) (fa hg41 tt)))))))))))))))) ?_
          exact hjj26 _ h _ _ (mp [] _ _ hB)
        ·have h:=A5 hg39 h
         refine rg (SQ (fa (cl [] (B1 a0.fOrigin (-1) 2 r27 hr27)) (fa hg28 (fa (cl [] (F5 a0.fPath r29 hr29)) (fa hg30 (fa (cl [] (G2 a0.fNext r31 hr31)) (fa hg32 (fa (cl [] (B1 a0.fMED (-1) 4294967295 r33 hr33)) (fa hg34 (fa (cl [] (B1 a0.fPref (-1) 4294967295 r35 hr35)) (fa hg36 (fa hg37 (fa (cl [] (K7 a0.fCommunities r38 hr38)) (fa hg39 tt)))))))))))))) ?_
         exact hjj26 _ h _ _ (mp [] _ _ hB)
       ·have h:=A5 hg37 h
        obtain⟨r43,hr43,h⟩:=bindS h
        rcases bft r43 with hg44 | hg44
        ·have h:=A4 hg44 h
         obtain⟨r45,hr45,h⟩:=bindS h
         rcases bft r45 with hg46 | hg46
         ·have h:=A4 hg46 h
          obtain⟨r47,hr47,h⟩:=bindS h
          rcases bft r47 with hg48 | hg48
          ·have h:=A4 hg48 h
           obtain⟨r49,hr49,h⟩:=bindS h
           refine rg (SQ (fa (cl [] (B1 a0.fOrigin (-1) 2 r27 hr27)) (fa hg28 (fa (cl [] (F5 a0.fPath r29 hr29)) (fa hg30 (fa (cl [] (G2 a0.fNext r31 hr31)) (fa hg32 (fa (cl [] (B1 a0.fMED (-1) 4294967295 r33 hr33)) (fa hg34 (fa (cl [] (B1 a0.fPref (-1) 4294967295 r35 hr35)) (fa hg36 (fa hg37 (fa (cl [] (K6 a0.fOTC r43 hr43)) (fa hg44 (fa (cl [] (K7 a0.fCommunities r45 hr45)) (fa hg46 (fa (cl [] (L9 a0.fLarge r47 hr47)) (fa hg48 (fa (cl [(500,500)] (A29 a0.fOther r49 hr49)) tt))))))))))))))))))) ?_
           exact hjj26 _ h _ _ (mp [] _ _ hB)
          ·have h:=A5 hg48 h
           refine rg (SQ (fa (cl [] (B1 a0.fOrigin (-1) 2 r27 hr27)) (fa hg28 (fa (cl [] (F5 a0.fPath r29 hr29)) (fa hg30 (fa (cl [] (G2 a0.fNext r31 hr31)) (fa hg32 (fa (cl [] (B1 a0.fMED (-1) 4294967295 r33 hr33)) (fa hg34 (fa (cl [] (B1 a0.fPref (-1) 4294967295 r35 hr35)) (fa hg36 (fa hg37 (fa (cl [] (K6 a0.fOTC r43 hr43)) (fa hg44 (fa (cl [] (K7 a0.fCommunities r45 hr45)) (fa hg46 (fa (cl [] (L9 a0.fLarge r47 hr47)) (fa hg48 tt)))))))))))))))))) ?_
           exact hjj26 _ h _ _ (mp [] _ _ hB)
         ·have h:=A5 hg46 h
          refine rg (SQ (fa (cl [] (B1 a0.fOrigin (-1) 2 r27 hr27)) (fa hg28 (fa (cl [] (F5 a0.fPath r29 hr29)) (fa hg30 (fa (cl [] (G2 a0.fNext r31 hr31)) (fa hg32 (fa (cl [] (B1 a0.fMED (-1) 4294967295 r33 hr33)) (fa hg34 (fa (cl [] (B1 a0.fPref (-1) 4294967295 r35 hr35)) (fa hg36 (fa hg37 (fa (cl [] (K6 a0.fOTC r43 hr43)) (fa hg44 (fa (cl [] (K7 a0.fCommunities r45 hr45)) (fa hg46 tt)))))))))))))))) ?_
          exact hjj26 _ h _ _ (mp [] _ _ hB)
        ·have h:=A5 hg44 h
         refine rg (SQ (fa (cl [] (B1 a0.fOrigin (-1) 2 r27 hr27)) (fa hg28 (fa (cl [] (F5 a0.fPath r29 hr29)) (fa hg30 (fa (cl [] (G2 a0.fNext r31 hr31)) (fa hg32 (fa (cl [] (B1 a0.fMED (-1) 4294967295 r33 hr33)) (fa hg34 (fa (cl [] (B1 a0.fPref (-1) 4294967295 r35 hr35)) (fa hg36 (fa hg37 (fa (cl [] (K6 a0.fOTC r43 hr43)) (fa hg44 tt)))))))))))))) ?_
         exact hjj26 _ h _ _ (mp [] _ _ hB)
      ·have h:=A5 hg36 h
       refine rg (SQ (fa (cl [] (B1 a0.fOrigin (-1) 2 r27 hr27)) (fa hg28 (fa (cl [] (F5 a0.fPath r29 hr29)) (fa hg30 (fa (cl [] (G2 a0.fNext r31 hr31)) (fa hg32 (fa (cl [] (B1 a0.fMED (-1) 4294967295 r33 hr33)) (fa hg34 (fa (cl [] (B1 a0.fPref (-1) 4294967295 r35 hr35)) (fa hg36 tt))))))))))) ?_
       exact hjj26 _ h _ _ (mp [] _ _ hB)
     ·have h:=A5 hg34 h
      refine rg (SQ (fa (cl [] (B1 a0.fOrigin (-1) 2 r27 hr27)) (fa hg28 (fa (cl [] (F5 a0.fPath r29 hr29)) (fa hg30 (fa (cl [] (G2 a0.fNext r31 hr31)) (fa hg32 (fa (cl [] (B1 a0.fMED (-1) 4294967295 r33 hr33)) (fa hg34 tt))))))))) ?_
      exact hjj26 _ h _ _ (mp [] _ _ hB)
    ·have h:=A5 hg32 h
     refine rg (SQ (fa (cl [] (B1 a0.fOrigin (-1) 2 r27 hr27)) (fa hg28 (fa (cl [] (F5 a0.fPath r29 hr29)) (fa hg30 (fa (cl [] (G2 a0.fNext r31 hr31)) (fa hg32 tt))))))) ?_
     exact hjj26 _ h _ _ (mp [] _ _ hB)
   ·have h:=A5 hg30 h
    refine rg (SQ (fa (cl [] (B1 a0.fOrigin (-1) 2 r27 hr27)) (fa hg28 (fa (cl [] (F5 a0.fPath r29 hr29)) (fa hg30 tt))))) ?_
    exact hjj26 _ h _ _ (mp [] _ _ hB)
  ·have h:=A5 hg28 h
   refine rg (SQ (fa (cl [] (B1 a0.fOrigin (-1) 2 r27 hr27)) (fa hg28 tt))) ?_
   exact hjj26 _ h _ _ (mp [] _ _ hB)
def A3h (a0:A2) (a1:A6):Option (Bool) :=
 some (a0.fAddr.fV6 != a1.fAttrs.fNext.fV6)
theorem A6n (a0:A2) (a1:A6) (r:Bool) (h:A3h a0 a1=some r):AC Tryz.prog 110 [(.d (C4 a0)),(pt 0)] [(0,(.box 61 (.d (D1 a1))))] (.d (.bool r)) [(0,bd 61 (D1 a1))]:=by
 refine AC.of_code2 Tryz.func110 rfl rfl (Nat.le_of_ble_eq_true (by rfl)) fun B hB hN => ?_
 delta A3h at h
 refine sr (SQ tt) ?_
 refine sr (SQ tt) ?_
 apply ret
 obtain rfl:=oi h
 exact rt (kp [(3,_)] [(0,some _)] hB rfl rfl (by rfl)) [(bo (a0.fAddr.fV6 != a1.fAttrs.fNext.fV6))] (rT rN) rfl
def J8 (a0:(List A2)) (a1:A6) (s1:Int):Option (((Int)⊕(Unit))⊕(Int)) :=
 (if (decide (s1<(a0.length:Int)))=true then
 (idx a0 s1).bind fun x13 =>
 (A3h x13 a1).bind fun r14 =>
 (if r14=true then
 some (.inl (.inl s1))
 else
 some (.inr (w64 (s1+1))))
 else
 some (.inl (.inr ())))
def S5 (a0:(List A2)) (a1:A6):Option (Int) :=
 (loop (J8 a0 a1) 0).bind fun x16=>match x16 with
 | (.inl p10) =>
  some p10
 | (.inr _) =>
  some (-1)
theorem A4j (a0:(List A2)) (a1:A6) (r:Int) (h:S5 a0 a1=some r):AC Tryz.prog 108 [(.d (.list 4 (a0.map C4))),(.func 110 [(pt 0)])] [(0,(.box 61 (.d (D1 a1))))] (.d (.int .i64 r)) [(0,bd 61 (D1 a1))]:=by
 refine AC.of_code2 Tryz.func108 rfl rfl (Nat.le_of_ble_eq_true (by rfl)) fun B hB hN => ?_
 delta S5 at h
 refine sr (SQ tt) ?_
 apply seq
 refine sr (SQ tt) ?_
 apply block
 obtain⟨x16,hx17,h⟩:=bindS h
 refine lg (J8 a0 a1) (fun s1:Int=>([(0,(E6 a0)),(1,(.func 110 [(pt 0)])),(7,(i6 (a0.length:Int))),(8,(i6 s1))]:EL)) (fun s1:Int=>([(0,bd 61 (D1 a1))]:OL)) (fun(x:(Int)⊕(Unit)) e E' O'=>match x with | (.inl p10)=>e = .ret∧Mat B E' O' ([(4,(i6 p10))]:EL) ([(0,bd 61 (D1 a1))]:OL) | (.inr _p)=>e = .exit 0∧Mat B E' O' ([]:EL) ([(0,bd 61 (D1 a1))]:OL)) hx17 (mp [] _ _ hB) (fun s1 y h => ?_) (fun e E' O' hR => ?_)
 ·unfold J8 at h
  refine sr (SQ tt) ?_
  apply seq
  apply AWp.cond rfl<;>intro hg12
  ·have h:=A4 hg12 h
   apply AWp.skip
   apply A0
   apply seq
   apply block
   refine sr (SQ tt) ?_
   apply seq
   obtain⟨x13,hx13,h⟩:=bindS h
   obtain⟨r14,hr14,h⟩:=bindS h
   refine rg (SQ (fa hx13 (fa (cl [(0,0)] (A6n x13 a1 r14 hr14)) tt))) ?_
   apply A0
   refine ghost (mp [] [(0,(E6 a0)),(1,(.func 110 [(pt 0)])),(5,(i6 s1)),(7,(i6 (a0.length:Int))),(8,(i6 s1)),(16,(bo r14))] [(0,bd 61 (D1 a1))] hB) ?_
   apply AWp.cond rfl<;>intro hg15
   ·have h:=A4 hg15 h
    refine sr (SQ tt) ?_
    apply ret
    apply D4
    apply B3
    obtain rfl:=oi h
    exact⟨(fun hc=>by cases hc),rfl,(mp [] _ _ hB)⟩
   ·have h:=A5 hg15 h
    apply AWp.skip
    apply D7
    apply A0
    refine rg (SQ tt) ?_
    obtain rfl:=oi h
    exact⟨rfl,(mp [] _ _ hB)⟩
  ·have h:=A5 hg12 h
   apply AWp.exit
   apply D8
   obtain rfl:=oi h
   exact⟨(fun hc=>by cases hc),rfl,(mp [] _ _ hB)⟩
 ·rcases x16 with p10 | _
  ·obtain⟨rfl,hmat⟩:=hR
   apply D4
   apply B3
   obtain rfl:=oi h
   exact rt (Mat.trans hmat (mp [] [(4,(i6 p10))] [(0,bd 61 (D1 a1))] hB)) [(i6 p10)] (rT rN) rfl
  ·obtain⟨rfl,hmat⟩:=hR
   apply C3
   apply A0
   refine ghost hmat ?_
   refine sr (SQ tt) ?_
   apply ret
   obtain rfl:=oi h
   exact rt (kp [(4,_)] [(0,some _)] hB rfl rfl (by rfl)) [(i6 (-1))] (rT rN) rfl
def J9 (a0:(List A2)) (a1:A6):Option (Bool) :=
 (S5 a0 a1).bind fun r1 =>
 some (decide (0≤r1))
theorem A3i (a0:(List A2)) (a1:A6) (r:Bool) (h:J9 a0 a1=some r):AC Tryz.prog 90 [(.d (.list 4 (a0.map C4))),(.func 110 [(pt 0)])] [(0,(.box 61 (.d (D1 a1))))] (.d (.bool r)) [(0,bd 61 (D1 a1))]:=by
 refine AC.of_code2 Tryz.func90 rfl rfl (Nat.le_of_ble_eq_true (by rfl)) fun B hB hN => ?_
 delta J9 at h
 refine sr (SQ tt) ?_
 apply seq
 obtain⟨r1,hr1,h⟩:=bindS h
 refine rg (SQ (fa (cl [(0,0)] (A4j a0 a1 r1 hr1)) tt)) ?_
 apply A0
 refine ghost (mp [] [(4,(bo (decide (0≤r1))))] [(0,bd 61 (D1 a1))] hB) ?_
 apply ret
 obtain rfl:=oi h
 exact rt (kp [(4,_)] [(0,some _)] hB rfl rfl (by rfl)) [(bo (decide (0≤r1)))] (rT rN) rfl
def V9 (a0:A6):Option (Bool) :=
 (if ((a0.fAnnounce.length:Int)==0)=true then
 (A0n a0.fAttrs).bind fun r2 =>
 some r2
 else
 jn (fun m7:Bool =>
 some m7) (fun j8 =>
 (I2 a0.fAttrs).bind fun r9 =>
 (if ((r9&&(a0.fAttrs.fOrigin != (-1)))&&(!((a0.fAttrs.fNext.fV6==false)&&((a0.fAttrs.fNext.fHi==0)&&((a0.fAttrs.fNext.fLo==0)&&true)))))=true then
 (J9 a0.fAnnounce a0).bind fun r11 =>
 j8 (!r11)
 else
 j8 false)))
theorem A8n (a0:A6) (r:Bool) (h:V9 a0=some r):AC Tryz.prog 91 [(.d (D1 a0))] [(500,(.know (globD 0 (.imap gv0))))] (.d (.bool r)) [(500,some (.know (globD 0 (.imap gv0))))]:=by
 refine ac2 Tryz.func91 rfl rfl fun B hB hN L => ?_
 delta V9 at h
 refine sr (SQ tt) ?_
 apply seq
 refine sr (SQ tt) ?_
 apply AWp.cond rfl<;>intro hg1
 ·have h:=A4 hg1 h
  obtain⟨r2,hr2,h⟩:=bindS h
  refine sr (SQ (fa (cl [] (A7m a0.fAttrs r2 hr2)) tt)) ?_
  apply ret
  apply B3
  obtain rfl:=oi h
  exact rt (kp [(2,_)] [(500,some _)] hB rfl rfl (by rfl)) [(bo r2)] (rT rN) rfl
 ·have h:=A5 hg1 h
  apply AWp.skip
  apply A0
  apply sr (cg (OpJ.makeF (OpdL.cons (q 1) OpdL.nil) rfl rfl (L rfl)) rfl (c (assign (L rfl) (q 11)) rfl cn))
  apply seq
  refine AWp.cut h (fun m7:Bool=>([(2,(bo m7))]:EL)) (fun m7:Bool=>([(500,some (.know (globD 0 (.imap gv0))))]:OL)) (fun m7 h E' O' hmat => ?_) (fun j8 hjj8 h => ?_)
  ·apply A0
   refine ghost hmat ?_
   apply ret
   obtain rfl:=oi h
   exact rt (kp [(2,_)] [(500,some _)] hB rfl rfl (by rfl)) [(bo m7)] (rT rN) rfl
  ·obtain⟨r9,hr9,h⟩:=bindS h
   rcases bft ((r9&&(a0.fAttrs.fOrigin != (-1)))&&(!((a0.fAttrs.fNext.fV6==false)&&((a0.fAttrs.fNext.fHi==0)&&((a0.fAttrs.fNext.fLo==0)&&true))))) with hg10 | hg10
   ·have h:=A4 hg10 h
    obtain⟨r11,hr11,h⟩:=bindS h
    refine rg (SQ (fa (cl [(500,500)] (A05 a0.fAttrs r9 hr9)) (fa hg10 (fa (cl [(0,1001)] (A3i a0.fAnnounce a0 r11 hr11)) tt)))) ?_
    exact hjj8 _ h _ _ (mp [] _ _ hB)
   ·have h:=A5 hg10 h
    refine rg (SQ (fa (cl [(500,500)] (A05 a0.fAttrs r9 hr9)) (fa hg10 tt))) ?_
    exact hjj8 _ h _ _ (mp [] _ _ hB)
def H9 (a0:Bool) (a1:Int) (a2:(List Int)):Option ((List A1)) :=
 jn (fun m3:(List A1) =>
 some m3) (fun j4 =>
 (if a0=true then
 chk (decide ([(A1.mk (ilk gv0 a1) a1 a2)].length≤LIM)) <|
 j4 [(A1.mk (ilk gv0 a1) a1 a2)]
 else
 j4 ([]:List A1)))
theorem A53 (a0:Bool) (a1:Int) (a2:(List Int)) (r:(List A1)) (h:H9 a0 a1 a2=some r):AC Tryz.prog 132 [(.d (.bool a0)),(.d (.int .i64 a1)),(.d (.list 1 (a2.map (eI .u8)))),(pt 0)] [(0,(.box 33 .nils)),(500,(.know (globD 0 (.imap gv0))))] (.tup []) [(0,some (.box 33 (.sref 950000 3 0 r.length))),(500,some (.know (globD 0 (.imap gv0)))),(950000,some (.row 69 3 (r.map A7)))]:=by
 refine AC.of_code2 Tryz.func132 rfl rfl (Nat.le_of_ble_eq_true (by rfl)) fun B hB hN => ?_
 delta H9 at h
 refine sr (SQ tt) ?_
 refine gh [(1,_),(2,_),(3,_),(7,_)] [(0,some _),(500,some _)] hB rfl rfl (by rfl) ?_
 refine AWp.cut h (fun m3:(List A1)=>([]:EL)) (fun m3:(List A1)=>([(0,some (.box 33 (.sref 3000 3 0 m3.length))),(500,some (.know (globD 0 (.imap gv0)))),(3000,some (C9 m3))]:OL)) (fun m3 h E' O' hmat => ?_) (fun j4 hjj4 h => ?_)
 ·obtain rfl:=oi h
  exact⟨.inr rfl,_,_,(Mat.trans hmat (mp [(950000,3000)] [] [(0,some (.box 33 (.sref 950000 3 0 m3.length))),(500,some (.know (globD 0 (.imap gv0)))),(950000,some (C9 m3))] hB)),[],rN,rfl,by rfl,by rfl,by rfl⟩
 ·apply AWp.cond rfl<;>intro hg5
  ·have h:=A4 hg5 h
   obtain⟨hc6,h⟩:=B6 h
   apply rg (c (lb hN 33 _ _ tyS33 (At.here _) (q 3)) rfl (cg (OpJ.loadGD (nm:=500) (.imap gv0) tyS164 (by rfl) (by rfl) (by simp) (ltN hN rfl)) rfl (c (mv hN (q 1)) rfl (cg (OpJ.ilook tyU164 underlying3 keyEq3 tyZD3 (ltN hN rfl) (q 9) (q 10)) rfl (c (mv hN (q 1)) rfl (c (mv hN (q 2)) rfl (c (OpJ.coe (v:=(.st [(i6 (ilk gv0 a1)),(i6 a1),(.d (.list 1 (a2.map (eI .u8))))])) (y:=(.st [(.int .i64 (ilk gv0 a1)),(.int .i64 a1),(.list 1 (a2.map (eI .u8)))])) (Co.st (CoL.cons (Co.d _) (CoL.cons (Co.d _) (CoL.cons (Co.d _) CoL.nil)))) rfl (OpJ.build (places:=[(0,1),(1,1),(2,1)]) ⟨underlying69,fun w=>by kernel_rfl⟩ tyZS69 (Opds.cons (q 11) (Opds.cons (q 12) (Opds.cons (q 13) Opds.nil))) (by kernel_rfl) (r:=(.st [(i6 (ilk gv0 a1)),(i6 a1),(.d (.list 1 (a2.map (eI .u8))))])) (by rfl) (ltN hN rfl))) rfl (c (buildSlice underlying33 tyS69 tyZD69 (by rfl) (by decide) (by decide) (Opds.cons (q 14) Opds.nil) (by kernel_rfl) (es:=([(.st [(.int .i64 (ilk gv0 a1)),(.int .i64 a1),(.list 1 (a2.map (eI .u8)))])]:List D)) (by rfl) (by rfl) (by kernel_rfl) (by simp) (ltN hN rfl)) rfl (cg (OpJ.appendN hB underlying33 tyE69 (nm:=1016) (by decide) (ys:=[(A1.mk (ilk gv0 a1) a1 a2)].map A7) (len:=[(A1.mk (ilk gv0 a1) a1 a2)].length) (by simp) (A45 (f:=A7) (fun _=>rfl)) (by rw [List.length_map];exact Y8 hc6 (by decide)) (by rw [List.length_map];exact A2c hc6) (ltN hN rfl) (q 8) (q 15)) rfl (cg (sB tyS33 (q 3) (q 16)) rfl cn))))))))))
   exact hjj4 _ h _ _ (mp [(3000,1016)] _ _ hB)
  ·have h:=A5 hg5 h
   apply AWp.skip
   exact hjj4 _ h _ _ (Mat.trans (Mat.beginP (n:=3000) (e:=69) (sz:=3) (Ts:=[]) (Bs:=[(0,some (.box 33 (.sref 3000 3 0 0)))]) hB (by decide) (by rfl) (by decide) TwT.nil (TwB.cons (x:=.nils) (by rfl) (Tw.leaf ⟨rfl,rfl⟩) TwB.nil)) (mp [] _ _ hB))
def N5 (a1:(List Int)) (s1:Int×(List Int)):Option ((((List Int)))⊕(Int×(List Int))) :=
 (if (decide (s1.1<(a1.length:Int)))=true then
 (idx a1 s1.1).bind fun x10 =>
 chk (decide ((s1.2++([(IntKind.u8.wrap (shrI .i64 x10 24)),(IntKind.u8.wrap (shrI .i64 x10 16)),(IntKind.u8.wrap (shrI .i64 x10 8)),(IntKind.u8.wrap x10)]:List Int)).length≤LIM)) <|
 some (.inr ((w64 (s1.1+1)),(s1.2++([(IntKind.u8.wrap (shrI .i64 x10 24)),(IntKind.u8.wrap (shrI .i64 x10 16)),(IntKind.u8.wrap (shrI .i64 x10 8)),(IntKind.u8.wrap x10)]:List Int))))
 else
 some (.inl s1.2))
def M2 (a0:(List Int)) (a1:(List Int)):Option ((List Int)) :=
 (loop (N5 a1) (0,a0)).bind fun p8 =>
 some p8
theorem A06 (a0:(List Int)) (a1:(List Int)) (r:(List Int)) (h:M2 a0 a1=some r):AC Tryz.prog 134 [(.sref 0 1 0 a0.length),(.d (.list 1 (a1.map (eI .i64))))] [(0,(.row 5 1 (a0.map (eI .u8))))] (.sref 900000 1 0 r.length) [(0,none),(900000,some (.row 5 1 (r.map (eI .u8))))]:=by
 refine ac2 Tryz.func134 rfl rfl fun B hB hN L => ?_
 delta M2 at h
 refine sr (SQ tt) ?_
 apply seq
 refine sr (SQ tt) ?_
 apply block
 obtain⟨p8,hx13,h⟩:=bindS h
 refine lg (N5 a1) (fun s1:Int×(List Int)=>([(0,(.sref 3000 1 0 s1.2.length)),(7,(qI_1 a1)),(8,(i6 (a1.length:Int))),(9,(i6 s1.1))]:EL)) (fun s1:Int×(List Int)=>([(3000,some (.row 5 1 (s1.2.map (eI .u8))))]:OL)) (fun(p8:((List Int))) e E' O'=>e = .exit 0∧Mat B E' O' ([(0,(.sref 3000 1 0 p8.length))]:EL) ([(3000,some (.row 5 1 (p8.map (eI .u8))))]:OL)) hx13 (mp [(3000,0)] _ _ hB) (fun s1 y h => ?_) (fun e E' O' hR => ?_)
 ·unfold N5 at h
  refine sr (SQ tt) ?_
  apply seq
  apply AWp.cond rfl<;>intro hg9
  ·have h:=A4 hg9 h
   apply AWp.skip
   apply A0
   apply seq
   apply block
   obtain⟨_,hx10,h⟩:=bindS h
   refine sr (SQ (fa hx10 tt)) ?_
   obtain⟨hc11,h⟩:=B6 h
   have hc11_o:=hc11
   simp only [decide_eq_true_eq] at hc11_o
   refine rg (SQ (fa hc11 tt)) ?_
   apply D7
   apply A0
   refine rg (SQ tt) ?_
   obtain rfl:=oi h
   exact⟨rfl,(mp [(3000,1026)] _ _ hB)⟩
  ·have h:=A5 hg9 h
   apply AWp.exit
   apply D8
   obtain rfl:=oi h
   exact⟨(fun hc=>by cases hc),rfl,(mp [] _ _ hB)⟩
 ·obtain⟨rfl,hmat⟩:=hR
  apply C3
  apply A0
  refine ghost hmat ?_
  refine sr (SQ tt) ?_
  apply ret
  obtain rfl:=oi h
  exact rt (mp [(900000,3000)] [(4,(.sref 900000 1 0 p8.length))] [(900000,some (.row 5 1 (p8.map (eI .u8))))] hB) [(.sref 900000 1 0 p8.length)] (rT rN) rfl
def M0 (a0:(List B2)) (s1:Int×(List Int)):Option ((((List Int)))⊕(Int×(List Int))) :=
 (if (decide (s1.1<(a0.length:Int)))=true then
 (idx a0 s1.1).bind fun x20 =>
 jn (fun m22:Int =>
 chk (decide ((s1.2++([m22,(IntKind.u8.wrap (x20.fASNs.length:Int))]:List Int)).length≤LIM)) <|
 (M2 (s1.2++([m22,(IntKind.u8.wrap (x20.fASNs.length:Int))]:List Int)) x20.fASNs).bind fun r25 =>
 some (.inr ((w64 (s1.1+1)),r25))) (fun j23 =>
 (if x20.fSet=true then
 j23 1
 else
 j23 2))
 else
 some (.inl s1.2))
def N6 (a0:(List B2)):Option ((List Int)) :=
 (loop (M0 a0) (0,([]:List Int))).bind fun p18 =>
 some p18
theorem A69 (a0:(List B2)) (r:(List Int)) (h:N6 a0=some r):AC Tryz.prog 133 [(.d (.list 2 (a0.map C7)))] [] (.d (.list 1 (r.map (eI .u8)))) []:=by
 refine ac2 Tryz.func133 rfl rfl fun B hB hN L => ?_
 delta N6 at h
 refine sr (SQ tt) ?_
 refine sr (SQ tt) ?_
 apply seq
 refine sr (SQ tt) ?_
 apply block
 obtain⟨p18,hx28,h⟩:=bindS h
 refine lg (M0 a0) (fun s1:Int×(List Int)=>([(3,(.sref 3003 1 0 s1.2.length)),(7,(B5 a0)),(8,(i6 (a0.length:Int))),(9,(i6 s1.1))]:EL)) (fun s1:Int×(List Int)=>([(3003,some (.row 5 1 (s1.2.map (eI .u8))))]:OL)) (fun(p18:((List Int))) e E' O'=>e = .exit 0∧Mat B E' O' ([(3,(.sref 3003 1 0 p18.length))]:EL) ([(3003,some (.row 5 1 (p18.map (eI .u8))))]:OL)) hx28 (Mat.trans (Mat.beginP (n:=3003) (e:=5) (sz:=1) (Ts:=[(3,(.sref 3003 1 0 0))]) (Bs:=[]) hB (by decide) (by rfl) (by decide) (TwT.cons (x:=.nils) (by rfl) (Tw.leaf ⟨rfl,rfl⟩) TwT.nil) TwB.nil) (mp [] _ _ hB)) (fun s1 y h => ?_) (fun e E' O' hR => ?_)
 ·unfold M0 at h
  refine sr (SQ tt) ?_
  apply seq
  apply AWp.cond rfl<;>intro hg19
  ·have h:=A4 hg19 h
   apply AWp.skip
   apply A0
   apply seq
   apply block
   obtain⟨x20,hx20,h⟩:=bindS h
   refine sr (SQ (fa hx20 tt)) ?_
   refine sr (SQ tt) ?_
   apply seq
   refine sr (SQ tt) ?_
   refine gh [(3,_),(5,_),(6,_),(7,_),(8,_),(9,_),(14,_)] [(1005,some _),(3003,some _)] hB rfl rfl (by rfl) ?_
   refine AWp.cut h (fun m22:Int=>([(3,(.sref 3003 1 0 s1.2.length)),(5,(pt 1005)),(6,(.d (.int .u8 m22))),(7,(B5 a0)),(8,(i6 (a0.length:Int))),(9,(i6 s1.1))]:EL)) (fun m22:Int=>([(1005,bd 66 (C7 x20)),(3003,some (.row 5 1 (s1.2.map (eI .u8))))]:OL)) (fun m22 h E' O' hmat => ?_) (fun j23 hjj23 h => ?_)
   ·apply A0
    refine ghost hmat ?_
    obtain⟨hc24,h⟩:=B6 h
    obtain⟨r25,hr25,h⟩:=bindS h
    refine drS (SQ (fa hc24 (fa (cl [(0,1022),(900000,100000)] (A06 (s1.2++([m22,(IntKind.u8.wrap (x20.fASNs.length:Int))]:List Int)) x20.fASNs r25 hr25)) tt))) ?_
    apply D7
    apply A0
    refine ghost (mp [] [(3,(.sref 100000 1 0 r25.length)),(7,(B5 a0)),(8,(i6 (a0.length:Int))),(9,(i6 s1.1))] [(100000,some (.row 5 1 (r25.map (eI .u8))))] hB) ?_
    refine rg (SQ tt) ?_
    obtain rfl:=oi h
    exact⟨rfl,(mp [(3003,100000)] _ _ hB)⟩
   ·apply AWp.cond rfl<;>intro hg26
    ·have h:=A4 hg26 h
     refine rg (SQ tt) ?_
     exact hjj23 _ h _ _ (mp [] _ _ hB)
    ·have h:=A5 hg26 h
     apply AWp.skip
     exact hjj23 _ h _ _ (mp [] _ _ hB)
  ·have h:=A5 hg19 h
   apply AWp.exit
   apply D8
   obtain rfl:=oi h
   exact⟨(fun hc=>by cases hc),rfl,(mp [] _ _ hB)⟩
 ·obtain⟨rfl,hmat⟩:=hR
  apply C3
  apply A0
  refine ghost hmat ?_
  refine sr (SQ tt) ?_
  apply ret
  obtain rfl:=oi h
  exact rt (Mat.trans (Mat.freezeP (n:=3003) (e:=5) (sz:=1) (es:=p18.map (eI .u8)) (Ts:=[(2,(.d (.list 1 (p18.map (eI .u8)))))]) (Bs:=[]) (by rfl) (TwT.cons (x:=(.sref 3003 1 0 p18.length)) (by rfl) (FrzL.all (by first | rfl | (simp;done) | (simp;omega) | omega)) TwT.nil) TwB.nil) (mp [] [(2,(.d (.list 1 (p18.map (eI .u8)))))] [] hB)) [(.d (.list 1 (p18.map (eI .u8))))] (rT rN) rfl
def C5 (a0:Bool) (a1:Int) (a2:(List Int)) (a3:(List A1)):Option ((List A1)) :=
 jn (fun m3:(List A1) =>
 some m3) (fun j4 =>
 (if a0=true then
 chk (decide ((a3++[(A1.mk (ilk gv0 a1) a1 a2)]).length≤LIM)) <|
 j4 (a3++[(A1.mk (ilk gv0 a1) a1 a2)])
 else
 j4 a3))
theorem G3 (a0:Bool) (a1:Int) (a2:(List Int)) (a3:(List A1)) (r:(List A1)) (h:C5 a0 a1 a2 a3=some r):AC Tryz.prog 132 [(.d (.bool a0)),(.d (.int .i64 a1)),(.d (.list 1 (a2.map (eI .u8)))),(pt 0)] [(0,(.box 33 (.sref 1 3 0 a3.length))),(1,(.row 69 3 (a3.map A7))),(500,(.know (globD 0 (.imap gv0))))] (.tup []) [(1,none),(0,some (.box 33 (.sref 950000 3 0 r.length))),(500,some (.know (globD 0 (.imap gv0)))),(950000,some (.row 69 3 (r.map A7)))]:=by
 refine AC.of_code2 Tryz.func132 rfl rfl (Nat.le_of_ble_eq_true (by rfl)) fun B hB hN => ?_
 delta C5 at h
 refine sr (SQ tt) ?_
 refine gh [(1,_),(2,_),(3,_),(7,_)] [(0,some _),(1,some _),(500,some _)] hB rfl rfl (by rfl) ?_
 refine AWp.cut h (fun m3:(List A1)=>([]:EL)) (fun m3:(List A1)=>([(0,some (.box 33 (.sref 3000 3 0 m3.length))),(500,some (.know (globD 0 (.imap gv0)))),(3000,some (C9 m3))]:OL)) (fun m3 h E' O' hmat => ?_) (fun j4 hjj4 h => ?_)
 ·obtain rfl:=oi h
  exact⟨.inr rfl,_,_,(Mat.trans hmat (mp [(950000,3000)] [] [(0,some (.box 33 (.sref 950000 3 0 m3.length))),(500,some (.know (globD 0 (.imap gv0)))),(950000,some (C9 m3))] hB)),[],rN,rfl,by rfl,by rfl,by rfl⟩
 ·apply AWp.cond rfl<;>intro hg5
  ·have h:=A4 hg5 h
   obtain⟨hc6,h⟩:=B6 h
   have hc6_o:=hc6
   simp only [decide_eq_true_eq] at hc6_o
   apply rg (c (lb hN 33 _ _ tyS33 (At.here _) (q 3)) rfl (cg (OpJ.loadGD (nm:=500) (.imap gv0) tyS164 (by rfl) (by rfl) (by simp) (ltN hN rfl)) rfl (c (mv hN (q 1)) rfl (cg (OpJ.ilook tyU164 underlying3 keyEq3 tyZD3 (ltN hN rfl) (q 9) (q 10)) rfl (c (mv hN (q 1)) rfl (c (mv hN (q 2)) rfl (c (OpJ.coe (v:=(.st [(i6 (ilk gv0 a1)),(i6 a1),(.d (.list 1 (a2.map (eI .u8))))])) (y:=(.st [(.int .i64 (ilk gv0 a1)),(.int .i64 a1),(.list 1 (a2.map (eI .u8)))])) (Co.st (CoL.cons (Co.d _) (CoL.cons (Co.d _) (CoL.cons (Co.d _) CoL.nil)))) rfl (OpJ.build (places:=[(0,1),(1,1),(2,1)]) ⟨underlying69,fun w=>by kernel_rfl⟩ tyZS69 (Opds.cons (q 11) (Opds.cons (q 12) (Opds.cons (q 13) Opds.nil))) (by kernel_rfl) (r:=(.st [(i6 (ilk gv0 a1)),(i6 a1),(.d (.list 1 (a2.map (eI .u8))))])) (by rfl) (ltN hN rfl))) rfl (c (buildSlice underlying33 tyS69 tyZD69 (by rfl) (by decide) (by decide) (Opds.cons (q 14) Opds.nil) (by kernel_rfl) (es:=([(.st [(.int .i64 (ilk gv0 a1)),(.int .i64 a1),(.list 1 (a2.map (eI .u8)))])]:List D)) (by rfl) (by rfl) (by kernel_rfl) (by simp) (ltN hN rfl)) rfl (cg (OpJ.append hB underlying33 tyE69 (nm:=1016) (by decide) (es:=a3.map A7) (ys:=[(A1.mk (ilk gv0 a1) a1 a2)].map A7) (es':=(a3++[(A1.mk (ilk gv0 a1) a1 a2)]).map A7) (len:=(a3++[(A1.mk (ilk gv0 a1) a1 a2)]).length) (by simp) (by simp) (A45 (f:=A7) (fun _=>rfl)) (by rw [List.length_map];exact Y8 hc6 (by decide)) (by rw [List.length_map];exact A2c hc6) (ltN hN rfl) (by simp) (q 8) (q 15)) rfl (cg (sB tyS33 (q 3) (q 16)) rfl cn))))))))))
   exact hjj4 _ h _ _ (mp [(3000,1016)] _ _ hB)
  ·have h:=A5 hg5 h
   apply AWp.skip
   exact hjj4 _ h _ _ (mp [(3000,1)] _ _ hB)
def A1n (s7:Int×(List Int)×D0):Option ((((List Int)))⊕(Int×(List Int)×D0)) :=
 (if (decide (0≤s7.1))=true then
 (idx s7.2.1 s7.1).bind fun _ =>
 (idx s7.2.1 s7.1).bind fun _ =>
 some (.inr ((w64 (s7.1-1)),(s7.2.1.set s7.1.toNat (IntKind.u8.wrap s7.2.2.fLo)),(D0.mk s7.2.2.fV6 (shrI .u64 s7.2.2.fHi 8) (bitI .or .u64 (shrI .u64 s7.2.2.fLo 8) (shlI .u64 s7.2.2.fHi 56)))))
 else
 some (.inl s7.2.1))
def S6 (a0:D0):Option ((List Int)) :=
 (S2 a0).bind fun r1 =>
 (if (!r1)=true then
 some ([]:List Int)
 else
 jn (fun m4:Int =>
 chk ((decide (0≤m4)&&decide (m4≤m4)&&decide (m4≤(LIM:Int)))) <|
 (loop (A1n) ((w64 (m4-1)),(List.replicate m4.toNat 0),a0)).bind fun p14 =>
 some p14) (fun j5 =>
 (if a0.fV6=true then
 j5 16
 else
 j5 4)))
theorem A1o (a0:D0) (r:(List Int)) (h:S6 a0=some r):AC Tryz.prog 122 [(.d (D2 a0))] [] (.d (.list 1 (r.map (eI .u8)))) []:=by
 refine ac2 Tryz.func122 rfl rfl fun B hB hN L => ?_
 delta S6 at h
 refine sr (SQ tt) ?_
 apply seq
 obtain⟨r1,hr1,h⟩:=bindS h
 refine sr (SQ (fa (cl [] (G2 a0 r1 hr1)) tt)) ?_
 apply AWp.cond rfl<;>intro hg2
 ·have h:=A4 hg2 h
  refine sr (SQ tt) ?_
  apply ret
  apply B3
  obtain rfl:=oi h
  exact rt (Mat.trans (Mat.coeP (Ts:=[(2,(.d (.list 1 (([]:List Int).map (eI .u8)))))]) (Bs:=[]) (TwT.cons (x:=.nils) (by rfl) (Tw.leaf ⟨_,(Co.nils 1),rfl⟩) TwT.nil) TwB.nil) (mp [] [(2,(.d (.list 1 (([]:List Int).map (eI .u8)))))] [] hB)) [(.d (.list 1 (([]:List Int).map (eI .u8))))] (rT rN) rfl
 ·have h:=A5 hg2 h
  apply AWp.skip
  apply A0
  refine sr (SQ tt) ?_
  apply seq
  refine sr (SQ tt) ?_
  refine gh [(1,_),(3,_),(10,_)] [(1001,some _)] hB rfl rfl (by rfl) ?_
  refine AWp.cut h (fun m4:Int=>([(1,(pt 1001)),(3,(i6 m4))]:EL)) (fun m4:Int=>([(1001,bd 27 (D2 a0))]:OL)) (fun m4 h E' O' hmat => ?_) (fun j5 hjj5 h => ?_)
  ·apply A0
   refine ghost hmat ?_
   obtain⟨hc6,h⟩:=B6 h
   refine sr (SQ (fa hc6 tt)) ?_
   apply seq
   refine sr (SQ tt) ?_
   apply block
   obtain⟨p14,hx19,h⟩:=bindS h
   refine lg (A1n) (fun s7:Int×(List Int)×D0=>([(1,(pt 1001)),(4,(.sref 1012 1 0 s7.2.1.length)),(5,(i6 s7.1))]:EL)) (fun s7:Int×(List Int)×D0=>([(1001,bd 27 (D2 s7.2.2)),(1012,some (.row 5 1 (s7.2.1.map (eI .u8))))]:OL)) (fun(p14:((List Int))) e E' O'=>e = .exit 0∧Mat B E' O' ([(4,(.sref 1012 1 0 p14.length))]:EL) ([(1012,some (.row 5 1 (p14.map (eI .u8))))]:OL)) hx19 (mp [] _ _ hB) (fun s7 y h => ?_) (fun e E' O' hR => ?_)
   ·unfold A1n at h
    apply seq
    refine sr (SQ tt) ?_
    apply AWp.cond rfl<;>intro hg15
    ·have h:=A4 hg15 h
     apply AWp.skip
     apply A0
     apply seq
     apply block
     obtain⟨_,hx16,h⟩:=bindS h
     obtain⟨_,hx17,h⟩:=bindS h
     refine sr (SQ (fa hx16 (fa hx17 (fa (sv (IntKind.u8.wrap s7.2.2.fLo)) tt)))) ?_
     refine sr (SQ tt) ?_
     refine rg (SQ tt) ?_
     apply D7
     apply A0
     refine rg (SQ tt) ?_
     obtain rfl:=oi h
     exact⟨rfl,(Mat.trans (mp [] [(1,(pt 1001)),(4,(.sref 1012 1 0 s7.2.1.length)),(5,(i6 (w64 (s7.1-1))))] [(1001,some (.box 27 (.d (.st [(.bool s7.2.2.fV6),(.int .u64 (shrI .u64 s7.2.2.fHi 8)),(.int .u64 (bitI .or .u64 (shrI .u64 s7.2.2.fLo 8) (shlI .u64 s7.2.2.fHi 56)))])))),(1012,some (.row 5 1 ((s7.2.1.set s7.1.toNat (IntKind.u8.wrap s7.2.2.fLo)).map (eI .u8))))] hB) (Mat.trans (Mat.lenP (Ts:=[(4,(.sref 1012 1 0 ((s7.2.1.set s7.1.toNat (IntKind.u8.wrap s7.2.2.fLo)).length)))]) (Bs:=[]) (TwT.cons (x:=(.sref 1012 1 0 s7.2.1.length)) (by rfl) (Tw.leaf ⟨_,_,_,_,_,rfl,rfl,(by first | rfl | (simp;done) | (simp;omega) | omega)⟩) TwT.nil) TwB.nil) (mp [] _ _ hB)))⟩
    ·have h:=A5 hg15 h
     apply AWp.exit
     apply D8
     obtain rfl:=oi h
     exact⟨(fun hc=>by cases hc),rfl,(mp [] _ _ hB)⟩
   ·obtain⟨rfl,hmat⟩:=hR
    apply C3
    apply A0
    refine ghost hmat ?_
    refine sr (SQ tt) ?_
    apply ret
    obtain rfl:=oi h
    exact rt (Mat.trans (Mat.freezeP (n:=1012) (e:=5) (sz:=1) (es:=p14.map (eI .u8)) (Ts:=[(2,(.d (.list 1 (p14.map (eI .u8)))))]) (Bs:=[]) (by rfl) (TwT.cons (x:=(.sref 1012 1 0 p14.length)) (by rfl) (FrzL.all (by first | rfl | (simp;done) | (simp;omega) | omega)) TwT.nil) TwB.nil) (mp [] [(2,(.d (.list 1 (p14.map (eI .u8)))))] [] hB)) [(.d (.list 1 (p14.map (eI .u8))))] (rT rN) rfl
  ·apply AWp.cond rfl<;>intro hg20
   ·have h:=A4 hg20 h
    refine rg (SQ tt) ?_
    exact hjj5 _ h _ _ (mp [] _ _ hB)
   ·have h:=A5 hg20 h
    apply AWp.skip
    exact hjj5 _ h _ _ (mp [] _ _ hB)
def N7 (a0:(List Int)) (s1:Int×(List Int)):Option ((((List Int)))⊕(Int×(List Int))) :=
 (if (decide (s1.1<(a0.length:Int)))=true then
 (idx a0 s1.1).bind fun x10 =>
 chk (decide ((s1.2++([(IntKind.u8.wrap (shrI .i64 x10 24)),(IntKind.u8.wrap (shrI .i64 x10 16)),(IntKind.u8.wrap (shrI .i64 x10 8)),(IntKind.u8.wrap x10)]:List Int)).length≤LIM)) <|
 some (.inr ((w64 (s1.1+1)),(s1.2++([(IntKind.u8.wrap (shrI .i64 x10 24)),(IntKind.u8.wrap (shrI .i64 x10 16)),(IntKind.u8.wrap (shrI .i64 x10 8)),(IntKind.u8.wrap x10)]:List Int))))
 else
 some (.inl s1.2))
def M3 (a0:(List Int)):Option ((List Int)) :=
 (loop (N7 a0) (0,([]:List Int))).bind fun p8 =>
 some p8
theorem A07 (a0:(List Int)) (r:(List Int)) (h:M3 a0=some r):AC Tryz.prog 134 [.nils,(.d (.list 1 (a0.map (eI .i64))))] [] (.d (.list 1 (r.map (eI .u8)))) []:=by
 refine ac2 Tryz.func134 rfl rfl fun B hB hN L => ?_
 delta M3 at h
 refine sr (SQ tt) ?_
 apply seq
 refine sr (SQ tt) ?_
 apply block
 obtain⟨p8,hx13,h⟩:=bindS h
 refine lg (N7 a0) (fun s1:Int×(List Int)=>([(0,(.sref 3000 1 0 s1.2.length)),(7,(qI_1 a0)),(8,(i6 (a0.length:Int))),(9,(i6 s1.1))]:EL)) (fun s1:Int×(List Int)=>([(3000,some (.row 5 1 (s1.2.map (eI .u8))))]:OL)) (fun(p8:((List Int))) e E' O'=>e = .exit 0∧Mat B E' O' ([(0,(.sref 3000 1 0 p8.length))]:EL) ([(3000,some (.row 5 1 (p8.map (eI .u8))))]:OL)) hx13 (Mat.trans (Mat.beginP (n:=3000) (e:=5) (sz:=1) (Ts:=[(0,(.sref 3000 1 0 0))]) (Bs:=[]) hB (by decide) (by rfl) (by decide) (TwT.cons (x:=.nils) (by rfl) (Tw.leaf ⟨rfl,rfl⟩) TwT.nil) TwB.nil) (mp [] _ _ hB)) (fun s1 y h => ?_) (fun e E' O' hR => ?_)
 ·unfold N7 at h
  refine sr (SQ tt) ?_
  apply seq
  apply AWp.cond rfl<;>intro hg9
  ·have h:=A4 hg9 h
   apply AWp.skip
   apply A0
   apply seq
   apply block
   obtain⟨_,hx10,h⟩:=bindS h
   refine sr (SQ (fa hx10 tt)) ?_
   obtain⟨hc11,h⟩:=B6 h
   refine rg (SQ (fa hc11 tt)) ?_
   apply D7
   apply A0
   refine rg (SQ tt) ?_
   obtain rfl:=oi h
   exact⟨rfl,(mp [(3000,1026)] _ _ hB)⟩
  ·have h:=A5 hg9 h
   apply AWp.exit
   apply D8
   obtain rfl:=oi h
   exact⟨(fun hc=>by cases hc),rfl,(mp [] _ _ hB)⟩
 ·obtain⟨rfl,hmat⟩:=hR
  apply C3
  apply A0
  refine ghost hmat ?_
  refine sr (SQ tt) ?_
  apply ret
  obtain rfl:=oi h
  exact rt (Mat.trans (Mat.freezeP (n:=3000) (e:=5) (sz:=1) (es:=p8.map (eI .u8)) (Ts:=[(4,(.d (.list 1 (p8.map (eI .u8)))))]) (Bs:=[]) (by rfl) (TwT.cons (x:=(.sref 3000 1 0 p8.length)) (by rfl) (FrzL.all (by first | rfl | (simp;done) | (simp;omega) | omega)) TwT.nil) TwB.nil) (mp [] [(4,(.d (.list 1 (p8.map (eI .u8)))))] [] hB)) [(.d (.list 1 (p8.map (eI .u8))))] (rT rN) rfl
def L1 (a0:(List A9)) (s1:Int×(List Int)):Option ((((List Int)))⊕(Int×(List Int))) :=
 (if (decide (s1.1<(a0.length:Int)))=true then
 (idx a0 s1.1).bind fun x10 =>
 (M2 s1.2 ([(bitI .or .i64 (shlI .i64 x10.fA 16) x10.fB)]:List Int)).bind fun r11 =>
 some (.inr ((w64 (s1.1+1)),r11))
 else
 some (.inl s1.2))
def K2 (a0:(List A9)):Option ((List Int)) :=
 (loop (L1 a0) (0,([]:List Int))).bind fun p8 =>
 some p8
theorem A3j (a0:(List A9)) (r:(List Int)) (h:K2 a0=some r):AC Tryz.prog 135 [(.d (.list 2 (a0.map C0)))] [] (.d (.list 1 (r.map (eI .u8)))) []:=by
 refine ac2 Tryz.func135 rfl rfl fun B hB hN L => ?_
 delta K2 at h
 refine sr (SQ tt) ?_
 refine sr (SQ tt) ?_
 apply seq
 refine sr (SQ tt) ?_
 apply block
 obtain⟨p8,hx13,h⟩:=bindS h
 refine lg (L1 a0) (fun s1:Int×(List Int)=>([(3,(.sref 3003 1 0 s1.2.length)),(6,(B4 a0)),(7,(i6 (a0.length:Int))),(8,(i6 s1.1))]:EL)) (fun s1:Int×(List Int)=>([(3003,some (.row 5 1 (s1.2.map (eI .u8))))]:OL)) (fun(p8:((List Int))) e E' O'=>e = .exit 0∧Mat B E' O' ([(3,(.sref 3003 1 0 p8.length))]:EL) ([(3003,some (.row 5 1 (p8.map (eI .u8))))]:OL)) hx13 (Mat.trans (Mat.beginP (n:=3003) (e:=5) (sz:=1) (Ts:=[(3,(.sref 3003 1 0 0))]) (Bs:=[]) hB (by decide) (by rfl) (by decide) (TwT.cons (x:=.nils) (by rfl) (Tw.leaf ⟨rfl,rfl⟩) TwT.nil) TwB.nil) (mp [] _ _ hB)) (fun s1 y h => ?_) (fun e E' O' hR => ?_)
 ·unfold L1 at h
  refine sr (SQ tt) ?_
  apply seq
  apply AWp.cond rfl<;>intro hg9
  ·have h:=A4 hg9 h
   apply AWp.skip
   apply A0
   apply seq
   apply block
   obtain⟨x10,hx10,h⟩:=bindS h
   refine sr (SQ (fa hx10 tt)) ?_
   obtain⟨r11,hr11,h⟩:=bindS h
   refine rg (SQ (fa (cl [(0,3003),(900000,100000)] (A06 s1.2 ([(bitI .or .i64 (shlI .i64 x10.fA 16) x10.fB)]:List Int) r11 hr11)) tt)) ?_
   apply D7
   apply A0
   refine ghost (mp [] [(3,(.sref 100000 1 0 r11.length)),(6,(B4 a0)),(7,(i6 (a0.length:Int))),(8,(i6 s1.1))] [(100000,some (.row 5 1 (r11.map (eI .u8))))] hB) ?_
   refine rg (SQ tt) ?_
   obtain rfl:=oi h
   exact⟨rfl,(mp [(3003,100000)] _ _ hB)⟩
  ·have h:=A5 hg9 h
   apply AWp.exit
   apply D8
   obtain rfl:=oi h
   exact⟨(fun hc=>by cases hc),rfl,(mp [] _ _ hB)⟩
 ·obtain⟨rfl,hmat⟩:=hR
  apply C3
  apply A0
  refine ghost hmat ?_
  refine sr (SQ tt) ?_
  apply ret
  obtain rfl:=oi h
  exact rt (Mat.trans (Mat.freezeP (n:=3003) (e:=5) (sz:=1) (es:=p8.map (eI .u8)) (Ts:=[(2,(.d (.list 1 (p8.map (eI .u8)))))]) (Bs:=[]) (by rfl) (TwT.cons (x:=(.sref 3003 1 0 p8.length)) (by rfl) (FrzL.all (by first | rfl | (simp;done) | (simp;omega) | omega)) TwT.nil) TwB.nil) (mp [] [(2,(.d (.list 1 (p8.map (eI .u8)))))] [] hB)) [(.d (.list 1 (p8.map (eI .u8))))] (rT rN) rfl
def S7 (a0:(List E0)) (s1:Int×(List Int)):Option ((((List Int)))⊕(Int×(List Int))) :=
 (if (decide (s1.1<(a0.length:Int)))=true then
 (idx a0 s1.1).bind fun x10 =>
 (M2 s1.2 ([x10.fA,x10.fB,x10.fC]:List Int)).bind fun r11 =>
 some (.inr ((w64 (s1.1+1)),r11))
 else
 some (.inl s1.2))
def T6 (a0:(List E0)):Option ((List Int)) :=
 (loop (S7 a0) (0,([]:List Int))).bind fun p8 =>
 some p8
theorem A5v (a0:(List E0)) (r:(List Int)) (h:T6 a0=some r):AC Tryz.prog 136 [(.d (.list 3 (a0.map D9)))] [] (.d (.list 1 (r.map (eI .u8)))) []:=by
 refine AC.of_code2 Tryz.func136 rfl rfl (Nat.le_of_ble_eq_true (by rfl)) fun B hB hN => ?_
 delta T6 at h
 refine sr (SQ tt) ?_
 refine sr (SQ tt) ?_
 apply seq
 refine sr (SQ tt) ?_
 apply block
 obtain⟨p8,hx13,h⟩:=bindS h
 refine lg (S7 a0) (fun s1:Int×(List Int)=>([(3,(.sref 3003 1 0 s1.2.length)),(6,(D3 a0)),(7,(i6 (a0.length:Int))),(8,(i6 s1.1))]:EL)) (fun s1:Int×(List Int)=>([(3003,some (.row 5 1 (s1.2.map (eI .u8))))]:OL)) (fun(p8:((List Int))) e E' O'=>e = .exit 0∧Mat B E' O' ([(3,(.sref 3003 1 0 p8.length))]:EL) ([(3003,some (.row 5 1 (p8.map (eI .u8))))]:OL)) hx13 (Mat.trans (Mat.beginP (n:=3003) (e:=5) (sz:=1) (Ts:=[(3,(.sref 3003 1 0 0))]) (Bs:=[]) hB (by decide) (by rfl) (by decide) (TwT.cons (x:=.nils) (by rfl) (Tw.leaf ⟨rfl,rfl⟩) TwT.nil) TwB.nil) (mp [] _ _ hB)) (fun s1 y h => ?_) (fun e E' O' hR => ?_)
 ·unfold S7 at h
  refine sr (SQ tt) ?_
  apply seq
  apply AWp.cond rfl<;>intro hg9
  ·have h:=A4 hg9 h
   apply AWp.skip
   apply A0
   apply seq
   apply block
   obtain⟨x10,hx10,h⟩:=bindS h
   refine sr (SQ (fa hx10 tt)) ?_
   obtain⟨r11,hr11,h⟩:=bindS h
   refine rg (SQ (fa (cl [(0,3003),(900000,100000)] (A06 s1.2 ([x10.fA,x10.fB,x10.fC]:List Int) r11 hr11)) tt)) ?_
   apply D7
   apply A0
   refine ghost (mp [] [(3,(.sref 100000 1 0 r11.length)),(6,(D3 a0)),(7,(i6 (a0.length:Int))),(8,(i6 s1.1))] [(100000,some (.row 5 1 (r11.map (eI .u8))))] hB) ?_
   refine rg (SQ tt) ?_
   obtain rfl:=oi h
   exact⟨rfl,(mp [(3003,100000)] _ _ hB)⟩
  ·have h:=A5 hg9 h
   apply AWp.exit
   apply D8
   obtain rfl:=oi h
   exact⟨(fun hc=>by cases hc),rfl,(mp [] _ _ hB)⟩
 ·obtain⟨rfl,hmat⟩:=hR
  apply C3
  apply A0
  refine ghost hmat ?_
  refine sr (SQ tt) ?_
  apply ret
  obtain rfl:=oi h
  exact rt (Mat.trans (Mat.freezeP (n:=3003) (e:=5) (sz:=1) (es:=p8.map (eI .u8)) (Ts:=[(2,(.d (.list 1 (p8.map (eI .u8)))))]) (Bs:=[]) (by rfl) (TwT.cons (x:=(.sref 3003 1 0 p8.length)) (by rfl) (FrzL.all (by first | rfl | (simp;done) | (simp;omega) | omega)) TwT.nil) TwB.nil) (mp [] [(2,(.d (.list 1 (p8.map (eI .u8)))))] [] hB)) [(.d (.list 1 (p8.map (eI .u8))))] (rT rN) rfl
def A1d (a0:(List Int)):Option (List Int):=chk (decide (a0.length≤LIM)) <|
 some a0
theorem A3k (a0:(List Int)) (r:List Int) (h:A1d a0=some r):AC Tryz.prog 137 [(.d (.list 1 (a0.map (eI .u8))))] [] (.d (.list 1 (r.map (eI .u8)))) []:=by
 obtain⟨hc,h⟩:=B6 h
 obtain rfl:=oi h
 exact AC.cloneD cloneOk137 (by rw [List.length_map];exact Y8 hc (by decide)) (A45 (f:=(eI .u8)) (fun _=>rfl))
def I0 (a0:A1) (a1:A1):Option (Int) :=
 (H8 a0.fType a1.fType).bind fun r1 =>
 some r1
theorem A54 (a0:A1) (a1:A1) (r:Int) (h:I0 a0 a1=some r):AC Tryz.prog 138 [(.d (A7 a0)),(.d (A7 a1))] [] (.d (.int .i64 r)) []:=by
 refine AC.of_code2 Tryz.func138 rfl rfl (Nat.le_of_ble_eq_true (by rfl)) fun B hB hN => ?_
 delta I0 at h
 refine sr (SQ tt) ?_
 obtain⟨r1,hr1,h⟩:=bindS h
 refine sr (SQ (fa (cl [] (I9 a0.fType a1.fType r1 hr1)) tt)) ?_
 apply ret
 obtain rfl:=oi h
 exact rt (kp [(4,_)] [] hB rfl rfl (by rfl)) [(i6 r1)] (rT rN) rfl
def K3 (a0:(List A1)):Option (List A1):=sortF a0 fun x y=>I0 x y
theorem R9 (a0:(List A1)) (r:List A1) (h:K3 a0=some r):AC Tryz.prog 123 [(.sref 0 3 0 a0.length),.func 138 []] [(0,(.row 69 3 (a0.map A7)))] (.tup []) [(0,some (.row 69 3 (r.map A7)))] :=
 AC.sortF A7 (fun x y=>I0 x y) a0 r h sortOk123 fnOk138 (fun _=>rfl) rfl rfl (fun x y c hc=>A54 x y c hc)
def T7 (a1:(List A2)) (a2:Bool) (s1:Int×(List Int)):Option ((((List Int)))⊕(Int×(List Int))) :=
 (if (decide (s1.1<(a1.length:Int)))=true then
 (idx a1 s1.1).bind fun x32 =>
 jn (fun m38:(List Int) =>
 some (.inr ((w64 (s1.1+1)),m38))) (fun j39 =>
 (if (x32.fAddr.fV6==a2)=true then
 chk (decide ((s1.2++([(IntKind.u8.wrap x32.fLen)]:List Int)).length≤LIM)) <|
 (S6 x32.fAddr).bind fun r42 =>
 chk ((decide (0≤(w64 (Int.tdiv (w64 (x32.fLen+7)) 8)))&&decide (0≤(w64 (Int.tdiv (w64 (x32.fLen+7)) 8)).toNat)&&decide ((w64 (Int.tdiv (w64 (x32.fLen+7)) 8)).toNat≤r42.length))) <|
 chk (decide (((s1.2++([(IntKind.u8.wrap x32.fLen)]:List Int))++((r42.take ((w64 (Int.tdiv (w64 (x32.fLen+7)) 8)).toNat)).drop 0)).length≤LIM)) <|
 j39 ((s1.2++([(IntKind.u8.wrap x32.fLen)]:List Int))++((r42.take ((w64 (Int.tdiv (w64 (x32.fLen+7)) 8)).toNat)).drop 0))
 else
 j39 s1.2))
 else
 some (.inl s1.2))
def S8 (a0:(List Int)) (a1:(List A2)) (a2:Bool):Option ((List Int)) :=
 (loop (T7 a1 a2) (0,a0)).bind fun p30 =>
 some p30
theorem A4e (a0:(List Int)) (a1:(List A2)) (a2:Bool) (r:(List Int)) (h:S8 a0 a1 a2=some r):AC Tryz.prog 114 [(.sref 0 1 0 a0.length),(.d (.list 4 (a1.map C4))),(.d (.bool a2))] [(0,(.row 5 1 (a0.map (eI .u8))))] (.d (.list 1 (r.map (eI .u8)))) [(0,none)]:=by
 refine ac2 Tryz.func114 rfl rfl fun B hB hN L => ?_
 delta S8 at h
 refine sr (SQ tt) ?_
 apply seq
 refine sr (SQ tt) ?_
 apply block
 obtain⟨p30,hx46,h⟩:=bindS h
 refine lg (T7 a1 a2) (fun s1:Int×(List Int)=>([(0,(.sref 3000 1 0 s1.2.length)),(2,(bo a2)),(9,(E6 a1)),(10,(i6 (a1.length:Int))),(11,(i6 s1.1))]:EL)) (fun s1:Int×(List Int)=>([(3000,some (.row 5 1 (s1.2.map (eI .u8))))]:OL)) (fun(p30:((List Int))) e E' O'=>e = .exit 0∧Mat B E' O' ([(0,(.sref 3000 1 0 p30.length))]:EL) ([(3000,some (.row 5 1 (p30.map (eI .u8))))]:OL)) hx46 (mp [(3000,0)] _ _ hB) (fun s1 y h => ?_) (fun e E' O' hR => ?_)
 ·unfold T7 at h
  refine sr (SQ tt) ?_
  apply seq
  apply AWp.cond rfl<;>intro hg31
  ·have h:=A4 hg31 h
   apply AWp.skip
   apply A0
   apply seq
   apply block
   obtain⟨x32,hx32,h⟩:=bindS h
   refine sr (SQ (fa hx32 tt)) ?_
   refine sr (SQ tt) ?_
   refine gh [(0,_),(2,_),(8,_),(9,_),(10,_),(11,_),(19,_)] [(1008,some _),(3000,some _)] hB rfl rfl (by rfl) ?_
   refine AWp.cut h (fun m38:(List Int)=>([(0,(.sref 3000 1 0 m38.length)),(2,(bo a2)),(9,(E6 a1)),(10,(i6 (a1.length:Int))),(11,(i6 s1.1))]:EL)) (fun m38:(List Int)=>([(3000,some (.row 5 1 (m38.map (eI .u8))))]:OL)) (fun m38 h E' O' hmat => ?_) (fun j39 hjj39 h => ?_)
   ·apply D7
    apply A0
    refine ghost hmat ?_
    refine rg (SQ tt) ?_
    obtain rfl:=oi h
    exact⟨rfl,(mp [] _ _ hB)⟩
   ·apply AWp.cond rfl<;>intro hg40
    ·have h:=A4 hg40 h
     obtain⟨hc41,h⟩:=B6 h
     have hc41_o:=hc41
     simp only [decide_eq_true_eq] at hc41_o
     obtain⟨r42,hr42,h⟩:=bindS h
     obtain⟨hc43,h⟩:=B6 h
     have hc43_o:=hc43
     simp only [Bool.and_eq_true,decide_eq_true_eq] at hc43_o
     obtain⟨hc44,h⟩:=B6 h
     have hc44_o:=hc44
     simp only [decide_eq_true_eq] at hc44_o
     refine drS (SQ (fa hc41 (fa (cl [] (A1o x32.fAddr r42 hr42)) (fa hc43 (fa hc44 tt))))) ?_
     exact hjj39 _ h _ _ (mp [(3000,1034)] _ _ hB)
    ·have h:=A5 hg40 h
     apply AWp.skip
     exact hjj39 _ h _ _ (mp [] _ _ hB)
  ·have h:=A5 hg31 h
   apply AWp.exit
   apply D8
   obtain rfl:=oi h
   exact⟨(fun hc=>by cases hc),rfl,(mp [] _ _ hB)⟩
 ·obtain⟨rfl,hmat⟩:=hR
  apply C3
  apply A0
  refine ghost hmat ?_
  refine sr (SQ tt) ?_
  apply ret
  obtain rfl:=oi h
  exact rt (Mat.trans (Mat.freezeP (n:=3000) (e:=5) (sz:=1) (es:=p30.map (eI .u8)) (Ts:=[(6,(.d (.list 1 (p30.map (eI .u8)))))]) (Bs:=[]) (by rfl) (TwT.cons (x:=(.sref 3000 1 0 p30.length)) (by rfl) (FrzL.all (by first | rfl | (simp;done) | (simp;omega) | omega)) TwT.nil) TwB.nil) (mp [] [(6,(.d (.list 1 (p30.map (eI .u8)))))] [] hB)) [(.d (.list 1 (p30.map (eI .u8))))] (rT rN) rfl
end
end Go.Proofs.YtkhjkjojjdkidaaGreatDoor
