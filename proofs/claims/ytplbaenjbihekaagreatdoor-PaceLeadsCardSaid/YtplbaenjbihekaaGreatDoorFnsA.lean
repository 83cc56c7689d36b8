/- Printed by gen.py: the Go functions as plain functions, and that the code does what they say. -/
import Derived.Test.YtplbaenjbihekaaGreatDoorChecked
import Derived.Test.YtplbaenjbihekaaGreatDoorVcYB
import Derived.Test.YtplbaenjbihekaaGreatDoorVcZ
import Derived.Test.YtplbaenjbihekaaGreatDoorVcGC
import Derived.KernelRfl
import Derived.Test.YtplbaenjbihekaaGreatDoorVcMD
import Derived.Test.YtplbaenjbihekaaGreatDoorVcMQ
import Derived.Test.YtplbaenjbihekaaGreatDoorVcSG
import Derived.Test.YtplbaenjbihekaaGreatDoorExt
import Derived.Test.YtplbaenjbihekaaGreatDoorVcPm
import Derived.Test.YtplbaenjbihekaaGreatDoorVcRg
import Derived.Test.YtplbaenjbihekaaGreatDoorVcSt
import Derived.Test.YtplbaenjbihekaaGreatDoorVcMR
import Derived.Test.YtplbaenjbihekaaGreatDoorVcFu
namespace Go.Proofs.YtplbaenjbihekaaGreatDoor
open Go Go.Vc
open Tryz
open Go.Vc.OpJ (assign alloc lss pickT pickF extract lenD indexD loadD eqlI gtr callVal leq geq loadR nilP indexS buildSlice lenS fieldD neqI pickAnd pickOr)
open Go.Vc.AWp (seq ghost ret block)
set_option maxHeartbeats 4000000
set_option maxRecDepth 100000
noncomputable section
def gv0:List (Int×Int):=[(1,64),(2,64),(3,64),(4,128),(5,64),(8,192),(32,192),(35,192)]
def B6y (x:(List Int)):D:=(.list 1 (x.map (eI .i64)))
structure C4 where
 fL:(List Int)
 fAt:Int
def E6 (x:C4):D:=.st [(.list 1 (x.fL.map (eI .i64))),(.int .i64 x.fAt)]
structure G4 where
 fLevel:Int
 fRate:Int
 fBurst:Int
def E0 (x:G4):D:=.st [(.int .i64 x.fLevel),(.int .i64 x.fRate),(.int .i64 x.fBurst)]
structure E7 where
 fV6:Bool
 fHi:Int
 fLo:Int
def C5 (x:E7):D:=.st [(.bool x.fV6),(.int .u64 x.fHi),(.int .u64 x.fLo)]
structure A0 where
 fAddr:E7
 fLen:Int
def A2 (x:A0):D:=.st [(C5 x.fAddr),(.int .i64 x.fLen)]
structure B2 where
 fSet:Bool
 fASNs:(List Int)
def B4 (x:B2):D:=.st [(.bool x.fSet),(.list 1 (x.fASNs.map (eI .i64)))]
structure C6 where
 fA:Int
 fB:Int
def B1 (x:C6):D:=.st [(.int .i64 x.fA),(.int .i64 x.fB)]
structure G0 where
 fA:Int
 fB:Int
 fC:Int
def C7 (x:G0):D:=.st [(.int .i64 x.fA),(.int .i64 x.fB),(.int .i64 x.fC)]
def B73 (x:(List Int)):D:=(.list 1 (x.map (eI .u8)))
structure A7 where
 fFlags:Int
 fType:Int
 fData:(List Int)
def A5 (x:A7):D:=.st [(.int .i64 x.fFlags),(.int .i64 x.fType),(.list 1 (x.fData.map (eI .u8)))]
def B4n (x:(List B2)):D:=(.list 2 (x.map B4))
def B3x (x:(List C6)):D:=(.list 2 (x.map B1))
def B5s (x:(List G0)):D:=(.list 3 (x.map C7))
def B4o (x:(List A7)):D:=(.list 3 (x.map A5))
structure D9 where
 fOrigin:Int
 fPath:(List B2)
 fNext:E7
 fMED:Int
 fPref:Int
 fOTC:Int
 fCommunities:(List C6)
 fLarge:(List G0)
 fOther:(List A7)
def A8 (x:D9):D:=.st [(.int .i64 x.fOrigin),(.list 2 (x.fPath.map B4)),(C5 x.fNext),(.int .i64 x.fMED),(.int .i64 x.fPref),(.int .i64 x.fOTC),(.list 2 (x.fCommunities.map B1)),(.list 3 (x.fLarge.map C7)),(.list 3 (x.fOther.map A5))]
structure B3 where
 fPrefix:A0
 fFrom:Int
 fAttrs:D9
def E5 (x:B3):D:=.st [(A2 x.fPrefix),(.int .i64 x.fFrom),(A8 x.fAttrs)]
structure A1 where
 fTo:Int
 fPrefix:A0
 fHas:Bool
 fRoute:B3
def A6 (x:A1):D:=.st [(.int .i64 x.fTo),(A2 x.fPrefix),(.bool x.fHas),(E5 x.fRoute)]
def B5g (x:(List A1)):D:=(.list 22 (x.map A6))
structure F9 where
 fPending:(List A1)
 fBucket:G4
def C0 (x:F9):D:=.st [(.list 22 (x.fPending.map A6)),(E0 x.fBucket)]
def B5h (x:(List A0)):D:=(.list 4 (x.map A2))
structure C9 where
 fWithdraw:(List A0)
 fAttrs:D9
 fAnnounce:(List A0)
def B9 (x:C9):D:=.st [(.list 4 (x.fWithdraw.map A2)),(A8 x.fAttrs),(.list 4 (x.fAnnounce.map A2))]
def keq3 (a b:Int):Bool:=(a==b)
def keq33 (a b:A0):Bool:=(((a.fAddr.fV6==b.fAddr.fV6)&&((a.fAddr.fHi==b.fAddr.fHi)&&((a.fAddr.fLo==b.fAddr.fLo)&&true)))&&((a.fLen==b.fLen)&&true))
structure D5 where
 fattrs:D9
 fprefixes:(List A0)
def D2 (x:D5):D:=.st [(A8 x.fattrs),(.list 4 (x.fprefixes.map A2))]
@[reducible] def qI_1 (x:List Int):V:=.d (.list 1 (x.map (eI .i64)))
@[reducible] def D1 (x:List B3):V:=.d (.list 16 (x.map E5))
@[reducible] def E9 (x:List B3):Ob:=.row 41 16 (x.map E5)
@[reducible] def G3 (x:List A0):Ob:=.row 33 4 (x.map A2)
@[reducible] def C1 (x:List A0):V:=.d (.list 4 (x.map A2))
@[reducible] def D0 (x:List B2):V:=.d (.list 2 (x.map B4))
@[reducible] def B5 (x:List C6):V:=.d (.list 2 (x.map B1))
@[reducible] def D6 (x:List G0):V:=.d (.list 3 (x.map C7))
@[reducible] def E8 (x:List A7):V:=.d (.list 3 (x.map A5))
@[reducible] def J8 (x:List B2):Ob:=.row 75 2 (x.map B4)
@[reducible] def A1y (x:List C6):Ob:=.row 132 2 (x.map B1)
@[reducible] def A3y (x:List G0):Ob:=.row 134 3 (x.map C7)
@[reducible] def F0 (x:List A7):Ob:=.row 78 3 (x.map A5)
@[reducible] def C3 (x:List A1):Ob:=.row 43 22 (x.map A6)
@[reducible] def B0 (x:List A1):V:=.d (.list 22 (x.map A6))
@[reducible] def B74 (x:List Int):Ob:=.row 3 1 (x.map (eI .i64))
@[reducible] def F5 (x:List C9):Ob:=.row 71 13 (x.map B9)
@[reducible] def B8 (x:List C9):V:=.d (.list 13 (x.map B9))
theorem tyZS80:TyZ Tryz.prog 80 (.st [.nils,(.d (.int .i64 0))]):=⟨by kernel_rfl,fun w=>by kernel_rfl⟩
theorem fnOk8:FnOk Tryz.prog 8:=⟨by kernel_rfl⟩
theorem tyZ26:TyZ Tryz.prog 26 (.st [.nils,(.d (.st [(.int .i64 0),(.int .i64 0),(.int .i64 0)]))]):=⟨by kernel_rfl,fun w=>by kernel_rfl⟩
theorem tyS3:TyS Tryz.prog 3 1 false:=⟨by kernel_rfl,by kernel_rfl⟩
theorem tyS27:TyS Tryz.prog 27 1 false:=⟨by kernel_rfl,by kernel_rfl⟩
theorem fnOk10:FnOk Tryz.prog 10:=⟨by kernel_rfl⟩
theorem fnOk25:FnOk Tryz.prog 25:=⟨by kernel_rfl⟩
theorem tyZS24:TyZ Tryz.prog 24 (.st [(.d (.int .i64 0)),(.d (.int .i64 0)),(.d (.int .i64 0))]):=⟨by kernel_rfl,fun w=>by kernel_rfl⟩
theorem tyZS26:TyZ Tryz.prog 26 (.st [.nils,(.d (.st [(.int .i64 0),(.int .i64 0),(.int .i64 0)]))]):=⟨by kernel_rfl,fun w=>by kernel_rfl⟩
theorem tyS26:TyS Tryz.prog 26 4 true:=⟨by kernel_rfl,by kernel_rfl⟩
theorem tyZ33:TyZ Tryz.prog 33 (.d (.st [(.st [(.bool false),(.int .u64 0),(.int .u64 0)]),(.int .i64 0)])):=⟨by kernel_rfl,fun w=>by kernel_rfl⟩
theorem tyZS31:TyZ Tryz.prog 31 (.st [(.d (.bool false)),(.d (.int .u64 0)),(.d (.int .u64 0))]):=⟨by kernel_rfl,fun w=>by kernel_rfl⟩
theorem tyZS33:TyZ Tryz.prog 33 (.st [(.d (.st [(.bool false),(.int .u64 0),(.int .u64 0)])),(.d (.int .i64 0))]):=⟨by kernel_rfl,fun w=>by kernel_rfl⟩
theorem tyS33:TyS Tryz.prog 33 4 true:=⟨by kernel_rfl,by kernel_rfl⟩
theorem fnOk34:FnOk Tryz.prog 34:=⟨by kernel_rfl⟩
theorem tyZS41:TyZ Tryz.prog 41 (.st [(.d (.st [(.st [(.bool false),(.int .u64 0),(.int .u64 0)]),(.int .i64 0)])),(.d (.int .i64 0)),(.st [(.d (.int .i64 0)),.nils,(.d (.st [(.bool false),(.int .u64 0),(.int .u64 0)])),(.d (.int .i64 0)),(.d (.int .i64 0)),(.d (.int .i64 0)),.nils,.nils,.nils])]):=⟨by kernel_rfl,fun w=>by kernel_rfl⟩
theorem tyZ41:TyZ Tryz.prog 41 (.st [(.d (.st [(.st [(.bool false),(.int .u64 0),(.int .u64 0)]),(.int .i64 0)])),(.d (.int .i64 0)),(.st [(.d (.int .i64 0)),.nils,(.d (.st [(.bool false),(.int .u64 0),(.int .u64 0)])),(.d (.int .i64 0)),(.d (.int .i64 0)),(.d (.int .i64 0)),.nils,.nils,.nils])]):=⟨by kernel_rfl,fun w=>by kernel_rfl⟩
theorem tyS41:TyS Tryz.prog 41 16 true:=⟨by kernel_rfl,by kernel_rfl⟩
theorem tyZ39:TyZ Tryz.prog 39 (.st [(.d (.int .i64 0)),.nils,(.d (.st [(.bool false),(.int .u64 0),(.int .u64 0)])),(.d (.int .i64 0)),(.d (.int .i64 0)),(.d (.int .i64 0)),.nils,.nils,.nils]):=⟨by kernel_rfl,fun w=>by kernel_rfl⟩
theorem tyZS39:TyZ Tryz.prog 39 (.st [(.d (.int .i64 0)),.nils,(.d (.st [(.bool false),(.int .u64 0),(.int .u64 0)])),(.d (.int .i64 0)),(.d (.int .i64 0)),(.d (.int .i64 0)),.nils,.nils,.nils]):=⟨by kernel_rfl,fun w=>by kernel_rfl⟩
theorem tyS39:TyS Tryz.prog 39 11 true:=⟨by kernel_rfl,by kernel_rfl⟩
theorem fnOk35:FnOk Tryz.prog 35:=⟨by kernel_rfl⟩
theorem tyZD3:TyZ Tryz.prog 3 (.d (.int .i64 0)):=⟨by kernel_rfl,fun w=>by kernel_rfl⟩
theorem tyZS75:TyZ Tryz.prog 75 (.st [(.d (.bool false)),.nils]):=⟨by kernel_rfl,fun w=>by kernel_rfl⟩
theorem tyS75:TyS Tryz.prog 75 2 true:=⟨by kernel_rfl,by kernel_rfl⟩
theorem tyZD75:TyZ Tryz.prog 75 (.d (.st [(.bool false),(.list 1 (([]:List Int).map (eI .i64)))])):=⟨by kernel_rfl,fun w=>by kernel_rfl⟩
theorem tyS31:TyS Tryz.prog 31 3 true:=⟨by kernel_rfl,by kernel_rfl⟩
theorem tyS4:TyS Tryz.prog 4 1 false:=⟨by kernel_rfl,by kernel_rfl⟩
theorem tyZ31:TyZ Tryz.prog 31 (.d (.st [(.bool false),(.int .u64 0),(.int .u64 0)])):=⟨by kernel_rfl,fun w=>by kernel_rfl⟩
theorem fnOk36:FnOk Tryz.prog 36:=⟨by kernel_rfl⟩
theorem tyS34:TyS Tryz.prog 34 1 false:=⟨by kernel_rfl,by kernel_rfl⟩
theorem tyZD41:TyZ Tryz.prog 41 (.d (.st [(.st [(.st [(.bool false),(.int .u64 0),(.int .u64 0)]),(.int .i64 0)]),(.int .i64 0),(.st [(.int .i64 0),(.list 2 (([]:List B2).map B4)),(.st [(.bool false),(.int .u64 0),(.int .u64 0)]),(.int .i64 0),(.int .i64 0),(.int .i64 0),(.list 2 (([]:List C6).map B1)),(.list 3 (([]:List G0).map C7)),(.list 3 (([]:List A7).map A5))])])):=⟨by kernel_rfl,fun w=>by kernel_rfl⟩
theorem tyE41:TyE Tryz.prog 41 16 192:=⟨by kernel_rfl,by decide⟩
theorem tyS29:TyS Tryz.prog 29 1 false:=⟨by kernel_rfl,by kernel_rfl⟩
theorem held31:Program.stoodInHeld Tryz.prog 31=false:=by kernel_rfl
theorem feq31:∀ a b:E7,FitE Tryz.prog 2 31 (C5 a) (C5 b) ((a.fV6==b.fV6)&&((a.fHi==b.fHi)&&((a.fLo==b.fLo)&&true))):=fun a b=>(FitE.st underlying31 rfl held31 (FitF.cons (x:=(.bool a.fV6)) (y:=(.bool b.fV6)) (by decide) rfl tyS4 ⟨rfl,rfl⟩ ⟨rfl,rfl⟩ (FitE.bool (h:=0) a.fV6 b.fV6 underlying4) (FitF.cons (x:=(.int .u64 a.fHi)) (y:=(.int .u64 b.fHi)) (by decide) rfl tyS29 ⟨rfl,rfl⟩ ⟨rfl,rfl⟩ (FitE.int (h:=0) a.fHi b.fHi underlying29) (FitF.cons (x:=(.int .u64 a.fLo)) (y:=(.int .u64 b.fLo)) (by decide) rfl tyS29 ⟨rfl,rfl⟩ ⟨rfl,rfl⟩ (FitE.int (h:=0) a.fLo b.fLo underlying29) FitF.nil))))
theorem eqg31:Program.eqGuardType Tryz.prog (Program.depth Tryz.prog) 31=false:=by kernel_rfl
theorem fnOk80:FnOk Tryz.prog 80:=⟨by kernel_rfl⟩
theorem fnOk51:FnOk Tryz.prog 51:=⟨by kernel_rfl⟩
theorem held33:Program.stoodInHeld Tryz.prog 33=false:=by kernel_rfl
theorem feq33:∀ a b:A0,FitE Tryz.prog 3 33 (A2 a) (A2 b) (((a.fAddr.fV6==b.fAddr.fV6)&&((a.fAddr.fHi==b.fAddr.fHi)&&((a.fAddr.fLo==b.fAddr.fLo)&&true)))&&((a.fLen==b.fLen)&&true)):=fun a b=>(FitE.st underlying33 rfl held33 (FitF.cons (x:=(C5 a.fAddr)) (y:=(C5 b.fAddr)) (by decide) rfl tyS31 ⟨rfl,rfl⟩ ⟨rfl,rfl⟩ (FitE.st underlying31 rfl held31 (FitF.cons (x:=(.bool a.fAddr.fV6)) (y:=(.bool b.fAddr.fV6)) (by decide) rfl tyS4 ⟨rfl,rfl⟩ ⟨rfl,rfl⟩ (FitE.bool (h:=0) a.fAddr.fV6 b.fAddr.fV6 underlying4) (FitF.cons (x:=(.int .u64 a.fAddr.fHi)) (y:=(.int .u64 b.fAddr.fHi)) (by decide) rfl tyS29 ⟨rfl,rfl⟩ ⟨rfl,rfl⟩ (FitE.int (h:=0) a.fAddr.fHi b.fAddr.fHi underlying29) (FitF.cons (x:=(.int .u64 a.fAddr.fLo)) (y:=(.int .u64 b.fAddr.fLo)) (by decide) rfl tyS29 ⟨rfl,rfl⟩ ⟨rfl,rfl⟩ (FitE.int (h:=0) a.fAddr.fLo b.fAddr.fLo underlying29) FitF.nil)))) (FitF.cons (x:=(.int .i64 a.fLen)) (y:=(.int .i64 b.fLen)) (by decide) rfl tyS3 ⟨rfl,rfl⟩ ⟨rfl,rfl⟩ (FitE.int (h:=1) a.fLen b.fLen underlying3) FitF.nil)))
theorem eqg33:Program.eqGuardType Tryz.prog (Program.depth Tryz.prog) 33=false:=by kernel_rfl
theorem tyE33:TyE Tryz.prog 33 4 32:=⟨by kernel_rfl,by decide⟩
theorem tyZD33:TyZ Tryz.prog 33 (.d (.st [(.st [(.bool false),(.int .u64 0),(.int .u64 0)]),(.int .i64 0)])):=⟨by kernel_rfl,fun w=>by kernel_rfl⟩
theorem fnOk66:FnOk Tryz.prog 66:=⟨by kernel_rfl⟩
theorem fnOk67:FnOk Tryz.prog 67:=⟨by kernel_rfl⟩
theorem tyS35:TyS Tryz.prog 35 1 false:=⟨by kernel_rfl,by kernel_rfl⟩
theorem tyS36:TyS Tryz.prog 36 1 false:=⟨by kernel_rfl,by kernel_rfl⟩
theorem tyS37:TyS Tryz.prog 37 1 false:=⟨by kernel_rfl,by kernel_rfl⟩
theorem fnOk82:FnOk Tryz.prog 82:=⟨by kernel_rfl⟩
theorem tyS132:TyS Tryz.prog 132 2 true:=⟨by kernel_rfl,by kernel_rfl⟩
theorem held132:Program.stoodInHeld Tryz.prog 132=false:=by kernel_rfl
theorem feq132:∀ a b:C6,FitE Tryz.prog 2 132 (B1 a) (B1 b) ((a.fA==b.fA)&&((a.fB==b.fB)&&true)):=fun a b=>(FitE.st underlying132 rfl held132 (FitF.cons (x:=(.int .i64 a.fA)) (y:=(.int .i64 b.fA)) (by decide) rfl tyS3 ⟨rfl,rfl⟩ ⟨rfl,rfl⟩ (FitE.int (h:=0) a.fA b.fA underlying3) (FitF.cons (x:=(.int .i64 a.fB)) (y:=(.int .i64 b.fB)) (by decide) rfl tyS3 ⟨rfl,rfl⟩ ⟨rfl,rfl⟩ (FitE.int (h:=0) a.fB b.fB underlying3) FitF.nil)))
theorem eqg132:Program.eqGuardType Tryz.prog (Program.depth Tryz.prog) 132=false:=by kernel_rfl
theorem tyS134:TyS Tryz.prog 134 3 true:=⟨by kernel_rfl,by kernel_rfl⟩
theorem held134:Program.stoodInHeld Tryz.prog 134=false:=by kernel_rfl
theorem feq134:∀ a b:G0,FitE Tryz.prog 2 134 (C7 a) (C7 b) ((a.fA==b.fA)&&((a.fB==b.fB)&&((a.fC==b.fC)&&true))):=fun a b=>(FitE.st underlying134 rfl held134 (FitF.cons (x:=(.int .i64 a.fA)) (y:=(.int .i64 b.fA)) (by decide) rfl tyS3 ⟨rfl,rfl⟩ ⟨rfl,rfl⟩ (FitE.int (h:=0) a.fA b.fA underlying3) (FitF.cons (x:=(.int .i64 a.fB)) (y:=(.int .i64 b.fB)) (by decide) rfl tyS3 ⟨rfl,rfl⟩ ⟨rfl,rfl⟩ (FitE.int (h:=0) a.fB b.fB underlying3) (FitF.cons (x:=(.int .i64 a.fC)) (y:=(.int .i64 b.fC)) (by decide) rfl tyS3 ⟨rfl,rfl⟩ ⟨rfl,rfl⟩ (FitE.int (h:=0) a.fC b.fC underlying3) FitF.nil))))
theorem eqg134:Program.eqGuardType Tryz.prog (Program.depth Tryz.prog) 134=false:=by kernel_rfl
theorem tyS78:TyS Tryz.prog 78 3 true:=⟨by kernel_rfl,by kernel_rfl⟩
theorem tyS76:TyS Tryz.prog 76 1 false:=⟨by kernel_rfl,by kernel_rfl⟩
theorem tyU76:Tryz.prog.underlying 76=some (.slice 5):=by kernel_rfl
theorem fnOk55:FnOk Tryz.prog 55:=⟨by kernel_rfl⟩
theorem fnOk61:FnOk Tryz.prog 61:=⟨by kernel_rfl⟩
theorem tyZS43:TyZ Tryz.prog 43 (.st [(.d (.int .i64 0)),(.d (.st [(.st [(.bool false),(.int .u64 0),(.int .u64 0)]),(.int .i64 0)])),(.d (.bool false)),(.st [(.d (.st [(.st [(.bool false),(.int .u64 0),(.int .u64 0)]),(.int .i64 0)])),(.d (.int .i64 0)),(.st [(.d (.int .i64 0)),.nils,(.d (.st [(.bool false),(.int .u64 0),(.int .u64 0)])),(.d (.int .i64 0)),(.d (.int .i64 0)),(.d (.int .i64 0)),.nils,.nils,.nils])])]):=⟨by kernel_rfl,fun w=>by kernel_rfl⟩
theorem tyZ43:TyZ Tryz.prog 43 (.st [(.d (.int .i64 0)),(.d (.st [(.st [(.bool false),(.int .u64 0),(.int .u64 0)]),(.int .i64 0)])),(.d (.bool false)),(.st [(.d (.st [(.st [(.bool false),(.int .u64 0),(.int .u64 0)]),(.int .i64 0)])),(.d (.int .i64 0)),(.st [(.d (.int .i64 0)),.nils,(.d (.st [(.bool false),(.int .u64 0),(.int .u64 0)])),(.d (.int .i64 0)),(.d (.int .i64 0)),(.d (.int .i64 0)),.nils,.nils,.nils])])]):=⟨by kernel_rfl,fun w=>by kernel_rfl⟩
theorem tyS43:TyS Tryz.prog 43 22 true:=⟨by kernel_rfl,by kernel_rfl⟩
theorem tyZ75:TyZ Tryz.prog 75 (.st [(.d (.bool false)),.nils]):=⟨by kernel_rfl,fun w=>by kernel_rfl⟩
theorem tyE3:TyE Tryz.prog 3 1 8:=⟨by kernel_rfl,by decide⟩
theorem tyE75:TyE Tryz.prog 75 2 32:=⟨by kernel_rfl,by decide⟩
theorem tyE132:TyE Tryz.prog 132 2 16:=⟨by kernel_rfl,by decide⟩
theorem tyE134:TyE Tryz.prog 134 3 24:=⟨by kernel_rfl,by decide⟩
theorem tyZ78:TyZ Tryz.prog 78 (.st [(.d (.int .i64 0)),(.d (.int .i64 0)),.nils]):=⟨by kernel_rfl,fun w=>by kernel_rfl⟩
theorem tyE5:TyE Tryz.prog 5 1 1:=⟨by kernel_rfl,by decide⟩
theorem tyZS78:TyZ Tryz.prog 78 (.st [(.d (.int .i64 0)),(.d (.int .i64 0)),.nils]):=⟨by kernel_rfl,fun w=>by kernel_rfl⟩
theorem tyZD78:TyZ Tryz.prog 78 (.d (.st [(.int .i64 0),(.int .i64 0),(.list 1 (([]:List Int).map (eI .u8)))])):=⟨by kernel_rfl,fun w=>by kernel_rfl⟩
theorem tyE78:TyE Tryz.prog 78 3 40:=⟨by kernel_rfl,by decide⟩
theorem fnOk60:FnOk Tryz.prog 60:=⟨by kernel_rfl⟩
theorem fnOk58:FnOk Tryz.prog 58:=⟨by kernel_rfl⟩
theorem tyZD43:TyZ Tryz.prog 43 (.d (.st [(.int .i64 0),(.st [(.st [(.bool false),(.int .u64 0),(.int .u64 0)]),(.int .i64 0)]),(.bool false),(.st [(.st [(.st [(.bool false),(.int .u64 0),(.int .u64 0)]),(.int .i64 0)]),(.int .i64 0),(.st [(.int .i64 0),(.list 2 (([]:List B2).map B4)),(.st [(.bool false),(.int .u64 0),(.int .u64 0)]),(.int .i64 0),(.int .i64 0),(.int .i64 0),(.list 2 (([]:List C6).map B1)),(.list 3 (([]:List G0).map C7)),(.list 3 (([]:List A7).map A5))])])])):=⟨by kernel_rfl,fun w=>by kernel_rfl⟩
theorem tyE43:TyE Tryz.prog 43 22 240:=⟨by kernel_rfl,by decide⟩
theorem fnOk37:FnOk Tryz.prog 37:=⟨by kernel_rfl⟩
theorem fnOk15:FnOk Tryz.prog 15:=⟨by kernel_rfl⟩
theorem tyS24:TyS Tryz.prog 24 3 true:=⟨by kernel_rfl,by kernel_rfl⟩
theorem tyS22:TyS Tryz.prog 22 1 false:=⟨by kernel_rfl,by kernel_rfl⟩
theorem tyS5:TyS Tryz.prog 5 1 false:=⟨by kernel_rfl,by kernel_rfl⟩
theorem tyZD5:TyZ Tryz.prog 5 (.d (.int .u8 0)):=⟨by kernel_rfl,fun w=>by kernel_rfl⟩
theorem tyZS71:TyZ Tryz.prog 71 (.st [.nils,(.st [(.d (.int .i64 0)),.nils,(.d (.st [(.bool false),(.int .u64 0),(.int .u64 0)])),(.d (.int .i64 0)),(.d (.int .i64 0)),(.d (.int .i64 0)),.nils,.nils,.nils]),.nils]):=⟨by kernel_rfl,fun w=>by kernel_rfl⟩
theorem tyS69:TyS Tryz.prog 69 1 false:=⟨by kernel_rfl,by kernel_rfl⟩
theorem tyZ132:TyZ Tryz.prog 132 (.d (.st [(.int .i64 0),(.int .i64 0)])):=⟨by kernel_rfl,fun w=>by kernel_rfl⟩
theorem tyZ134:TyZ Tryz.prog 134 (.d (.st [(.int .i64 0),(.int .i64 0),(.int .i64 0)])):=⟨by kernel_rfl,fun w=>by kernel_rfl⟩
theorem B03:∀ a:E7,FitE Tryz.prog 2 31 (C5 a) (.st [(.bool false),(.int .u64 0),(.int .u64 0)]) ((a.fV6==false)&&((a.fHi==0)&&((a.fLo==0)&&true))):=fun a=>(FitE.st underlying31 rfl held31 (FitF.cons (x:=(.bool a.fV6)) (y:=(.bool false)) (by decide) rfl tyS4 ⟨rfl,rfl⟩ ⟨rfl,rfl⟩ (FitE.bool (h:=0) a.fV6 false underlying4) (FitF.cons (x:=(.int .u64 a.fHi)) (y:=(.int .u64 0)) (by decide) rfl tyS29 ⟨rfl,rfl⟩ ⟨rfl,rfl⟩ (FitE.int (h:=0) a.fHi 0 underlying29) (FitF.cons (x:=(.int .u64 a.fLo)) (y:=(.int .u64 0)) (by decide) rfl tyS29 ⟨rfl,rfl⟩ ⟨rfl,rfl⟩ (FitE.int (h:=0) a.fLo 0 underlying29) FitF.nil))))
theorem fnOk83:FnOk Tryz.prog 83:=⟨by kernel_rfl⟩
theorem tyS71:TyS Tryz.prog 71 13 true:=⟨by kernel_rfl,by kernel_rfl⟩
theorem keyEq3:KeyEq Tryz.prog 3 (eI .i64) keq3:=⟨⟨1,by decide,fun a b=>(FitE.int (h:=0) a b underlying3)⟩,fun a b h=>by
 unfold keq3 at h
 simp at h
 simp [eI,h]⟩
theorem tyZ71:TyZ Tryz.prog 71 (.st [.nils,(.st [(.d (.int .i64 0)),.nils,(.d (.st [(.bool false),(.int .u64 0),(.int .u64 0)])),(.d (.int .i64 0)),(.d (.int .i64 0)),(.d (.int .i64 0)),.nils,.nils,.nils]),.nils]):=⟨by kernel_rfl,fun w=>by kernel_rfl⟩
theorem tyZD71:TyZ Tryz.prog 71 (.d (.st [(.list 4 (([]:List A0).map A2)),(.st [(.int .i64 0),(.list 2 (([]:List B2).map B4)),(.st [(.bool false),(.int .u64 0),(.int .u64 0)]),(.int .i64 0),(.int .i64 0),(.int .i64 0),(.list 2 (([]:List C6).map B1)),(.list 3 (([]:List G0).map C7)),(.list 3 (([]:List A7).map A5))]),(.list 4 (([]:List A0).map A2))])):=⟨by kernel_rfl,fun w=>by kernel_rfl⟩
theorem tyE71:TyE Tryz.prog 71 13 200:=⟨by kernel_rfl,by decide⟩
theorem tyZD4:TyZ Tryz.prog 4 (.d (.bool false)):=⟨by kernel_rfl,fun w=>by kernel_rfl⟩
theorem tyZ24:TyZ Tryz.prog 24 (.d (.st [(.int .i64 0),(.int .i64 0),(.int .i64 0)])):=⟨by kernel_rfl,fun w=>by kernel_rfl⟩
theorem keyEq33:KeyEq Tryz.prog 33 A2 keq33:=⟨⟨3,by decide,fun a b=>(FitE.st underlying33 rfl held33 (FitF.cons (x:=(C5 a.fAddr)) (y:=(C5 b.fAddr)) (by decide) rfl tyS31 ⟨rfl,rfl⟩ ⟨rfl,rfl⟩ (FitE.st underlying31 rfl held31 (FitF.cons (x:=(.bool a.fAddr.fV6)) (y:=(.bool b.fAddr.fV6)) (by decide) rfl tyS4 ⟨rfl,rfl⟩ ⟨rfl,rfl⟩ (FitE.bool (h:=0) a.fAddr.fV6 b.fAddr.fV6 underlying4) (FitF.cons (x:=(.int .u64 a.fAddr.fHi)) (y:=(.int .u64 b.fAddr.fHi)) (by decide) rfl tyS29 ⟨rfl,rfl⟩ ⟨rfl,rfl⟩ (FitE.int (h:=0) a.fAddr.fHi b.fAddr.fHi underlying29) (FitF.cons (x:=(.int .u64 a.fAddr.fLo)) (y:=(.int .u64 b.fAddr.fLo)) (by decide) rfl tyS29 ⟨rfl,rfl⟩ ⟨rfl,rfl⟩ (FitE.int (h:=0) a.fAddr.fLo b.fAddr.fLo underlying29) FitF.nil)))) (FitF.cons (x:=(.int .i64 a.fLen)) (y:=(.int .i64 b.fLen)) (by decide) rfl tyS3 ⟨rfl,rfl⟩ ⟨rfl,rfl⟩ (FitE.int (h:=1) a.fLen b.fLen underlying3) FitF.nil)))⟩,fun a b h=>by
 unfold keq33 at h
 simp at h
 simp [C5,A2,h]⟩
theorem tyU82:Tryz.prog.underlying 82=some (.map 33 4):=by kernel_rfl
theorem fnOk30:FnOk Tryz.prog 30:=⟨by kernel_rfl⟩
theorem tyZ123:TyZ Tryz.prog 123 (.st [(.st [(.d (.int .i64 0)),.nils,(.d (.st [(.bool false),(.int .u64 0),(.int .u64 0)])),(.d (.int .i64 0)),(.d (.int .i64 0)),(.d (.int .i64 0)),.nils,.nils,.nils]),.nils]):=⟨by kernel_rfl,fun w=>by kernel_rfl⟩
theorem fnOk141:FnOk Tryz.prog 141:=⟨by kernel_rfl⟩
theorem fnOk142:FnOk Tryz.prog 142:=⟨by kernel_rfl⟩
theorem fnOk150:FnOk Tryz.prog 150:=⟨by kernel_rfl⟩
theorem fnOk143:FnOk Tryz.prog 143:=⟨by kernel_rfl⟩
theorem fnOk112:FnOk Tryz.prog 112:=⟨by kernel_rfl⟩
theorem fnOk131:FnOk Tryz.prog 131:=⟨by kernel_rfl⟩
theorem fnOk132:FnOk Tryz.prog 132:=⟨by kernel_rfl⟩
theorem fnOk133:FnOk Tryz.prog 133:=⟨by kernel_rfl⟩
theorem fnOk134:FnOk Tryz.prog 134:=⟨by kernel_rfl⟩
theorem fnOk98:FnOk Tryz.prog 98:=⟨by kernel_rfl⟩
theorem fnOk48:FnOk Tryz.prog 48:=⟨by kernel_rfl⟩
theorem fnOk148:FnOk Tryz.prog 148:=⟨by kernel_rfl⟩
theorem fnOk114:FnOk Tryz.prog 114:=⟨by kernel_rfl⟩
theorem fnOk144:FnOk Tryz.prog 144:=⟨by kernel_rfl⟩
theorem fnOk151:FnOk Tryz.prog 151:=⟨by kernel_rfl⟩
theorem fnOk145:FnOk Tryz.prog 145:=⟨by kernel_rfl⟩
theorem fnOk152:FnOk Tryz.prog 152:=⟨by kernel_rfl⟩
theorem fnOk159:FnOk Tryz.prog 159:=⟨by kernel_rfl⟩
theorem fnOk161:FnOk Tryz.prog 161:=⟨by kernel_rfl⟩
theorem fnOk160:FnOk Tryz.prog 160:=⟨by kernel_rfl⟩
theorem fnOk193:FnOk Tryz.prog 193:=⟨by kernel_rfl⟩
theorem fnOk194:FnOk Tryz.prog 194:=⟨by kernel_rfl⟩
theorem fnOk184:FnOk Tryz.prog 184:=⟨by kernel_rfl⟩
theorem fnOk170:FnOk Tryz.prog 170:=⟨by kernel_rfl⟩
theorem fnOk111:FnOk Tryz.prog 111:=⟨by kernel_rfl⟩
theorem fnOk74:FnOk Tryz.prog 74:=⟨by kernel_rfl⟩
theorem fnOk72:FnOk Tryz.prog 72:=⟨by kernel_rfl⟩
theorem fnOk171:FnOk Tryz.prog 171:=⟨by kernel_rfl⟩
theorem fnOk169:FnOk Tryz.prog 169:=⟨by kernel_rfl⟩
theorem fnOk162:FnOk Tryz.prog 162:=⟨by kernel_rfl⟩
theorem fnOk173:FnOk Tryz.prog 173:=⟨by kernel_rfl⟩
theorem fnOk174:FnOk Tryz.prog 174:=⟨by kernel_rfl⟩
theorem fnOk172:FnOk Tryz.prog 172:=⟨by kernel_rfl⟩
theorem fnOk163:FnOk Tryz.prog 163:=⟨by kernel_rfl⟩
theorem tyS210:TyS Tryz.prog 210 1 false:=⟨by kernel_rfl,by kernel_rfl⟩
theorem tyU210:Tryz.prog.underlying 210=some (.map 3 3):=by kernel_rfl
theorem fnOk175:FnOk Tryz.prog 175:=⟨by kernel_rfl⟩
theorem fnOk164:FnOk Tryz.prog 164:=⟨by kernel_rfl⟩
theorem fnOk154:FnOk Tryz.prog 154:=⟨by kernel_rfl⟩
theorem fnOk153:FnOk Tryz.prog 153:=⟨by kernel_rfl⟩
theorem fnOk146:FnOk Tryz.prog 146:=⟨by kernel_rfl⟩
theorem tyZ37:TyZ Tryz.prog 37 .nils:=⟨by kernel_rfl,fun w=>by kernel_rfl⟩
theorem fnOk176:FnOk Tryz.prog 176:=⟨by kernel_rfl⟩
theorem fnOk178:FnOk Tryz.prog 178:=⟨by kernel_rfl⟩
theorem fnOk177:FnOk Tryz.prog 177:=⟨by kernel_rfl⟩
theorem fnOk166:FnOk Tryz.prog 166:=⟨by kernel_rfl⟩
theorem fnOk179:FnOk Tryz.prog 179:=⟨by kernel_rfl⟩
theorem fnOk180:FnOk Tryz.prog 180:=⟨by kernel_rfl⟩
theorem fnOk181:FnOk Tryz.prog 181:=⟨by kernel_rfl⟩
theorem fnOk182:FnOk Tryz.prog 182:=⟨by kernel_rfl⟩
theorem fnOk167:FnOk Tryz.prog 167:=⟨by kernel_rfl⟩
theorem fnOk165:FnOk Tryz.prog 165:=⟨by kernel_rfl⟩
theorem fnOk157:FnOk Tryz.prog 157:=⟨by kernel_rfl⟩
theorem fnOk168:FnOk Tryz.prog 168:=⟨by kernel_rfl⟩
theorem fnOk156:FnOk Tryz.prog 156:=⟨by kernel_rfl⟩
theorem fnOk155:FnOk Tryz.prog 155:=⟨by kernel_rfl⟩
theorem fnOk158:FnOk Tryz.prog 158:=⟨by kernel_rfl⟩
theorem fnOk147:FnOk Tryz.prog 147:=⟨by kernel_rfl⟩
theorem fnOk113:FnOk Tryz.prog 113:=⟨by kernel_rfl⟩
theorem fnOk75:FnOk Tryz.prog 75:=⟨by kernel_rfl⟩
theorem fnOk109:FnOk Tryz.prog 109:=⟨by kernel_rfl⟩
theorem fnOk140:FnOk Tryz.prog 140:=⟨by kernel_rfl⟩
theorem fnOk110:FnOk Tryz.prog 110:=⟨by kernel_rfl⟩
theorem fnOk73:FnOk Tryz.prog 73:=⟨by kernel_rfl⟩
theorem fnOk45:FnOk Tryz.prog 45:=⟨by kernel_rfl⟩
theorem tyS123:TyS Tryz.prog 123 12 true:=⟨by kernel_rfl,by kernel_rfl⟩
theorem fnOk116:FnOk Tryz.prog 116:=⟨by kernel_rfl⟩
theorem fnOk115:FnOk Tryz.prog 115:=⟨by kernel_rfl⟩
theorem fnOk119:FnOk Tryz.prog 119:=⟨by kernel_rfl⟩
theorem fnOk120:FnOk Tryz.prog 120:=⟨by kernel_rfl⟩
theorem fnOk121:FnOk Tryz.prog 121:=⟨by kernel_rfl⟩
theorem fnOk118:FnOk Tryz.prog 118:=⟨by kernel_rfl⟩
theorem fnOk117:FnOk Tryz.prog 117:=⟨by kernel_rfl⟩
theorem fnOk122:FnOk Tryz.prog 122:=⟨by kernel_rfl⟩
theorem fnOk78:FnOk Tryz.prog 78:=⟨by kernel_rfl⟩
theorem fnOk77:FnOk Tryz.prog 77:=⟨by kernel_rfl⟩
theorem fnOk76:FnOk Tryz.prog 76:=⟨by kernel_rfl⟩
theorem tyZS123:TyZ Tryz.prog 123 (.st [(.st [(.d (.int .i64 0)),.nils,(.d (.st [(.bool false),(.int .u64 0),(.int .u64 0)])),(.d (.int .i64 0)),(.d (.int .i64 0)),(.d (.int .i64 0)),.nils,.nils,.nils]),.nils]):=⟨by kernel_rfl,fun w=>by kernel_rfl⟩
theorem tyZD123:TyZ Tryz.prog 123 (.d (.st [(.st [(.int .i64 0),(.list 2 (([]:List B2).map B4)),(.st [(.bool false),(.int .u64 0),(.int .u64 0)]),(.int .i64 0),(.int .i64 0),(.int .i64 0),(.list 2 (([]:List C6).map B1)),(.list 3 (([]:List G0).map C7)),(.list 3 (([]:List A7).map A5))]),(.list 4 (([]:List A0).map A2))])):=⟨by kernel_rfl,fun w=>by kernel_rfl⟩
theorem tyE123:TyE Tryz.prog 123 12 176:=⟨by kernel_rfl,by decide⟩
theorem fnOk79:FnOk Tryz.prog 79:=⟨by kernel_rfl⟩
theorem fnOk46:FnOk Tryz.prog 46:=⟨by kernel_rfl⟩
theorem fnOk31:FnOk Tryz.prog 31:=⟨by kernel_rfl⟩
theorem fnOk11:FnOk Tryz.prog 11:=⟨by kernel_rfl⟩
theorem fnOk39:FnOk Tryz.prog 39:=⟨by kernel_rfl⟩
theorem fnOk68:FnOk Tryz.prog 68:=⟨by kernel_rfl⟩
theorem fnOk38:FnOk Tryz.prog 38:=⟨by kernel_rfl⟩
theorem fnOk69:FnOk Tryz.prog 69:=⟨by kernel_rfl⟩
theorem fnOk40:FnOk Tryz.prog 40:=⟨by kernel_rfl⟩
theorem tyU90:Tryz.prog.underlying 90=some (.map 33 3):=by kernel_rfl
theorem fnOk16:FnOk Tryz.prog 16:=⟨by kernel_rfl⟩
theorem fnOk44:FnOk Tryz.prog 44:=⟨by kernel_rfl⟩
theorem fnOk43:FnOk Tryz.prog 43:=⟨by kernel_rfl⟩
theorem tyJ82:∀ w,(zeroValue 82).run Tryz.prog w = .ok (.map none) w:=fun w=>by kernel_rfl
theorem tyS82:TyS Tryz.prog 82 1 false:=⟨by kernel_rfl,by kernel_rfl⟩
theorem fnOk47:FnOk Tryz.prog 47:=⟨by kernel_rfl⟩
theorem fnOk50:FnOk Tryz.prog 50:=⟨by kernel_rfl⟩
theorem fnOk49:FnOk Tryz.prog 49:=⟨by kernel_rfl⟩
theorem fnOk19:FnOk Tryz.prog 19:=⟨by kernel_rfl⟩
theorem fnOk56:FnOk Tryz.prog 56:=⟨by kernel_rfl⟩
theorem fnOk22:FnOk Tryz.prog 22:=⟨by kernel_rfl⟩
theorem fnOk13:FnOk Tryz.prog 13:=⟨by kernel_rfl⟩
theorem fnOk6:FnOk Tryz.prog 6:=⟨by kernel_rfl⟩
theorem fnOk24:FnOk Tryz.prog 24:=⟨by kernel_rfl⟩
theorem fnOk26:FnOk Tryz.prog 26:=⟨by kernel_rfl⟩
theorem fnOk59:FnOk Tryz.prog 59:=⟨by kernel_rfl⟩
theorem fnOk27:FnOk Tryz.prog 27:=⟨by kernel_rfl⟩
theorem fnOk28:FnOk Tryz.prog 28:=⟨by kernel_rfl⟩
def P6 (a0:(List Int)):Option (C4) :=
 some (C4.mk a0 0)
theorem A2v (a0:(List Int)) (r:C4) (h:P6 a0=some r):AC Tryz.prog 8 [(.d (.list 1 (a0.map (eI .i64))))] [] (pt 1005) [(1005,bd 80 (E6 r))]:=by
 refine AC.of_code2 Tryz.func8 rfl rfl (Nat.le_of_ble_eq_true (by rfl)) fun B hB hN => ?_
 delta P6 at h
 apply sr (c (assign (v:=.junk) (ltN hN rfl) (Opd.junk _)) rfl cn)
 apply sr (c (mv hN (q 0)) rfl (c (OpJ.coe (v:=(.st [(qI_1 a0),(i6 0)])) (y:=(.st [(.list 1 (a0.map (eI .i64))),(.int .i64 0)])) (Co.st (CoL.cons (Co.d _) (CoL.cons (Co.d _) CoL.nil))) rfl (OpJ.build (places:=[(0,1),(1,1)]) ⟨underlying80,fun w=>by kernel_rfl⟩ tyZS80 (Opds.cons (q 3) Opds.nil) (by kernel_rfl) (r:=(.st [(qI_1 a0),(i6 0)])) (by rfl) (ltN hN rfl))) rfl (cg (OpJ.box hB (nm:=1005) (by decide) (by simp) rfl (ltN hN rfl) (q 4)) rfl (c (assign (ltN hN rfl) (q 5)) rfl cn))))
 apply ret
 obtain rfl:=oi h
 exact rt (kp [(2,_)] [(1005,some _)] hB rfl rfl (by rfl)) [(pt 1005)] (rT rN) rfl
def K8 (a0:Int) (a1:Int):Option (Int) :=
 chk (decide (a1≠0)) <|
 jn (fun m3:Int =>
 some m3) (fun j4 =>
 (if (decide ((Int.tmod a0 a1)<0))=true then
 j4 (w64 ((Int.tmod a0 a1)+a1))
 else
 j4 (Int.tmod a0 a1)))
theorem A2w (a0:Int) (a1:Int) (r:Int) (h:K8 a0 a1=some r):AC Tryz.prog 10 [(.d (.int .i64 a0)),(.d (.int .i64 a1))] [] (.d (.int .i64 r)) []:=by
 refine AC.of_code2 Tryz.func10 rfl rfl (Nat.le_of_ble_eq_true (by rfl)) fun B hB hN => ?_
 delta K8 at h
 apply sr (c (assign (ltN hN rfl) (ii 0)) rfl cn)
 obtain⟨hc1,h⟩:=D3 h
 apply sr (c (mv hN (q 0)) rfl (c (mv hN (q 1)) rfl (c (OpJ.rem (ltN hN rfl) (q 6) (q 7) (of_decide_eq_true hc1)) rfl (c (assign (ltN hN rfl) (q 8)) rfl cn))))
 apply seq
 apply sr (c (mv hN (q 5)) rfl (c (lss (ltN hN rfl) (q 9) (ii 0)) rfl cn))
 refine gh [(1,_),(5,_),(10,_)] [] hB rfl rfl (by rfl) ?_
 refine AWp.cut h (fun m3:Int=>([(5,(i6 m3))]:EL)) (fun m3:Int=>([]:OL)) (fun m3 h E' O' hmat => ?_) (fun j4 hjj4 h => ?_)
 ·apply A3
  refine ghost hmat ?_
  apply sr (c (mv hN (q 5)) rfl (c (assign (ltN hN rfl) (q 14)) rfl cn))
  apply ret
  obtain rfl:=oi h
  exact rt (kp [(4,_)] [] hB rfl rfl (by rfl)) [(i6 m3)] (rT rN) rfl
 ·apply AWp.cond rfl<;>intro hg5
  ·have h:=B6 hg5 h
   apply rg (c (mv hN (q 5)) rfl (c (mv hN (q 1)) rfl (c (add6 (ltN hN rfl) (q 11) (q 12)) rfl (c (assign (ltN hN rfl) (q 13)) rfl cn))))
   exact hjj4 _ h _ _ (mp [] _ _ hB)
  ·have h:=B7 hg5 h
   apply AWp.skip
   exact hjj4 _ h _ _ (mp [] _ _ hB)
def G2 (a0:C4) (a1:Int):Option (Int×C4) :=
 (if (decide ((a0.fL.length:Int)≤a0.fAt))=true then
 some (0,a0)
 else
 (idx a0.fL (w64 ((w64 (a0.fAt+1))-1))).bind fun x2 =>
 (K8 x2 a1).bind fun r3 =>
 some (r3,(C4.mk a0.fL (w64 (a0.fAt+1)))))
theorem H2 (a0:C4) (a1:Int) (r:Int×C4) (h:G2 a0 a1=some r):AC Tryz.prog 25 [(pt 0),(.d (.int .i64 a1))] [(0,(.box 80 (.d (E6 a0))))] (.d (.int .i64 r.1)) [(0,bd 80 (E6 r.2))]:=by
 refine ac2 Tryz.func25 rfl rfl fun B hB hN L => ?_
 delta G2 at h
 apply sr (c (assign (L rfl) (ii 0)) rfl cn)
 apply seq
 apply sd (c (mv hN (q 0)) rfl (c (nilP (L rfl) (q 5)) rfl (c (fo 0 1 [1] hN underlying80 1 tyS3 (q 6)) rfl (c (la hN 80 tyS3 (q 7)) rfl (c (mv hN (q 0)) rfl (c (nilP (L rfl) (q 9)) rfl (c (fo 0 0 [0] hN underlying80 0 tyS27 (q 10)) rfl (c (la hN 80 tyS27 (q 11)) rfl (c (OpJ.val (v':=(i6 (a0.fL.length:Int))) (by simp) (lenD underlying27 (L rfl) (q 12))) rfl (c (geq (L rfl) (q 8) (q 13)) rfl cn)))))))))) (by kernel_rfl) (by kernel_rfl)
 apply AWp.cond rfl<;>intro hg1
 ·have h:=B6 hg1 h
  apply sr (c (assign (L rfl) (ii 0)) rfl cn)
  apply ret
  apply D4
  obtain rfl:=oi h
  exact rt (kp [(4,_)] [(0,some _)] hB rfl rfl (by rfl)) [(i6 0)] (rT rN) rfl
 ·have h:=B7 hg1 h
  apply AWp.skip
  apply A3
  apply sr (c (mv hN (q 0)) rfl (c (nilP (L rfl) (q 15)) rfl (c (fo 0 1 [1] hN underlying80 1 tyS3 (q 16)) rfl (c (la hN 80 tyS3 (q 17)) rfl (c (add6 (L rfl) (q 18) (ii 1)) rfl (c (nilP (L rfl) (q 15)) rfl (c (fo 0 1 [1] hN underlying80 1 tyS3 (q 20)) rfl (cg (OpJ.storeB tyS3 (SetAt.dst1 (by rfl) (by rfl) (SetAt.here _ _) (by rfl) (by rfl) (by first | rfl | omega)) (by rfl) (by rfl) (by simp) rfl (q 21) (q 19)) rfl cn))))))))
  obtain⟨x2,hx2,h⟩:=bindS h
  obtain⟨r3,hr3,h⟩:=bindS h
  apply sd (c (mv hN (q 0)) rfl (c (nilP (L rfl) (q 22)) rfl (c (fo 0 0 [0] hN underlying80 0 tyS27 (q 23)) rfl (c (la hN 80 tyS27 (q 24)) rfl (c (mv hN (q 0)) rfl (c (nilP (L rfl) (q 26)) rfl (c (fo 0 1 [1] hN underlying80 1 tyS3 (q 27)) rfl (c (la hN 80 tyS3 (q 28)) rfl (c (sub6 (L rfl) (q 29) (ii 1)) rfl (c (indexD underlying27 tyS3 (A4 hx2).1 (C8 (eI .i64) (A4 hx2).2) (L rfl) (q 25) (q 30)) rfl (c (loadD tyS3 (by rfl) (by rfl) (L rfl) (q 31)) rfl (c (mv hN (q 1)) rfl (cg (cf hB fnOk10 (A2w x2 a1 r3 hr3) (L rfl) (OpdL.cons (q 32) (OpdL.cons (q 33) OpdL.nil))) rfl (c (assign (L rfl) (q 34)) rfl cn)))))))))))))) (by kernel_rfl) (by kernel_rfl)
  apply ret
  obtain rfl:=oi h
  exact rt (kp [(4,_)] [(0,some _)] hB rfl rfl (by rfl)) [(i6 r3)] (rT rN) rfl
def M7 (a0:Int):Option (A0) :=
 (if (decide (6≤a0))=true then
 some (A0.mk (E7.mk true (bitI .or .u64 2306139568115548160 (shlI .u64 (IntKind.u64.wrap a0) 16)) 0) 48)
 else
 some (A0.mk (E7.mk false 0 (bitI .or .u64 167772160 (shlI .u64 (IntKind.u64.wrap a0) 16))) 16))
theorem A2a (a0:Int) (r:A0) (h:M7 a0=some r):AC Tryz.prog 34 [(.d (.int .i64 a0))] [] (.d (A2 r)) []:=by
 refine AC.of_code2 Tryz.func34 rfl rfl (Nat.le_of_ble_eq_true (by rfl)) fun B hB hN => ?_
 delta M7 at h
 apply sr (cg (alloc hB tyZ33 (nm:=1002) (by decide) (ltN hN rfl)) rfl cn)
 apply seq
 apply sr (c (mv hN (q 0)) rfl (c (geq (ltN hN rfl) (q 3) (ii 6)) rfl cn))
 apply AWp.cond rfl<;>intro hg1
 ·have h:=B6 hg1 h
  apply sr (c (mv hN (q 0)) rfl (c (OpJ.conv underlying3 underlying29 (ltN hN rfl) (q 5)) rfl (c (OpJ.shl (ltN hN rfl) (q 6) (Opd.int .u64 (16)) (by decide)) rfl (c (OpJ.bits (.inr (.inl rfl)) (ltN hN rfl) (Opd.int .u64 (2306139568115548160)) (q 7)) rfl (c (OpJ.coe (v:=(.st [(bo true),(.d (.int .u64 (bitI .or .u64 2306139568115548160 (shlI .u64 (IntKind.u64.wrap a0) 16)))),(.d (.int .u64 0))])) (y:=(.st [(.bool true),(.int .u64 (bitI .or .u64 2306139568115548160 (shlI .u64 (IntKind.u64.wrap a0) 16))),(.int .u64 0)])) (Co.st (CoL.cons (Co.d _) (CoL.cons (Co.d _) (CoL.cons (Co.d _) CoL.nil)))) rfl (OpJ.build (places:=[(0,1),(1,1),(2,1)]) ⟨underlying31,fun w=>by kernel_rfl⟩ tyZS31 (Opds.cons (Opd.bool true) (Opds.cons (q 8) Opds.nil)) (by kernel_rfl) (r:=(.st [(bo true),(.d (.int .u64 (bitI .or .u64 2306139568115548160 (shlI .u64 (IntKind.u64.wrap a0) 16)))),(.d (.int .u64 0))])) (by rfl) (ltN hN rfl))) rfl (c (OpJ.coe (v:=(.st [(.d (.st [(.bool true),(.int .u64 (bitI .or .u64 2306139568115548160 (shlI .u64 (IntKind.u64.wrap a0) 16))),(.int .u64 0)])),(i6 48)])) (y:=(.st [(.st [(.bool true),(.int .u64 (bitI .or .u64 2306139568115548160 (shlI .u64 (IntKind.u64.wrap a0) 16))),(.int .u64 0)]),(.int .i64 48)])) (Co.st (CoL.cons (Co.d _) (CoL.cons (Co.d _) CoL.nil))) rfl (OpJ.build (places:=[(0,3),(3,1)]) ⟨underlying33,fun w=>by kernel_rfl⟩ tyZS33 (Opds.cons (q 9) (Opds.cons (ii 48) Opds.nil)) (by kernel_rfl) (r:=(.st [(.d (.st [(.bool true),(.int .u64 (bitI .or .u64 2306139568115548160 (shlI .u64 (IntKind.u64.wrap a0) 16))),(.int .u64 0)])),(i6 48)])) (by rfl) (ltN hN rfl))) rfl (cg (sB tyS33 (q 2) (q 10)) rfl cn)))))))
  apply ret
  apply D4
  obtain rfl:=oi h
  exact rt (kp [(2,_)] [(1002,some _)] hB rfl rfl (by rfl)) [(.d (.st [(.st [(.bool true),(.int .u64 (bitI .or .u64 2306139568115548160 (shlI .u64 (IntKind.u64.wrap a0) 16))),(.int .u64 0)]),(.int .i64 48)]))] (Res.cell (c:=(.d (.st [(.st [(.bool true),(.int .u64 (bitI .or .u64 2306139568115548160 (shlI .u64 (IntKind.u64.wrap a0) 16))),(.int .u64 0)]),(.int .i64 48)]))) (by rfl) (by rfl) tyS33 (by rfl) (by rfl) (by rfl) rN) rfl
 ·have h:=B7 hg1 h
  apply AWp.skip
  apply A3
  apply sr (c (mv hN (q 0)) rfl (c (OpJ.conv underlying3 underlying29 (ltN hN rfl) (q 11)) rfl (c (OpJ.shl (ltN hN rfl) (q 12) (Opd.int .u64 (16)) (by decide)) rfl (c (OpJ.bits (.inr (.inl rfl)) (ltN hN rfl) (Opd.int .u64 (167772160)) (q 13)) rfl (c (OpJ.coe (v:=(.st [(bo false),(.d (.int .u64 0)),(.d (.int .u64 (bitI .or .u64 167772160 (shlI .u64 (IntKind.u64.wrap a0) 16))))])) (y:=(.st [(.bool false),(.int .u64 0),(.int .u64 (bitI .or .u64 167772160 (shlI .u64 (IntKind.u64.wrap a0) 16)))])) (Co.st (CoL.cons (Co.d _) (CoL.cons (Co.d _) (CoL.cons (Co.d _) CoL.nil)))) rfl (OpJ.build (places:=[(0,1),(1,1),(2,1)]) ⟨underlying31,fun w=>by kernel_rfl⟩ tyZS31 (Opds.cons (q 14) Opds.nil) (by kernel_rfl) (r:=(.st [(bo false),(.d (.int .u64 0)),(.d (.int .u64 (bitI .or .u64 167772160 (shlI .u64 (IntKind.u64.wrap a0) 16))))])) (by rfl) (ltN hN rfl))) rfl (c (OpJ.coe (v:=(.st [(.d (.st [(.bool false),(.int .u64 0),(.int .u64 (bitI .or .u64 167772160 (shlI .u64 (IntKind.u64.wrap a0) 16)))])),(i6 16)])) (y:=(.st [(.st [(.bool false),(.int .u64 0),(.int .u64 (bitI .or .u64 167772160 (shlI .u64 (IntKind.u64.wrap a0) 16)))]),(.int .i64 16)])) (Co.st (CoL.cons (Co.d _) (CoL.cons (Co.d _) CoL.nil))) rfl (OpJ.build (places:=[(0,3),(3,1)]) ⟨underlying33,fun w=>by kernel_rfl⟩ tyZS33 (Opds.cons (q 15) (Opds.cons (ii 16) Opds.nil)) (by kernel_rfl) (r:=(.st [(.d (.st [(.bool false),(.int .u64 0),(.int .u64 (bitI .or .u64 167772160 (shlI .u64 (IntKind.u64.wrap a0) 16)))])),(i6 16)])) (by rfl) (ltN hN rfl))) rfl (cg (sB tyS33 (q 2) (q 16)) rfl cn)))))))
  apply ret
  obtain rfl:=oi h
  exact rt (kp [(2,_)] [(1002,some _)] hB rfl rfl (by rfl)) [(.d (.st [(.st [(.bool false),(.int .u64 0),(.int .u64 (bitI .or .u64 167772160 (shlI .u64 (IntKind.u64.wrap a0) 16)))]),(.int .i64 16)]))] (Res.cell (c:=(.d (.st [(.st [(.bool false),(.int .u64 0),(.int .u64 (bitI .or .u64 167772160 (shlI .u64 (IntKind.u64.wrap a0) 16)))]),(.int .i64 16)]))) (by rfl) (by rfl) tyS33 (by rfl) (by rfl) (by rfl) rN) rfl
def A23:Option (D9) :=
 some (D9.mk (-1) ([]:List B2) (E7.mk false 0 0) (-1) (-1) (-1) ([]:List C6) ([]:List G0) ([]:List A7))
theorem A7h (r:D9) (h:A23=some r):AC Tryz.prog 35 [] [] (.d (A8 r)) []:=by
 refine AC.of_code2 Tryz.func35 rfl rfl (Nat.le_of_ble_eq_true (by rfl)) fun B hB hN => ?_
 delta A23 at h
 apply sr (cg (alloc hB tyZ39 (nm:=1000) (by decide) (ltN hN rfl)) rfl cn)
 apply sr (c (OpJ.build (places:=[(0,1),(1,1),(2,3),(5,1),(6,1),(7,1),(8,1),(9,1),(10,1)]) ⟨underlying39,fun w=>by kernel_rfl⟩ tyZS39 (Opds.cons (ii (-1)) (Opds.cons (ii (-1)) (Opds.cons (ii (-1)) (Opds.cons (ii (-1)) Opds.nil)))) (by kernel_rfl) (r:=(.st [(i6 (-1)),.nils,(.d (.st [(.bool false),(.int .u64 0),(.int .u64 0)])),(i6 (-1)),(i6 (-1)),(i6 (-1)),.nils,.nils,.nils])) (by rfl) (ltN hN rfl)) rfl (cg (sB tyS39 (q 0) (q 1)) rfl cn))
 apply ret
 obtain rfl:=oi h
 exact rt (Mat.trans (Mat.coeP (Ts:=[]) (Bs:=[(1000,bd 39 (.st [(.int .i64 (-1)),(.list 2 (([]:List B2).map B4)),(.st [(.bool false),(.int .u64 0),(.int .u64 0)]),(.int .i64 (-1)),(.int .i64 (-1)),(.int .i64 (-1)),(.list 2 (([]:List C6).map B1)),(.list 3 (([]:List G0).map C7)),(.list 3 (([]:List A7).map A5))]))]) TwT.nil (TwB.cons (x:=(.st [(i6 (-1)),.nils,(.d (.st [(.bool false),(.int .u64 0),(.int .u64 0)])),(i6 (-1)),(i6 (-1)),(i6 (-1)),.nils,.nils,.nils])) (by rfl) (Tw.leaf ⟨_,(Co.st (CoL.cons (Co.d _) (CoL.cons (Co.nils 2) (CoL.cons (Co.d _) (CoL.cons (Co.d _) (CoL.cons (Co.d _) (CoL.cons (Co.d _) (CoL.cons (Co.nils 2) (CoL.cons (Co.nils 3) (CoL.cons (Co.nils 3) CoL.nil)))))))))),rfl⟩) TwB.nil)) (mp [] [(0,(pt 1000))] [(1000,bd 39 (.st [(.int .i64 (-1)),(.list 2 (([]:List B2).map B4)),(.st [(.bool false),(.int .u64 0),(.int .u64 0)]),(.int .i64 (-1)),(.int .i64 (-1)),(.int .i64 (-1)),(.list 2 (([]:List C6).map B1)),(.list 3 (([]:List G0).map C7)),(.list 3 (([]:List A7).map A5))]))] hB)) [(.d (.st [(.int .i64 (-1)),(.list 2 (([]:List B2).map B4)),(.st [(.bool false),(.int .u64 0),(.int .u64 0)]),(.int .i64 (-1)),(.int .i64 (-1)),(.int .i64 (-1)),(.list 2 (([]:List C6).map B1)),(.list 3 (([]:List G0).map C7)),(.list 3 (([]:List A7).map A5))]))] (Res.cell (c:=(.d (.st [(.int .i64 (-1)),(.list 2 (([]:List B2).map B4)),(.st [(.bool false),(.int .u64 0),(.int .u64 0)]),(.int .i64 (-1)),(.int .i64 (-1)),(.int .i64 (-1)),(.list 2 (([]:List C6).map B1)),(.list 3 (([]:List G0).map C7)),(.list 3 (([]:List A7).map A5))]))) (by rfl) (by rfl) tyS39 (by rfl) (by rfl) (by rfl) rN) rfl
def N8 (a0:Int) (a1:Bool):Option (E7) :=
 (if a1=true then
 some (E7.mk true 2306139568115613695 (IntKind.u64.wrap a0))
 else
 some (E7.mk false 0 (bitI .or .u64 3221225984 (IntKind.u64.wrap (w64 ((Int.tmod a0 250)+1))))))
theorem A2i (a0:Int) (a1:Bool) (r:E7) (h:N8 a0 a1=some r):AC Tryz.prog 36 [(.d (.int .i64 a0)),(.d (.bool a1))] [] (.d (C5 r)) []:=by
 refine AC.of_code2 Tryz.func36 rfl rfl (Nat.le_of_ble_eq_true (by rfl)) fun B hB hN => ?_
 delta N8 at h
 apply sr (cg (alloc hB tyZ31 (nm:=1004) (by decide) (ltN hN rfl)) rfl cn)
 apply seq
 apply sr (c (mv hN (q 1)) rfl cn)
 apply AWp.cond rfl<;>intro hg1
 ·have h:=B6 hg1 h
  apply sr (c (mv hN (q 0)) rfl (c (OpJ.conv underlying3 underlying29 (ltN hN rfl) (q 6)) rfl (c (OpJ.coe (v:=(.st [(bo true),(.d (.int .u64 2306139568115613695)),(.d (.int .u64 (IntKind.u64.wrap a0)))])) (y:=(.st [(.bool true),(.int .u64 2306139568115613695),(.int .u64 (IntKind.u64.wrap a0))])) (Co.st (CoL.cons (Co.d _) (CoL.cons (Co.d _) (CoL.cons (Co.d _) CoL.nil)))) rfl (OpJ.build (places:=[(0,1),(1,1),(2,1)]) ⟨underlying31,fun w=>by kernel_rfl⟩ tyZS31 (Opds.cons (Opd.bool true) (Opds.cons (Opd.int .u64 (2306139568115613695)) (Opds.cons (q 7) Opds.nil))) (by kernel_rfl) (r:=(.st [(bo true),(.d (.int .u64 2306139568115613695)),(.d (.int .u64 (IntKind.u64.wrap a0)))])) (by rfl) (ltN hN rfl))) rfl (cg (sB tyS31 (q 4) (q 8)) rfl cn))))
  apply ret
  apply D4
  obtain rfl:=oi h
  exact rt (kp [(4,_)] [(1004,some _)] hB rfl rfl (by rfl)) [(.d (.st [(.bool true),(.int .u64 2306139568115613695),(.int .u64 (IntKind.u64.wrap a0))]))] (Res.cell (c:=(.d (.st [(.bool true),(.int .u64 2306139568115613695),(.int .u64 (IntKind.u64.wrap a0))]))) (by rfl) (by rfl) tyS31 (by rfl) (by rfl) (by rfl) rN) rfl
 ·have h:=B7 hg1 h
  apply AWp.skip
  apply A3
  apply sr (c (mv hN (q 0)) rfl (c (OpJ.rem (ltN hN rfl) (q 9) (ii 250) (by decide)) rfl (c (add6 (ltN hN rfl) (q 10) (ii 1)) rfl (c (OpJ.conv underlying3 underlying29 (ltN hN rfl) (q 11)) rfl (c (OpJ.bits (.inr (.inl rfl)) (ltN hN rfl) (Opd.int .u64 (3221225984)) (q 12)) rfl (c (OpJ.coe (v:=(.st [(bo false),(.d (.int .u64 0)),(.d (.int .u64 (bitI .or .u64 3221225984 (IntKind.u64.wrap (w64 ((Int.tmod a0 250)+1))))))])) (y:=(.st [(.bool false),(.int .u64 0),(.int .u64 (bitI .or .u64 3221225984 (IntKind.u64.wrap (w64 ((Int.tmod a0 250)+1)))))])) (Co.st (CoL.cons (Co.d _) (CoL.cons (Co.d _) (CoL.cons (Co.d _) CoL.nil)))) rfl (OpJ.build (places:=[(0,1),(1,1),(2,1)]) ⟨underlying31,fun w=>by kernel_rfl⟩ tyZS31 (Opds.cons (q 13) Opds.nil) (by kernel_rfl) (r:=(.st [(bo false),(.d (.int .u64 0)),(.d (.int .u64 (bitI .or .u64 3221225984 (IntKind.u64.wrap (w64 ((Int.tmod a0 250)+1))))))])) (by rfl) (ltN hN rfl))) rfl (cg (sB tyS31 (q 4) (q 14)) rfl cn)))))))
  apply ret
  obtain rfl:=oi h
  exact rt (kp [(4,_)] [(1004,some _)] hB rfl rfl (by rfl)) [(.d (.st [(.bool false),(.int .u64 0),(.int .u64 (bitI .or .u64 3221225984 (IntKind.u64.wrap (w64 ((Int.tmod a0 250)+1)))))]))] (Res.cell (c:=(.d (.st [(.bool false),(.int .u64 0),(.int .u64 (bitI .or .u64 3221225984 (IntKind.u64.wrap (w64 ((Int.tmod a0 250)+1)))))]))) (by rfl) (by rfl) tyS31 (by rfl) (by rfl) (by rfl) rN) rfl
def A2b (a0:E7) (a1:E7):Option (Int) :=
 (if ((a0.fV6==a1.fV6)&&((a0.fHi==a1.fHi)&&((a0.fLo==a1.fLo)&&true)))=true then
 some 0
 else
 (if (a0.fV6 != a1.fV6)=true then
 (if a1.fV6=true then
 some (-1)
 else
 some 1)
 else
 jn (fun m5:Bool =>
 (if m5=true then
 some (-1)
 else
 some 1)) (fun j6 =>
 (if (decide (a0.fHi<a1.fHi))=true then
 j6 true
 else
 j6 ((a0.fHi==a1.fHi)&&(decide (a0.fLo<a1.fLo)))))))
theorem A95 (a0:E7) (a1:E7) (r:Int) (h:A2b a0 a1=some r):AC Tryz.prog 80 [(.d (C5 a0)),(.d (C5 a1))] [] (.d (.int .i64 r)) []:=by
 refine ac2 Tryz.func80 rfl rfl fun B hB hN L => ?_
 delta A2b at h
 apply sr (cg (OpJ.box hB (nm:=1002) (by decide) (by simp) rfl (L rfl) (q 0)) rfl (cg (OpJ.box hB (nm:=1003) (by decide) (by simp) rfl (L rfl) (q 1)) rfl (c (assign (L rfl) (ii 0)) rfl cn)))
 apply seq
 apply block
 apply sr (c (lb hN 31 _ _ tyS31 (At.here _) (q 2)) rfl (c (lb hN 31 _ _ tyS31 (At.here _) (q 3)) rfl (c (OpJ.eqlD (h:=2) (feq31 a0 a1) eqg31 ⟨rfl,rfl⟩ (by rfl) (L rfl) (q 6) (q 7)) rfl (c (assign (L rfl) (q 8)) rfl cn))))
 apply AWp.cond rfl<;>intro hg1
 ·have h:=B6 hg1 h
  apply sr (c (assign (L rfl) (ii 0)) rfl cn)
  apply ret
  apply F7
  apply D4
  obtain rfl:=oi h
  exact rt (kp [(4,_)] [] hB rfl rfl (by rfl)) [(i6 0)] (rT rN) rfl
 ·have h:=B7 hg1 h
  apply sr (c (fo 1002 0 [0] hN underlying31 0 tyS4 (q 2)) rfl (c (la hN 31 tyS4 (q 10)) rfl (c (fo 1003 0 [0] hN underlying31 0 tyS4 (q 3)) rfl (c (la hN 31 tyS4 (q 12)) rfl (c (OpJ.neqB underlying4 (L rfl) (q 11) (q 13)) rfl (c (assign (L rfl) (q 14)) rfl cn))))))
  apply AWp.cond rfl<;>intro hg2
  ·have h:=B6 hg2 h
   apply seq
   apply sr (c (fo 1003 0 [0] hN underlying31 0 tyS4 (q 3)) rfl (c (la hN 31 tyS4 (q 15)) rfl cn))
   apply AWp.cond rfl<;>intro hg3
   ·have h:=B6 hg3 h
    apply sr (c (assign (L rfl) (ii (-1))) rfl cn)
    apply ret
    apply D4
    apply F7
    apply D4
    obtain rfl:=oi h
    exact rt (kp [(4,_)] [] hB rfl rfl (by rfl)) [(i6 (-1))] (rT rN) rfl
   ·have h:=B7 hg3 h
    apply AWp.skip
    apply A3
    apply sr (c (assign (L rfl) (ii 1)) rfl cn)
    apply ret
    apply F7
    apply D4
    obtain rfl:=oi h
    exact rt (kp [(4,_)] [] hB rfl rfl (by rfl)) [(i6 1)] (rT rN) rfl
  ·have h:=B7 hg2 h
   apply seq
   refine AWp.cut h (fun m5:Bool=>([(17,(bo m5))]:EL)) (fun m5:Bool=>([]:OL)) (fun m5 h E' O' hmat => ?_) (fun j6 hjj6 h => ?_)
   ·apply A3
    refine ghost hmat ?_
    apply AWp.cond rfl<;>intro hg7
    ·have h:=B6 hg7 h
     apply sr (c (assign (L rfl) (ii (-1))) rfl cn)
     apply ret
     apply F7
     apply D4
     obtain rfl:=oi h
     exact rt (kp [(4,_)] [] hB rfl rfl (by rfl)) [(i6 (-1))] (rT rN) rfl
    ·have h:=B7 hg7 h
     apply AWp.skip
     apply F8
     apply A3
     apply sr (c (assign (L rfl) (ii 1)) rfl cn)
     apply ret
     obtain rfl:=oi h
     exact rt (kp [(4,_)] [] hB rfl rfl (by rfl)) [(i6 1)] (rT rN) rfl
   ·rcases bft (decide (a0.fHi<a1.fHi)) with hg8 | hg8
    ·have h:=B6 hg8 h
     apply rg (c (fo 1002 1 [1] hN underlying31 1 tyS29 (q 2)) rfl (c (la hN 31 tyS29 (q 18)) rfl (c (fo 1003 1 [1] hN underlying31 1 tyS29 (q 3)) rfl (c (la hN 31 tyS29 (q 20)) rfl (c (lss (L rfl) (q 19) (q 21)) rfl (c (OpJ.val (v':=.d (.bool true)) (by rw [hg8]<;>rfl) (mv hN (q 22))) rfl (ks 23 (L rfl) (ks 23 (L rfl) (ks 23 (L rfl) (ks 23 (L rfl) (ks 23 (L rfl) (ks 23 (L rfl) (cg (sV 29 (L rfl)) rfl (cg (sV 29 (L rfl)) rfl (cg (sV 29 (L rfl)) rfl (cg (sV 29 (L rfl)) rfl (cg (sV 29 (L rfl)) rfl (ks 23 (L rfl) (c (pickT (L rfl) (q 23) (Opd.bool true)) rfl (c (assign (L rfl) (q 36)) rfl cn))))))))))))))))))))
     exact hjj6 _ h _ _ (mp [] _ _ hB)
    ·have h:=B7 hg8 h
     apply rg (c (fo 1002 1 [1] hN underlying31 1 tyS29 (q 2)) rfl (c (la hN 31 tyS29 (q 18)) rfl (c (fo 1003 1 [1] hN underlying31 1 tyS29 (q 3)) rfl (c (la hN 31 tyS29 (q 20)) rfl (c (lss (L rfl) (q 19) (q 21)) rfl (c (OpJ.val (v':=.d (.bool false)) (by rw [hg8]<;>rfl) (mv hN (q 22))) rfl (c (gd 23 (fo 1002 1 [1] hN underlying31 1 tyS29 (q 2))) rfl (c (gd 23 (la hN 31 tyS29 (q 24))) rfl (c (gd 23 (fo 1003 1 [1] hN underlying31 1 tyS29 (q 3))) rfl (c (gd 23 (la hN 31 tyS29 (q 26))) rfl (c (gd 23 (eqlI (L rfl) (q 25) (q 27))) rfl (c (gd 23 (mv hN (q 28))) rfl (c (oq hN 29 (fo 1002 2 [2] hN underlying31 2 tyS29 (q 2)) (OptL.keep (by rfl) OptL.nil) (GuardV.plain _)) rfl (c (oq hN 29 (la hN 31 tyS29 (q 30)) (OptL.opt OptL.nil) (GuardV.plain _)) rfl (c (oq hN 29 (fo 1003 2 [2] hN underlying31 2 tyS29 (q 3)) (OptL.keep (by rfl) OptL.nil) (GuardV.plain _)) rfl (c (oq hN 29 (la hN 31 tyS29 (q 32)) (OptL.opt OptL.nil) (GuardV.plain _)) rfl (c (oq hN 29 (lss (L rfl) (q 31) (q 33)) (OptL.opt (OptL.opt OptL.nil)) (GuardV.plain _)) rfl (c (gd 23 (pickAnd rfl (L rfl) (q 29) (q 34))) rfl (c (pickF (L rfl) (q 23) (q 35)) rfl (c (assign (L rfl) (q 36)) rfl cn))))))))))))))))))))
     exact hjj6 _ h _ _ (mp [] _ _ hB)
def A1c (a0:A0) (a1:A0):Option (Int) :=
 (A2b a0.fAddr a1.fAddr).bind fun r1 =>
 (if (r1 != 0)=true then
 some r1
 else
 (if (decide (a0.fLen<a1.fLen))=true then
 some (-1)
 else
 (if (decide (a1.fLen<a0.fLen))=true then
 some 1
 else
 some 0)))
theorem A5k (a0:A0) (a1:A0) (r:Int) (h:A1c a0 a1=some r):AC Tryz.prog 51 [(.d (A2 a0)),(.d (A2 a1))] [] (.d (.int .i64 r)) []:=by
 refine ac2 Tryz.func51 rfl rfl fun B hB hN L => ?_
 delta A1c at h
 apply sr (cg (OpJ.box hB (nm:=1002) (by decide) (by simp) rfl (L rfl) (q 0)) rfl (cg (OpJ.box hB (nm:=1003) (by decide) (by simp) rfl (L rfl) (q 1)) rfl (c (assign (L rfl) (ii 0)) rfl cn)))
 apply seq
 obtain⟨r1,hr1,h⟩:=bindS h
 apply sr (c (fo 1002 0 [0] hN underlying33 0 tyS31 (q 2)) rfl (c (la hN 33 tyS31 (q 6)) rfl (c (fo 1003 0 [0] hN underlying33 0 tyS31 (q 3)) rfl (c (la hN 33 tyS31 (q 8)) rfl (cg (cf hB fnOk80 (A95 a0.fAddr a1.fAddr r1 hr1) (L rfl) (OpdL.cons (q 7) (OpdL.cons (q 9) OpdL.nil))) rfl (c (assign (L rfl) (q 10)) rfl cn))))))
 apply sr (c (mv hN (q 5)) rfl (c (neqI (L rfl) (q 11) (ii 0)) rfl cn))
 apply AWp.cond rfl<;>intro hg2
 ·have h:=B6 hg2 h
  apply sr (c (mv hN (q 5)) rfl (c (assign (L rfl) (q 13)) rfl cn))
  apply ret
  apply D4
  obtain rfl:=oi h
  exact rt (kp [(4,_)] [] hB rfl rfl (by rfl)) [(i6 r1)] (rT rN) rfl
 ·have h:=B7 hg2 h
  apply AWp.skip
  apply A3
  apply seq
  apply block
  apply sr (c (fo 1002 3 [1] hN underlying33 3 tyS3 (q 2)) rfl (c (la hN 33 tyS3 (q 15)) rfl (c (fo 1003 3 [1] hN underlying33 3 tyS3 (q 3)) rfl (c (la hN 33 tyS3 (q 17)) rfl (c (lss (L rfl) (q 16) (q 18)) rfl (c (assign (L rfl) (q 19)) rfl cn))))))
  apply AWp.cond rfl<;>intro hg3
  ·have h:=B6 hg3 h
   apply sr (c (assign (L rfl) (ii (-1))) rfl cn)
   apply ret
   apply F7
   apply D4
   obtain rfl:=oi h
   exact rt (kp [(4,_)] [] hB rfl rfl (by rfl)) [(i6 (-1))] (rT rN) rfl
  ·have h:=B7 hg3 h
   apply sr (c (fo 1002 3 [1] hN underlying33 3 tyS3 (q 2)) rfl (c (la hN 33 tyS3 (q 21)) rfl (c (fo 1003 3 [1] hN underlying33 3 tyS3 (q 3)) rfl (c (la hN 33 tyS3 (q 23)) rfl (c (gtr (L rfl) (q 22) (q 24)) rfl (c (assign (L rfl) (q 25)) rfl cn))))))
   apply AWp.cond rfl<;>intro hg4
   ·have h:=B6 hg4 h
    apply sr (c (assign (L rfl) (ii 1)) rfl cn)
    apply ret
    apply F7
    apply D4
    obtain rfl:=oi h
    exact rt (kp [(4,_)] [] hB rfl rfl (by rfl)) [(i6 1)] (rT rN) rfl
   ·have h:=B7 hg4 h
    apply AWp.skip
    apply F8
    apply A3
    apply sr (c (assign (L rfl) (ii 0)) rfl cn)
    apply ret
    obtain rfl:=oi h
    exact rt (kp [(4,_)] [] hB rfl rfl (by rfl)) [(i6 0)] (rT rN) rfl
def X9 (s3:Int×(List A0)) (x135:B3) (s136:Int):Option (((Int))⊕(Int)) :=
 jn (fun m164:Bool =>
 (if m164=true then
 some (.inr (w64 (s136+1)))
 else
 some (.inl s136))) (fun j165 =>
 (if (decide (s136<(s3.2.length:Int)))=true then
 (idx s3.2 s136).bind fun _ =>
 (idx s3.2 s136).bind fun x169 =>
 (A1c x169 x135.fPrefix).bind fun r170 =>
 j165 (decide (r170<0))
 else
 j165 false))
def S3 (a0:(List B3)) (a1:(List B3)) (s3:Int×(List A0)):Option ((((List A0)))⊕(Int×(List A0))) :=
 (if (decide (s3.1<((a0++a1).length:Int)))=true then
 (idx (a0++a1) s3.1).bind fun _ =>
 (idx (a0++a1) s3.1).bind fun x135 =>
 (loop (X9 s3 x135) 0).bind fun p159 =>
 jn (fun m176:Bool =>
 jn (fun m187:(List A0) =>
 some (.inr ((w64 (s3.1+1)),m187))) (fun j188 =>
 (if m176=true then
 chk ((decide (0≤p159)&&decide (p159.toNat≤s3.2.length)&&decide (s3.2.length≤s3.2.length))) <|
 chk (decide (p159.toNat+(s3.2.length-p159.toNat)≤s3.2.length)) <|
 chk (decide (((s3.2.drop p159.toNat).take (s3.2.length-p159.toNat)).length≤LIM)) <|
 chk ((decide (0≤p159)&&decide (0≤p159.toNat)&&decide (p159.toNat≤s3.2.length))) <|
 chk (decide (((s3.2.take p159.toNat)++[x135.fPrefix]).length≤LIM)) <|
 chk (decide ((((s3.2.take p159.toNat)++[x135.fPrefix])++((s3.2.drop p159.toNat).take (s3.2.length-p159.toNat))).length≤LIM)) <|
 j188 (((s3.2.take p159.toNat)++[x135.fPrefix])++((s3.2.drop p159.toNat).take (s3.2.length-p159.toNat)))
 else
 j188 s3.2))) (fun j177 =>
 (if (p159==(s3.2.length:Int))=true then
 j177 true
 else
 (idx s3.2 p159).bind fun _ =>
 (idx s3.2 p159).bind fun x200 =>
 j177 (!(((x200.fAddr.fV6==x135.fPrefix.fAddr.fV6)&&((x200.fAddr.fHi==x135.fPrefix.fAddr.fHi)&&((x200.fAddr.fLo==x135.fPrefix.fAddr.fLo)&&true)))&&((x200.fLen==x135.fPrefix.fLen)&&true)))))
 else
 some (.inl s3.2))
def Z6 (a0:(List B3)) (a1:(List B3)):Option ((List A0)) :=
 chk (decide (a0.length≤LIM)) <|
 chk (decide ((a0++a1).length≤LIM)) <|
 (loop (S3 a0 a1) (0,([]:List A0))).bind fun p132 =>
 some p132
theorem A6k (a0:(List B3)) (a1:(List B3)) (r:(List A0)) (h:Z6 a0 a1=some r):AC Tryz.prog 66 [(.d (.list 16 (a0.map E5))),(.d (.list 16 (a1.map E5)))] [] (.d (.list 4 (r.map A2))) []:=by
 refine ac2 Tryz.func66 rfl rfl fun B hB hN L => ?_
 delta Z6 at h
 apply sr (c (assign (L rfl) Opd.nils) rfl cn)
 apply sr (c (assign (L rfl) Opd.nils) rfl cn)
 apply seq
 obtain⟨hc1,h⟩:=D3 h
 obtain⟨hc2,h⟩:=D3 h
 apply sr (c (mv hN (q 0)) rfl (cg (OpJ.appendN hB underlying65 tyE41 (nm:=1011) (by decide) (ys:=a0.map E5) (len:=a0.length) (by simp) (R4 (f:=E5) (fun _=>rfl)) (by rw [List.length_map];exact J6 hc1 (by decide)) (by rw [List.length_map];exact M6 hc1) (L rfl) Opd.nils (q 10)) rfl (c (mv hN (q 1)) rfl (cg (apd hB underlying65 tyE41 1013 E5 a0 a1 hc2 (L rfl) (q 11) (q 12)) rfl (c (lenS underlying65 (L rfl) (q 13)) rfl (c (mv hN (ii 0)) rfl cn))))))
 apply block
 obtain⟨p132,hx202,h⟩:=bindS h
 refine lg (S3 a0 a1) (fun s3:Int×(List A0)=>([(5,(.sref 3005 4 0 s3.2.length)),(13,(.sref 1013 16 0 ((a0++a1).length))),(14,(i6 ((a0++a1).length:Int))),(15,(i6 s3.1))]:EL)) (fun s3:Int×(List A0)=>([(1013,some (E9 (a0++a1))),(3005,some (G3 s3.2))]:OL)) (fun(p132:((List A0))) e E' O'=>e = .exit 0∧Mat B E' O' ([(5,(.sref 3005 4 0 p132.length))]:EL) ([(3005,some (G3 p132))]:OL)) hx202 (Mat.trans (Mat.beginP (n:=3005) (e:=33) (sz:=4) (Ts:=[(5,(.sref 3005 4 0 0))]) (Bs:=[]) hB (by decide) (by rfl) (by decide) (TwT.cons (x:=.nils) (by rfl) (Tw.leaf ⟨rfl,rfl⟩) TwT.nil) TwB.nil) (mp [] _ _ hB)) (fun s3 y h => ?_) (fun e E' O' hR => ?_)
 ·unfold S3 at h
  apply sr (c (lss (L rfl) (q 15) (q 14)) rfl cn)
  apply seq
  apply AWp.cond rfl<;>intro hg133
  ·have h:=B6 hg133 h
   apply AWp.skip
   apply A3
   apply seq
   apply block
   obtain⟨_,hx134,h⟩:=bindS h
   obtain⟨x135,hx135,h⟩:=bindS h
   apply sr (c (OpJ.val (v':=(.ptr 1013 (s3.1.toNat*16) [s3.1.toNat])) (by simp) (indexS underlying65 tyS41 (A4 hx134).1 (by have:=A1b hx134;first | (simpa using this) | ((try simp only [List.length_map] at this);(try simp only [List.length_map]);omega)) (L rfl) (q 13) (q 15))) rfl (c (loadR (e:=41) (sz:=16) tyS41 (C8 E5 (A4 hx135).2) (o:=0) (At.here _) (by rfl) (by rfl) (by rfl) (L rfl) (q 17)) rfl (cg (alloc hB tyZ41 (nm:=1007) (by decide) (L rfl)) rfl (cg (sB tyS41 (q 7) (q 18)) rfl cn))))
   apply sr (c (assign (L rfl) (ii 0)) rfl cn)
   apply seq
   apply block
   obtain⟨p159,hx172,h⟩:=bindS h
   refine lg (X9 s3 x135) (fun s136:Int=>([(5,(.sref 3005 4 0 s3.2.length)),(7,(pt 1007)),(8,(i6 s136)),(13,(.sref 1013 16 0 ((a0++a1).length))),(14,(i6 ((a0++a1).length:Int))),(15,(i6 s3.1))]:EL)) (fun s136:Int=>([(1007,bd 41 (E5 x135)),(1013,some (E9 (a0++a1))),(3005,some (G3 s3.2))]:OL)) (fun(p159:(Int)) e E' O'=>e = .exit 2∧Mat B E' O' ([(5,(.sref 3005 4 0 s3.2.length)),(7,(pt 1007)),(8,(i6 p159)),(13,(.sref 1013 16 0 ((a0++a1).length))),(14,(i6 ((a0++a1).length:Int))),(15,(i6 s3.1))]:EL) ([(1007,bd 41 (E5 x135)),(1013,some (E9 (a0++a1))),(3005,some (G3 s3.2))]:OL)) hx172 (mp [] _ _ hB) (fun s136 y h => ?_) (fun e E' O' hR => ?_)
   ·unfold X9 at h
    apply seq
    apply seq
    refine AWp.cut h (fun m164:Bool=>([(5,(.sref 3005 4 0 s3.2.length)),(7,(pt 1007)),(8,(i6 s136)),(13,(.sref 1013 16 0 ((a0++a1).length))),(14,(i6 ((a0++a1).length:Int))),(15,(i6 s3.1)),(32,(bo m164))]:EL)) (fun m164:Bool=>([(1007,bd 41 (E5 x135)),(1013,some (E9 (a0++a1))),(3005,some (G3 s3.2))]:OL)) (fun m164 h E' O' hmat => ?_) (fun j165 hjj165 h => ?_)
    ·apply A3
     refine ghost hmat ?_
     apply AWp.cond rfl<;>intro hg166
     ·have h:=B6 hg166 h
      apply AWp.skip
      apply A3
      apply block
      apply rg (c (mv hN (q 8)) rfl (c (add6 (L rfl) (q 33) (ii 1)) rfl (c (assign (L rfl) (q 34)) rfl cn)))
      apply F8
      obtain rfl:=oi h
      exact⟨rfl,(mp [] _ _ hB)⟩
     ·have h:=B7 hg166 h
      apply AWp.exit
      apply F6
      obtain rfl:=oi h
      exact⟨(fun hc=>by cases hc),rfl,(mp [] _ _ hB)⟩
    ·rcases bft (decide (s136<(s3.2.length:Int))) with hg167 | hg167
     ·have h:=B6 hg167 h
      obtain⟨_,hx168,h⟩:=bindS h
      obtain⟨x169,hx169,h⟩:=bindS h
      obtain⟨r170,hr170,h⟩:=bindS h
      apply dr (c (mv hN (q 8)) rfl (c (mv hN (q 5)) rfl (c (lenS underlying69 (L rfl) (q 20)) rfl (c (lss (L rfl) (q 19) (q 21)) rfl (c (OpJ.val (v':=.d (.bool true)) (by rw [hg167]<;>rfl) (mv hN (q 22))) rfl (c (gd 23 (mv hN (q 5))) rfl (c (gd 23 (mv hN (q 8))) rfl (c (gd 23 (OpJ.val (v':=(.ptr 3005 (s136.toNat*4) [s136.toNat])) (by simp) (indexS underlying69 tyS33 (A4 hx168).1 (by have:=A1b hx168;first | (simpa using this) | ((try simp only [List.length_map] at this);(try simp only [List.length_map]);omega)) (L rfl) (q 24) (q 25)))) rfl (c (gd 23 (loadR (e:=33) (sz:=4) tyS33 (C8 A2 (A4 hx169).2) (o:=0) (At.here _) (by rfl) (by rfl) (by rfl) (L rfl) (q 26))) rfl (c (gd 23 (fo 1007 0 [0] hN underlying41 0 tyS33 (q 7))) rfl (c (gd 23 (la hN 41 tyS33 (q 28))) rfl (cg (gd 23 (cf hB fnOk51 (A5k x169 x135.fPrefix r170 hr170) (L rfl) (OpdL.cons (q 27) (OpdL.cons (q 29) OpdL.nil)))) rfl (c (gd 23 (lss (L rfl) (q 30) (ii 0))) rfl (c (pickT (L rfl) (q 23) (q 31)) rfl cn)))))))))))))) (by kernel_rfl) (by kernel_rfl)
      exact hjj165 _ h _ _ (mp [] _ _ hB)
     ·have h:=B7 hg167 h
      apply dr (c (mv hN (q 8)) rfl (c (mv hN (q 5)) rfl (c (lenS underlying69 (L rfl) (q 20)) rfl (c (lss (L rfl) (q 19) (q 21)) rfl (c (OpJ.val (v':=.d (.bool false)) (by rw [hg167]<;>rfl) (mv hN (q 22))) rfl (ks 23 (L rfl) (ks 23 (L rfl) (ks 23 (L rfl) (ks 23 (L rfl) (ks 23 (L rfl) (ks 23 (L rfl) (ks 23 (L rfl) (ks 23 (L rfl) (c (pickF (L rfl) (q 23) (Opd.bool false)) rfl cn)))))))))))))) (by kernel_rfl) (by kernel_rfl)
      exact hjj165 _ h _ _ (mp [] _ _ hB)
   ·obtain⟨rfl,hmat⟩:=hR
    apply E4
    apply A3
    refine ghost hmat ?_
    apply seq
    refine AWp.cut h (fun m176:Bool=>([(5,(.sref 3005 4 0 s3.2.length)),(7,(pt 1007)),(8,(i6 p159)),(13,(.sref 1013 16 0 ((a0++a1).length))),(14,(i6 ((a0++a1).length:Int))),(15,(i6 s3.1)),(47,(bo m176))]:EL)) (fun m176:Bool=>([(1007,bd 41 (E5 x135)),(1013,some (E9 (a0++a1))),(3005,some (G3 s3.2))]:OL)) (fun m176 h E' O' hmat => ?_) (fun j177 hjj177 h => ?_)
    ·apply A3
     refine ghost hmat ?_
     refine AWp.cut h (fun m187:(List A0)=>([(5,(.sref 3005 4 0 m187.length)),(13,(.sref 1013 16 0 ((a0++a1).length))),(14,(i6 ((a0++a1).length:Int))),(15,(i6 s3.1))]:EL)) (fun m187:(List A0)=>([(1013,some (E9 (a0++a1))),(3005,some (G3 m187))]:OL)) (fun m187 h E' O' hmat => ?_) (fun j188 hjj188 h => ?_)
     ·apply F8
      apply A3
      refine ghost hmat ?_
      apply rg (c (add6 (L rfl) (q 15) (ii 1)) rfl (c (mv hN (q 61)) rfl cn))
      obtain rfl:=oi h
      exact⟨rfl,(mp [] _ _ hB)⟩
     ·apply AWp.cond rfl<;>intro hg189
      ·have h:=B6 hg189 h
       obtain⟨hc190,h⟩:=D3 h
       obtain⟨hc191,h⟩:=D3 h
       obtain⟨hc192,h⟩:=D3 h
       apply sr (c (mv hN (q 5)) rfl (c (mv hN (q 8)) rfl (c (OpJ.cutS underlying69 tyS33 (l:=p159.toNat) (h:=s3.2.length) (off':=p159.toNat) (len':=(s3.2.length-p159.toNat)) (.inr ⟨_,_,_,rfl,(ot 49 (i6 p159)),(of_decide_eq_true (G5 (G5 hc190))),rfl⟩) (.inl ⟨rfl,rfl,rfl⟩) (of_decide_eq_true (I6 (G5 hc190))) (of_decide_eq_true (I6 hc190)) (by simp) (by simp) (L rfl) (q 48)) rfl (cg (OpJ.appendNS hB underlying69 tyE33 (nm:=1051) (by decide) (es:=s3.2.map A2) (ys:=((s3.2.drop p159.toNat).take (s3.2.length-p159.toNat)).map A2) (by rw [List.length_map];exact of_decide_eq_true hc191) (by first | rw [List.map_drop,List.map_take] | (simp [List.map_take,List.map_drop];done) | simp [List.take_of_length_le]) (len:=((s3.2.drop p159.toNat).take (s3.2.length-p159.toNat)).length) (by simp) (R4 (f:=A2) (fun _=>rfl)) (by rw [List.length_map];exact J6 hc192 (by decide)) (by rw [List.length_map];exact M6 hc192) (L rfl) Opd.nils (q 50)) rfl (c (assign (L rfl) (q 51)) rfl cn)))))
       refine gh [(5,_),(7,_),(8,_),(9,_),(13,_),(14,_),(15,_)] [(1007,some _),(1013,some _),(1051,some _),(3005,some _)] hB rfl rfl (by rfl) ?_
       refine ghost (Mat.freezeP (n:=1051) (e:=33) (sz:=4) (es:=((s3.2.drop p159.toNat).take (s3.2.length-p159.toNat)).map A2) (Ts:=[(9,(C1 ((s3.2.drop p159.toNat).take (s3.2.length-p159.toNat))))]) (Bs:=[]) (by rfl) (TwT.cons (x:=(.sref 1051 4 0 (((s3.2.drop p159.toNat).take (s3.2.length-p159.toNat)).length))) (by rfl) (FrzL.all (by first | rfl | (simp;done) | (simp;omega) | omega)) TwT.nil) TwB.nil) ?_
       obtain⟨hc195,h⟩:=D3 h
       obtain⟨hc196,h⟩:=D3 h
       obtain⟨hc197,h⟩:=D3 h
       apply dr (c (mv hN (q 5)) rfl (c (mv hN (q 8)) rfl (cg (OpJ.val (v':=(.sref 3005 4 0 ((s3.2.take p159.toNat).length))) (by rw [List.length_take,Nat.min_eq_left (of_decide_eq_true (I6 hc195))]) (OpJ.shrS (OpJ.cutS underlying69 tyS33 (l:=0) (h:=p159.toNat) (off':=0) (len':=p159.toNat) (.inl ⟨rfl,rfl,rfl⟩) (.inr ⟨_,_,_,rfl,(ot 53 (i6 p159)),(of_decide_eq_true (G5 (G5 hc195))),rfl⟩) (of_decide_eq_true (I6 (G5 hc195))) (of_decide_eq_true (I6 hc195)) (by simp) (by simp) (L rfl) (q 52)) (es':=(s3.2.take p159.toNat).map A2) (by rw [List.length_map];exact(of_decide_eq_true (I6 hc195))) (by rw [List.map_take]))) rfl (c (fo 1007 0 [0] hN underlying41 0 tyS33 (q 7)) rfl (c (la hN 41 tyS33 (q 55)) rfl (c (buildSlice underlying69 tyS33 tyZD33 (by rfl) (by decide) (by decide) (Opds.cons (q 56) Opds.nil) (by kernel_rfl) (es:=([(A2 x135.fPrefix)]:List D)) (by rfl) (by rfl) (by kernel_rfl) (by simp) (L rfl)) rfl (cg (apd hB underlying69 tyE33 1058 A2 (s3.2.take p159.toNat) [x135.fPrefix] hc196 (L rfl) (q 54) (q 57)) rfl (c (mv hN (q 9)) rfl (cg (apd hB underlying69 tyE33 1060 A2 ((s3.2.take p159.toNat)++[x135.fPrefix]) ((s3.2.drop p159.toNat).take (s3.2.length-p159.toNat)) hc197 (L rfl) (q 58) (q 59)) rfl (c (assign (L rfl) (q 60)) rfl cn)))))))))) (by kernel_rfl) (by kernel_rfl)
       exact hjj188 _ h _ _ (mp [(3005,1060)] _ _ hB)
      ·have h:=B7 hg189 h
       apply AWp.skip
       exact hjj188 _ h _ _ (mp [] _ _ hB)
    ·rcases bft (p159==(s3.2.length:Int)) with hg198 | hg198
     ·have h:=B6 hg198 h
      apply dr (c (mv hN (q 8)) rfl (c (mv hN (q 5)) rfl (c (lenS underlying69 (L rfl) (q 36)) rfl (c (eqlI (L rfl) (q 35) (q 37)) rfl (c (OpJ.val (v':=.d (.bool true)) (by rw [hg198]<;>rfl) (mv hN (q 38))) rfl (ks 39 (L rfl) (ks 39 (L rfl) (ks 39 (L rfl) (ks 39 (L rfl) (ks 39 (L rfl) (ks 39 (L rfl) (ks 39 (L rfl) (c (pickT (L rfl) (q 39) (Opd.bool true)) rfl cn))))))))))))) (by kernel_rfl) (by kernel_rfl)
      exact hjj177 _ h _ _ (mp [] _ _ hB)
     ·have h:=B7 hg198 h
      obtain⟨_,hx199,h⟩:=bindS h
      obtain⟨x200,hx200,h⟩:=bindS h
      apply dr (c (mv hN (q 8)) rfl (c (mv hN (q 5)) rfl (c (lenS underlying69 (L rfl) (q 36)) rfl (c (eqlI (L rfl) (q 35) (q 37)) rfl (c (OpJ.val (v':=.d (.bool false)) (by rw [hg198]<;>rfl) (mv hN (q 38))) rfl (c (gd 39 (mv hN (q 5))) rfl (c (gd 39 (mv hN (q 8))) rfl (c (gd 39 (OpJ.val (v':=(.ptr 3005 (p159.toNat*4) [p159.toNat])) (by simp) (indexS underlying69 tyS33 (A4 hx199).1 (by have:=A1b hx199;first | (simpa using this) | ((try simp only [List.length_map] at this);(try simp only [List.length_map]);omega)) (L rfl) (q 40) (q 41)))) rfl (c (gd 39 (loadR (e:=33) (sz:=4) tyS33 (C8 A2 (A4 hx200).2) (o:=0) (At.here _) (by rfl) (by rfl) (by rfl) (L rfl) (q 42))) rfl (c (gd 39 (fo 1007 0 [0] hN underlying41 0 tyS33 (q 7))) rfl (c (gd 39 (la hN 41 tyS33 (q 44))) rfl (c (gd 39 (OpJ.neqD (h:=3) (feq33 x200 x135.fPrefix) eqg33 ⟨rfl,rfl⟩ (by rfl) (L rfl) (q 43) (q 45))) rfl (c (pickF (L rfl) (q 39) (q 46)) rfl cn))))))))))))) (by kernel_rfl) (by kernel_rfl)
      exact hjj177 _ h _ _ (mp [] _ _ hB)
  ·have h:=B7 hg133 h
   apply AWp.exit
   apply F6
   obtain rfl:=oi h
   exact⟨(fun hc=>by cases hc),rfl,(mp [] _ _ hB)⟩
 ·obtain⟨rfl,hmat⟩:=hR
  apply E4
  apply A3
  refine ghost hmat ?_
  apply sr (c (mv hN (q 5)) rfl (c (assign (L rfl) (q 62)) rfl cn))
  apply ret
  obtain rfl:=oi h
  exact rt (Mat.trans (Mat.freezeP (n:=3005) (e:=33) (sz:=4) (es:=p132.map A2) (Ts:=[(4,(C1 p132))]) (Bs:=[]) (by rfl) (TwT.cons (x:=(.sref 3005 4 0 p132.length)) (by rfl) (FrzL.all (by first | rfl | (simp;done) | (simp;omega) | omega)) TwT.nil) TwB.nil) (mp [] [(4,(C1 p132))] [] hB)) [(C1 p132)] (rT rN) rfl
def W6 (a0:(List B3)) (a1:A0) (s1:Int):Option (((B3)⊕(Unit))⊕(Int)) :=
 (if (decide (s1<(a0.length:Int)))=true then
 (idx a0 s1).bind fun x11 =>
 (if (((x11.fPrefix.fAddr.fV6==a1.fAddr.fV6)&&((x11.fPrefix.fAddr.fHi==a1.fAddr.fHi)&&((x11.fPrefix.fAddr.fLo==a1.fAddr.fLo)&&true)))&&((x11.fPrefix.fLen==a1.fLen)&&true))=true then
 some (.inl (.inl x11))
 else
 some (.inr (w64 (s1+1))))
 else
 some (.inl (.inr ())))
def A0b (a0:(List B3)) (a1:A0):Option (B3×Bool) :=
 (loop (W6 a0 a1) 0).bind fun x13=>match x13 with
 | (.inl p8) =>
  some (p8,true)
 | (.inr _) =>
  some ((B3.mk (A0.mk (E7.mk false 0 0) 0) 0 (D9.mk 0 ([]:List B2) (E7.mk false 0 0) 0 0 0 ([]:List C6) ([]:List G0) ([]:List A7))),false)
theorem A4k (a0:(List B3)) (a1:A0) (r:B3×Bool) (h:A0b a0 a1=some r):AC Tryz.prog 67 [(.d (.list 16 (a0.map E5))),(.d (A2 a1))] [] (.tup [(.d (E5 r.1)),(.d (.bool r.2))]) []:=by
 refine ac2 Tryz.func67 rfl rfl fun B hB hN L => ?_
 delta A0b at h
 apply sr (cg (OpJ.box hB (nm:=1003) (by decide) (by simp) rfl (L rfl) (q 1)) rfl (cg (alloc hB tyZ41 (nm:=1004) (by decide) (L rfl)) rfl (c (assign (L rfl) (Opd.bool false)) rfl cn)))
 apply seq
 apply sr (c (mv hN (q 0)) rfl (c (OpJ.val (v':=(i6 (a0.length:Int))) (by simp) (lenD underlying65 (L rfl) (q 8))) rfl (c (mv hN (ii 0)) rfl cn)))
 apply block
 obtain⟨x13,hx14,h⟩:=bindS h
 refine lg (W6 a0 a1) (fun s1:Int=>([(3,(pt 1003)),(4,(pt 1004)),(8,(D1 a0)),(9,(i6 (a0.length:Int))),(10,(i6 s1))]:EL)) (fun s1:Int=>([(1003,bd 33 (A2 a1)),(1004,some (.box 41 (.st [(.d (.st [(.st [(.bool false),(.int .u64 0),(.int .u64 0)]),(.int .i64 0)])),(i6 0),(.st [(i6 0),.nils,(.d (.st [(.bool false),(.int .u64 0),(.int .u64 0)])),(i6 0),(i6 0),(i6 0),.nils,.nils,.nils])])))]:OL)) (fun(x:(B3)⊕(Unit)) e E' O'=>match x with | (.inl p8)=>e = .ret∧Mat B E' O' ([(4,(pt 1004)),(5,(bo true))]:EL) ([(1004,bd 41 (E5 p8))]:OL) | (.inr _p)=>e = .exit 0∧Mat B E' O' ([(4,(pt 1004))]:EL) ([(1004,some (.box 41 (.st [(.d (.st [(.st [(.bool false),(.int .u64 0),(.int .u64 0)]),(.int .i64 0)])),(i6 0),(.st [(i6 0),.nils,(.d (.st [(.bool false),(.int .u64 0),(.int .u64 0)])),(i6 0),(i6 0),(i6 0),.nils,.nils,.nils])])))]:OL)) hx14 (mp [] _ _ hB) (fun s1 y h => ?_) (fun e E' O' hR => ?_)
 ·unfold W6 at h
  apply sr (c (lss (L rfl) (q 10) (q 9)) rfl cn)
  apply seq
  apply AWp.cond rfl<;>intro hg10
  ·have h:=B6 hg10 h
   apply AWp.skip
   apply A3
   apply seq
   apply block
   obtain⟨x11,hx11,h⟩:=bindS h
   apply sr (c (indexD underlying65 tyS41 (A4 hx11).1 (C8 E5 (A4 hx11).2) (L rfl) (q 8) (q 10)) rfl (c (loadD tyS41 (by rfl) (by rfl) (L rfl) (q 12)) rfl (cg (alloc hB tyZ41 (nm:=1007) (by decide) (L rfl)) rfl (cg (sB tyS41 (q 7) (q 13)) rfl cn))))
   apply sr (c (fo 1007 0 [0] hN underlying41 0 tyS33 (q 7)) rfl (c (la hN 41 tyS33 (q 14)) rfl (c (lb hN 33 _ _ tyS33 (At.here _) (q 3)) rfl (c (OpJ.eqlD (h:=3) (feq33 x11.fPrefix a1) eqg33 ⟨rfl,rfl⟩ (by rfl) (L rfl) (q 15) (q 16)) rfl cn))))
   apply AWp.cond rfl<;>intro hg12
   ·have h:=B6 hg12 h
    apply sr (c (lb hN 41 _ _ tyS41 (At.here _) (q 7)) rfl (cg (sB tyS41 (q 4) (q 18)) rfl (c (assign (L rfl) (Opd.bool true)) rfl cn)))
    apply ret
    apply F7
    apply D4
    obtain rfl:=oi h
    exact⟨(fun hc=>by cases hc),rfl,(mp [] _ _ hB)⟩
   ·have h:=B7 hg12 h
    apply AWp.skip
    apply F8
    apply A3
    apply rg (c (add6 (L rfl) (q 10) (ii 1)) rfl (c (mv hN (q 19)) rfl cn))
    obtain rfl:=oi h
    exact⟨rfl,(mp [] _ _ hB)⟩
  ·have h:=B7 hg10 h
   apply AWp.exit
   apply F6
   obtain rfl:=oi h
   exact⟨(fun hc=>by cases hc),rfl,(mp [] _ _ hB)⟩
 ·rcases x13 with p8 | _
  ·obtain⟨rfl,hmat⟩:=hR
   apply F7
   apply D4
   obtain rfl:=oi h
   exact rt (Mat.trans hmat (mp [] [(4,(pt 1004)),(5,(bo true))] [(1004,bd 41 (E5 p8))] hB)) [(.d (E5 p8)),(bo true)] (Res.cell (c:=(.d (E5 p8))) (by rfl) (by rfl) tyS41 (by rfl) (by rfl) (by rfl) (rT rN)) rfl
  ·obtain⟨rfl,hmat⟩:=hR
   apply E4
   apply A3
   refine ghost hmat ?_
   apply sr (c (OpJ.build (places:=[(0,4),(4,1),(5,11)]) ⟨underlying41,fun w=>by kernel_rfl⟩ tyZS41 Opds.nil (by kernel_rfl) (r:=(.st [(.d (.st [(.st [(.bool false),(.int .u64 0),(.int .u64 0)]),(.int .i64 0)])),(i6 0),(.st [(i6 0),.nils,(.d (.st [(.bool false),(.int .u64 0),(.int .u64 0)])),(i6 0),(i6 0),(i6 0),.nils,.nils,.nils])])) (by rfl) (L rfl)) rfl (cg (sB tyS41 (q 4) (q 20)) rfl (c (assign (L rfl) (Opd.bool false)) rfl cn)))
   apply ret
   obtain rfl:=oi h
   exact rt (Mat.trans (Mat.coeP (Ts:=[]) (Bs:=[(1004,some (.box 41 (.d (.st [(.st [(.st [(.bool false),(.int .u64 0),(.int .u64 0)]),(.int .i64 0)]),(.int .i64 0),(.st [(.int .i64 0),(.list 2 (([]:List B2).map B4)),(.st [(.bool false),(.int .u64 0),(.int .u64 0)]),(.int .i64 0),(.int .i64 0),(.int .i64 0),(.list 2 (([]:List C6).map B1)),(.list 3 (([]:List G0).map C7)),(.list 3 (([]:List A7).map A5))])]))))]) TwT.nil (TwB.cons (x:=(.st [(.d (.st [(.st [(.bool false),(.int .u64 0),(.int .u64 0)]),(.int .i64 0)])),(i6 0),(.st [(i6 0),.nils,(.d (.st [(.bool false),(.int .u64 0),(.int .u64 0)])),(i6 0),(i6 0),(i6 0),.nils,.nils,.nils])])) (by rfl) (Tw.leaf ⟨_,(Co.st (CoL.cons (Co.d _) (CoL.cons (Co.d _) (CoL.cons (Co.st (CoL.cons (Co.d _) (CoL.cons (Co.nils 2) (CoL.cons (Co.d _) (CoL.cons (Co.d _) (CoL.cons (Co.d _) (CoL.cons (Co.d _) (CoL.cons (Co.nils 2) (CoL.cons (Co.nils 3) (CoL.cons (Co.nils 3) CoL.nil)))))))))) CoL.nil)))),rfl⟩) TwB.nil)) (mp [] [(4,(pt 1004)),(5,(bo false))] [(1004,some (.box 41 (.d (.st [(.st [(.st [(.bool false),(.int .u64 0),(.int .u64 0)]),(.int .i64 0)]),(.int .i64 0),(.st [(.int .i64 0),(.list 2 (([]:List B2).map B4)),(.st [(.bool false),(.int .u64 0),(.int .u64 0)]),(.int .i64 0),(.int .i64 0),(.int .i64 0),(.list 2 (([]:List C6).map B1)),(.list 3 (([]:List G0).map C7)),(.list 3 (([]:List A7).map A5))])]))))] hB)) [(.d (.st [(.st [(.st [(.bool false),(.int .u64 0),(.int .u64 0)]),(.int .i64 0)]),(.int .i64 0),(.st [(.int .i64 0),(.list 2 (([]:List B2).map B4)),(.st [(.bool false),(.int .u64 0),(.int .u64 0)]),(.int .i64 0),(.int .i64 0),(.int .i64 0),(.list 2 (([]:List C6).map B1)),(.list 3 (([]:List G0).map C7)),(.list 3 (([]:List A7).map A5))])])),(bo false)] (Res.cell (c:=(.d (.st [(.st [(.st [(.bool false),(.int .u64 0),(.int .u64 0)]),(.int .i64 0)]),(.int .i64 0),(.st [(.int .i64 0),(.list 2 (([]:List B2).map B4)),(.st [(.bool false),(.int .u64 0),(.int .u64 0)]),(.int .i64 0),(.int .i64 0),(.int .i64 0),(.list 2 (([]:List C6).map B1)),(.list 3 (([]:List G0).map C7)),(.list 3 (([]:List A7).map A5))])]))) (by rfl) (by rfl) tyS41 (by rfl) (by rfl) (by rfl) (rT rN)) rfl
def L7 (a0:(List Int)) (a1:(List Int)) (s2:Int):Option (((Unit)⊕(Unit))⊕(Int)) :=
 (if (decide (s2<(a0.length:Int)))=true then
 (idx a0 s2).bind fun x14 =>
 (idx a1 s2).bind fun x15 =>
 (if (x14 != x15)=true then
 some (.inl (.inl ()))
 else
 some (.inr (w64 (s2+1))))
 else
 some (.inl (.inr ())))
def U2 (a0:(List Int)) (a1:(List Int)):Option (Bool) :=
 (if ((a0.length:Int) != (a1.length:Int))=true then
 some false
 else
 (loop (L7 a0 a1) 0).bind fun x17=>match x17 with
 | (.inl _) =>
  some false
 | (.inr _) =>
  some true)
theorem A5p (a0:(List Int)) (a1:(List Int)) (r:Bool) (h:U2 a0 a1=some r):AC Tryz.prog 82 [(.d (.list 1 (a0.map (eI .i64)))),(.d (.list 1 (a1.map (eI .i64))))] [] (.d (.bool r)) []:=by
 refine ac2 Tryz.func82 rfl rfl fun B hB hN L => ?_
 delta U2 at h
 apply sr (c (assign (L rfl) (Opd.bool false)) rfl cn)
 apply seq
 apply sr (c (mv hN (q 0)) rfl (c (OpJ.val (v':=(i6 (a0.length:Int))) (by simp) (lenD underlying27 (L rfl) (q 6))) rfl (c (mv hN (q 1)) rfl (c (OpJ.val (v':=(i6 (a1.length:Int))) (by simp) (lenD underlying27 (L rfl) (q 8))) rfl (c (neqI (L rfl) (q 7) (q 9)) rfl cn)))))
 apply AWp.cond rfl<;>intro hg1
 ·have h:=B6 hg1 h
  apply sr (c (assign (L rfl) (Opd.bool false)) rfl cn)
  apply ret
  apply D4
  obtain rfl:=oi h
  exact rt (kp [(4,_)] [] hB rfl rfl (by rfl)) [(bo false)] (rT rN) rfl
 ·have h:=B7 hg1 h
  apply AWp.skip
  apply A3
  apply seq
  apply sr (c (mv hN (q 0)) rfl (c (OpJ.val (v':=(i6 (a0.length:Int))) (by simp) (lenD underlying27 (L rfl) (q 11))) rfl (c (mv hN (ii 0)) rfl cn)))
  apply block
  obtain⟨x17,hx18,h⟩:=bindS h
  refine lg (L7 a0 a1) (fun s2:Int=>([(0,(qI_1 a0)),(1,(qI_1 a1)),(12,(i6 (a0.length:Int))),(13,(i6 s2))]:EL)) (fun s2:Int=>([]:OL)) (fun(x:(Unit)⊕(Unit)) e E' O'=>match x with | (.inl _p)=>e = .ret∧Mat B E' O' ([(4,(bo false))]:EL) ([]:OL) | (.inr _p)=>e = .exit 0∧Mat B E' O' ([]:EL) ([]:OL)) hx18 (mp [] _ _ hB) (fun s2 y h => ?_) (fun e E' O' hR => ?_)
  ·unfold L7 at h
   apply sr (c (lss (L rfl) (q 13) (q 12)) rfl cn)
   apply seq
   apply AWp.cond rfl<;>intro hg13
   ·have h:=B6 hg13 h
    apply AWp.skip
    apply A3
    apply seq
    apply block
    apply sr (c (mv hN (q 13)) rfl (c (assign (L rfl) (q 15)) rfl cn))
    obtain⟨_,hx14,h⟩:=bindS h
    obtain⟨_,hx15,h⟩:=bindS h
    apply sd (c (mv hN (q 0)) rfl (c (mv hN (q 5)) rfl (c (indexD underlying27 tyS3 (A4 hx14).1 (C8 (eI .i64) (A4 hx14).2) (L rfl) (q 16) (q 17)) rfl (c (loadD tyS3 (by rfl) (by rfl) (L rfl) (q 18)) rfl (c (mv hN (q 1)) rfl (c (mv hN (q 5)) rfl (c (indexD underlying27 tyS3 (A4 hx15).1 (C8 (eI .i64) (A4 hx15).2) (L rfl) (q 20) (q 21)) rfl (c (loadD tyS3 (by rfl) (by rfl) (L rfl) (q 22)) rfl (c (neqI (L rfl) (q 19) (q 23)) rfl cn))))))))) (by kernel_rfl) (by kernel_rfl)
    apply AWp.cond rfl<;>intro hg16
    ·have h:=B6 hg16 h
     apply sr (c (assign (L rfl) (Opd.bool false)) rfl cn)
     apply ret
     apply F7
     apply D4
     obtain rfl:=oi h
     exact⟨(fun hc=>by cases hc),rfl,(mp [] _ _ hB)⟩
    ·have h:=B7 hg16 h
     apply AWp.skip
     apply F8
     apply A3
     apply rg (c (add6 (L rfl) (q 13) (ii 1)) rfl (c (mv hN (q 25)) rfl cn))
     obtain rfl:=oi h
     exact⟨rfl,(mp [] _ _ hB)⟩
   ·have h:=B7 hg13 h
    apply AWp.exit
    apply F6
    obtain rfl:=oi h
    exact⟨(fun hc=>by cases hc),rfl,(mp [] _ _ hB)⟩
  ·rcases x17 with _ | _
   ·obtain⟨rfl,hmat⟩:=hR
    apply F7
    apply D4
    obtain rfl:=oi h
    exact rt (Mat.trans hmat (mp [] [(4,(bo false))] [] hB)) [(bo false)] (rT rN) rfl
   ·obtain⟨rfl,hmat⟩:=hR
    apply E4
    apply A3
    refine ghost hmat ?_
    apply sr (c (assign (L rfl) (Opd.bool true)) rfl cn)
    apply ret
    obtain rfl:=oi h
    exact rt (kp [(4,_)] [] hB rfl rfl (by rfl)) [(bo true)] (rT rN) rfl
def H1 (a0:D9) (a1:D9) (s2:Int):Option (((Unit)⊕(Unit))⊕(Int)) :=
 (if (decide (s2<(a0.fPath.length:Int)))=true then
 jn (fun m50:Bool =>
 (if m50=true then
 some (.inl (.inl ()))
 else
 some (.inr (w64 (s2+1))))) (fun j51 =>
 (idx a0.fPath s2).bind fun x53 =>
 (idx a1.fPath s2).bind fun x54 =>
 (if (x53.fSet != x54.fSet)=true then
 j51 true
 else
 (idx a0.fPath s2).bind fun x56 =>
 (idx a1.fPath s2).bind fun x57 =>
 (U2 x56.fASNs x57.fASNs).bind fun r58 =>
 j51 (!r58)))
 else
 some (.inl (.inr ())))
def I8 (a0:D9) (a1:D9) (s61:Int):Option (((Unit)⊕(Unit))⊕(Int)) :=
 (if (decide (s61<(a0.fCommunities.length:Int)))=true then
 (idx a0.fCommunities s61).bind fun x73 =>
 (idx a1.fCommunities s61).bind fun x74 =>
 (if (!((x73.fA==x74.fA)&&((x73.fB==x74.fB)&&true)))=true then
 some (.inl (.inl ()))
 else
 some (.inr (w64 (s61+1))))
 else
 some (.inl (.inr ())))
def I9 (a0:D9) (a1:D9) (s78:Int):Option (((Unit)⊕(Unit))⊕(Int)) :=
 (if (decide (s78<(a0.fLarge.length:Int)))=true then
 (idx a0.fLarge s78).bind fun x90 =>
 (idx a1.fLarge s78).bind fun x91 =>
 (if (!((x90.fA==x91.fA)&&((x90.fB==x91.fB)&&((x90.fC==x91.fC)&&true))))=true then
 some (.inl (.inl ()))
 else
 some (.inr (w64 (s78+1))))
 else
 some (.inl (.inr ())))
def J0 (a0:D9) (a1:D9) (s95:Int):Option (((Unit)⊕(Unit))⊕(Int)) :=
 (if (decide (s95<(a0.fOther.length:Int)))=true then
 jn (fun m153:Bool =>
 (if m153=true then
 some (.inl (.inl ()))
 else
 some (.inr (w64 (s95+1))))) (fun j154 =>
 (idx a0.fOther s95).bind fun x156 =>
 (idx a1.fOther s95).bind fun x157 =>
 (if (x156.fFlags != x157.fFlags)=true then
 j154 true
 else
 (idx a0.fOther s95).bind fun x159 =>
 (idx a1.fOther s95).bind fun x160 =>
 (if (x159.fType != x160.fType)=true then
 j154 true
 else
 (idx a0.fOther s95).bind fun x162 =>
 (idx a1.fOther s95).bind fun x163 =>
 j154 ((bstr x162.fData) != (bstr x163.fData)))))
 else
 some (.inl (.inr ())))
def I0 (a0:D9) (a1:D9):Option (Bool) :=
 (if (((((((((a0.fOrigin != a1.fOrigin) || (!((a0.fNext.fV6==a1.fNext.fV6)&&((a0.fNext.fHi==a1.fNext.fHi)&&((a0.fNext.fLo==a1.fNext.fLo)&&true))))) || (a0.fMED != a1.fMED)) || (a0.fPref != a1.fPref)) || (a0.fOTC != a1.fOTC)) || ((a0.fPath.length:Int) != (a1.fPath.length:Int))) || ((a0.fCommunities.length:Int) != (a1.fCommunities.length:Int))) || ((a0.fLarge.length:Int) != (a1.fLarge.length:Int))) || ((a0.fOther.length:Int) != (a1.fOther.length:Int)))=true then
 some false
 else
 (loop (H1 a0 a1) 0).bind fun x59=>match x59 with
 | (.inl _) =>
  some false
 | (.inr _) =>
  (loop (I8 a0 a1) 0).bind fun x76=>match x76 with
  | (.inl _) =>
   some false
  | (.inr _) =>
   (loop (I9 a0 a1) 0).bind fun x93=>match x93 with
   | (.inl _) =>
    some false
   | (.inr _) =>
    (loop (J0 a0 a1) 0).bind fun x164=>match x164 with
    | (.inl _) =>
     some false
    | (.inr _) =>
     some true)
theorem A5e (a0:D9) (a1:D9) (r:Bool) (h:I0 a0 a1=some r):AC Tryz.prog 55 [(.d (A8 a0)),(.d (A8 a1))] [] (.d (.bool r)) []:=by
 refine ac2 Tryz.func55 rfl rfl fun B hB hN L => ?_
 delta I0 at h
 apply sr (cg (OpJ.box hB (nm:=1002) (by decide) (by simp) rfl (L rfl) (q 0)) rfl (cg (OpJ.box hB (nm:=1003) (by decide) (by simp) rfl (L rfl) (q 1)) rfl (c (assign (L rfl) (Opd.bool false)) rfl cn)))
 apply seq
 apply sr (c (fo 1002 0 [0] hN underlying39 0 tyS3 (q 2)) rfl (c (la hN 39 tyS3 (q 9)) rfl (c (fo 1003 0 [0] hN underlying39 0 tyS3 (q 3)) rfl (c (la hN 39 tyS3 (q 11)) rfl (c (neqI (L rfl) (q 10) (q 12)) rfl (c (mv hN (q 13)) rfl (c (oq hN 14 (fo 1002 2 [2] hN underlying39 2 tyS31 (q 2)) (OptL.keep (by rfl) OptL.nil) (GuardV.plain _)) rfl (c (oq hN 14 (la hN 39 tyS31 (q 15)) (OptL.opt OptL.nil) (GuardV.plain _)) rfl (c (oq hN 14 (fo 1003 2 [2] hN underlying39 2 tyS31 (q 3)) (OptL.keep (by rfl) OptL.nil) (GuardV.plain _)) rfl (c (oq hN 14 (la hN 39 tyS31 (q 17)) (OptL.opt OptL.nil) (GuardV.plain _)) rfl (c (oq hN 14 (OpJ.neqD (h:=2) (feq31 a0.fNext a1.fNext) eqg31 ⟨rfl,rfl⟩ (by rfl) (L rfl) (q 16) (q 18)) (OptL.opt (OptL.opt OptL.nil)) (GuardV.plain _)) rfl (c (pickOr rfl (L rfl) (q 14) (q 19)) rfl (c (mv hN (q 20)) rfl (c (oq hN 21 (fo 1002 5 [3] hN underlying39 5 tyS3 (q 2)) (OptL.keep (by rfl) OptL.nil) (GuardV.plain _)) rfl (c (oq hN 21 (la hN 39 tyS3 (q 22)) (OptL.opt OptL.nil) (GuardV.plain _)) rfl (c (oq hN 21 (fo 1003 5 [3] hN underlying39 5 tyS3 (q 3)) (OptL.keep (by rfl) OptL.nil) (GuardV.plain _)) rfl (c (oq hN 21 (la hN 39 tyS3 (q 24)) (OptL.opt OptL.nil) (GuardV.plain _)) rfl (c (oq hN 21 (neqI (L rfl) (q 23) (q 25)) (OptL.opt (OptL.opt OptL.nil)) (GuardV.plain _)) rfl (c (pickOr rfl (L rfl) (q 21) (q 26)) rfl (c (mv hN (q 27)) rfl (c (oq hN 28 (fo 1002 6 [4] hN underlying39 6 tyS3 (q 2)) (OptL.keep (by rfl) OptL.nil) (GuardV.plain _)) rfl (c (oq hN 28 (la hN 39 tyS3 (q 29)) (OptL.opt OptL.nil) (GuardV.plain _)) rfl (c (oq hN 28 (fo 1003 6 [4] hN underlying39 6 tyS3 (q 3)) (OptL.keep (by rfl) OptL.nil) (GuardV.plain _)) rfl (c (oq hN 28 (la hN 39 tyS3 (q 31)) (OptL.opt OptL.nil) (GuardV.plain _)) rfl (c (oq hN 28 (neqI (L rfl) (q 30) (q 32)) (OptL.opt (OptL.opt OptL.nil)) (GuardV.plain _)) rfl (c (pickOr rfl (L rfl) (q 28) (q 33)) rfl (c (mv hN (q 34)) rfl (c (oq hN 35 (fo 1002 7 [5] hN underlying39 7 tyS3 (q 2)) (OptL.keep (by rfl) OptL.nil) (GuardV.plain _)) rfl (c (oq hN 35 (la hN 39 tyS3 (q 36)) (OptL.opt OptL.nil) (GuardV.plain _)) rfl (c (oq hN 35 (fo 1003 7 [5] hN underlying39 7 tyS3 (q 3)) (OptL.keep (by rfl) OptL.nil) (GuardV.plain _)) rfl (c (oq hN 35 (la hN 39 tyS3 (q 38)) (OptL.opt OptL.nil) (GuardV.plain _)) rfl (c (oq hN 35 (neqI (L rfl) (q 37) (q 39)) (OptL.opt (OptL.opt OptL.nil)) (GuardV.plain _)) rfl (c (pickOr rfl (L rfl) (q 35) (q 40)) rfl (c (mv hN (q 41)) rfl (c (oq hN 42 (fo 1002 1 [1] hN underlying39 1 tyS34 (q 2)) (OptL.keep (by rfl) OptL.nil) (GuardV.plain _)) rfl (c (oq hN 42 (la hN 39 tyS34 (q 43)) (OptL.opt OptL.nil) (GuardV.plain _)) rfl (c (oq hN 42 (OpJ.val (v':=(i6 (a0.fPath.length:Int))) (by simp) (lenD underlying34 (L rfl) (q 44))) (OptL.opt OptL.nil) (GuardV.plain _)) rfl (c (oq hN 42 (fo 1003 1 [1] hN underlying39 1 tyS34 (q 3)) (OptL.keep (by rfl) OptL.nil) (GuardV.plain _)) rfl (c (oq hN 42 (la hN 39 tyS34 (q 46)) (OptL.opt OptL.nil) (GuardV.plain _)) rfl (c (oq hN 42 (OpJ.val (v':=(i6 (a1.fPath.length:Int))) (by simp) (lenD underlying34 (L rfl) (q 47))) (OptL.opt OptL.nil) (GuardV.plain _)) rfl (c (oq hN 42 (neqI (L rfl) (q 45) (q 48)) (OptL.opt (OptL.opt OptL.nil)) (GuardV.plain _)) rfl (c (pickOr rfl (L rfl) (q 42) (q 49)) rfl (c (mv hN (q 50)) rfl (c (oq hN 51 (fo 1002 8 [6] hN underlying39 8 tyS35 (q 2)) (OptL.keep (by rfl) OptL.nil) (GuardV.plain _)) rfl (c (oq hN 51 (la hN 39 tyS35 (q 52)) (OptL.opt OptL.nil) (GuardV.plain _)) rfl (c (oq hN 51 (OpJ.val (v':=(i6 (a0.fCommunities.length:Int))) (by simp) (lenD underlying35 (L rfl) (q 53))) (OptL.opt OptL.nil) (GuardV.plain _)) rfl (c (oq hN 51 (fo 1003 8 [6] hN underlying39 8 tyS35 (q 3)) (OptL.keep (by rfl) OptL.nil) (GuardV.plain _)) rfl (c (oq hN 51 (la hN 39 tyS35 (q 55)) (OptL.opt OptL.nil) (GuardV.plain _)) rfl (c (oq hN 51 (OpJ.val (v':=(i6 (a1.fCommunities.length:Int))) (by simp) (lenD underlying35 (L rfl) (q 56))) (OptL.opt OptL.nil) (GuardV.plain _)) rfl (c (oq hN 51 (neqI (L rfl) (q 54) (q 57)) (OptL.opt (OptL.opt OptL.nil)) (GuardV.plain _)) rfl (c (pickOr rfl (L rfl) (q 51) (q 58)) rfl (c (mv hN (q 59)) rfl (c (oq hN 60 (fo 1002 9 [7] hN underlying39 9 tyS36 (q 2)) (OptL.keep (by rfl) OptL.nil) (GuardV.plain _)) rfl (c (oq hN 60 (la hN 39 tyS36 (q 61)) (OptL.opt OptL.nil) (GuardV.plain _)) rfl (c (oq hN 60 (OpJ.val (v':=(i6 (a0.fLarge.length:Int))) (by simp) (lenD underlying36 (L rfl) (q 62))) (OptL.opt OptL.nil) (GuardV.plain _)) rfl (c (oq hN 60 (fo 1003 9 [7] hN underlying39 9 tyS36 (q 3)) (OptL.keep (by rfl) OptL.nil) (GuardV.plain _)) rfl (c (oq hN 60 (la hN 39 tyS36 (q 64)) (OptL.opt OptL.nil) (GuardV.plain _)) rfl (c (oq hN 60 (OpJ.val (v':=(i6 (a1.fLarge.length:Int))) (by simp) (lenD underlying36 (L rfl) (q 65))) (OptL.opt OptL.nil) (GuardV.plain _)) rfl (c (oq hN 60 (neqI (L rfl) (q 63) (q 66)) (OptL.opt (OptL.opt OptL.nil)) (GuardV.plain _)) rfl (c (pickOr rfl (L rfl) (q 60) (q 67)) rfl (c (mv hN (q 68)) rfl (c (oq hN 69 (fo 1002 10 [8] hN underlying39 10 tyS37 (q 2)) (OptL.keep (by rfl) OptL.nil) (GuardV.plain _)) rfl (c (oq hN 69 (la hN 39 tyS37 (q 70)) (OptL.opt OptL.nil) (GuardV.plain _)) rfl (c (oq hN 69 (OpJ.val (v':=(i6 (a0.fOther.length:Int))) (by simp) (lenD underlying37 (L rfl) (q 71))) (OptL.opt OptL.nil) (GuardV.plain _)) rfl (c (oq hN 69 (fo 1003 10 [8] hN underlying39 10 tyS37 (q 3)) (OptL.keep (by rfl) OptL.nil) (GuardV.plain _)) rfl (c (oq hN 69 (la hN 39 tyS37 (q 73)) (OptL.opt OptL.nil) (GuardV.plain _)) rfl (c (oq hN 69 (OpJ.val (v':=(i6 (a1.fOther.length:Int))) (by simp) (lenD underlying37 (L rfl) (q 74))) (OptL.opt OptL.nil) (GuardV.plain _)) rfl (c (oq hN 69 (neqI (L rfl) (q 72) (q 75)) (OptL.opt (OptL.opt OptL.nil)) (GuardV.plain _)) rfl (c (pickOr rfl (L rfl) (q 69) (q 76)) rfl cn)))))))))))))))))))))))))))))))))))))))))))))))))))))))))))))))))))))
 apply AWp.cond rfl<;>intro hg1
 ·have h:=B6 hg1 h
  apply sr (c (assign (L rfl) (Opd.bool false)) rfl cn)
  apply ret
  apply D4
  obtain rfl:=oi h
  exact rt (kp [(4,_)] [] hB rfl rfl (by rfl)) [(bo false)] (rT rN) rfl
 ·have h:=B7 hg1 h
  apply AWp.skip
  apply A3
  apply seq
  apply sr (c (fo 1002 1 [1] hN underlying39 1 tyS34 (q 2)) rfl (c (la hN 39 tyS34 (q 78)) rfl (c (OpJ.val (v':=(i6 (a0.fPath.length:Int))) (by simp) (lenD underlying34 (L rfl) (q 79))) rfl (c (mv hN (ii 0)) rfl cn))))
  apply block
  obtain⟨x59,hx60,h⟩:=bindS h
  refine lg (H1 a0 a1) (fun s2:Int=>([(2,(pt 1002)),(3,(pt 1003)),(80,(i6 (a0.fPath.length:Int))),(81,(i6 s2))]:EL)) (fun s2:Int=>([(1002,bd 39 (A8 a0)),(1003,bd 39 (A8 a1))]:OL)) (fun(x:(Unit)⊕(Unit)) e E' O'=>match x with | (.inl _p)=>e = .ret∧Mat B E' O' ([(4,(bo false))]:EL) ([]:OL) | (.inr _p)=>e = .exit 0∧Mat B E' O' ([(2,(pt 1002)),(3,(pt 1003))]:EL) ([(1002,bd 39 (A8 a0)),(1003,bd 39 (A8 a1))]:OL)) hx60 (mp [] _ _ hB) (fun s2 y h => ?_) (fun e E' O' hR => ?_)
  ·unfold H1 at h
   apply sr (c (lss (L rfl) (q 81) (q 80)) rfl cn)
   apply seq
   apply AWp.cond rfl<;>intro hg41
   ·have h:=B6 hg41 h
    apply AWp.skip
    apply A3
    apply seq
    apply block
    apply sr (c (mv hN (q 81)) rfl (c (assign (L rfl) (q 83)) rfl cn))
    apply seq
    refine AWp.cut h (fun m50:Bool=>([(2,(pt 1002)),(3,(pt 1003)),(80,(i6 (a0.fPath.length:Int))),(81,(i6 s2)),(112,(bo m50))]:EL)) (fun m50:Bool=>([(1002,bd 39 (A8 a0)),(1003,bd 39 (A8 a1))]:OL)) (fun m50 h E' O' hmat => ?_) (fun j51 hjj51 h => ?_)
    ·apply A3
     refine ghost hmat ?_
     apply AWp.cond rfl<;>intro hg52
     ·have h:=B6 hg52 h
      apply sr (c (assign (L rfl) (Opd.bool false)) rfl cn)
      apply ret
      apply F7
      apply D4
      obtain rfl:=oi h
      exact⟨(fun hc=>by cases hc),rfl,(mp [] _ _ hB)⟩
     ·have h:=B7 hg52 h
      apply AWp.skip
      apply F8
      apply A3
      apply rg (c (add6 (L rfl) (q 81) (ii 1)) rfl (c (mv hN (q 113)) rfl cn))
      obtain rfl:=oi h
      exact⟨rfl,(mp [] _ _ hB)⟩
    ·obtain⟨x53,hx53,h⟩:=bindS h
     obtain⟨x54,hx54,h⟩:=bindS h
     rcases bft (x53.fSet != x54.fSet) with hg55 | hg55
     ·have h:=B6 hg55 h
      apply dr (c (fo 1002 1 [1] hN underlying39 1 tyS34 (q 2)) rfl (c (la hN 39 tyS34 (q 84)) rfl (c (mv hN (q 5)) rfl (c (indexD underlying34 tyS75 (A4 hx53).1 (C8 B4 (A4 hx53).2) (L rfl) (q 85) (q 86)) rfl (c (fieldD underlying75 (by rfl) (o:=0) (by rfl) tyS4 (by decide) (by rfl) (by rfl) (L rfl) (q 87)) rfl (c (loadD tyS4 (by rfl) (by rfl) (L rfl) (q 88)) rfl (c (fo 1003 1 [1] hN underlying39 1 tyS34 (q 3)) rfl (c (la hN 39 tyS34 (q 90)) rfl (c (mv hN (q 5)) rfl (c (indexD underlying34 tyS75 (A4 hx54).1 (C8 B4 (A4 hx54).2) (L rfl) (q 91) (q 92)) rfl (c (fieldD underlying75 (by rfl) (o:=0) (by rfl) tyS4 (by decide) (by rfl) (by rfl) (L rfl) (q 93)) rfl (c (loadD tyS4 (by rfl) (by rfl) (L rfl) (q 94)) rfl (c (OpJ.neqB underlying4 (L rfl) (q 89) (q 95)) rfl (c (OpJ.val (v':=.d (.bool true)) (by rw [hg55]<;>rfl) (mv hN (q 96))) rfl (ks 97 (L rfl) (ks 97 (L rfl) (ks 97 (L rfl) (ks 97 (L rfl) (ks 97 (L rfl) (ks 97 (L rfl) (ks 97 (L rfl) (ks 97 (L rfl) (ks 97 (L rfl) (ks 97 (L rfl) (ks 97 (L rfl) (ks 97 (L rfl) (ks 97 (L rfl) (ks 97 (L rfl) (c (pickT (L rfl) (q 97) (Opd.bool true)) rfl cn))))))))))))))))))))))))))))) (by kernel_rfl) (by kernel_rfl)
      exact hjj51 _ h _ _ (mp [] _ _ hB)
     ·have h:=B7 hg55 h
      obtain⟨x56,hx56,h⟩:=bindS h
      obtain⟨x57,hx57,h⟩:=bindS h
      obtain⟨r58,hr58,h⟩:=bindS h
      apply dr (c (fo 1002 1 [1] hN underlying39 1 tyS34 (q 2)) rfl (c (la hN 39 tyS34 (q 84)) rfl (c (mv hN (q 5)) rfl (c (indexD underlying34 tyS75 (A4 hx53).1 (C8 B4 (A4 hx53).2) (L rfl) (q 85) (q 86)) rfl (c (fieldD underlying75 (by rfl) (o:=0) (by rfl) tyS4 (by decide) (by rfl) (by rfl) (L rfl) (q 87)) rfl (c (loadD tyS4 (by rfl) (by rfl) (L rfl) (q 88)) rfl (c (fo 1003 1 [1] hN underlying39 1 tyS34 (q 3)) rfl (c (la hN 39 tyS34 (q 90)) rfl (c (mv hN (q 5)) rfl (c (indexD underlying34 tyS75 (A4 hx54).1 (C8 B4 (A4 hx54).2) (L rfl) (q 91) (q 92)) rfl (c (fieldD underlying75 (by rfl) (o:=0) (by rfl) tyS4 (by decide) (by rfl) (by rfl) (L rfl) (q 93)) rfl (c (loadD tyS4 (by rfl) (by rfl) (L rfl) (q 94)) rfl (c (OpJ.neqB underlying4 (L rfl) (q 89) (q 95)) rfl (c (OpJ.val (v':=.d (.bool false)) (by rw [hg55]<;>rfl) (mv hN (q 96))) rfl (c (gd 97 (fo 1002 1 [1] hN underlying39 1 tyS34 (q 2))) rfl (c (gd 97 (la hN 39 tyS34 (q 98))) rfl (c (gd 97 (mv hN (q 5))) rfl (c (gd 97 (indexD underlying34 tyS75 (A4 hx56).1 (C8 B4 (A4 hx56).2) (L rfl) (q 99) (q 100))) rfl (c (gd 97 (fieldD underlying75 (by rfl) (o:=1) (by rfl) tyS27 (by decide) (by rfl) (by rfl) (L rfl) (q 101))) rfl (c (gd 97 (loadD tyS27 (by rfl) (by rfl) (L rfl) (q 102))) rfl (c (gd 97 (fo 1003 1 [1] hN underlying39 1 tyS34 (q 3))) rfl (c (gd 97 (la hN 39 tyS34 (q 104))) rfl (c (gd 97 (mv hN (q 5))) rfl (c (gd 97 (indexD underlying34 tyS75 (A4 hx57).1 (C8 B4 (A4 hx57).2) (L rfl) (q 105) (q 106))) rfl (c (gd 97 (fieldD underlying75 (by rfl) (o:=1) (by rfl) tyS27 (by decide) (by rfl) (by rfl) (L rfl) (q 107))) rfl (c (gd 97 (loadD tyS27 (by rfl) (by rfl) (L rfl) (q 108))) rfl (cg (gd 97 (cf hB fnOk82 (A5p x56.fASNs x57.fASNs r58 hr58) (L rfl) (OpdL.cons (q 103) (OpdL.cons (q 109) OpdL.nil)))) rfl (c (gd 97 (OpJ.not (L rfl) (q 110))) rfl (c (pickF (L rfl) (q 97) (q 111)) rfl cn))))))))))))))))))))))))))))) (by kernel_rfl) (by kernel_rfl)
      exact hjj51 _ h _ _ (mp [] _ _ hB)
   ·have h:=B7 hg41 h
    apply AWp.exit
    apply F6
    obtain rfl:=oi h
    exact⟨(fun hc=>by cases hc),rfl,(mp [] _ _ hB)⟩
  ·rcases x59 with _ | _
   ·obtain⟨rfl,hmat⟩:=hR
    apply F7
    apply D4
    obtain rfl:=oi h
    exact rt (Mat.trans hmat (mp [] [(4,(bo false))] [] hB)) [(bo false)] (rT rN) rfl
   ·obtain⟨rfl,hmat⟩:=hR
    apply E4
    apply A3
    refine ghost hmat ?_
    apply seq
    apply sr (c (fo 1002 8 [6] hN underlying39 8 tyS35 (q 2)) rfl (c (la hN 39 tyS35 (q 114)) rfl (c (OpJ.val (v':=(i6 (a0.fCommunities.length:Int))) (by simp) (lenD underlying35 (L rfl) (q 115))) rfl (c (mv hN (ii 0)) rfl cn))))
    apply block
    obtain⟨x76,hx77,h⟩:=bindS h
    refine lg (I8 a0 a1) (fun s61:Int=>([(2,(pt 1002)),(3,(pt 1003)),(116,(i6 (a0.fCommunities.length:Int))),(117,(i6 s61))]:EL)) (fun s61:Int=>([(1002,bd 39 (A8 a0)),(1003,bd 39 (A8 a1))]:OL)) (fun(x:(Unit)⊕(Unit)) e E' O'=>match x with | (.inl _p)=>e = .ret∧Mat B E' O' ([(4,(bo false))]:EL) ([]:OL) | (.inr _p)=>e = .exit 2∧Mat B E' O' ([(2,(pt 1002)),(3,(pt 1003))]:EL) ([(1002,bd 39 (A8 a0)),(1003,bd 39 (A8 a1))]:OL)) hx77 (mp [] _ _ hB) (fun s61 y h => ?_) (fun e E' O' hR => ?_)
    ·unfold I8 at h
     apply sr (c (lss (L rfl) (q 117) (q 116)) rfl cn)
     apply seq
     apply AWp.cond rfl<;>intro hg72
     ·have h:=B6 hg72 h
      apply AWp.skip
      apply A3
      apply seq
      apply block
      apply sr (c (mv hN (q 117)) rfl (c (assign (L rfl) (q 119)) rfl cn))
      obtain⟨x73,hx73,h⟩:=bindS h
      obtain⟨x74,hx74,h⟩:=bindS h
      apply sd (c (fo 1002 8 [6] hN underlying39 8 tyS35 (q 2)) rfl (c (la hN 39 tyS35 (q 120)) rfl (c (mv hN (q 6)) rfl (c (indexD underlying35 tyS132 (A4 hx73).1 (C8 B1 (A4 hx73).2) (L rfl) (q 121) (q 122)) rfl (c (loadD tyS132 (by rfl) (by rfl) (L rfl) (q 123)) rfl (c (fo 1003 8 [6] hN underlying39 8 tyS35 (q 3)) rfl (c (la hN 39 tyS35 (q 125)) rfl (c (mv hN (q 6)) rfl (c (indexD underlying35 tyS132 (A4 hx74).1 (C8 B1 (A4 hx74).2) (L rfl) (q 126) (q 127)) rfl (c (loadD tyS132 (by rfl) (by rfl) (L rfl) (q 128)) rfl (c (OpJ.neqD (h:=2) (feq132 x73 x74) eqg132 ⟨rfl,rfl⟩ (by rfl) (L rfl) (q 124) (q 129)) rfl cn))))))))))) (by kernel_rfl) (by kernel_rfl)
      apply AWp.cond rfl<;>intro hg75
      ·have h:=B6 hg75 h
       apply sr (c (assign (L rfl) (Opd.bool false)) rfl cn)
       apply ret
       apply F7
       apply D4
       obtain rfl:=oi h
       exact⟨(fun hc=>by cases hc),rfl,(mp [] _ _ hB)⟩
      ·have h:=B7 hg75 h
       apply AWp.skip
       apply F8
       apply A3
       apply rg (c (add6 (L rfl) (q 117) (ii 1)) rfl (c (mv hN (q 131)) rfl cn))
       obtain rfl:=oi h
       exact⟨rfl,(mp [] _ _ hB)⟩
     ·have h:=B7 hg72 h
      apply AWp.exit
      apply F6
      obtain rfl:=oi h
      exact⟨(fun hc=>by cases hc),rfl,(mp [] _ _ hB)⟩
    ·rcases x76 with _ | _
     ·obtain⟨rfl,hmat⟩:=hR
      apply F7
      apply D4
      obtain rfl:=oi h
      exact rt (Mat.trans hmat (mp [] [(4,(bo false))] [] hB)) [(bo false)] (rT rN) rfl
     ·obtain⟨rfl,hmat⟩:=hR
      apply E4
      apply A3
      refine ghost hmat ?_
      apply seq
      apply sr (c (fo 1002 9 [7] hN underlying39 9 tyS36 (q 2)) rfl (c (la hN 39 tyS36 (q 132)) rfl (c (OpJ.val (v':=(i6 (a0.fLarge.length:Int))) (by simp) (lenD underlying36 (L rfl) (q 133))) rfl (c (mv hN (ii 0)) rfl cn))))
      apply block
      obtain⟨x93,hx94,h⟩:=bindS h
      refine lg (I9 a0 a1) (fun s78:Int=>([(2,(pt 1002)),(3,(pt 1003)),(134,(i6 (a0.fLarge.length:Int))),(135,(i6 s78))]:EL)) (fun s78:Int=>([(1002,bd 39 (A8 a0)),(1003,bd 39 (A8 a1))]:OL)) (fun(x:(Unit)⊕(Unit)) e E' O'=>match x with | (.inl _p)=>e = .ret∧Mat B E' O' ([(4,(bo false))]:EL) ([]:OL) | (.inr _p)=>e = .exit 4∧Mat B E' O' ([(2,(pt 1002)),(3,(pt 1003))]:EL) ([(1002,bd 39 (A8 a0)),(1003,bd 39 (A8 a1))]:OL)) hx94 (mp [] _ _ hB) (fun s78 y h => ?_) (fun e E' O' hR => ?_)
      ·unfold I9 at h
       apply sr (c (lss (L rfl) (q 135) (q 134)) rfl cn)
       apply seq
       apply AWp.cond rfl<;>intro hg89
       ·have h:=B6 hg89 h
        apply AWp.skip
        apply A3
        apply seq
        apply block
        apply sr (c (mv hN (q 135)) rfl (c (assign (L rfl) (q 137)) rfl cn))
        obtain⟨x90,hx90,h⟩:=bindS h
        obtain⟨x91,hx91,h⟩:=bindS h
        apply sd (c (fo 1002 9 [7] hN underlying39 9 tyS36 (q 2)) rfl (c (la hN 39 tyS36 (q 138)) rfl (c (mv hN (q 7)) rfl (c (indexD underlying36 tyS134 (A4 hx90).1 (C8 C7 (A4 hx90).2) (L rfl) (q 139) (q 140)) rfl (c (loadD tyS134 (by rfl) (by rfl) (L rfl) (q 141)) rfl (c (fo 1003 9 [7] hN underlying39 9 tyS36 (q 3)) rfl (c (la hN 39 tyS36 (q 143)) rfl (c (mv hN (q 7)) rfl (c (indexD underlying36 tyS134 (A4 hx91).1 (C8 C7 (A4 hx91).2) (L rfl) (q 144) (q 145)) rfl (c (loadD tyS134 (by rfl) (by rfl) (L rfl) (q 146)) rfl (c (OpJ.neqD (h:=2) (feq134 x90 x91) eqg134 ⟨rfl,rfl⟩ (by rfl) (L rfl) (q 142) (q 147)) rfl cn))))))))))) (by kernel_rfl) (by kernel_rfl)
        apply AWp.cond rfl<;>intro hg92
        ·have h:=B6 hg92 h
         apply sr (c (assign (L rfl) (Opd.bool false)) rfl cn)
         apply ret
         apply F7
         apply D4
         obtain rfl:=oi h
         exact⟨(fun hc=>by cases hc),rfl,(mp [] _ _ hB)⟩
        ·have h:=B7 hg92 h
         apply AWp.skip
         apply F8
         apply A3
         apply rg (c (add6 (L rfl) (q 135) (ii 1)) rfl (c (mv hN (q 149)) rfl cn))
         obtain rfl:=oi h
         exact⟨rfl,(mp [] _ _ hB)⟩
       ·have h:=B7 hg89 h
        apply AWp.exit
        apply F6
        obtain rfl:=oi h
        exact⟨(fun hc=>by cases hc),rfl,(mp [] _ _ hB)⟩
      ·rcases x93 with _ | _
       ·obtain⟨rfl,hmat⟩:=hR
        apply F7
        apply D4
        obtain rfl:=oi h
        exact rt (Mat.trans hmat (mp [] [(4,(bo false))] [] hB)) [(bo false)] (rT rN) rfl
       ·obtain⟨rfl,hmat⟩:=hR
        apply E4
        apply A3
        refine ghost hmat ?_
        apply seq
        apply sr (c (fo 1002 10 [8] hN underlying39 10 tyS37 (q 2)) rfl (c (la hN 39 tyS37 (q 150)) rfl (c (OpJ.val (v':=(i6 (a0.fOther.length:Int))) (by simp) (lenD underlying37 (L rfl) (q 151))) rfl (c (mv hN (ii 0)) rfl cn))))
        apply block
        obtain⟨x164,hx165,h⟩:=bindS h
        refine lg (J0 a0 a1) (fun s95:Int=>([(2,(pt 1002)),(3,(pt 1003)),(152,(i6 (a0.fOther.length:Int))),(153,(i6 s95))]:EL)) (fun s95:Int=>([(1002,bd 39 (A8 a0)),(1003,bd 39 (A8 a1))]:OL)) (fun(x:(Unit)⊕(Unit)) e E' O'=>match x with | (.inl _p)=>e = .ret∧Mat B E' O' ([(4,(bo false))]:EL) ([]:OL) | (.inr _p)=>e = .exit 6∧Mat B E' O' ([]:EL) ([]:OL)) hx165 (mp [] _ _ hB) (fun s95 y h => ?_) (fun e E' O' hR => ?_)
        ·unfold J0 at h
         apply sr (c (lss (L rfl) (q 153) (q 152)) rfl cn)
         apply seq
         apply AWp.cond rfl<;>intro hg142
         ·have h:=B6 hg142 h
          apply AWp.skip
          apply A3
          apply seq
          apply block
          apply sr (c (mv hN (q 153)) rfl (c (assign (L rfl) (q 155)) rfl cn))
          apply seq
          refine AWp.cut h (fun m153:Bool=>([(2,(pt 1002)),(3,(pt 1003)),(152,(i6 (a0.fOther.length:Int))),(153,(i6 s95)),(200,(bo m153))]:EL)) (fun m153:Bool=>([(1002,bd 39 (A8 a0)),(1003,bd 39 (A8 a1))]:OL)) (fun m153 h E' O' hmat => ?_) (fun j154 hjj154 h => ?_)
          ·apply A3
           refine ghost hmat ?_
           apply AWp.cond rfl<;>intro hg155
           ·have h:=B6 hg155 h
            apply sr (c (assign (L rfl) (Opd.bool false)) rfl cn)
            apply ret
            apply F7
            apply D4
            obtain rfl:=oi h
            exact⟨(fun hc=>by cases hc),rfl,(mp [] _ _ hB)⟩
           ·have h:=B7 hg155 h
            apply AWp.skip
            apply F8
            apply A3
            apply rg (c (add6 (L rfl) (q 153) (ii 1)) rfl (c (mv hN (q 201)) rfl cn))
            obtain rfl:=oi h
            exact⟨rfl,(mp [] _ _ hB)⟩
          ·obtain⟨x156,hx156,h⟩:=bindS h
           obtain⟨x157,hx157,h⟩:=bindS h
           rcases bft (x156.fFlags != x157.fFlags) with hg158 | hg158
           ·have h:=B6 hg158 h
            apply dr (c (fo 1002 10 [8] hN underlying39 10 tyS37 (q 2)) rfl (c (la hN 39 tyS37 (q 156)) rfl (c (mv hN (q 8)) rfl (c (indexD underlying37 tyS78 (A4 hx156).1 (C8 A5 (A4 hx156).2) (L rfl) (q 157) (q 158)) rfl (c (fieldD underlying78 (by rfl) (o:=0) (by rfl) tyS3 (by decide) (by rfl) (by rfl) (L rfl) (q 159)) rfl (c (loadD tyS3 (by rfl) (by rfl) (L rfl) (q 160)) rfl (c (fo 1003 10 [8] hN underlying39 10 tyS37 (q 3)) rfl (c (la hN 39 tyS37 (q 162)) rfl (c (mv hN (q 8)) rfl (c (indexD underlying37 tyS78 (A4 hx157).1 (C8 A5 (A4 hx157).2) (L rfl) (q 163) (q 164)) rfl (c (fieldD underlying78 (by rfl) (o:=0) (by rfl) tyS3 (by decide) (by rfl) (by rfl) (L rfl) (q 165)) rfl (c (loadD tyS3 (by rfl) (by rfl) (L rfl) (q 166)) rfl (c (neqI (L rfl) (q 161) (q 167)) rfl (c (OpJ.val (v':=.d (.bool true)) (by rw [hg158]<;>rfl) (mv hN (q 168))) rfl (ks 169 (L rfl) (ks 169 (L rfl) (ks 169 (L rfl) (ks 169 (L rfl) (ks 169 (L rfl) (ks 169 (L rfl) (ks 169 (L rfl) (ks 169 (L rfl) (ks 169 (L rfl) (ks 169 (L rfl) (ks 169 (L rfl) (ks 169 (L rfl) (ks 169 (L rfl) (c (pickT (L rfl) (q 169) (Opd.bool true)) rfl (c (mv hN (q 183)) rfl (ks 184 (L rfl) (ks 184 (L rfl) (ks 184 (L rfl) (ks 184 (L rfl) (ks 184 (L rfl) (ks 184 (L rfl) (ks 184 (L rfl) (ks 184 (L rfl) (ks 184 (L rfl) (ks 184 (L rfl) (ks 184 (L rfl) (ks 184 (L rfl) (ks 184 (L rfl) (ks 184 (L rfl) (ks 184 (L rfl) (c (pickT (L rfl) (q 184) (Opd.bool true)) rfl cn))))))))))))))))))))))))))))))))))))))))))))) (by kernel_rfl) (by kernel_rfl)
            exact hjj154 _ h _ _ (mp [] _ _ hB)
           ·have h:=B7 hg158 h
            obtain⟨x159,hx159,h⟩:=bindS h
            obtain⟨x160,hx160,h⟩:=bindS h
            rcases bft (x159.fType != x160.fType) with hg161 | hg161
            ·have h:=B6 hg161 h
             apply dr (c (fo 1002 10 [8] hN underlying39 10 tyS37 (q 2)) rfl (c (la hN 39 tyS37 (q 156)) rfl (c (mv hN (q 8)) rfl (c (indexD underlying37 tyS78 (A4 hx156).1 (C8 A5 (A4 hx156).2) (L rfl) (q 157) (q 158)) rfl (c (fieldD underlying78 (by rfl) (o:=0) (by rfl) tyS3 (by decide) (by rfl) (by rfl) (L rfl) (q 159)) rfl (c (loadD tyS3 (by rfl) (by rfl) (L rfl) (q 160)) rfl (c (fo 1003 10 [8] hN underlying39 10 tyS37 (q 3)) rfl (c (la hN 39 tyS37 (q 162)) rfl (c (mv hN (q 8)) rfl (c (indexD underlying37 tyS78 (A4 hx157).1 (C8 A5 (A4 hx157).2) (L rfl) (q 163) (q 164)) rfl (c (fieldD underlying78 (by rfl) (o:=0) (by rfl) tyS3 (by decide) (by rfl) (by rfl) (L rfl) (q 165)) rfl (c (loadD tyS3 (by rfl) (by rfl) (L rfl) (q 166)) rfl (c (neqI (L rfl) (q 161) (q 167)) rfl (c (OpJ.val (v':=.d (.bool false)) (by rw [hg158]<;>rfl) (mv hN (q 168))) rfl (c (gd 169 (fo 1002 10 [8] hN underlying39 10 tyS37 (q 2))) rfl (c (gd 169 (la hN 39 tyS37 (q 170))) rfl (c (gd 169 (mv hN (q 8))) rfl (c (gd 169 (indexD underlying37 tyS78 (A4 hx159).1 (C8 A5 (A4 hx159).2) (L rfl) (q 171) (q 172))) rfl (c (gd 169 (fieldD underlying78 (by rfl) (o:=1) (by rfl) tyS3 (by decide) (by rfl) (by rfl) (L rfl) (q 173))) rfl (c (gd 169 (loadD tyS3 (by rfl) (by rfl) (L rfl) (q 174))) rfl (c (gd 169 (fo 1003 10 [8] hN underlying39 10 tyS37 (q 3))) rfl (c (gd 169 (la hN 39 tyS37 (q 176))) rfl (c (gd 169 (mv hN (q 8))) rfl (c (gd 169 (indexD underlying37 tyS78 (A4 hx160).1 (C8 A5 (A4 hx160).2) (L rfl) (q 177) (q 178))) rfl (c (gd 169 (fieldD underlying78 (by rfl) (o:=1) (by rfl) tyS3 (by decide) (by rfl) (by rfl) (L rfl) (q 179))) rfl (c (gd 169 (loadD tyS3 (by rfl) (by rfl) (L rfl) (q 180))) rfl (c (gd 169 (neqI (L rfl) (q 175) (q 181))) rfl (c (pickF (L rfl) (q 169) (q 182)) rfl (c (OpJ.val (v':=.d (.bool true)) (by rw [hg161]<;>rfl) (mv hN (q 183))) rfl (ks 184 (L rfl) (ks 184 (L rfl) (ks 184 (L rfl) (ks 184 (L rfl) (ks 184 (L rfl) (ks 184 (L rfl) (ks 184 (L rfl) (ks 184 (L rfl) (ks 184 (L rfl) (ks 184 (L rfl) (ks 184 (L rfl) (ks 184 (L rfl) (ks 184 (L rfl) (ks 184 (L rfl) (ks 184 (L rfl) (c (pickT (L rfl) (q 184) (Opd.bool true)) rfl cn))))))))))))))))))))))))))))))))))))))))))))) (by kernel_rfl) (by kernel_rfl)
             exact hjj154 _ h _ _ (mp [] _ _ hB)
            ·have h:=B7 hg161 h
             obtain⟨x162,hx162,h⟩:=bindS h
             obtain⟨x163,hx163,h⟩:=bindS h
             apply dr (c (fo 1002 10 [8] hN underlying39 10 tyS37 (q 2)) rfl (c (la hN 39 tyS37 (q 156)) rfl (c (mv hN (q 8)) rfl (c (indexD underlying37 tyS78 (A4 hx156).1 (C8 A5 (A4 hx156).2) (L rfl) (q 157) (q 158)) rfl (c (fieldD underlying78 (by rfl) (o:=0) (by rfl) tyS3 (by decide) (by rfl) (by rfl) (L rfl) (q 159)) rfl (c (loadD tyS3 (by rfl) (by rfl) (L rfl) (q 160)) rfl (c (fo 1003 10 [8] hN underlying39 10 tyS37 (q 3)) rfl (c (la hN 39 tyS37 (q 162)) rfl (c (mv hN (q 8)) rfl (c (indexD underlying37 tyS78 (A4 hx157).1 (C8 A5 (A4 hx157).2) (L rfl) (q 163) (q 164)) rfl (c (fieldD underlying78 (by rfl) (o:=0) (by rfl) tyS3 (by decide) (by rfl) (by rfl) (L rfl) (q 165)) rfl (c (loadD tyS3 (by rfl) (by rfl) (L rfl) (q 166)) rfl (c (neqI (L rfl) (q 161) (q 167)) rfl (c (OpJ.val (v':=.d (.bool false)) (by rw [hg158]<;>rfl) (mv hN (q 168))) rfl (c (gd 169 (fo 1002 10 [8] hN underlying39 10 tyS37 (q 2))) rfl (c (gd 169 (la hN 39 tyS37 (q 170))) rfl (c (gd 169 (mv hN (q 8))) rfl (c (gd 169 (indexD underlying37 tyS78 (A4 hx159).1 (C8 A5 (A4 hx159).2) (L rfl) (q 171) (q 172))) rfl (c (gd 169 (fieldD underlying78 (by rfl) (o:=1) (by rfl) tyS3 (by decide) (by rfl) (by rfl) (L rfl) (q 173))) rfl (c (gd 169 (loadD tyS3 (by rfl) (by rfl) (L rfl) (q 174))) rfl (c (gd 169 (fo 1003 10 [8] hN underlying39 10 tyS37 (q 3))) rfl (c (gd 169 (la hN 39 tyS37 (q 176))) rfl (c (gd 169 (mv hN (q 8))) rfl (c (gd 169 (indexD underlying37 tyS78 (A4 hx160).1 (C8 A5 (A4 hx160).2) (L rfl) (q 177) (q 178))) rfl (c (gd 169 (fieldD underlying78 (by rfl) (o:=1) (by rfl) tyS3 (by decide) (by rfl) (by rfl) (L rfl) (q 179))) rfl (c (gd 169 (loadD tyS3 (by rfl) (by rfl) (L rfl) (q 180))) rfl (c (gd 169 (neqI (L rfl) (q 175) (q 181))) rfl (c (pickF (L rfl) (q 169) (q 182)) rfl (c (OpJ.val (v':=.d (.bool false)) (by rw [hg161]<;>rfl) (mv hN (q 183))) rfl (c (gd 184 (fo 1002 10 [8] hN underlying39 10 tyS37 (q 2))) rfl (c (gd 184 (la hN 39 tyS37 (q 185))) rfl (c (gd 184 (mv hN (q 8))) rfl (c (gd 184 (indexD underlying37 tyS78 (A4 hx162).1 (C8 A5 (A4 hx162).2) (L rfl) (q 186) (q 187))) rfl (c (gd 184 (fieldD underlying78 (by rfl) (o:=2) (by rfl) tyS76 (by decide) (by rfl) (by rfl) (L rfl) (q 188))) rfl (c (gd 184 (loadD tyS76 (by rfl) (by rfl) (L rfl) (q 189))) rfl (cg (gd 184 (OpJ.bytesStr (xs:=x162.fData) tyU76 underlying5 underlying9 (L rfl) (q 190))) rfl (c (gd 184 (fo 1003 10 [8] hN underlying39 10 tyS37 (q 3))) rfl (c (gd 184 (la hN 39 tyS37 (q 192))) rfl (c (gd 184 (mv hN (q 8))) rfl (c (gd 184 (indexD underlying37 tyS78 (A4 hx163).1 (C8 A5 (A4 hx163).2) (L rfl) (q 193) (q 194))) rfl (c (gd 184 (fieldD underlying78 (by rfl) (o:=2) (by rfl) tyS76 (by decide) (by rfl) (by rfl) (L rfl) (q 195))) rfl (c (gd 184 (loadD tyS76 (by rfl) (by rfl) (L rfl) (q 196))) rfl (cg (gd 184 (OpJ.bytesStr (xs:=x163.fData) tyU76 underlying5 underlying9 (L rfl) (q 197))) rfl (cg (gd 184 (OpJ.neqS (L rfl) (q 191) (q 198))) rfl (c (pickF (L rfl) (q 184) (q 199)) rfl cn))))))))))))))))))))))))))))))))))))))))))))) (by kernel_rfl) (by kernel_rfl)
             exact hjj154 _ h _ _ (mp [] _ _ hB)
         ·have h:=B7 hg142 h
          apply AWp.exit
          apply F6
          obtain rfl:=oi h
          exact⟨(fun hc=>by cases hc),rfl,(mp [] _ _ hB)⟩
        ·rcases x164 with _ | _
         ·obtain⟨rfl,hmat⟩:=hR
          apply F7
          apply D4
          obtain rfl:=oi h
          exact rt (Mat.trans hmat (mp [] [(4,(bo false))] [] hB)) [(bo false)] (rT rN) rfl
         ·obtain⟨rfl,hmat⟩:=hR
          apply E4
          apply A3
          refine ghost hmat ?_
          apply sr (c (assign (L rfl) (Opd.bool true)) rfl cn)
          apply ret
          obtain rfl:=oi h
          exact rt (kp [(4,_)] [] hB rfl rfl (by rfl)) [(bo true)] (rT rN) rfl
def J9 (a0:B3) (a1:B3):Option (Bool) :=
 jn (fun m3:Bool =>
 some m3) (fun j4 =>
 (if ((((a0.fPrefix.fAddr.fV6==a1.fPrefix.fAddr.fV6)&&((a0.fPrefix.fAddr.fHi==a1.fPrefix.fAddr.fHi)&&((a0.fPrefix.fAddr.fLo==a1.fPrefix.fAddr.fLo)&&true)))&&((a0.fPrefix.fLen==a1.fPrefix.fLen)&&true))&&(a0.fFrom==a1.fFrom))=true then
 (I0 a0.fAttrs a1.fAttrs).bind fun r6 =>
 j4 r6
 else
 j4 false))
theorem A1z (a0:B3) (a1:B3) (r:Bool) (h:J9 a0 a1=some r):AC Tryz.prog 61 [(.d (E5 a0)),(.d (E5 a1))] [] (.d (.bool r)) []:=by
 refine ac2 Tryz.func61 rfl rfl fun B hB hN L => ?_
 delta J9 at h
 apply sr (cg (OpJ.box hB (nm:=1002) (by decide) (by simp) rfl (L rfl) (q 0)) rfl (cg (OpJ.box hB (nm:=1003) (by decide) (by simp) rfl (L rfl) (q 1)) rfl (c (assign (L rfl) (Opd.bool false)) rfl cn)))
 apply seq
 refine AWp.cut h (fun m3:Bool=>([(4,(bo m3))]:EL)) (fun m3:Bool=>([]:OL)) (fun m3 h E' O' hmat => ?_) (fun j4 hjj4 h => ?_)
 ·apply A3
  refine ghost hmat ?_
  apply ret
  obtain rfl:=oi h
  exact rt (kp [(4,_)] [] hB rfl rfl (by rfl)) [(bo m3)] (rT rN) rfl
 ·rcases bft ((((a0.fPrefix.fAddr.fV6==a1.fPrefix.fAddr.fV6)&&((a0.fPrefix.fAddr.fHi==a1.fPrefix.fAddr.fHi)&&((a0.fPrefix.fAddr.fLo==a1.fPrefix.fAddr.fLo)&&true)))&&((a0.fPrefix.fLen==a1.fPrefix.fLen)&&true))&&(a0.fFrom==a1.fFrom)) with hg5 | hg5
  ·have h:=B6 hg5 h
   obtain⟨r6,hr6,h⟩:=bindS h
   apply rg (c (fo 1002 0 [0] hN underlying41 0 tyS33 (q 2)) rfl (c (la hN 41 tyS33 (q 5)) rfl (c (fo 1003 0 [0] hN underlying41 0 tyS33 (q 3)) rfl (c (la hN 41 tyS33 (q 7)) rfl (c (OpJ.eqlD (h:=3) (feq33 a0.fPrefix a1.fPrefix) eqg33 ⟨rfl,rfl⟩ (by rfl) (L rfl) (q 6) (q 8)) rfl (c (mv hN (q 9)) rfl (c (oq hN 10 (fo 1002 4 [1] hN underlying41 4 tyS3 (q 2)) (OptL.keep (by rfl) OptL.nil) (GuardV.plain _)) rfl (c (oq hN 10 (la hN 41 tyS3 (q 11)) (OptL.opt OptL.nil) (GuardV.plain _)) rfl (c (oq hN 10 (fo 1003 4 [1] hN underlying41 4 tyS3 (q 3)) (OptL.keep (by rfl) OptL.nil) (GuardV.plain _)) rfl (c (oq hN 10 (la hN 41 tyS3 (q 13)) (OptL.opt OptL.nil) (GuardV.plain _)) rfl (c (oq hN 10 (eqlI (L rfl) (q 12) (q 14)) (OptL.opt (OptL.opt OptL.nil)) (GuardV.plain _)) rfl (c (pickAnd rfl (L rfl) (q 10) (q 15)) rfl (c (OpJ.val (v':=.d (.bool true)) (by rw [hg5]<;>rfl) (mv hN (q 16))) rfl (c (gd 17 (fo 1002 5 [2] hN underlying41 5 tyS39 (q 2))) rfl (c (gd 17 (la hN 41 tyS39 (q 18))) rfl (c (gd 17 (fo 1003 5 [2] hN underlying41 5 tyS39 (q 3))) rfl (c (gd 17 (la hN 41 tyS39 (q 20))) rfl (cg (gd 17 (cf hB fnOk55 (A5e a0.fAttrs a1.fAttrs r6 hr6) (L rfl) (OpdL.cons (q 19) (OpdL.cons (q 21) OpdL.nil)))) rfl (c (pickT (L rfl) (q 17) (q 22)) rfl (c (assign (L rfl) (q 23)) rfl cn))))))))))))))))))))
   exact hjj4 _ h _ _ (mp [] _ _ hB)
  ·have h:=B7 hg5 h
   apply rg (c (fo 1002 0 [0] hN underlying41 0 tyS33 (q 2)) rfl (c (la hN 41 tyS33 (q 5)) rfl (c (fo 1003 0 [0] hN underlying41 0 tyS33 (q 3)) rfl (c (la hN 41 tyS33 (q 7)) rfl (c (OpJ.eqlD (h:=3) (feq33 a0.fPrefix a1.fPrefix) eqg33 ⟨rfl,rfl⟩ (by rfl) (L rfl) (q 6) (q 8)) rfl (c (mv hN (q 9)) rfl (c (oq hN 10 (fo 1002 4 [1] hN underlying41 4 tyS3 (q 2)) (OptL.keep (by rfl) OptL.nil) (GuardV.plain _)) rfl (c (oq hN 10 (la hN 41 tyS3 (q 11)) (OptL.opt OptL.nil) (GuardV.plain _)) rfl (c (oq hN 10 (fo 1003 4 [1] hN underlying41 4 tyS3 (q 3)) (OptL.keep (by rfl) OptL.nil) (GuardV.plain _)) rfl (c (oq hN 10 (la hN 41 tyS3 (q 13)) (OptL.opt OptL.nil) (GuardV.plain _)) rfl (c (oq hN 10 (eqlI (L rfl) (q 12) (q 14)) (OptL.opt (OptL.opt OptL.nil)) (GuardV.plain _)) rfl (c (pickAnd rfl (L rfl) (q 10) (q 15)) rfl (c (OpJ.val (v':=.d (.bool false)) (by rw [hg5]<;>rfl) (mv hN (q 16))) rfl (ks 17 (L rfl) (ks 17 (L rfl) (ks 17 (L rfl) (ks 17 (L rfl) (ks 17 (L rfl) (c (pickF (L rfl) (q 17) (Opd.bool false)) rfl (c (assign (L rfl) (q 23)) rfl cn))))))))))))))))))))
   exact hjj4 _ h _ _ (mp [] _ _ hB)
def N4 (a0:D9) (s1:Int×(List B2)):Option ((((List B2)))⊕(Int×(List B2))) :=
 (if (decide (s1.1<(a0.fPath.length:Int)))=true then
 (idx a0.fPath s1.1).bind fun x13 =>
 chk (decide (x13.fASNs.length≤LIM)) <|
 chk (decide ((s1.2++[(B2.mk x13.fSet x13.fASNs)]).length≤LIM)) <|
 some (.inr ((w64 (s1.1+1)),(s1.2++[(B2.mk x13.fSet x13.fASNs)])))
 else
 some (.inl s1.2))
def R6 (a0:D9) (s20:Int×(List A7)):Option ((((List A7)))⊕(Int×(List A7))) :=
 (if (decide (s20.1<(a0.fOther.length:Int)))=true then
 (idx a0.fOther s20.1).bind fun x32 =>
 chk (decide (x32.fData.length≤LIM)) <|
 chk (decide ((s20.2++[(A7.mk x32.fFlags x32.fType x32.fData)]).length≤LIM)) <|
 some (.inr ((w64 (s20.1+1)),(s20.2++[(A7.mk x32.fFlags x32.fType x32.fData)])))
 else
 some (.inl s20.2))
def K0 (a0:D9):Option (D9) :=
 (loop (N4 a0) (0,([]:List B2))).bind fun p11 =>
 chk (decide (a0.fCommunities.length≤LIM)) <|
 chk (decide (a0.fLarge.length≤LIM)) <|
 (loop (R6 a0) (0,([]:List A7))).bind fun p30 =>
 some (D9.mk a0.fOrigin p11 a0.fNext a0.fMED a0.fPref a0.fOTC a0.fCommunities a0.fLarge p30)
theorem A20 (a0:D9) (r:D9) (h:K0 a0=some r):AC Tryz.prog 60 [(.d (A8 a0))] [] (.d (A8 r)) []:=by
 refine ac2 Tryz.func60 rfl rfl fun B hB hN L => ?_
 delta K0 at h
 apply sr (cg (OpJ.box hB (nm:=1001) (by decide) (by simp) rfl (L rfl) (q 0)) rfl (cg (alloc hB tyZ39 (nm:=1002) (by decide) (L rfl)) rfl cn))
 apply sr (c (lb hN 39 _ _ tyS39 (At.here _) (q 1)) rfl (cg (alloc hB tyZ39 (nm:=1003) (by decide) (L rfl)) rfl (cg (sB tyS39 (q 3) (q 8)) rfl cn)))
 apply sr (c (fo 1003 1 [1] hN underlying39 1 tyS34 (q 3)) rfl (cg (OpJ.storeB (c':=(.st [(i6 a0.fOrigin),.nils,(.d (C5 a0.fNext)),(i6 a0.fMED),(i6 a0.fPref),(i6 a0.fOTC),(B5 a0.fCommunities),(D6 a0.fLarge),(E8 a0.fOther)])) tyS34 (SetAt.lift (fs:=[(.int .i64 a0.fOrigin),(.list 2 (a0.fPath.map B4)),(C5 a0.fNext),(.int .i64 a0.fMED),(.int .i64 a0.fPref),(.int .i64 a0.fOTC),(.list 2 (a0.fCommunities.map B1)),(.list 3 (a0.fLarge.map C7)),(.list 3 (a0.fOther.map A5))]) (SetAt.st1 (by rfl) (by rfl) (SetAt.here _ _) (by rfl) (by rfl) (by first | rfl | omega))) (by rfl) (by rfl) (by simp) rfl (q 9) Opd.nils) rfl (c (fo 1003 10 [8] hN underlying39 10 tyS37 (q 3)) rfl (cg (OpJ.storeB (c':=(.st [(i6 a0.fOrigin),.nils,(.d (C5 a0.fNext)),(i6 a0.fMED),(i6 a0.fPref),(i6 a0.fOTC),(B5 a0.fCommunities),(D6 a0.fLarge),.nils])) tyS37 (SetAt.st1 (f:=(E8 a0.fOther)) (by rfl) (by rfl) (SetAt.here _ _) (by rfl) (by rfl) (by first | rfl | omega)) (by rfl) (by rfl) (by simp) rfl (q 10) Opd.nils) rfl cn))))
 apply seq
 apply sr (c (fo 1001 1 [1] hN underlying39 1 tyS34 (q 1)) rfl (c (la hN 39 tyS34 (q 11)) rfl (c (OpJ.val (v':=(i6 (a0.fPath.length:Int))) (by simp) (lenD underlying34 (L rfl) (q 12))) rfl (c (mv hN (ii 0)) rfl cn))))
 apply block
 obtain⟨p11,hx17,h⟩:=bindS h
 refine lg (N4 a0) (fun s1:Int×(List B2)=>([(1,(pt 1001)),(2,(pt 1002)),(3,(pt 1003)),(12,(D0 a0.fPath)),(13,(i6 (a0.fPath.length:Int))),(14,(i6 s1.1))]:EL)) (fun s1:Int×(List B2)=>([(1001,bd 39 (A8 a0)),(1002,some (.box 39 (.st [(i6 0),.nils,(.d (.st [(.bool false),(.int .u64 0),(.int .u64 0)])),(i6 0),(i6 0),(i6 0),.nils,.nils,.nils]))),(1003,some (.box 39 (.st [(i6 a0.fOrigin),(.sref 13031 2 0 s1.2.length),(.d (C5 a0.fNext)),(i6 a0.fMED),(i6 a0.fPref),(i6 a0.fOTC),(B5 a0.fCommunities),(D6 a0.fLarge),.nils]))),(13031,some (J8 s1.2))]:OL)) (fun(p11:((List B2))) e E' O'=>e = .exit 0∧Mat B E' O' ([(1,(pt 1001)),(2,(pt 1002)),(3,(pt 1003))]:EL) ([(1001,bd 39 (A8 a0)),(1002,some (.box 39 (.st [(i6 0),.nils,(.d (.st [(.bool false),(.int .u64 0),(.int .u64 0)])),(i6 0),(i6 0),(i6 0),.nils,.nils,.nils]))),(1003,some (.box 39 (.st [(i6 a0.fOrigin),(.sref 13031 2 0 p11.length),(.d (C5 a0.fNext)),(i6 a0.fMED),(i6 a0.fPref),(i6 a0.fOTC),(B5 a0.fCommunities),(D6 a0.fLarge),.nils]))),(13031,some (J8 p11))]:OL)) hx17 (Mat.trans (Mat.beginP (n:=13031) (e:=75) (sz:=2) (Ts:=[]) (Bs:=[(1003,some (.box 39 (.st [(i6 a0.fOrigin),(.sref 13031 2 0 0),(.d (C5 a0.fNext)),(i6 a0.fMED),(i6 a0.fPref),(i6 a0.fOTC),(B5 a0.fCommunities),(D6 a0.fLarge),.nils])))]) hB (by decide) (by rfl) (by decide) TwT.nil (TwB.cons (x:=(.st [(i6 a0.fOrigin),.nils,(.d (C5 a0.fNext)),(i6 a0.fMED),(i6 a0.fPref),(i6 a0.fOTC),(B5 a0.fCommunities),(D6 a0.fLarge),.nils])) (by rfl) (Tw.st (TwL.cons (Tw.same _) (TwL.cons (Tw.leaf ⟨rfl,rfl⟩) (TwL.cons (Tw.same _) (TwL.cons (Tw.same _) (TwL.cons (Tw.same _) (TwL.cons (Tw.same _) (TwL.cons (Tw.same _) (TwL.cons (Tw.same _) (TwL.cons (Tw.same _) TwL.nil)))))))))) TwB.nil)) (mp [] _ _ hB)) (fun s1 y h => ?_) (fun e E' O' hR => ?_)
 ·unfold N4 at h
  apply sr (c (lss (L rfl) (q 14) (q 13)) rfl cn)
  apply seq
  apply AWp.cond rfl<;>intro hg12
  ·have h:=B6 hg12 h
   apply AWp.skip
   apply A3
   apply seq
   apply block
   obtain⟨x13,hx13,h⟩:=bindS h
   apply sr (c (indexD underlying34 tyS75 (A4 hx13).1 (C8 B4 (A4 hx13).2) (L rfl) (q 12) (q 14)) rfl (c (loadD tyS75 (by rfl) (by rfl) (L rfl) (q 16)) rfl (cg (alloc hB tyZ75 (nm:=1005) (by decide) (L rfl)) rfl (cg (sB tyS75 (q 5) (q 17)) rfl cn))))
   obtain⟨hc14,h⟩:=D3 h
   obtain⟨hc15,h⟩:=D3 h
   apply dr (c (fo 1003 1 [1] hN underlying39 1 tyS34 (q 3)) rfl (c (lb hN 39 _ (.sref 13031 2 0 s1.2.length) tyS34 (At.st1 (f:=(.sref 13031 2 0 s1.2.length)) (by rfl) (by rfl) (At.here _) (by first | rfl | omega)) (q 18)) rfl (c (fo 1005 0 [0] hN underlying75 0 tyS4 (q 5)) rfl (c (la hN 75 tyS4 (q 20)) rfl (c (fo 1005 1 [1] hN underlying75 1 tyS27 (q 5)) rfl (c (la hN 75 tyS27 (q 22)) rfl (cg (OpJ.frz (OpJ.appendN hB underlying27 tyE3 (nm:=1024) (by decide) (ys:=x13.fASNs.map (eI .i64)) (len:=x13.fASNs.length) (by simp) (R4 (f:=(eI .i64)) (fun _=>rfl)) (by rw [List.length_map];exact J6 hc14 (by decide)) (by rw [List.length_map];exact M6 hc14) (L rfl) Opd.nils (q 23)) (by simp)) rfl (c (OpJ.coe (v:=(.st [(bo x13.fSet),(qI_1 x13.fASNs)])) (y:=(.st [(.bool x13.fSet),(.list 1 (x13.fASNs.map (eI .i64)))])) (Co.st (CoL.cons (Co.d _) (CoL.cons (Co.d _) CoL.nil))) rfl (OpJ.build (places:=[(0,1),(1,1)]) ⟨underlying75,fun w=>by kernel_rfl⟩ tyZS75 (Opds.cons (q 21) (Opds.cons (q 24) Opds.nil)) (by kernel_rfl) (r:=(.st [(bo x13.fSet),(qI_1 x13.fASNs)])) (by rfl) (L rfl))) rfl (c (buildSlice underlying34 tyS75 tyZD75 (by rfl) (by decide) (by decide) (Opds.cons (q 25) Opds.nil) (by kernel_rfl) (es:=([(.st [(.bool x13.fSet),(.list 1 (x13.fASNs.map (eI .i64)))])]:List D)) (by rfl) (by rfl) (by kernel_rfl) (by simp) (L rfl)) rfl (cg (apd hB underlying34 tyE75 1027 B4 s1.2 [(B2.mk x13.fSet x13.fASNs)] hc15 (L rfl) (q 19) (q 26)) rfl (c (fo 1003 1 [1] hN underlying39 1 tyS34 (q 3)) rfl (cg (OpJ.storeB (c':=(.st [(i6 a0.fOrigin),(.sref 1027 2 0 ((s1.2++[(B2.mk x13.fSet x13.fASNs)]).length)),(.d (C5 a0.fNext)),(i6 a0.fMED),(i6 a0.fPref),(i6 a0.fOTC),(B5 a0.fCommunities),(D6 a0.fLarge),.nils])) tyS34 (SetAt.st1 (f:=(.sref 13031 2 0 s1.2.length)) (by rfl) (by rfl) (SetAt.here _ _) (by rfl) (by rfl) (by first | rfl | omega)) (by rfl) (by rfl) (by simp) rfl (q 28) (q 27)) rfl cn)))))))))))) (by kernel_rfl) (by kernel_rfl)
   apply F8
   apply A3
   apply rg (c (add6 (L rfl) (q 14) (ii 1)) rfl (c (mv hN (q 29)) rfl cn))
   obtain rfl:=oi h
   exact⟨rfl,(mp [(13031,1027)] _ _ hB)⟩
  ·have h:=B7 hg12 h
   apply AWp.exit
   apply F6
   obtain rfl:=oi h
   exact⟨(fun hc=>by cases hc),rfl,(mp [] _ _ hB)⟩
 ·obtain⟨rfl,hmat⟩:=hR
  apply E4
  apply A3
  refine ghost hmat ?_
  obtain⟨hc18,h⟩:=D3 h
  apply sr (c (fo 1001 8 [6] hN underlying39 8 tyS35 (q 1)) rfl (c (la hN 39 tyS35 (q 30)) rfl (cg (OpJ.appendN hB underlying35 tyE132 (nm:=1032) (by decide) (ys:=a0.fCommunities.map B1) (len:=a0.fCommunities.length) (by simp) (R4 (f:=B1) (fun _=>rfl)) (by rw [List.length_map];exact J6 hc18 (by decide)) (by rw [List.length_map];exact M6 hc18) (L rfl) Opd.nils (q 31)) rfl (c (fo 1003 8 [6] hN underlying39 8 tyS35 (q 3)) rfl (cg (OpJ.storeB (c':=(.st [(i6 a0.fOrigin),(.sref 13031 2 0 p11.length),(.d (C5 a0.fNext)),(i6 a0.fMED),(i6 a0.fPref),(i6 a0.fOTC),(.sref 1032 2 0 a0.fCommunities.length),(D6 a0.fLarge),.nils])) tyS35 (SetAt.st1 (f:=(B5 a0.fCommunities)) (by rfl) (by rfl) (SetAt.here _ _) (by rfl) (by rfl) (by first | rfl | omega)) (by rfl) (by rfl) (by simp) rfl (q 33) (q 32)) rfl cn)))))
  obtain⟨hc19,h⟩:=D3 h
  apply sr (c (fo 1001 9 [7] hN underlying39 9 tyS36 (q 1)) rfl (c (la hN 39 tyS36 (q 34)) rfl (cg (OpJ.appendN hB underlying36 tyE134 (nm:=1036) (by decide) (ys:=a0.fLarge.map C7) (len:=a0.fLarge.length) (by simp) (R4 (f:=C7) (fun _=>rfl)) (by rw [List.length_map];exact J6 hc19 (by decide)) (by rw [List.length_map];exact M6 hc19) (L rfl) Opd.nils (q 35)) rfl (c (fo 1003 9 [7] hN underlying39 9 tyS36 (q 3)) rfl (cg (OpJ.storeB (c':=(.st [(i6 a0.fOrigin),(.sref 13031 2 0 p11.length),(.d (C5 a0.fNext)),(i6 a0.fMED),(i6 a0.fPref),(i6 a0.fOTC),(.sref 1032 2 0 a0.fCommunities.length),(.sref 1036 3 0 a0.fLarge.length),.nils])) tyS36 (SetAt.st1 (f:=(D6 a0.fLarge)) (by rfl) (by rfl) (SetAt.here _ _) (by rfl) (by rfl) (by first | rfl | omega)) (by rfl) (by rfl) (by simp) rfl (q 37) (q 36)) rfl cn)))))
  apply seq
  apply sr (c (fo 1001 10 [8] hN underlying39 10 tyS37 (q 1)) rfl (c (la hN 39 tyS37 (q 38)) rfl (c (OpJ.val (v':=(i6 (a0.fOther.length:Int))) (by simp) (lenD underlying37 (L rfl) (q 39))) rfl (c (mv hN (ii 0)) rfl cn))))
  apply block
  obtain⟨p30,hx36,h⟩:=bindS h
  refine lg (R6 a0) (fun s20:Int×(List A7)=>([(2,(pt 1002)),(3,(pt 1003)),(39,(E8 a0.fOther)),(40,(i6 (a0.fOther.length:Int))),(41,(i6 s20.1))]:EL)) (fun s20:Int×(List A7)=>([(1002,some (.box 39 (.st [(i6 0),.nils,(.d (.st [(.bool false),(.int .u64 0),(.int .u64 0)])),(i6 0),(i6 0),(i6 0),.nils,.nils,.nils]))),(1003,some (.box 39 (.st [(i6 a0.fOrigin),(.sref 13031 2 0 p11.length),(.d (C5 a0.fNext)),(i6 a0.fMED),(i6 a0.fPref),(i6 a0.fOTC),(.sref 1032 2 0 a0.fCommunities.length),(.sref 1036 3 0 a0.fLarge.length),(.sref 13038 3 0 s20.2.length)]))),(1032,some (A1y a0.fCommunities)),(1036,some (A3y a0.fLarge)),(13031,some (J8 p11)),(13038,some (F0 s20.2))]:OL)) (fun(p30:((List A7))) e E' O'=>e = .exit 2∧Mat B E' O' ([(2,(pt 1002)),(3,(pt 1003))]:EL) ([(1002,some (.box 39 (.st [(i6 0),.nils,(.d (.st [(.bool false),(.int .u64 0),(.int .u64 0)])),(i6 0),(i6 0),(i6 0),.nils,.nils,.nils]))),(1003,some (.box 39 (.st [(i6 a0.fOrigin),(.sref 13031 2 0 p11.length),(.d (C5 a0.fNext)),(i6 a0.fMED),(i6 a0.fPref),(i6 a0.fOTC),(.sref 1032 2 0 a0.fCommunities.length),(.sref 1036 3 0 a0.fLarge.length),(.sref 13038 3 0 p30.length)]))),(1032,some (A1y a0.fCommunities)),(1036,some (A3y a0.fLarge)),(13031,some (J8 p11)),(13038,some (F0 p30))]:OL)) hx36 (Mat.trans (Mat.beginP (n:=13038) (e:=78) (sz:=3) (Ts:=[]) (Bs:=[(1003,some (.box 39 (.st [(i6 a0.fOrigin),(.sref 13031 2 0 p11.length),(.d (C5 a0.fNext)),(i6 a0.fMED),(i6 a0.fPref),(i6 a0.fOTC),(.sref 1032 2 0 a0.fCommunities.length),(.sref 1036 3 0 a0.fLarge.length),(.sref 13038 3 0 0)])))]) hB (by decide) (by rfl) (by decide) TwT.nil (TwB.cons (x:=(.st [(i6 a0.fOrigin),(.sref 13031 2 0 p11.length),(.d (C5 a0.fNext)),(i6 a0.fMED),(i6 a0.fPref),(i6 a0.fOTC),(.sref 1032 2 0 a0.fCommunities.length),(.sref 1036 3 0 a0.fLarge.length),.nils])) (by rfl) (Tw.st (TwL.cons (Tw.same _) (TwL.cons (Tw.same _) (TwL.cons (Tw.same _) (TwL.cons (Tw.same _) (TwL.cons (Tw.same _) (TwL.cons (Tw.same _) (TwL.cons (Tw.same _) (TwL.cons (Tw.same _) (TwL.cons (Tw.leaf ⟨rfl,rfl⟩) TwL.nil)))))))))) TwB.nil)) (mp [] _ _ hB)) (fun s20 y h => ?_) (fun e E' O' hR => ?_)
  ·unfold R6 at h
   apply sr (c (lss (L rfl) (q 41) (q 40)) rfl cn)
   apply seq
   apply AWp.cond rfl<;>intro hg31
   ·have h:=B6 hg31 h
    apply AWp.skip
    apply A3
    apply seq
    apply block
    obtain⟨x32,hx32,h⟩:=bindS h
    apply sr (c (indexD underlying37 tyS78 (A4 hx32).1 (C8 A5 (A4 hx32).2) (L rfl) (q 39) (q 41)) rfl (c (loadD tyS78 (by rfl) (by rfl) (L rfl) (q 43)) rfl (cg (alloc hB tyZ78 (nm:=1007) (by decide) (L rfl)) rfl (cg (sB tyS78 (q 7) (q 44)) rfl cn))))
    obtain⟨hc33,h⟩:=D3 h
    obtain⟨hc34,h⟩:=D3 h
    apply dr (c (fo 1003 10 [8] hN underlying39 10 tyS37 (q 3)) rfl (c (lb hN 39 _ (.sref 13038 3 0 s20.2.length) tyS37 (At.st1 (f:=(.sref 13038 3 0 s20.2.length)) (by rfl) (by rfl) (At.here _) (by first | rfl | omega)) (q 45)) rfl (c (fo 1007 0 [0] hN underlying78 0 tyS3 (q 7)) rfl (c (la hN 78 tyS3 (q 47)) rfl (c (fo 1007 1 [1] hN underlying78 1 tyS3 (q 7)) rfl (c (la hN 78 tyS3 (q 49)) rfl (c (fo 1007 2 [2] hN underlying78 2 tyS76 (q 7)) rfl (c (la hN 78 tyS76 (q 51)) rfl (cg (OpJ.frz (OpJ.appendN hB underlying76 tyE5 (nm:=1053) (by decide) (ys:=x32.fData.map (eI .u8)) (len:=x32.fData.length) (by simp) (R4 (f:=(eI .u8)) (fun _=>rfl)) (by rw [List.length_map];exact J6 hc33 (by decide)) (by rw [List.length_map];exact M6 hc33) (L rfl) Opd.nils (q 52)) (by simp)) rfl (c (OpJ.coe (v:=(.st [(i6 x32.fFlags),(i6 x32.fType),(.d (.list 1 (x32.fData.map (eI .u8))))])) (y:=(.st [(.int .i64 x32.fFlags),(.int .i64 x32.fType),(.list 1 (x32.fData.map (eI .u8)))])) (Co.st (CoL.cons (Co.d _) (CoL.cons (Co.d _) (CoL.cons (Co.d _) CoL.nil)))) rfl (OpJ.build (places:=[(0,1),(1,1),(2,1)]) ⟨underlying78,fun w=>by kernel_rfl⟩ tyZS78 (Opds.cons (q 48) (Opds.cons (q 50) (Opds.cons (q 53) Opds.nil))) (by kernel_rfl) (r:=(.st [(i6 x32.fFlags),(i6 x32.fType),(.d (.list 1 (x32.fData.map (eI .u8))))])) (by rfl) (L rfl))) rfl (c (buildSlice underlying37 tyS78 tyZD78 (by rfl) (by decide) (by decide) (Opds.cons (q 54) Opds.nil) (by kernel_rfl) (es:=([(.st [(.int .i64 x32.fFlags),(.int .i64 x32.fType),(.list 1 (x32.fData.map (eI .u8)))])]:List D)) (by rfl) (by rfl) (by kernel_rfl) (by simp) (L rfl)) rfl (cg (apd hB underlying37 tyE78 1056 A5 s20.2 [(A7.mk x32.fFlags x32.fType x32.fData)] hc34 (L rfl) (q 46) (q 55)) rfl (c (fo 1003 10 [8] hN underlying39 10 tyS37 (q 3)) rfl (cg (OpJ.storeB (c':=(.st [(i6 a0.fOrigin),(.sref 13031 2 0 p11.length),(.d (C5 a0.fNext)),(i6 a0.fMED),(i6 a0.fPref),(i6 a0.fOTC),(.sref 1032 2 0 a0.fCommunities.length),(.sref 1036 3 0 a0.fLarge.length),(.sref 1056 3 0 ((s20.2++[(A7.mk x32.fFlags x32.fType x32.fData)]).length))])) tyS37 (SetAt.st1 (f:=(.sref 13038 3 0 s20.2.length)) (by rfl) (by rfl) (SetAt.here _ _) (by rfl) (by rfl) (by first | rfl | omega)) (by rfl) (by rfl) (by simp) rfl (q 57) (q 56)) rfl cn)))))))))))))) (by kernel_rfl) (by kernel_rfl)
    apply F8
    apply A3
    apply rg (c (add6 (L rfl) (q 41) (ii 1)) rfl (c (mv hN (q 58)) rfl cn))
    obtain rfl:=oi h
    exact⟨rfl,(mp [(13038,1056)] _ _ hB)⟩
   ·have h:=B7 hg31 h
    apply AWp.exit
    apply F6
    obtain rfl:=oi h
    exact⟨(fun hc=>by cases hc),rfl,(mp [] _ _ hB)⟩
  ·obtain⟨rfl,hmat⟩:=hR
   apply E4
   apply A3
   refine ghost hmat ?_
   apply sr (c (lb hN 39 _ _ tyS39 (At.here _) (q 3)) rfl (cg (sB tyS39 (q 2) (q 59)) rfl cn))
   apply ret
   obtain rfl:=oi h
   exact rt (Mat.trans (Mat.freezeP (n:=13031) (e:=75) (sz:=2) (es:=p11.map B4) (Ts:=[]) (Bs:=[(1002,some (.box 39 (.st [(i6 a0.fOrigin),(D0 p11),(.d (C5 a0.fNext)),(i6 a0.fMED),(i6 a0.fPref),(i6 a0.fOTC),(.sref 1032 2 0 a0.fCommunities.length),(.sref 1036 3 0 a0.fLarge.length),(.sref 13038 3 0 p30.length)])))]) (by rfl) TwT.nil (TwB.cons (x:=(.st [(i6 a0.fOrigin),(.sref 13031 2 0 p11.length),(.d (C5 a0.fNext)),(i6 a0.fMED),(i6 a0.fPref),(i6 a0.fOTC),(.sref 1032 2 0 a0.fCommunities.length),(.sref 1036 3 0 a0.fLarge.length),(.sref 13038 3 0 p30.length)])) (by rfl) (Tw.st (TwL.cons (Tw.same _) (TwL.cons (FrzL.all (by first | rfl | (simp;done) | (simp;omega) | omega)) (TwL.cons (Tw.same _) (TwL.cons (Tw.same _) (TwL.cons (Tw.same _) (TwL.cons (Tw.same _) (TwL.cons (Tw.same _) (TwL.cons (Tw.same _) (TwL.cons (Tw.same _) TwL.nil)))))))))) TwB.nil)) (Mat.trans (Mat.freezeP (n:=1032) (e:=132) (sz:=2) (es:=a0.fCommunities.map B1) (Ts:=[]) (Bs:=[(1002,some (.box 39 (.st [(i6 a0.fOrigin),(D0 p11),(.d (C5 a0.fNext)),(i6 a0.fMED),(i6 a0.fPref),(i6 a0.fOTC),(B5 a0.fCommunities),(.sref 1036 3 0 a0.fLarge.length),(.sref 13038 3 0 p30.length)])))]) (by rfl) TwT.nil (TwB.cons (x:=(.st [(i6 a0.fOrigin),(D0 p11),(.d (C5 a0.fNext)),(i6 a0.fMED),(i6 a0.fPref),(i6 a0.fOTC),(.sref 1032 2 0 a0.fCommunities.length),(.sref 1036 3 0 a0.fLarge.length),(.sref 13038 3 0 p30.length)])) (by rfl) (Tw.st (TwL.cons (Tw.same _) (TwL.cons (Tw.same _) (TwL.cons (Tw.same _) (TwL.cons (Tw.same _) (TwL.cons (Tw.same _) (TwL.cons (Tw.same _) (TwL.cons (FrzL.all (by first | rfl | (simp;done) | (simp;omega) | omega)) (TwL.cons (Tw.same _) (TwL.cons (Tw.same _) TwL.nil)))))))))) TwB.nil)) (Mat.trans (Mat.freezeP (n:=1036) (e:=134) (sz:=3) (es:=a0.fLarge.map C7) (Ts:=[]) (Bs:=[(1002,some (.box 39 (.st [(i6 a0.fOrigin),(D0 p11),(.d (C5 a0.fNext)),(i6 a0.fMED),(i6 a0.fPref),(i6 a0.fOTC),(B5 a0.fCommunities),(D6 a0.fLarge),(.sref 13038 3 0 p30.length)])))]) (by rfl) TwT.nil (TwB.cons (x:=(.st [(i6 a0.fOrigin),(D0 p11),(.d (C5 a0.fNext)),(i6 a0.fMED),(i6 a0.fPref),(i6 a0.fOTC),(B5 a0.fCommunities),(.sref 1036 3 0 a0.fLarge.length),(.sref 13038 3 0 p30.length)])) (by rfl) (Tw.st (TwL.cons (Tw.same _) (TwL.cons (Tw.same _) (TwL.cons (Tw.same _) (TwL.cons (Tw.same _) (TwL.cons (Tw.same _) (TwL.cons (Tw.same _) (TwL.cons (Tw.same _) (TwL.cons (FrzL.all (by first | rfl | (simp;done) | (simp;omega) | omega)) (TwL.cons (Tw.same _) TwL.nil)))))))))) TwB.nil)) (Mat.trans (Mat.freezeP (n:=13038) (e:=78) (sz:=3) (es:=p30.map A5) (Ts:=[]) (Bs:=[(1002,some (.box 39 (.st [(i6 a0.fOrigin),(D0 p11),(.d (C5 a0.fNext)),(i6 a0.fMED),(i6 a0.fPref),(i6 a0.fOTC),(B5 a0.fCommunities),(D6 a0.fLarge),(E8 p30)])))]) (by rfl) TwT.nil (TwB.cons (x:=(.st [(i6 a0.fOrigin),(D0 p11),(.d (C5 a0.fNext)),(i6 a0.fMED),(i6 a0.fPref),(i6 a0.fOTC),(B5 a0.fCommunities),(D6 a0.fLarge),(.sref 13038 3 0 p30.length)])) (by rfl) (Tw.st (TwL.cons (Tw.same _) (TwL.cons (Tw.same _) (TwL.cons (Tw.same _) (TwL.cons (Tw.same _) (TwL.cons (Tw.same _) (TwL.cons (Tw.same _) (TwL.cons (Tw.same _) (TwL.cons (Tw.same _) (TwL.cons (FrzL.all (by first | rfl | (simp;done) | (simp;omega) | omega)) TwL.nil)))))))))) TwB.nil)) (Mat.trans (Mat.coeP (Ts:=[]) (Bs:=[(1002,bd 39 (.st [(.int .i64 a0.fOrigin),(.list 2 (p11.map B4)),(C5 a0.fNext),(.int .i64 a0.fMED),(.int .i64 a0.fPref),(.int .i64 a0.fOTC),(.list 2 (a0.fCommunities.map B1)),(.list 3 (a0.fLarge.map C7)),(.list 3 (p30.map A5))]))]) TwT.nil (TwB.cons (x:=(.st [(i6 a0.fOrigin),(D0 p11),(.d (C5 a0.fNext)),(i6 a0.fMED),(i6 a0.fPref),(i6 a0.fOTC),(B5 a0.fCommunities),(D6 a0.fLarge),(E8 p30)])) (by rfl) (Tw.leaf ⟨_,(Co.st (CoL.cons (Co.d _) (CoL.cons (Co.d _) (CoL.cons (Co.d _) (CoL.cons (Co.d _) (CoL.cons (Co.d _) (CoL.cons (Co.d _) (CoL.cons (Co.d _) (CoL.cons (Co.d _) (CoL.cons (Co.d _) CoL.nil)))))))))),rfl⟩) TwB.nil)) (mp [] [(2,(pt 1002))] [(1002,bd 39 (.st [(.int .i64 a0.fOrigin),(.list 2 (p11.map B4)),(C5 a0.fNext),(.int .i64 a0.fMED),(.int .i64 a0.fPref),(.int .i64 a0.fOTC),(.list 2 (a0.fCommunities.map B1)),(.list 3 (a0.fLarge.map C7)),(.list 3 (p30.map A5))]))] hB)))))) [(.d (.st [(.int .i64 a0.fOrigin),(.list 2 (p11.map B4)),(C5 a0.fNext),(.int .i64 a0.fMED),(.int .i64 a0.fPref),(.int .i64 a0.fOTC),(.list 2 (a0.fCommunities.map B1)),(.list 3 (a0.fLarge.map C7)),(.list 3 (p30.map A5))]))] (Res.cell (c:=(.d (.st [(.int .i64 a0.fOrigin),(.list 2 (p11.map B4)),(C5 a0.fNext),(.int .i64 a0.fMED),(.int .i64 a0.fPref),(.int .i64 a0.fOTC),(.list 2 (a0.fCommunities.map B1)),(.list 3 (a0.fLarge.map C7)),(.list 3 (p30.map A5))]))) (by rfl) (by rfl) tyS39 (by rfl) (by rfl) (by rfl) rN) rfl
def I5 (a0:(List B3)) (s1:Int×(List B3)):Option ((((List B3)))⊕(Int×(List B3))) :=
 (if (decide (s1.1<(a0.length:Int)))=true then
 (idx a0 s1.1).bind fun x12 =>
 (K0 x12.fAttrs).bind fun r13 =>
 chk (decide ((s1.2++[(B3.mk x12.fPrefix x12.fFrom r13)]).length≤LIM)) <|
 some (.inr ((w64 (s1.1+1)),(s1.2++[(B3.mk x12.fPrefix x12.fFrom r13)])))
 else
 some (.inl s1.2))
def I1 (a0:(List B3)):Option ((List B3)) :=
 (loop (I5 a0) (0,([]:List B3))).bind fun p10 =>
 some p10
theorem W7 (a0:(List B3)) (r:(List B3)) (h:I1 a0=some r):AC Tryz.prog 58 [(.d (.list 16 (a0.map E5)))] [] (.d (.list 16 (r.map E5))) []:=by
 refine ac2 Tryz.func58 rfl rfl fun B hB hN L => ?_
 delta I1 at h
 apply sr (c (assign (L rfl) Opd.nils) rfl cn)
 apply sr (c (assign (L rfl) Opd.nils) rfl cn)
 apply seq
 apply sr (c (mv hN (q 0)) rfl (c (OpJ.val (v':=(i6 (a0.length:Int))) (by simp) (lenD underlying65 (L rfl) (q 6))) rfl (c (mv hN (ii 0)) rfl cn)))
 apply block
 obtain⟨p10,hx16,h⟩:=bindS h
 refine lg (I5 a0) (fun s1:Int×(List B3)=>([(3,(.sref 3003 16 0 s1.2.length)),(6,(D1 a0)),(7,(i6 (a0.length:Int))),(8,(i6 s1.1))]:EL)) (fun s1:Int×(List B3)=>([(3003,some (E9 s1.2))]:OL)) (fun(p10:((List B3))) e E' O'=>e = .exit 0∧Mat B E' O' ([(3,(.sref 3003 16 0 p10.length))]:EL) ([(3003,some (E9 p10))]:OL)) hx16 (Mat.trans (Mat.beginP (n:=3003) (e:=41) (sz:=16) (Ts:=[(3,(.sref 3003 16 0 0))]) (Bs:=[]) hB (by decide) (by rfl) (by decide) (TwT.cons (x:=.nils) (by rfl) (Tw.leaf ⟨rfl,rfl⟩) TwT.nil) TwB.nil) (mp [] _ _ hB)) (fun s1 y h => ?_) (fun e E' O' hR => ?_)
 ·unfold I5 at h
  apply sr (c (lss (L rfl) (q 8) (q 7)) rfl cn)
  apply seq
  apply AWp.cond rfl<;>intro hg11
  ·have h:=B6 hg11 h
   apply AWp.skip
   apply A3
   apply seq
   apply block
   obtain⟨x12,hx12,h⟩:=bindS h
   apply sr (c (indexD underlying65 tyS41 (A4 hx12).1 (C8 E5 (A4 hx12).2) (L rfl) (q 6) (q 8)) rfl (c (loadD tyS41 (by rfl) (by rfl) (L rfl) (q 10)) rfl (cg (alloc hB tyZ41 (nm:=1005) (by decide) (L rfl)) rfl (cg (sB tyS41 (q 5) (q 11)) rfl cn))))
   obtain⟨r13,hr13,h⟩:=bindS h
   obtain⟨hc14,h⟩:=D3 h
   apply dr (c (mv hN (q 3)) rfl (c (fo 1005 0 [0] hN underlying41 0 tyS33 (q 5)) rfl (c (la hN 41 tyS33 (q 13)) rfl (c (fo 1005 4 [1] hN underlying41 4 tyS3 (q 5)) rfl (c (la hN 41 tyS3 (q 15)) rfl (c (fo 1005 5 [2] hN underlying41 5 tyS39 (q 5)) rfl (c (la hN 41 tyS39 (q 17)) rfl (cg (cf hB fnOk60 (A20 x12.fAttrs r13 hr13) (L rfl) (OpdL.cons (q 18) OpdL.nil)) rfl (c (OpJ.coe (v:=(.st [(.d (A2 x12.fPrefix)),(i6 x12.fFrom),(.d (A8 r13))])) (y:=(.st [(A2 x12.fPrefix),(.int .i64 x12.fFrom),(A8 r13)])) (Co.st (CoL.cons (Co.d _) (CoL.cons (Co.d _) (CoL.cons (Co.d _) CoL.nil)))) rfl (OpJ.build (places:=[(0,4),(4,1),(5,11)]) ⟨underlying41,fun w=>by kernel_rfl⟩ tyZS41 (Opds.cons (q 14) (Opds.cons (q 16) (Opds.cons (q 19) Opds.nil))) (by kernel_rfl) (r:=(.st [(.d (A2 x12.fPrefix)),(i6 x12.fFrom),(.d (A8 r13))])) (by rfl) (L rfl))) rfl (c (buildSlice underlying65 tyS41 tyZD41 (by rfl) (by decide) (by decide) (Opds.cons (q 20) Opds.nil) (by kernel_rfl) (es:=([(.st [(A2 x12.fPrefix),(.int .i64 x12.fFrom),(A8 r13)])]:List D)) (by rfl) (by rfl) (by kernel_rfl) (by simp) (L rfl)) rfl (cg (apd hB underlying65 tyE41 1022 E5 s1.2 [(B3.mk x12.fPrefix x12.fFrom r13)] hc14 (L rfl) (q 12) (q 21)) rfl (c (assign (L rfl) (q 22)) rfl cn)))))))))))) (by kernel_rfl) (by kernel_rfl)
   apply F8
   apply A3
   apply rg (c (add6 (L rfl) (q 8) (ii 1)) rfl (c (mv hN (q 23)) rfl cn))
   obtain rfl:=oi h
   exact⟨rfl,(mp [(3003,1022)] _ _ hB)⟩
  ·have h:=B7 hg11 h
   apply AWp.exit
   apply F6
   obtain rfl:=oi h
   exact⟨(fun hc=>by cases hc),rfl,(mp [] _ _ hB)⟩
 ·obtain⟨rfl,hmat⟩:=hR
  apply E4
  apply A3
  refine ghost hmat ?_
  apply sr (c (mv hN (q 3)) rfl (c (assign (L rfl) (q 24)) rfl cn))
  apply ret
  obtain rfl:=oi h
  exact rt (Mat.trans (Mat.freezeP (n:=3003) (e:=41) (sz:=16) (es:=p10.map E5) (Ts:=[(2,(D1 p10))]) (Bs:=[]) (by rfl) (TwT.cons (x:=(.sref 3003 16 0 p10.length)) (by rfl) (FrzL.all (by first | rfl | (simp;done) | (simp;omega) | omega)) TwT.nil) TwB.nil) (mp [] [(2,(D1 p10))] [] hB)) [(D1 p10)] (rT rN) rfl
def W8 (a0:Int) (a1:(List B3)) (a2:(List B3)) (r1:(List A0)) (s2:Int×(List A1)):Option ((((List A1)))⊕(Int×(List A1))) :=
 (if (decide (s2.1<(r1.length:Int)))=true then
 jn (fun m106:(List A1) =>
 some (.inr ((w64 (s2.1+1)),m106))) (fun j107 =>
 (idx r1 s2.1).bind fun x108 =>
 (A0b a1 x108).bind fun r109 =>
 (A0b a2 x108).bind fun r110 =>
 jn (fun m113:Bool =>
 (if m113=true then
 j107 s2.2
 else
 jn (fun m119:B3 =>
 chk (decide ((s2.2++[(A1.mk a0 x108 r110.2 m119)]).length≤LIM)) <|
 j107 (s2.2++[(A1.mk a0 x108 r110.2 m119)])) (fun j120 =>
 (if r110.2=true then
 (I1 [r110.1]).bind fun r123 =>
 (idx r123 0).bind fun x124 =>
 j120 x124
 else
 j120 (B3.mk (A0.mk (E7.mk false 0 0) 0) 0 (D9.mk 0 ([]:List B2) (E7.mk false 0 0) 0 0 0 ([]:List C6) ([]:List G0) ([]:List A7))))))) (fun j114 =>
 (if (r109.2==r110.2)=true then
 (J9 r109.1 r110.1).bind fun r126 =>
 j114 r126
 else
 j114 false)))
 else
 some (.inl s2.2))
def A1q (a0:Int) (a1:(List B3)) (a2:(List B3)):Option ((List A1)) :=
 (Z6 a1 a2).bind fun r1 =>
 (loop (W8 a0 a1 a2 r1) (0,([]:List A1))).bind fun p85 =>
 some p85
theorem A8e (a0:Int) (a1:(List B3)) (a2:(List B3)) (r:(List A1)) (h:A1q a0 a1 a2=some r):AC Tryz.prog 37 [(.d (.int .i64 a0)),(.d (.list 16 (a1.map E5))),(.d (.list 16 (a2.map E5)))] [] (.d (.list 22 (r.map A6))) []:=by
 refine ac2 Tryz.func37 rfl rfl fun B hB hN L => ?_
 delta A1q at h
 apply sr (c (assign (L rfl) Opd.nils) rfl cn)
 apply sr (c (assign (L rfl) Opd.nils) rfl cn)
 apply seq
 obtain⟨r1,hr1,h⟩:=bindS h
 apply sr (c (mv hN (q 1)) rfl (c (mv hN (q 2)) rfl (cg (cf hB fnOk66 (A6k a1 a2 r1 hr1) (L rfl) (OpdL.cons (q 15) (OpdL.cons (q 16) OpdL.nil))) rfl (c (OpJ.val (v':=(i6 (r1.length:Int))) (by simp) (lenD underlying69 (L rfl) (q 17))) rfl (c (mv hN (ii 0)) rfl cn)))))
 apply block
 obtain⟨p85,hx128,h⟩:=bindS h
 refine lg (W8 a0 a1 a2 r1) (fun s2:Int×(List A1)=>([(0,(i6 a0)),(1,(D1 a1)),(2,(D1 a2)),(7,(.sref 3007 22 0 s2.2.length)),(17,(C1 r1)),(18,(i6 (r1.length:Int))),(19,(i6 s2.1))]:EL)) (fun s2:Int×(List A1)=>([(3007,some (C3 s2.2))]:OL)) (fun(p85:((List A1))) e E' O'=>e = .exit 0∧Mat B E' O' ([(7,(.sref 3007 22 0 p85.length))]:EL) ([(3007,some (C3 p85))]:OL)) hx128 (Mat.trans (Mat.beginP (n:=3007) (e:=43) (sz:=22) (Ts:=[(7,(.sref 3007 22 0 0))]) (Bs:=[]) hB (by decide) (by rfl) (by decide) (TwT.cons (x:=.nils) (by rfl) (Tw.leaf ⟨rfl,rfl⟩) TwT.nil) TwB.nil) (mp [] _ _ hB)) (fun s2 y h => ?_) (fun e E' O' hR => ?_)
 ·unfold W8 at h
  apply sr (c (lss (L rfl) (q 19) (q 18)) rfl cn)
  apply seq
  apply AWp.cond rfl<;>intro hg86
  ·have h:=B6 hg86 h
   apply AWp.skip
   apply A3
   apply seq
   refine AWp.cut h (fun m106:(List A1)=>([(0,(i6 a0)),(1,(D1 a1)),(2,(D1 a2)),(7,(.sref 3007 22 0 m106.length)),(17,(C1 r1)),(18,(i6 (r1.length:Int))),(19,(i6 s2.1))]:EL)) (fun m106:(List A1)=>([(3007,some (C3 m106))]:OL)) (fun m106 h E' O' hmat => ?_) (fun j107 hjj107 h => ?_)
   ·apply A3
    refine ghost hmat ?_
    apply rg (c (add6 (L rfl) (q 19) (ii 1)) rfl (c (mv hN (q 58)) rfl cn))
    obtain rfl:=oi h
    exact⟨rfl,(mp [] _ _ hB)⟩
   ·apply block
    obtain⟨x108,hx108,h⟩:=bindS h
    apply sr (c (indexD underlying69 tyS33 (A4 hx108).1 (C8 A2 (A4 hx108).2) (L rfl) (q 17) (q 19)) rfl (c (loadD tyS33 (by rfl) (by rfl) (L rfl) (q 21)) rfl (cg (alloc hB tyZ33 (nm:=1009) (by decide) (L rfl)) rfl (cg (sB tyS33 (q 9) (q 22)) rfl cn))))
    obtain⟨r109,hr109,h⟩:=bindS h
    apply sr (c (mv hN (q 1)) rfl (c (lb hN 33 _ _ tyS33 (At.here _) (q 9)) rfl (cg (cf hB fnOk67 (A4k a1 x108 r109 hr109) (L rfl) (OpdL.cons (q 24) (OpdL.cons (q 25) OpdL.nil))) rfl (c (mv hN (q 26)) rfl (c (extract (by rfl) rfl (L rfl) (q 23)) rfl (c (extract (by rfl) rfl (L rfl) (q 23)) rfl (cg (alloc hB tyZ41 (nm:=1010) (by decide) (L rfl)) rfl (cg (sB tyS41 (q 10) (q 27)) rfl (c (assign (L rfl) (q 28)) rfl cn)))))))))
    obtain⟨r110,hr110,h⟩:=bindS h
    apply sr (c (mv hN (q 2)) rfl (c (lb hN 33 _ _ tyS33 (At.here _) (q 9)) rfl (cg (cf hB fnOk67 (A4k a2 x108 r110 hr110) (L rfl) (OpdL.cons (q 30) (OpdL.cons (q 31) OpdL.nil))) rfl (c (mv hN (q 32)) rfl (c (extract (by rfl) rfl (L rfl) (q 29)) rfl (c (extract (by rfl) rfl (L rfl) (q 29)) rfl (cg (alloc hB tyZ41 (nm:=1012) (by decide) (L rfl)) rfl (cg (sB tyS41 (q 12) (q 33)) rfl (c (assign (L rfl) (q 34)) rfl cn)))))))))
    apply seq
    apply seq
    refine AWp.cut h (fun m113:Bool=>([(0,(i6 a0)),(1,(D1 a1)),(2,(D1 a2)),(7,(.sref 3007 22 0 s2.2.length)),(9,(pt 1009)),(12,(pt 1012)),(13,(bo r110.2)),(17,(C1 r1)),(18,(i6 (r1.length:Int))),(19,(i6 s2.1)),(42,(bo m113))]:EL)) (fun m113:Bool=>([(1009,bd 33 (A2 x108)),(1012,bd 41 (E5 r110.1)),(3007,some (C3 s2.2))]:OL)) (fun m113 h E' O' hmat => ?_) (fun j114 hjj114 h => ?_)
    ·apply A3
     refine ghost hmat ?_
     apply AWp.cond rfl<;>intro hg115
     ·have h:=B6 hg115 h
      apply AWp.exit
      apply F6
      apply E4
      exact hjj107 _ h _ _ (mp [] _ _ hB)
     ·have h:=B7 hg115 h
      apply AWp.skip
      apply A3
      apply sr (c (mv hN (q 0)) rfl (c (lb hN 33 _ _ tyS33 (At.here _) (q 9)) rfl (c (mv hN (q 13)) rfl (c (OpJ.build (places:=[(0,1),(1,4),(5,1),(6,16)]) ⟨underlying43,fun w=>by kernel_rfl⟩ tyZS43 (Opds.cons (q 43) (Opds.cons (q 44) (Opds.cons (q 45) Opds.nil))) (by kernel_rfl) (r:=(.st [(i6 a0),(.d (A2 x108)),(bo r110.2),(.st [(.d (.st [(.st [(.bool false),(.int .u64 0),(.int .u64 0)]),(.int .i64 0)])),(i6 0),(.st [(i6 0),.nils,(.d (.st [(.bool false),(.int .u64 0),(.int .u64 0)])),(i6 0),(i6 0),(i6 0),.nils,.nils,.nils])])])) (by rfl) (L rfl)) rfl (cg (alloc hB tyZ43 (nm:=1014) (by decide) (L rfl)) rfl (cg (sB tyS43 (q 14) (q 46)) rfl cn))))))
      apply seq
      apply sr (c (mv hN (q 13)) rfl cn)
      refine gh [(0,_),(1,_),(2,_),(7,_),(12,_),(14,_),(17,_),(18,_),(19,_),(47,_)] [(1012,some _),(1014,some _),(3007,some _)] hB rfl rfl (by rfl) ?_
      refine AWp.cut h (fun m119:B3=>([(0,(i6 a0)),(1,(D1 a1)),(2,(D1 a2)),(7,(.sref 3007 22 0 s2.2.length)),(14,(pt 1014)),(17,(C1 r1)),(18,(i6 (r1.length:Int))),(19,(i6 s2.1))]:EL)) (fun m119:B3=>([(1014,some (.box 43 (.st [(i6 a0),(.d (A2 x108)),(bo r110.2),(.d (E5 m119))]))),(3007,some (C3 s2.2))]:OL)) (fun m119 h E' O' hmat => ?_) (fun j120 hjj120 h => ?_)
      ·apply A3
       refine ghost hmat ?_
       obtain⟨hc121,h⟩:=D3 h
       apply rg (c (mv hN (q 7)) rfl (c (lb hN 43 _ _ tyS43 (At.here _) (q 14)) rfl (c (buildSlice underlying22 tyS43 tyZD43 (by rfl) (by decide) (by decide) (Opds.cons (Opd.co (Co.st (CoL.cons (Co.d _) (CoL.cons (Co.d _) (CoL.cons (Co.d _) (CoL.cons (Co.d _) CoL.nil))))) (q 55)) Opds.nil) (by kernel_rfl) (es:=([(.st [(.int .i64 a0),(A2 x108),(.bool r110.2),(E5 m119)])]:List D)) (by rfl) (by rfl) (by kernel_rfl) (by simp) (L rfl)) rfl (cg (apd hB underlying22 tyE43 1057 A6 s2.2 [(A1.mk a0 x108 r110.2 m119)] hc121 (L rfl) (q 54) (q 56)) rfl (c (assign (L rfl) (q 57)) rfl cn)))))
       apply F8
       exact hjj107 _ h _ _ (mp [(3007,1057)] _ _ hB)
      ·apply AWp.cond rfl<;>intro hg122
       ·have h:=B6 hg122 h
        obtain⟨r123,hr123,h⟩:=bindS h
        obtain⟨x124,hx124,h⟩:=bindS h
        apply rg (c (lb hN 41 _ _ tyS41 (At.here _) (q 12)) rfl (c (buildSlice underlying65 tyS41 tyZD41 (by rfl) (by decide) (by decide) (Opds.cons (q 48) Opds.nil) (by kernel_rfl) (es:=([(E5 r110.1)]:List D)) (by rfl) (by rfl) (by kernel_rfl) (by simp) (L rfl)) rfl (cg (cf hB fnOk58 (W7 [r110.1] r123 hr123) (L rfl) (OpdL.cons (q 49) OpdL.nil)) rfl (c (indexD underlying65 tyS41 (A4 hx124).1 (C8 E5 (A4 hx124).2) (L rfl) (q 50) (ii 0)) rfl (c (loadD tyS41 (by rfl) (by rfl) (L rfl) (q 51)) rfl (c (fo 1014 6 [3] hN underlying43 6 tyS41 (q 14)) rfl (cg (OpJ.storeB (c':=(.st [(i6 a0),(.d (A2 x108)),(bo r110.2),(.d (E5 x124))])) tyS41 (SetAt.st1 (f:=(.st [(.d (.st [(.st [(.bool false),(.int .u64 0),(.int .u64 0)]),(.int .i64 0)])),(i6 0),(.st [(i6 0),.nils,(.d (.st [(.bool false),(.int .u64 0),(.int .u64 0)])),(i6 0),(i6 0),(i6 0),.nils,.nils,.nils])])) (by rfl) (by rfl) (SetAt.here _ _) (by rfl) (by rfl) (by first | rfl | omega)) (by rfl) (by rfl) (by simp) rfl (q 53) (q 52)) rfl cn)))))))
        exact hjj120 _ h _ _ (mp [] _ _ hB)
       ·have h:=B7 hg122 h
        apply AWp.skip
        exact hjj120 _ h _ _ (Mat.trans (Mat.coeP (Ts:=[]) (Bs:=[(1014,some (.box 43 (.st [(i6 a0),(.d (A2 x108)),(bo r110.2),(.d (.st [(.st [(.st [(.bool false),(.int .u64 0),(.int .u64 0)]),(.int .i64 0)]),(.int .i64 0),(.st [(.int .i64 0),(.list 2 (([]:List B2).map B4)),(.st [(.bool false),(.int .u64 0),(.int .u64 0)]),(.int .i64 0),(.int .i64 0),(.int .i64 0),(.list 2 (([]:List C6).map B1)),(.list 3 (([]:List G0).map C7)),(.list 3 (([]:List A7).map A5))])]))])))]) TwT.nil (TwB.cons (x:=(.st [(i6 a0),(.d (A2 x108)),(bo r110.2),(.st [(.d (.st [(.st [(.bool false),(.int .u64 0),(.int .u64 0)]),(.int .i64 0)])),(i6 0),(.st [(i6 0),.nils,(.d (.st [(.bool false),(.int .u64 0),(.int .u64 0)])),(i6 0),(i6 0),(i6 0),.nils,.nils,.nils])])])) (by rfl) (Tw.st (TwL.cons (Tw.same _) (TwL.cons (Tw.same _) (TwL.cons (Tw.same _) (TwL.cons (Tw.leaf ⟨_,(Co.st (CoL.cons (Co.d _) (CoL.cons (Co.d _) (CoL.cons (Co.st (CoL.cons (Co.d _) (CoL.cons (Co.nils 2) (CoL.cons (Co.d _) (CoL.cons (Co.d _) (CoL.cons (Co.d _) (CoL.cons (Co.d _) (CoL.cons (Co.nils 2) (CoL.cons (Co.nils 3) (CoL.cons (Co.nils 3) CoL.nil)))))))))) CoL.nil)))),rfl⟩) TwL.nil))))) TwB.nil)) (mp [] _ _ hB))
    ·rcases bft (r109.2==r110.2) with hg125 | hg125
     ·have h:=B6 hg125 h
      obtain⟨r126,hr126,h⟩:=bindS h
      apply rg (c (mv hN (q 11)) rfl (c (mv hN (q 13)) rfl (c (OpJ.eqlB underlying4 (L rfl) (q 35) (q 36)) rfl (c (OpJ.val (v':=.d (.bool true)) (by rw [hg125]<;>rfl) (mv hN (q 37))) rfl (c (gd 38 (lb hN 41 _ _ tyS41 (At.here _) (q 10))) rfl (c (gd 38 (lb hN 41 _ _ tyS41 (At.here _) (q 12))) rfl (cg (gd 38 (cf hB fnOk61 (A1z r109.1 r110.1 r126 hr126) (L rfl) (OpdL.cons (q 39) (OpdL.cons (q 40) OpdL.nil)))) rfl (c (pickT (L rfl) (q 38) (q 41)) rfl cn))))))))
      exact hjj114 _ h _ _ (mp [] _ _ hB)
     ·have h:=B7 hg125 h
      apply rg (c (mv hN (q 11)) rfl (c (mv hN (q 13)) rfl (c (OpJ.eqlB underlying4 (L rfl) (q 35) (q 36)) rfl (c (OpJ.val (v':=.d (.bool false)) (by rw [hg125]<;>rfl) (mv hN (q 37))) rfl (ks 38 (L rfl) (ks 38 (L rfl) (ks 38 (L rfl) (c (pickF (L rfl) (q 38) (Opd.bool false)) rfl cn))))))))
      exact hjj114 _ h _ _ (mp [] _ _ hB)
  ·have h:=B7 hg86 h
   apply AWp.exit
   apply F6
   obtain rfl:=oi h
   exact⟨(fun hc=>by cases hc),rfl,(mp [] _ _ hB)⟩
 ·obtain⟨rfl,hmat⟩:=hR
  apply E4
  apply A3
  refine ghost hmat ?_
  apply sr (c (mv hN (q 7)) rfl (c (assign (L rfl) (q 59)) rfl cn))
  apply ret
  obtain rfl:=oi h
  exact rt (Mat.trans (Mat.freezeP (n:=3007) (e:=43) (sz:=22) (es:=p85.map A6) (Ts:=[(6,(B0 p85))]) (Bs:=[]) (by rfl) (TwT.cons (x:=(.sref 3007 22 0 p85.length)) (by rfl) (FrzL.all (by first | rfl | (simp;done) | (simp;omega) | omega)) TwT.nil) TwB.nil) (mp [] [(6,(B0 p85))] [] hB)) [(B0 p85)] (rT rN) rfl
end
end Go.Proofs.YtplbaenjbihekaaGreatDoor
