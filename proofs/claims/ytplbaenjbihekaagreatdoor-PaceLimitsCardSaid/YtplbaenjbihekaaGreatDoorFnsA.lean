/- Printed by gen.py: the Go functions as plain functions, and that the code does what they say. -/
import Derived.Test.YtplbaenjbihekaaGreatDoorChecked
import Derived.Test.YtplbaenjbihekaaGreatDoorVcYB
import Derived.Test.YtplbaenjbihekaaGreatDoorVcZ
import Derived.Test.YtplbaenjbihekaaGreatDoorVcGC
import Derived.KernelRfl
import Derived.Test.YtplbaenjbihekaaGreatDoorVcMD
import Derived.Test.YtplbaenjbihekaaGreatDoorVcMQ
import Derived.Test.YtplbaenjbihekaaGreatDoorVcSG
import Derived.Test.YtplbaenjbihekaaGreatDoorExt
import Derived.Test.YtplbaenjbihekaaGreatDoorVcPm
import Derived.Test.YtplbaenjbihekaaGreatDoorVcRg
import Derived.Test.YtplbaenjbihekaaGreatDoorVcSt
import Derived.Test.YtplbaenjbihekaaGreatDoorVcMR
namespace Go.Proofs.YtplbaenjbihekaaGreatDoor
open Go Go.Vc
open Tryz
open Go.Vc.OpJ (assign alloc lss pickT pickF extract lenD indexD loadD eqlI gtr callVal leq geq loadR nilP indexS buildSlice lenS fieldD neqI pickAnd pickOr)
open Go.Vc.AWp (seq ghost ret block)
set_option maxHeartbeats 4000000
set_option maxRecDepth 100000
noncomputable section
@[reducible] def Zz0:List D:=[.bool false,.int .u64 0,.int .u64 0]
@[reducible] def Zz1:List D:=[.int .i64 0,.int .i64 0,.int .i64 0]
@[reducible] def Zz3:List V:=[.d (.int .i64 0),.nils,.d (.st Zz0),.d (.int .i64 0),.d (.int .i64 0),.d (.int .i64 0),.nils,.nils,.nils]
@[reducible] def Zz7:List V:=[i6 0,.nils,.d (.st Zz0),i6 0,i6 0,i6 0,.nils,.nils,.nils]
@[reducible] def Zz8:List V:=[.nils,.d (.st Zz1)]
@[reducible] def Zz9:List D:=[.st Zz0,.int .i64 0]
def gv0:List (Int×Int):=[(1,64),(2,64),(3,64),(4,128),(5,64),(8,192),(32,192),(35,192)]
@[reducible] def Zz4:OL:=[(500,some (.know (globD 0 (.imap gv0))))]
@[reducible] def Zz10:List (Nat×Ob):=[(500,.know (globD 0 (.imap gv0)))]
def C1e (x:(List Int)):D:=(.list 1 (x.map (eI .i64)))
structure B1 where
 fL:(List Int)
 fAt:Int
def B8 (x:B1):D:=.st [.list 1 (x.fL.map (eI .i64)),.int .i64 x.fAt]
structure F4 where
 fLevel:Int
 fRate:Int
 fBurst:Int
def C8 (x:F4):D:=.st [.int .i64 x.fLevel,.int .i64 x.fRate,.int .i64 x.fBurst]
structure D1 where
 fV6:Bool
 fHi:Int
 fLo:Int
def E4 (x:D1):D:=.st [.bool x.fV6,.int .u64 x.fHi,.int .u64 x.fLo]
structure A1 where
 fAddr:D1
 fLen:Int
def B0 (x:A1):D:=.st [E4 x.fAddr,.int .i64 x.fLen]
structure B5 where
 fSet:Bool
 fASNs:(List Int)
def D2 (x:B5):D:=.st [.bool x.fSet,.list 1 (x.fASNs.map (eI .i64))]
structure B7 where
 fA:Int
 fB:Int
def C4 (x:B7):D:=.st [.int .i64 x.fA,.int .i64 x.fB]
structure F5 where
 fA:Int
 fB:Int
 fC:Int
def E9 (x:F5):D:=.st [.int .i64 x.fA,.int .i64 x.fB,.int .i64 x.fC]
def A80 (x:(List Int)):D:=(.list 1 (x.map (eI .u8)))
structure A3 where
 fFlags:Int
 fType:Int
 fData:(List Int)
def B4 (x:A3):D:=.st [.int .i64 x.fFlags,.int .i64 x.fType,.list 1 (x.fData.map (eI .u8))]
@[reducible] def Zz2:List D:=[.int .i64 0,.list 2 (([]:List B5).map D2),.st Zz0,.int .i64 0,.int .i64 0,.int .i64 0,.list 2 (([]:List B7).map C4),.list 3 (([]:List F5).map E9),.list 3 (([]:List A3).map B4)]
@[reducible] def Zz5:List D:=[.int .i64 (-1),.list 2 (([]:List B5).map D2),.st Zz0,.int .i64 (-1),.int .i64 (-1),.int .i64 (-1),.list 2 (([]:List B7).map C4),.list 3 (([]:List F5).map E9),.list 3 (([]:List A3).map B4)]
def B8y (x:(List B5)):D:=(.list 2 (x.map D2))
def B82 (x:(List B7)):D:=(.list 2 (x.map C4))
def C08 (x:(List F5)):D:=(.list 3 (x.map E9))
def B8z (x:(List A3)):D:=(.list 3 (x.map B4))
structure D3 where
 fOrigin:Int
 fPath:(List B5)
 fNext:D1
 fMED:Int
 fPref:Int
 fOTC:Int
 fCommunities:(List B7)
 fLarge:(List F5)
 fOther:(List A3)
def C7 (x:D3):D:=.st [.int .i64 x.fOrigin,.list 2 (x.fPath.map D2),E4 x.fNext,.int .i64 x.fMED,.int .i64 x.fPref,.int .i64 x.fOTC,.list 2 (x.fCommunities.map C4),.list 3 (x.fLarge.map E9),.list 3 (x.fOther.map B4)]
structure D4 where
 fPrefix:A1
 fFrom:Int
 fAttrs:D3
def H1 (x:D4):D:=.st [B0 x.fPrefix,.int .i64 x.fFrom,C7 x.fAttrs]
structure A2 where
 fTo:Int
 fPrefix:A1
 fHas:Bool
 fRoute:D4
def A8 (x:A2):D:=.st [.int .i64 x.fTo,B0 x.fPrefix,.bool x.fHas,H1 x.fRoute]
@[reducible] def Zz6:List D:=[.list 22 (([]:List A2).map A8),.st Zz1]
def B9x (x:(List A2)):D:=(.list 22 (x.map A8))
structure E6 where
 fPending:(List A2)
 fBucket:F4
def F3 (x:E6):D:=.st [.list 22 (x.fPending.map A8),C8 x.fBucket]
def B9y (x:(List A1)):D:=(.list 4 (x.map B0))
structure A7 where
 fWithdraw:(List A1)
 fAttrs:D3
 fAnnounce:(List A1)
def E5 (x:A7):D:=.st [.list 4 (x.fWithdraw.map B0),C7 x.fAttrs,.list 4 (x.fAnnounce.map B0)]
def keq3 (a b:Int):Bool:=(a==b)
def keq33 (a b:A1):Bool:=(((a.fAddr.fV6==b.fAddr.fV6)&&((a.fAddr.fHi==b.fAddr.fHi)&&((a.fAddr.fLo==b.fAddr.fLo)&&true)))&&((a.fLen==b.fLen)&&true))
structure D0 where
 fattrs:D3
 fprefixes:(List A1)
def F0 (x:D0):D:=.st [C7 x.fattrs,.list 4 (x.fprefixes.map B0)]
@[reducible] def qI_1 (x:List Int):V:=.d (.list 1 (x.map (eI .i64)))
@[reducible] def H6 (x:List D4):V:=.d (.list 16 (x.map H1))
@[reducible] def F9 (x:List D4):Ob:=.row 41 16 (x.map H1)
@[reducible] def G0 (x:List A1):Ob:=.row 33 4 (x.map B0)
@[reducible] def F7 (x:List A1):V:=.d (.list 4 (x.map B0))
@[reducible] def C6 (x:List B5):V:=.d (.list 2 (x.map D2))
@[reducible] def C5 (x:List B7):V:=.d (.list 2 (x.map C4))
@[reducible] def E7 (x:List F5):V:=.d (.list 3 (x.map E9))
@[reducible] def C2 (x:List A3):V:=.d (.list 3 (x.map B4))
@[reducible] def K3 (x:List B5):Ob:=.row 75 2 (x.map D2)
@[reducible] def A49 (x:List B7):Ob:=.row 132 2 (x.map C4)
@[reducible] def A6p (x:List F5):Ob:=.row 134 3 (x.map E9)
@[reducible] def D8 (x:List A3):Ob:=.row 78 3 (x.map B4)
@[reducible] def B3 (x:List A2):Ob:=.row 43 22 (x.map A8)
@[reducible] def A6 (x:List A2):V:=.d (.list 22 (x.map A8))
@[reducible] def C1 (x:List A7):Ob:=.row 71 13 (x.map E5)
@[reducible] def C9 (x:List A7):V:=.d (.list 13 (x.map E5))
@[reducible] def C1l (x:List Int):Ob:=.row 3 1 (x.map (eI .i64))
theorem tyZS80:TyZ Tryz.prog 80 (.st [.nils,.d (.int .i64 0)]):=⟨by kernel_rfl,fun w=>by kernel_rfl⟩
theorem fnOk8:FnOk Tryz.prog 8:=⟨by kernel_rfl⟩
theorem tyZ26:TyZ Tryz.prog 26 (.st Zz8):=⟨by kernel_rfl,fun w=>by kernel_rfl⟩
theorem tyS3:TyS Tryz.prog 3 1 false:=⟨by kernel_rfl,by kernel_rfl⟩
theorem tyS27:TyS Tryz.prog 27 1 false:=⟨by kernel_rfl,by kernel_rfl⟩
theorem fnOk10:FnOk Tryz.prog 10:=⟨by kernel_rfl⟩
theorem fnOk25:FnOk Tryz.prog 25:=⟨by kernel_rfl⟩
theorem tyZS24:TyZ Tryz.prog 24 (.st [.d (.int .i64 0),.d (.int .i64 0),.d (.int .i64 0)]):=⟨by kernel_rfl,fun w=>by kernel_rfl⟩
theorem tyZS26:TyZ Tryz.prog 26 (.st Zz8):=⟨by kernel_rfl,fun w=>by kernel_rfl⟩
theorem tyS26:TyS Tryz.prog 26 4 true:=⟨by kernel_rfl,by kernel_rfl⟩
theorem tyZ33:TyZ Tryz.prog 33 (.d (.st Zz9)):=⟨by kernel_rfl,fun w=>by kernel_rfl⟩
theorem tyZS31:TyZ Tryz.prog 31 (.st [.d (.bool false),.d (.int .u64 0),.d (.int .u64 0)]):=⟨by kernel_rfl,fun w=>by kernel_rfl⟩
theorem tyZS33:TyZ Tryz.prog 33 (.st [.d (.st Zz0),.d (.int .i64 0)]):=⟨by kernel_rfl,fun w=>by kernel_rfl⟩
theorem tyS33:TyS Tryz.prog 33 4 true:=⟨by kernel_rfl,by kernel_rfl⟩
theorem fnOk34:FnOk Tryz.prog 34:=⟨by kernel_rfl⟩
theorem tyZS41:TyZ Tryz.prog 41 (.st [.d (.st Zz9),.d (.int .i64 0),.st Zz3]):=⟨by kernel_rfl,fun w=>by kernel_rfl⟩
theorem tyZ41:TyZ Tryz.prog 41 (.st [.d (.st Zz9),.d (.int .i64 0),.st Zz3]):=⟨by kernel_rfl,fun w=>by kernel_rfl⟩
theorem tyS41:TyS Tryz.prog 41 16 true:=⟨by kernel_rfl,by kernel_rfl⟩
theorem tyZ39:TyZ Tryz.prog 39 (.st Zz3):=⟨by kernel_rfl,fun w=>by kernel_rfl⟩
theorem tyZS39:TyZ Tryz.prog 39 (.st Zz3):=⟨by kernel_rfl,fun w=>by kernel_rfl⟩
theorem tyS39:TyS Tryz.prog 39 11 true:=⟨by kernel_rfl,by kernel_rfl⟩
theorem fnOk35:FnOk Tryz.prog 35:=⟨by kernel_rfl⟩
theorem tyZD3:TyZ Tryz.prog 3 (.d (.int .i64 0)):=⟨by kernel_rfl,fun w=>by kernel_rfl⟩
theorem tyZS75:TyZ Tryz.prog 75 (.st [.d (.bool false),.nils]):=⟨by kernel_rfl,fun w=>by kernel_rfl⟩
theorem tyS75:TyS Tryz.prog 75 2 true:=⟨by kernel_rfl,by kernel_rfl⟩
theorem tyZD75:TyZ Tryz.prog 75 (.d (.st [.bool false,.list 1 (([]:List Int).map (eI .i64))])):=⟨by kernel_rfl,fun w=>by kernel_rfl⟩
theorem tyS31:TyS Tryz.prog 31 3 true:=⟨by kernel_rfl,by kernel_rfl⟩
theorem tyS4:TyS Tryz.prog 4 1 false:=⟨by kernel_rfl,by kernel_rfl⟩
theorem tyZ31:TyZ Tryz.prog 31 (.d (.st Zz0)):=⟨by kernel_rfl,fun w=>by kernel_rfl⟩
theorem fnOk36:FnOk Tryz.prog 36:=⟨by kernel_rfl⟩
theorem tyS34:TyS Tryz.prog 34 1 false:=⟨by kernel_rfl,by kernel_rfl⟩
theorem tyZD41:TyZ Tryz.prog 41 (.d (.st [.st Zz9,.int .i64 0,.st Zz2])):=⟨by kernel_rfl,fun w=>by kernel_rfl⟩
theorem tyE41:TyE Tryz.prog 41 16 192:=⟨by kernel_rfl,by decide⟩
theorem tyS29:TyS Tryz.prog 29 1 false:=⟨by kernel_rfl,by kernel_rfl⟩
theorem held31:Program.stoodInHeld Tryz.prog 31=false:=by kernel_rfl
theorem feq31:∀ a b:D1,FitE Tryz.prog 2 31 (E4 a) (E4 b) ((a.fV6==b.fV6)&&((a.fHi==b.fHi)&&((a.fLo==b.fLo)&&true))):=fun a b=>(FitE.st underlying31 rfl held31 (FitF.cons (x:=(.bool a.fV6)) (y:=(.bool b.fV6)) (by decide) rfl tyS4 ⟨rfl,rfl⟩ ⟨rfl,rfl⟩ (FitE.bool (h:=0) a.fV6 b.fV6 underlying4) (FitF.cons (x:=(.int .u64 a.fHi)) (y:=(.int .u64 b.fHi)) (by decide) rfl tyS29 ⟨rfl,rfl⟩ ⟨rfl,rfl⟩ (FitE.int (h:=0) a.fHi b.fHi underlying29) (FitF.cons (x:=(.int .u64 a.fLo)) (y:=(.int .u64 b.fLo)) (by decide) rfl tyS29 ⟨rfl,rfl⟩ ⟨rfl,rfl⟩ (FitE.int (h:=0) a.fLo b.fLo underlying29) FitF.nil))))
theorem eqg31:Program.eqGuardType Tryz.prog (Program.depth Tryz.prog) 31=false:=by kernel_rfl
theorem fnOk80:FnOk Tryz.prog 80:=⟨by kernel_rfl⟩
theorem fnOk51:FnOk Tryz.prog 51:=⟨by kernel_rfl⟩
theorem held33:Program.stoodInHeld Tryz.prog 33=false:=by kernel_rfl
theorem feq33:∀ a b:A1,FitE Tryz.prog 3 33 (B0 a) (B0 b) (((a.fAddr.fV6==b.fAddr.fV6)&&((a.fAddr.fHi==b.fAddr.fHi)&&((a.fAddr.fLo==b.fAddr.fLo)&&true)))&&((a.fLen==b.fLen)&&true)):=fun a b=>(FitE.st underlying33 rfl held33 (FitF.cons (x:=(E4 a.fAddr)) (y:=(E4 b.fAddr)) (by decide) rfl tyS31 ⟨rfl,rfl⟩ ⟨rfl,rfl⟩ (FitE.st underlying31 rfl held31 (FitF.cons (x:=(.bool a.fAddr.fV6)) (y:=(.bool b.fAddr.fV6)) (by decide) rfl tyS4 ⟨rfl,rfl⟩ ⟨rfl,rfl⟩ (FitE.bool (h:=0) a.fAddr.fV6 b.fAddr.fV6 underlying4) (FitF.cons (x:=(.int .u64 a.fAddr.fHi)) (y:=(.int .u64 b.fAddr.fHi)) (by decide) rfl tyS29 ⟨rfl,rfl⟩ ⟨rfl,rfl⟩ (FitE.int (h:=0) a.fAddr.fHi b.fAddr.fHi underlying29) (FitF.cons (x:=(.int .u64 a.fAddr.fLo)) (y:=(.int .u64 b.fAddr.fLo)) (by decide) rfl tyS29 ⟨rfl,rfl⟩ ⟨rfl,rfl⟩ (FitE.int (h:=0) a.fAddr.fLo b.fAddr.fLo underlying29) FitF.nil)))) (FitF.cons (x:=(.int .i64 a.fLen)) (y:=(.int .i64 b.fLen)) (by decide) rfl tyS3 ⟨rfl,rfl⟩ ⟨rfl,rfl⟩ (FitE.int (h:=1) a.fLen b.fLen underlying3) FitF.nil)))
theorem eqg33:Program.eqGuardType Tryz.prog (Program.depth Tryz.prog) 33=false:=by kernel_rfl
theorem tyE33:TyE Tryz.prog 33 4 32:=⟨by kernel_rfl,by decide⟩
theorem tyZD33:TyZ Tryz.prog 33 (.d (.st Zz9)):=⟨by kernel_rfl,fun w=>by kernel_rfl⟩
theorem fnOk66:FnOk Tryz.prog 66:=⟨by kernel_rfl⟩
theorem fnOk67:FnOk Tryz.prog 67:=⟨by kernel_rfl⟩
theorem tyS35:TyS Tryz.prog 35 1 false:=⟨by kernel_rfl,by kernel_rfl⟩
theorem tyS36:TyS Tryz.prog 36 1 false:=⟨by kernel_rfl,by kernel_rfl⟩
theorem tyS37:TyS Tryz.prog 37 1 false:=⟨by kernel_rfl,by kernel_rfl⟩
theorem fnOk82:FnOk Tryz.prog 82:=⟨by kernel_rfl⟩
theorem tyS132:TyS Tryz.prog 132 2 true:=⟨by kernel_rfl,by kernel_rfl⟩
theorem held132:Program.stoodInHeld Tryz.prog 132=false:=by kernel_rfl
theorem feq132:∀ a b:B7,FitE Tryz.prog 2 132 (C4 a) (C4 b) ((a.fA==b.fA)&&((a.fB==b.fB)&&true)):=fun a b=>(FitE.st underlying132 rfl held132 (FitF.cons (x:=(.int .i64 a.fA)) (y:=(.int .i64 b.fA)) (by decide) rfl tyS3 ⟨rfl,rfl⟩ ⟨rfl,rfl⟩ (FitE.int (h:=0) a.fA b.fA underlying3) (FitF.cons (x:=(.int .i64 a.fB)) (y:=(.int .i64 b.fB)) (by decide) rfl tyS3 ⟨rfl,rfl⟩ ⟨rfl,rfl⟩ (FitE.int (h:=0) a.fB b.fB underlying3) FitF.nil)))
theorem eqg132:Program.eqGuardType Tryz.prog (Program.depth Tryz.prog) 132=false:=by kernel_rfl
theorem tyS134:TyS Tryz.prog 134 3 true:=⟨by kernel_rfl,by kernel_rfl⟩
theorem held134:Program.stoodInHeld Tryz.prog 134=false:=by kernel_rfl
theorem feq134:∀ a b:F5,FitE Tryz.prog 2 134 (E9 a) (E9 b) ((a.fA==b.fA)&&((a.fB==b.fB)&&((a.fC==b.fC)&&true))):=fun a b=>(FitE.st underlying134 rfl held134 (FitF.cons (x:=(.int .i64 a.fA)) (y:=(.int .i64 b.fA)) (by decide) rfl tyS3 ⟨rfl,rfl⟩ ⟨rfl,rfl⟩ (FitE.int (h:=0) a.fA b.fA underlying3) (FitF.cons (x:=(.int .i64 a.fB)) (y:=(.int .i64 b.fB)) (by decide) rfl tyS3 ⟨rfl,rfl⟩ ⟨rfl,rfl⟩ (FitE.int (h:=0) a.fB b.fB underlying3) (FitF.cons (x:=(.int .i64 a.fC)) (y:=(.int .i64 b.fC)) (by decide) rfl tyS3 ⟨rfl,rfl⟩ ⟨rfl,rfl⟩ (FitE.int (h:=0) a.fC b.fC underlying3) FitF.nil))))
theorem eqg134:Program.eqGuardType Tryz.prog (Program.depth Tryz.prog) 134=false:=by kernel_rfl
theorem tyS78:TyS Tryz.prog 78 3 true:=⟨by kernel_rfl,by kernel_rfl⟩
theorem tyS76:TyS Tryz.prog 76 1 false:=⟨by kernel_rfl,by kernel_rfl⟩
theorem tyU76:Tryz.prog.underlying 76=some (.slice 5):=by kernel_rfl
theorem fnOk55:FnOk Tryz.prog 55:=⟨by kernel_rfl⟩
theorem fnOk61:FnOk Tryz.prog 61:=⟨by kernel_rfl⟩
theorem tyZS43:TyZ Tryz.prog 43 (.st [.d (.int .i64 0),.d (.st Zz9),.d (.bool false),.st [.d (.st Zz9),.d (.int .i64 0),.st Zz3]]):=⟨by kernel_rfl,fun w=>by kernel_rfl⟩
theorem tyZ43:TyZ Tryz.prog 43 (.st [.d (.int .i64 0),.d (.st Zz9),.d (.bool false),.st [.d (.st Zz9),.d (.int .i64 0),.st Zz3]]):=⟨by kernel_rfl,fun w=>by kernel_rfl⟩
theorem tyS43:TyS Tryz.prog 43 22 true:=⟨by kernel_rfl,by kernel_rfl⟩
theorem tyZ75:TyZ Tryz.prog 75 (.st [.d (.bool false),.nils]):=⟨by kernel_rfl,fun w=>by kernel_rfl⟩
theorem tyE3:TyE Tryz.prog 3 1 8:=⟨by kernel_rfl,by decide⟩
theorem tyE75:TyE Tryz.prog 75 2 32:=⟨by kernel_rfl,by decide⟩
theorem tyE132:TyE Tryz.prog 132 2 16:=⟨by kernel_rfl,by decide⟩
theorem tyE134:TyE Tryz.prog 134 3 24:=⟨by kernel_rfl,by decide⟩
theorem tyZ78:TyZ Tryz.prog 78 (.st [.d (.int .i64 0),.d (.int .i64 0),.nils]):=⟨by kernel_rfl,fun w=>by kernel_rfl⟩
theorem tyE5:TyE Tryz.prog 5 1 1:=⟨by kernel_rfl,by decide⟩
theorem tyZS78:TyZ Tryz.prog 78 (.st [.d (.int .i64 0),.d (.int .i64 0),.nils]):=⟨by kernel_rfl,fun w=>by kernel_rfl⟩
theorem tyZD78:TyZ Tryz.prog 78 (.d (.st [.int .i64 0,.int .i64 0,.list 1 (([]:List Int).map (eI .u8))])):=⟨by kernel_rfl,fun w=>by kernel_rfl⟩
theorem tyE78:TyE Tryz.prog 78 3 40:=⟨by kernel_rfl,by decide⟩
theorem fnOk60:FnOk Tryz.prog 60:=⟨by kernel_rfl⟩
theorem fnOk58:FnOk Tryz.prog 58:=⟨by kernel_rfl⟩
theorem tyZD43:TyZ Tryz.prog 43 (.d (.st [.int .i64 0,.st Zz9,.bool false,.st [.st Zz9,.int .i64 0,.st Zz2]])):=⟨by kernel_rfl,fun w=>by kernel_rfl⟩
theorem tyE43:TyE Tryz.prog 43 22 240:=⟨by kernel_rfl,by decide⟩
theorem fnOk37:FnOk Tryz.prog 37:=⟨by kernel_rfl⟩
theorem fnOk15:FnOk Tryz.prog 15:=⟨by kernel_rfl⟩
theorem tyS24:TyS Tryz.prog 24 3 true:=⟨by kernel_rfl,by kernel_rfl⟩
theorem fnOk32:FnOk Tryz.prog 32:=⟨by kernel_rfl⟩
theorem tyS22:TyS Tryz.prog 22 1 false:=⟨by kernel_rfl,by kernel_rfl⟩
theorem fnOk90:FnOk Tryz.prog 90:=⟨by kernel_rfl⟩
theorem fnOk123:FnOk Tryz.prog 123:=⟨by kernel_rfl⟩
theorem tyS5:TyS Tryz.prog 5 1 false:=⟨by kernel_rfl,by kernel_rfl⟩
theorem tyZD5:TyZ Tryz.prog 5 (.d (.int .u8 0)):=⟨by kernel_rfl,fun w=>by kernel_rfl⟩
theorem fnOk96:FnOk Tryz.prog 96:=⟨by kernel_rfl⟩
theorem fnOk124:FnOk Tryz.prog 124:=⟨by kernel_rfl⟩
theorem fnOk84:FnOk Tryz.prog 84:=⟨by kernel_rfl⟩
theorem fnOk62:FnOk Tryz.prog 62:=⟨by kernel_rfl⟩
theorem tyZS71:TyZ Tryz.prog 71 (.st [.nils,.st Zz3,.nils]):=⟨by kernel_rfl,fun w=>by kernel_rfl⟩
theorem tyS69:TyS Tryz.prog 69 1 false:=⟨by kernel_rfl,by kernel_rfl⟩
theorem fnOk85:FnOk Tryz.prog 85:=⟨by kernel_rfl⟩
theorem tyZ132:TyZ Tryz.prog 132 (.d (.st [.int .i64 0,.int .i64 0])):=⟨by kernel_rfl,fun w=>by kernel_rfl⟩
theorem fnOk86:FnOk Tryz.prog 86:=⟨by kernel_rfl⟩
theorem tyZ134:TyZ Tryz.prog 134 (.d (.st Zz1)):=⟨by kernel_rfl,fun w=>by kernel_rfl⟩
theorem fnOk87:FnOk Tryz.prog 87:=⟨by kernel_rfl⟩
theorem fnOk88:FnOk Tryz.prog 88:=⟨by kernel_rfl⟩
theorem fnOk63:FnOk Tryz.prog 63:=⟨by kernel_rfl⟩
theorem C09:∀ a:D1,FitE Tryz.prog 2 31 (E4 a) (.st Zz0) ((a.fV6==false)&&((a.fHi==0)&&((a.fLo==0)&&true))):=fun a=>(FitE.st underlying31 rfl held31 (FitF.cons (x:=(.bool a.fV6)) (y:=(.bool false)) (by decide) rfl tyS4 ⟨rfl,rfl⟩ ⟨rfl,rfl⟩ (FitE.bool (h:=0) a.fV6 false underlying4) (FitF.cons (x:=(.int .u64 a.fHi)) (y:=(.int .u64 0)) (by decide) rfl tyS29 ⟨rfl,rfl⟩ ⟨rfl,rfl⟩ (FitE.int (h:=0) a.fHi 0 underlying29) (FitF.cons (x:=(.int .u64 a.fLo)) (y:=(.int .u64 0)) (by decide) rfl tyS29 ⟨rfl,rfl⟩ ⟨rfl,rfl⟩ (FitE.int (h:=0) a.fLo 0 underlying29) FitF.nil))))
theorem fnOk125:FnOk Tryz.prog 125:=⟨by kernel_rfl⟩
theorem fnOk89:FnOk Tryz.prog 89:=⟨by kernel_rfl⟩
theorem fnOk83:FnOk Tryz.prog 83:=⟨by kernel_rfl⟩
theorem fnOk126:FnOk Tryz.prog 126:=⟨by kernel_rfl⟩
theorem fnOk127:FnOk Tryz.prog 127:=⟨by kernel_rfl⟩
theorem fnOk91:FnOk Tryz.prog 91:=⟨by kernel_rfl⟩
theorem fnOk128:FnOk Tryz.prog 128:=⟨by kernel_rfl⟩
theorem fnOk129:FnOk Tryz.prog 129:=⟨by kernel_rfl⟩
theorem fnOk92:FnOk Tryz.prog 92:=⟨by kernel_rfl⟩
theorem fnOk64:FnOk Tryz.prog 64:=⟨by kernel_rfl⟩
theorem tyS71:TyS Tryz.prog 71 13 true:=⟨by kernel_rfl,by kernel_rfl⟩
theorem keyEq3:KeyEq Tryz.prog 3 (eI .i64) keq3:=⟨⟨1,by decide,fun a b=>(FitE.int (h:=0) a b underlying3)⟩,fun a b h=>by
 unfold keq3 at h;simp at h;simp [eI,h]⟩
theorem tyU176:Tryz.prog.underlying 176=some (.map 3 76):=by kernel_rfl
theorem fnOk130:FnOk Tryz.prog 130:=⟨by kernel_rfl⟩
theorem tyZ76:TyZ Tryz.prog 76 .nils:=⟨by kernel_rfl,fun w=>by kernel_rfl⟩
theorem tyZD76:TyZ Tryz.prog 76 (.d (.list 1 (([]:List Int).map (eI .u8)))):=⟨by kernel_rfl,fun w=>by kernel_rfl⟩
theorem fnOk93:FnOk Tryz.prog 93:=⟨by kernel_rfl⟩
theorem fnOk94:FnOk Tryz.prog 94:=⟨by kernel_rfl⟩
theorem fnOk95:FnOk Tryz.prog 95:=⟨by kernel_rfl⟩
theorem fnOk97:FnOk Tryz.prog 97:=⟨by kernel_rfl⟩
theorem fnOk65:FnOk Tryz.prog 65:=⟨by kernel_rfl⟩
theorem fnOk29:FnOk Tryz.prog 29:=⟨by kernel_rfl⟩
theorem fnOk33:FnOk Tryz.prog 33:=⟨by kernel_rfl⟩
theorem fnOk12:FnOk Tryz.prog 12:=⟨by kernel_rfl⟩
theorem fnOk41:FnOk Tryz.prog 41:=⟨by kernel_rfl⟩
theorem fnOk17:FnOk Tryz.prog 17:=⟨by kernel_rfl⟩
theorem tyZ71:TyZ Tryz.prog 71 (.st [.nils,.st Zz3,.nils]):=⟨by kernel_rfl,fun w=>by kernel_rfl⟩
theorem tyZD71:TyZ Tryz.prog 71 (.d (.st [.list 4 (([]:List A1).map B0),.st Zz2,.list 4 (([]:List A1).map B0)])):=⟨by kernel_rfl,fun w=>by kernel_rfl⟩
theorem tyE71:TyE Tryz.prog 71 13 200:=⟨by kernel_rfl,by decide⟩
theorem fnOk81:FnOk Tryz.prog 81:=⟨by kernel_rfl⟩
theorem tyE4:TyE Tryz.prog 4 1 1:=⟨by kernel_rfl,by decide⟩
theorem tyZD4:TyZ Tryz.prog 4 (.d (.bool false)):=⟨by kernel_rfl,fun w=>by kernel_rfl⟩
theorem fnOk52:FnOk Tryz.prog 52:=⟨by kernel_rfl⟩
theorem tyZ24:TyZ Tryz.prog 24 (.d (.st Zz1)):=⟨by kernel_rfl,fun w=>by kernel_rfl⟩
theorem fnOk53:FnOk Tryz.prog 53:=⟨by kernel_rfl⟩
theorem keyEq33:KeyEq Tryz.prog 33 B0 keq33:=⟨⟨3,by decide,fun a b=>(FitE.st underlying33 rfl held33 (FitF.cons (x:=(E4 a.fAddr)) (y:=(E4 b.fAddr)) (by decide) rfl tyS31 ⟨rfl,rfl⟩ ⟨rfl,rfl⟩ (FitE.st underlying31 rfl held31 (FitF.cons (x:=(.bool a.fAddr.fV6)) (y:=(.bool b.fAddr.fV6)) (by decide) rfl tyS4 ⟨rfl,rfl⟩ ⟨rfl,rfl⟩ (FitE.bool (h:=0) a.fAddr.fV6 b.fAddr.fV6 underlying4) (FitF.cons (x:=(.int .u64 a.fAddr.fHi)) (y:=(.int .u64 b.fAddr.fHi)) (by decide) rfl tyS29 ⟨rfl,rfl⟩ ⟨rfl,rfl⟩ (FitE.int (h:=0) a.fAddr.fHi b.fAddr.fHi underlying29) (FitF.cons (x:=(.int .u64 a.fAddr.fLo)) (y:=(.int .u64 b.fAddr.fLo)) (by decide) rfl tyS29 ⟨rfl,rfl⟩ ⟨rfl,rfl⟩ (FitE.int (h:=0) a.fAddr.fLo b.fAddr.fLo underlying29) FitF.nil)))) (FitF.cons (x:=(.int .i64 a.fLen)) (y:=(.int .i64 b.fLen)) (by decide) rfl tyS3 ⟨rfl,rfl⟩ ⟨rfl,rfl⟩ (FitE.int (h:=1) a.fLen b.fLen underlying3) FitF.nil)))⟩,fun a b h=>by
 unfold keq33 at h;simp at h;simp [E4,B0,h]⟩
theorem tyU82:Tryz.prog.underlying 82=some (.map 33 4):=by kernel_rfl
theorem fnOk20:FnOk Tryz.prog 20:=⟨by kernel_rfl⟩
theorem fnOk9:FnOk Tryz.prog 9:=⟨by kernel_rfl⟩
theorem fnOk30:FnOk Tryz.prog 30:=⟨by kernel_rfl⟩
theorem tyZ123:TyZ Tryz.prog 123 (.st [.st Zz3,.nils]):=⟨by kernel_rfl,fun w=>by kernel_rfl⟩
theorem fnOk141:FnOk Tryz.prog 141:=⟨by kernel_rfl⟩
theorem fnOk142:FnOk Tryz.prog 142:=⟨by kernel_rfl⟩
theorem fnOk150:FnOk Tryz.prog 150:=⟨by kernel_rfl⟩
theorem fnOk143:FnOk Tryz.prog 143:=⟨by kernel_rfl⟩
theorem fnOk112:FnOk Tryz.prog 112:=⟨by kernel_rfl⟩
theorem fnOk131:FnOk Tryz.prog 131:=⟨by kernel_rfl⟩
theorem fnOk132:FnOk Tryz.prog 132:=⟨by kernel_rfl⟩
theorem fnOk133:FnOk Tryz.prog 133:=⟨by kernel_rfl⟩
theorem fnOk134:FnOk Tryz.prog 134:=⟨by kernel_rfl⟩
theorem fnOk98:FnOk Tryz.prog 98:=⟨by kernel_rfl⟩
theorem fnOk48:FnOk Tryz.prog 48:=⟨by kernel_rfl⟩
theorem fnOk148:FnOk Tryz.prog 148:=⟨by kernel_rfl⟩
theorem fnOk114:FnOk Tryz.prog 114:=⟨by kernel_rfl⟩
theorem fnOk144:FnOk Tryz.prog 144:=⟨by kernel_rfl⟩
theorem fnOk151:FnOk Tryz.prog 151:=⟨by kernel_rfl⟩
theorem fnOk145:FnOk Tryz.prog 145:=⟨by kernel_rfl⟩
theorem fnOk152:FnOk Tryz.prog 152:=⟨by kernel_rfl⟩
theorem fnOk159:FnOk Tryz.prog 159:=⟨by kernel_rfl⟩
theorem fnOk161:FnOk Tryz.prog 161:=⟨by kernel_rfl⟩
theorem fnOk160:FnOk Tryz.prog 160:=⟨by kernel_rfl⟩
theorem fnOk193:FnOk Tryz.prog 193:=⟨by kernel_rfl⟩
theorem fnOk194:FnOk Tryz.prog 194:=⟨by kernel_rfl⟩
theorem fnOk184:FnOk Tryz.prog 184:=⟨by kernel_rfl⟩
theorem fnOk170:FnOk Tryz.prog 170:=⟨by kernel_rfl⟩
theorem fnOk111:FnOk Tryz.prog 111:=⟨by kernel_rfl⟩
theorem fnOk74:FnOk Tryz.prog 74:=⟨by kernel_rfl⟩
theorem fnOk72:FnOk Tryz.prog 72:=⟨by kernel_rfl⟩
theorem fnOk171:FnOk Tryz.prog 171:=⟨by kernel_rfl⟩
theorem fnOk169:FnOk Tryz.prog 169:=⟨by kernel_rfl⟩
theorem fnOk162:FnOk Tryz.prog 162:=⟨by kernel_rfl⟩
theorem fnOk173:FnOk Tryz.prog 173:=⟨by kernel_rfl⟩
theorem fnOk174:FnOk Tryz.prog 174:=⟨by kernel_rfl⟩
theorem fnOk172:FnOk Tryz.prog 172:=⟨by kernel_rfl⟩
theorem fnOk163:FnOk Tryz.prog 163:=⟨by kernel_rfl⟩
theorem tyS210:TyS Tryz.prog 210 1 false:=⟨by kernel_rfl,by kernel_rfl⟩
theorem tyU210:Tryz.prog.underlying 210=some (.map 3 3):=by kernel_rfl
theorem fnOk175:FnOk Tryz.prog 175:=⟨by kernel_rfl⟩
theorem fnOk164:FnOk Tryz.prog 164:=⟨by kernel_rfl⟩
theorem fnOk154:FnOk Tryz.prog 154:=⟨by kernel_rfl⟩
theorem fnOk153:FnOk Tryz.prog 153:=⟨by kernel_rfl⟩
theorem fnOk146:FnOk Tryz.prog 146:=⟨by kernel_rfl⟩
theorem tyZ37:TyZ Tryz.prog 37 .nils:=⟨by kernel_rfl,fun w=>by kernel_rfl⟩
theorem fnOk176:FnOk Tryz.prog 176:=⟨by kernel_rfl⟩
theorem fnOk178:FnOk Tryz.prog 178:=⟨by kernel_rfl⟩
theorem fnOk177:FnOk Tryz.prog 177:=⟨by kernel_rfl⟩
theorem fnOk166:FnOk Tryz.prog 166:=⟨by kernel_rfl⟩
theorem fnOk179:FnOk Tryz.prog 179:=⟨by kernel_rfl⟩
theorem fnOk180:FnOk Tryz.prog 180:=⟨by kernel_rfl⟩
theorem fnOk181:FnOk Tryz.prog 181:=⟨by kernel_rfl⟩
theorem fnOk182:FnOk Tryz.prog 182:=⟨by kernel_rfl⟩
theorem fnOk167:FnOk Tryz.prog 167:=⟨by kernel_rfl⟩
theorem fnOk165:FnOk Tryz.prog 165:=⟨by kernel_rfl⟩
theorem fnOk157:FnOk Tryz.prog 157:=⟨by kernel_rfl⟩
theorem fnOk168:FnOk Tryz.prog 168:=⟨by kernel_rfl⟩
theorem fnOk156:FnOk Tryz.prog 156:=⟨by kernel_rfl⟩
theorem fnOk155:FnOk Tryz.prog 155:=⟨by kernel_rfl⟩
theorem fnOk158:FnOk Tryz.prog 158:=⟨by kernel_rfl⟩
theorem fnOk147:FnOk Tryz.prog 147:=⟨by kernel_rfl⟩
theorem fnOk113:FnOk Tryz.prog 113:=⟨by kernel_rfl⟩
theorem fnOk75:FnOk Tryz.prog 75:=⟨by kernel_rfl⟩
theorem fnOk109:FnOk Tryz.prog 109:=⟨by kernel_rfl⟩
theorem fnOk140:FnOk Tryz.prog 140:=⟨by kernel_rfl⟩
theorem fnOk110:FnOk Tryz.prog 110:=⟨by kernel_rfl⟩
theorem fnOk73:FnOk Tryz.prog 73:=⟨by kernel_rfl⟩
theorem fnOk45:FnOk Tryz.prog 45:=⟨by kernel_rfl⟩
theorem tyS123:TyS Tryz.prog 123 12 true:=⟨by kernel_rfl,by kernel_rfl⟩
theorem fnOk116:FnOk Tryz.prog 116:=⟨by kernel_rfl⟩
theorem fnOk115:FnOk Tryz.prog 115:=⟨by kernel_rfl⟩
theorem fnOk119:FnOk Tryz.prog 119:=⟨by kernel_rfl⟩
theorem fnOk120:FnOk Tryz.prog 120:=⟨by kernel_rfl⟩
theorem fnOk121:FnOk Tryz.prog 121:=⟨by kernel_rfl⟩
theorem fnOk118:FnOk Tryz.prog 118:=⟨by kernel_rfl⟩
theorem fnOk117:FnOk Tryz.prog 117:=⟨by kernel_rfl⟩
theorem fnOk122:FnOk Tryz.prog 122:=⟨by kernel_rfl⟩
theorem fnOk78:FnOk Tryz.prog 78:=⟨by kernel_rfl⟩
theorem fnOk77:FnOk Tryz.prog 77:=⟨by kernel_rfl⟩
theorem fnOk76:FnOk Tryz.prog 76:=⟨by kernel_rfl⟩
theorem tyZS123:TyZ Tryz.prog 123 (.st [.st Zz3,.nils]):=⟨by kernel_rfl,fun w=>by kernel_rfl⟩
theorem tyZD123:TyZ Tryz.prog 123 (.d (.st [.st Zz2,.list 4 (([]:List A1).map B0)])):=⟨by kernel_rfl,fun w=>by kernel_rfl⟩
theorem tyE123:TyE Tryz.prog 123 12 176:=⟨by kernel_rfl,by decide⟩
theorem fnOk79:FnOk Tryz.prog 79:=⟨by kernel_rfl⟩
theorem fnOk46:FnOk Tryz.prog 46:=⟨by kernel_rfl⟩
theorem fnOk31:FnOk Tryz.prog 31:=⟨by kernel_rfl⟩
theorem fnOk11:FnOk Tryz.prog 11:=⟨by kernel_rfl⟩
theorem fnOk39:FnOk Tryz.prog 39:=⟨by kernel_rfl⟩
theorem fnOk68:FnOk Tryz.prog 68:=⟨by kernel_rfl⟩
theorem fnOk38:FnOk Tryz.prog 38:=⟨by kernel_rfl⟩
theorem fnOk69:FnOk Tryz.prog 69:=⟨by kernel_rfl⟩
theorem fnOk40:FnOk Tryz.prog 40:=⟨by kernel_rfl⟩
theorem tyU90:Tryz.prog.underlying 90=some (.map 33 3):=by kernel_rfl
theorem fnOk16:FnOk Tryz.prog 16:=⟨by kernel_rfl⟩
theorem fnOk44:FnOk Tryz.prog 44:=⟨by kernel_rfl⟩
theorem fnOk43:FnOk Tryz.prog 43:=⟨by kernel_rfl⟩
theorem tyJ82:∀ w,(zeroValue 82).run Tryz.prog w = .ok (.map none) w:=fun w=>by kernel_rfl
theorem tyS82:TyS Tryz.prog 82 1 false:=⟨by kernel_rfl,by kernel_rfl⟩
theorem fnOk47:FnOk Tryz.prog 47:=⟨by kernel_rfl⟩
theorem fnOk50:FnOk Tryz.prog 50:=⟨by kernel_rfl⟩
theorem fnOk49:FnOk Tryz.prog 49:=⟨by kernel_rfl⟩
theorem fnOk19:FnOk Tryz.prog 19:=⟨by kernel_rfl⟩
theorem fnOk56:FnOk Tryz.prog 56:=⟨by kernel_rfl⟩
theorem fnOk22:FnOk Tryz.prog 22:=⟨by kernel_rfl⟩
theorem fnOk13:FnOk Tryz.prog 13:=⟨by kernel_rfl⟩
theorem fnOk6:FnOk Tryz.prog 6:=⟨by kernel_rfl⟩
instance iS3:TS Tryz.prog 3 1 false:=⟨tyS3⟩
instance iS27:TS Tryz.prog 27 1 false:=⟨tyS27⟩
instance iS26:TS Tryz.prog 26 4 true:=⟨tyS26⟩
instance iS33:TS Tryz.prog 33 4 true:=⟨tyS33⟩
instance iS41:TS Tryz.prog 41 16 true:=⟨tyS41⟩
instance iS39:TS Tryz.prog 39 11 true:=⟨tyS39⟩
instance iS75:TS Tryz.prog 75 2 true:=⟨tyS75⟩
instance iS31:TS Tryz.prog 31 3 true:=⟨tyS31⟩
instance iS4:TS Tryz.prog 4 1 false:=⟨tyS4⟩
instance iS34:TS Tryz.prog 34 1 false:=⟨tyS34⟩
instance iS29:TS Tryz.prog 29 1 false:=⟨tyS29⟩
instance iS35:TS Tryz.prog 35 1 false:=⟨tyS35⟩
instance iS36:TS Tryz.prog 36 1 false:=⟨tyS36⟩
instance iS37:TS Tryz.prog 37 1 false:=⟨tyS37⟩
instance iS132:TS Tryz.prog 132 2 true:=⟨tyS132⟩
instance iS134:TS Tryz.prog 134 3 true:=⟨tyS134⟩
instance iS78:TS Tryz.prog 78 3 true:=⟨tyS78⟩
instance iS76:TS Tryz.prog 76 1 false:=⟨tyS76⟩
instance iS43:TS Tryz.prog 43 22 true:=⟨tyS43⟩
instance iS24:TS Tryz.prog 24 3 true:=⟨tyS24⟩
instance iS22:TS Tryz.prog 22 1 false:=⟨tyS22⟩
instance iS5:TS Tryz.prog 5 1 false:=⟨tyS5⟩
instance iS69:TS Tryz.prog 69 1 false:=⟨tyS69⟩
instance iS71:TS Tryz.prog 71 13 true:=⟨tyS71⟩
instance iS210:TS Tryz.prog 210 1 false:=⟨tyS210⟩
instance iS123:TS Tryz.prog 123 12 true:=⟨tyS123⟩
instance iS82:TS Tryz.prog 82 1 false:=⟨tyS82⟩
instance iZ26:TZ Tryz.prog 26 (.st Zz8):=⟨tyZ26⟩
instance iZ33:TZ Tryz.prog 33 (.d (.st Zz9)):=⟨tyZ33⟩
instance iZ41:TZ Tryz.prog 41 (.st [.d (.st Zz9),.d (.int .i64 0),.st Zz3]):=⟨tyZ41⟩
instance iZ39:TZ Tryz.prog 39 (.st Zz3):=⟨tyZ39⟩
instance iZ31:TZ Tryz.prog 31 (.d (.st Zz0)):=⟨tyZ31⟩
instance iZ43:TZ Tryz.prog 43 (.st [.d (.int .i64 0),.d (.st Zz9),.d (.bool false),.st [.d (.st Zz9),.d (.int .i64 0),.st Zz3]]):=⟨tyZ43⟩
instance iZ75:TZ Tryz.prog 75 (.st [.d (.bool false),.nils]):=⟨tyZ75⟩
instance iZ78:TZ Tryz.prog 78 (.st [.d (.int .i64 0),.d (.int .i64 0),.nils]):=⟨tyZ78⟩
instance iZ132:TZ Tryz.prog 132 (.d (.st [.int .i64 0,.int .i64 0])):=⟨tyZ132⟩
instance iZ134:TZ Tryz.prog 134 (.d (.st Zz1)):=⟨tyZ134⟩
instance iZ76:TZ Tryz.prog 76 .nils:=⟨tyZ76⟩
instance iZ71:TZ Tryz.prog 71 (.st [.nils,.st Zz3,.nils]):=⟨tyZ71⟩
instance iZ24:TZ Tryz.prog 24 (.d (.st Zz1)):=⟨tyZ24⟩
instance iZ123:TZ Tryz.prog 123 (.st [.st Zz3,.nils]):=⟨tyZ123⟩
instance iZ37:TZ Tryz.prog 37 .nils:=⟨tyZ37⟩
instance iL80:TZL Tryz.prog 80 [.nils,.d (.int .i64 0)]:=⟨tyZS80⟩
instance iP80:TP Tryz.prog 80 [(0,1),(1,1)]:=⟨⟨_,underlying80,fun w=>by kernel_rfl⟩⟩
instance iL24:TZL Tryz.prog 24 [.d (.int .i64 0),.d (.int .i64 0),.d (.int .i64 0)]:=⟨tyZS24⟩
instance iP24:TP Tryz.prog 24 [(0,1),(1,1),(2,1)]:=⟨⟨_,underlying24,fun w=>by kernel_rfl⟩⟩
instance iL26:TZL Tryz.prog 26 Zz8:=⟨tyZS26⟩
instance iP26:TP Tryz.prog 26 [(0,1),(1,3)]:=⟨⟨_,underlying26,fun w=>by kernel_rfl⟩⟩
instance iL31:TZL Tryz.prog 31 [.d (.bool false),.d (.int .u64 0),.d (.int .u64 0)]:=⟨tyZS31⟩
instance iP31:TP Tryz.prog 31 [(0,1),(1,1),(2,1)]:=⟨⟨_,underlying31,fun w=>by kernel_rfl⟩⟩
instance iL33:TZL Tryz.prog 33 [.d (.st Zz0),.d (.int .i64 0)]:=⟨tyZS33⟩
instance iP33:TP Tryz.prog 33 [(0,3),(3,1)]:=⟨⟨_,underlying33,fun w=>by kernel_rfl⟩⟩
instance iL41:TZL Tryz.prog 41 [.d (.st Zz9),.d (.int .i64 0),.st Zz3]:=⟨tyZS41⟩
instance iP41:TP Tryz.prog 41 [(0,4),(4,1),(5,11)]:=⟨⟨_,underlying41,fun w=>by kernel_rfl⟩⟩
instance iL39:TZL Tryz.prog 39 Zz3:=⟨tyZS39⟩
instance iP39:TP Tryz.prog 39 [(0,1),(1,1),(2,3),(5,1),(6,1),(7,1),(8,1),(9,1),(10,1)]:=⟨⟨_,underlying39,fun w=>by kernel_rfl⟩⟩
instance iL75:TZL Tryz.prog 75 [.d (.bool false),.nils]:=⟨tyZS75⟩
instance iP75:TP Tryz.prog 75 [(0,1),(1,1)]:=⟨⟨_,underlying75,fun w=>by kernel_rfl⟩⟩
instance iL43:TZL Tryz.prog 43 [.d (.int .i64 0),.d (.st Zz9),.d (.bool false),.st [.d (.st Zz9),.d (.int .i64 0),.st Zz3]]:=⟨tyZS43⟩
instance iP43:TP Tryz.prog 43 [(0,1),(1,4),(5,1),(6,16)]:=⟨⟨_,underlying43,fun w=>by kernel_rfl⟩⟩
instance iL78:TZL Tryz.prog 78 [.d (.int .i64 0),.d (.int .i64 0),.nils]:=⟨tyZS78⟩
instance iP78:TP Tryz.prog 78 [(0,1),(1,1),(2,1)]:=⟨⟨_,underlying78,fun w=>by kernel_rfl⟩⟩
instance iL71:TZL Tryz.prog 71 [.nils,.st Zz3,.nils]:=⟨tyZS71⟩
instance iP71:TP Tryz.prog 71 [(0,1),(1,11),(12,1)]:=⟨⟨_,underlying71,fun w=>by kernel_rfl⟩⟩
instance iL123:TZL Tryz.prog 123 [.st Zz3,.nils]:=⟨tyZS123⟩
instance iP123:TP Tryz.prog 123 [(0,11),(11,1)]:=⟨⟨_,underlying123,fun w=>by kernel_rfl⟩⟩
instance iD3:TZD Tryz.prog 3 (.int .i64 0):=⟨tyZD3⟩
instance iD75:TZD Tryz.prog 75 (.st [.bool false,.list 1 (([]:List Int).map (eI .i64))]):=⟨tyZD75⟩
instance iD41:TZD Tryz.prog 41 (.st [.st Zz9,.int .i64 0,.st Zz2]):=⟨tyZD41⟩
instance iD33:TZD Tryz.prog 33 (.st Zz9):=⟨tyZD33⟩
instance iD78:TZD Tryz.prog 78 (.st [.int .i64 0,.int .i64 0,.list 1 (([]:List Int).map (eI .u8))]):=⟨tyZD78⟩
instance iD43:TZD Tryz.prog 43 (.st [.int .i64 0,.st Zz9,.bool false,.st [.st Zz9,.int .i64 0,.st Zz2]]):=⟨tyZD43⟩
instance iD5:TZD Tryz.prog 5 (.int .u8 0):=⟨tyZD5⟩
instance iD76:TZD Tryz.prog 76 (.list 1 (([]:List Int).map (eI .u8))):=⟨tyZD76⟩
instance iD71:TZD Tryz.prog 71 (.st [.list 4 (([]:List A1).map B0),.st Zz2,.list 4 (([]:List A1).map B0)]):=⟨tyZD71⟩
instance iD4:TZD Tryz.prog 4 (.bool false):=⟨tyZD4⟩
instance iD123:TZD Tryz.prog 123 (.st [.st Zz2,.list 4 (([]:List A1).map B0)]):=⟨tyZD123⟩
instance iE41:TE Tryz.prog 41 16 192:=⟨tyE41⟩
instance iE33:TE Tryz.prog 33 4 32:=⟨tyE33⟩
instance iE3:TE Tryz.prog 3 1 8:=⟨tyE3⟩
instance iE75:TE Tryz.prog 75 2 32:=⟨tyE75⟩
instance iE132:TE Tryz.prog 132 2 16:=⟨tyE132⟩
instance iE134:TE Tryz.prog 134 3 24:=⟨tyE134⟩
instance iE5:TE Tryz.prog 5 1 1:=⟨tyE5⟩
instance iE78:TE Tryz.prog 78 3 40:=⟨tyE78⟩
instance iE43:TE Tryz.prog 43 22 240:=⟨tyE43⟩
instance iE71:TE Tryz.prog 71 13 200:=⟨tyE71⟩
instance iE4:TE Tryz.prog 4 1 1:=⟨tyE4⟩
instance iE123:TE Tryz.prog 123 12 176:=⟨tyE123⟩
instance iQ31 (a b:D1):FE Tryz.prog 31 (E4 a) (E4 b) ((a.fV6==b.fV6)&&((a.fHi==b.fHi)&&((a.fLo==b.fLo)&&true))):=⟨⟨2,rfl,feq31 a b⟩,eqg31,rfl,rfl⟩
instance iQ33 (a b:A1):FE Tryz.prog 33 (B0 a) (B0 b) (((a.fAddr.fV6==b.fAddr.fV6)&&((a.fAddr.fHi==b.fAddr.fHi)&&((a.fAddr.fLo==b.fAddr.fLo)&&true)))&&((a.fLen==b.fLen)&&true)):=⟨⟨3,rfl,feq33 a b⟩,eqg33,rfl,rfl⟩
instance iQ132 (a b:B7):FE Tryz.prog 132 (C4 a) (C4 b) ((a.fA==b.fA)&&((a.fB==b.fB)&&true)):=⟨⟨2,rfl,feq132 a b⟩,eqg132,rfl,rfl⟩
instance iQ134 (a b:F5):FE Tryz.prog 134 (E9 a) (E9 b) ((a.fA==b.fA)&&((a.fB==b.fB)&&((a.fC==b.fC)&&true))):=⟨⟨2,rfl,feq134 a b⟩,eqg134,rfl,rfl⟩
instance iR31_0 (a:D1):FE Tryz.prog 31 (E4 a) (.st Zz0) ((a.fV6==false)&&((a.fHi==0)&&((a.fLo==0)&&true))):=⟨⟨2,rfl,C09 a⟩,eqg31,rfl,rfl⟩
instance iF8:FO Tryz.prog 8:=⟨fnOk8⟩
instance iF10:FO Tryz.prog 10:=⟨fnOk10⟩
instance iF25:FO Tryz.prog 25:=⟨fnOk25⟩
instance iF34:FO Tryz.prog 34:=⟨fnOk34⟩
instance iF35:FO Tryz.prog 35:=⟨fnOk35⟩
instance iF36:FO Tryz.prog 36:=⟨fnOk36⟩
instance iF80:FO Tryz.prog 80:=⟨fnOk80⟩
instance iF51:FO Tryz.prog 51:=⟨fnOk51⟩
instance iF66:FO Tryz.prog 66:=⟨fnOk66⟩
instance iF67:FO Tryz.prog 67:=⟨fnOk67⟩
instance iF82:FO Tryz.prog 82:=⟨fnOk82⟩
instance iF55:FO Tryz.prog 55:=⟨fnOk55⟩
instance iF61:FO Tryz.prog 61:=⟨fnOk61⟩
instance iF60:FO Tryz.prog 60:=⟨fnOk60⟩
instance iF58:FO Tryz.prog 58:=⟨fnOk58⟩
instance iF37:FO Tryz.prog 37:=⟨fnOk37⟩
instance iF15:FO Tryz.prog 15:=⟨fnOk15⟩
instance iF32:FO Tryz.prog 32:=⟨fnOk32⟩
instance iF90:FO Tryz.prog 90:=⟨fnOk90⟩
instance iF123:FO Tryz.prog 123:=⟨fnOk123⟩
instance iF96:FO Tryz.prog 96:=⟨fnOk96⟩
instance iF124:FO Tryz.prog 124:=⟨fnOk124⟩
instance iF84:FO Tryz.prog 84:=⟨fnOk84⟩
instance iF62:FO Tryz.prog 62:=⟨fnOk62⟩
instance iF85:FO Tryz.prog 85:=⟨fnOk85⟩
instance iF86:FO Tryz.prog 86:=⟨fnOk86⟩
instance iF87:FO Tryz.prog 87:=⟨fnOk87⟩
instance iF88:FO Tryz.prog 88:=⟨fnOk88⟩
instance iF63:FO Tryz.prog 63:=⟨fnOk63⟩
instance iF125:FO Tryz.prog 125:=⟨fnOk125⟩
instance iF89:FO Tryz.prog 89:=⟨fnOk89⟩
instance iF83:FO Tryz.prog 83:=⟨fnOk83⟩
instance iF126:FO Tryz.prog 126:=⟨fnOk126⟩
instance iF127:FO Tryz.prog 127:=⟨fnOk127⟩
instance iF91:FO Tryz.prog 91:=⟨fnOk91⟩
instance iF128:FO Tryz.prog 128:=⟨fnOk128⟩
instance iF129:FO Tryz.prog 129:=⟨fnOk129⟩
instance iF92:FO Tryz.prog 92:=⟨fnOk92⟩
instance iF64:FO Tryz.prog 64:=⟨fnOk64⟩
instance iF130:FO Tryz.prog 130:=⟨fnOk130⟩
instance iF93:FO Tryz.prog 93:=⟨fnOk93⟩
instance iF94:FO Tryz.prog 94:=⟨fnOk94⟩
instance iF95:FO Tryz.prog 95:=⟨fnOk95⟩
instance iF97:FO Tryz.prog 97:=⟨fnOk97⟩
instance iF65:FO Tryz.prog 65:=⟨fnOk65⟩
instance iF29:FO Tryz.prog 29:=⟨fnOk29⟩
instance iF33:FO Tryz.prog 33:=⟨fnOk33⟩
instance iF12:FO Tryz.prog 12:=⟨fnOk12⟩
instance iF41:FO Tryz.prog 41:=⟨fnOk41⟩
instance iF17:FO Tryz.prog 17:=⟨fnOk17⟩
instance iF81:FO Tryz.prog 81:=⟨fnOk81⟩
instance iF52:FO Tryz.prog 52:=⟨fnOk52⟩
instance iF53:FO Tryz.prog 53:=⟨fnOk53⟩
instance iF20:FO Tryz.prog 20:=⟨fnOk20⟩
instance iF9:FO Tryz.prog 9:=⟨fnOk9⟩
instance iF30:FO Tryz.prog 30:=⟨fnOk30⟩
instance iF141:FO Tryz.prog 141:=⟨fnOk141⟩
instance iF142:FO Tryz.prog 142:=⟨fnOk142⟩
instance iF150:FO Tryz.prog 150:=⟨fnOk150⟩
instance iF143:FO Tryz.prog 143:=⟨fnOk143⟩
instance iF112:FO Tryz.prog 112:=⟨fnOk112⟩
instance iF131:FO Tryz.prog 131:=⟨fnOk131⟩
instance iF132:FO Tryz.prog 132:=⟨fnOk132⟩
instance iF133:FO Tryz.prog 133:=⟨fnOk133⟩
instance iF134:FO Tryz.prog 134:=⟨fnOk134⟩
instance iF98:FO Tryz.prog 98:=⟨fnOk98⟩
instance iF48:FO Tryz.prog 48:=⟨fnOk48⟩
instance iF148:FO Tryz.prog 148:=⟨fnOk148⟩
instance iF114:FO Tryz.prog 114:=⟨fnOk114⟩
instance iF144:FO Tryz.prog 144:=⟨fnOk144⟩
instance iF151:FO Tryz.prog 151:=⟨fnOk151⟩
instance iF145:FO Tryz.prog 145:=⟨fnOk145⟩
instance iF152:FO Tryz.prog 152:=⟨fnOk152⟩
instance iF159:FO Tryz.prog 159:=⟨fnOk159⟩
instance iF161:FO Tryz.prog 161:=⟨fnOk161⟩
instance iF160:FO Tryz.prog 160:=⟨fnOk160⟩
instance iF193:FO Tryz.prog 193:=⟨fnOk193⟩
instance iF194:FO Tryz.prog 194:=⟨fnOk194⟩
instance iF184:FO Tryz.prog 184:=⟨fnOk184⟩
instance iF170:FO Tryz.prog 170:=⟨fnOk170⟩
instance iF111:FO Tryz.prog 111:=⟨fnOk111⟩
instance iF74:FO Tryz.prog 74:=⟨fnOk74⟩
instance iF72:FO Tryz.prog 72:=⟨fnOk72⟩
instance iF171:FO Tryz.prog 171:=⟨fnOk171⟩
instance iF169:FO Tryz.prog 169:=⟨fnOk169⟩
instance iF162:FO Tryz.prog 162:=⟨fnOk162⟩
instance iF173:FO Tryz.prog 173:=⟨fnOk173⟩
instance iF174:FO Tryz.prog 174:=⟨fnOk174⟩
instance iF172:FO Tryz.prog 172:=⟨fnOk172⟩
instance iF163:FO Tryz.prog 163:=⟨fnOk163⟩
instance iF175:FO Tryz.prog 175:=⟨fnOk175⟩
instance iF164:FO Tryz.prog 164:=⟨fnOk164⟩
instance iF154:FO Tryz.prog 154:=⟨fnOk154⟩
instance iF153:FO Tryz.prog 153:=⟨fnOk153⟩
instance iF146:FO Tryz.prog 146:=⟨fnOk146⟩
instance iF176:FO Tryz.prog 176:=⟨fnOk176⟩
instance iF178:FO Tryz.prog 178:=⟨fnOk178⟩
instance iF177:FO Tryz.prog 177:=⟨fnOk177⟩
instance iF166:FO Tryz.prog 166:=⟨fnOk166⟩
instance iF179:FO Tryz.prog 179:=⟨fnOk179⟩
instance iF180:FO Tryz.prog 180:=⟨fnOk180⟩
instance iF181:FO Tryz.prog 181:=⟨fnOk181⟩
instance iF182:FO Tryz.prog 182:=⟨fnOk182⟩
instance iF167:FO Tryz.prog 167:=⟨fnOk167⟩
instance iF165:FO Tryz.prog 165:=⟨fnOk165⟩
instance iF157:FO Tryz.prog 157:=⟨fnOk157⟩
instance iF168:FO Tryz.prog 168:=⟨fnOk168⟩
instance iF156:FO Tryz.prog 156:=⟨fnOk156⟩
instance iF155:FO Tryz.prog 155:=⟨fnOk155⟩
instance iF158:FO Tryz.prog 158:=⟨fnOk158⟩
instance iF147:FO Tryz.prog 147:=⟨fnOk147⟩
instance iF113:FO Tryz.prog 113:=⟨fnOk113⟩
instance iF75:FO Tryz.prog 75:=⟨fnOk75⟩
instance iF109:FO Tryz.prog 109:=⟨fnOk109⟩
instance iF140:FO Tryz.prog 140:=⟨fnOk140⟩
instance iF110:FO Tryz.prog 110:=⟨fnOk110⟩
instance iF73:FO Tryz.prog 73:=⟨fnOk73⟩
instance iF45:FO Tryz.prog 45:=⟨fnOk45⟩
instance iF116:FO Tryz.prog 116:=⟨fnOk116⟩
instance iF115:FO Tryz.prog 115:=⟨fnOk115⟩
instance iF119:FO Tryz.prog 119:=⟨fnOk119⟩
instance iF120:FO Tryz.prog 120:=⟨fnOk120⟩
instance iF121:FO Tryz.prog 121:=⟨fnOk121⟩
instance iF118:FO Tryz.prog 118:=⟨fnOk118⟩
instance iF117:FO Tryz.prog 117:=⟨fnOk117⟩
instance iF122:FO Tryz.prog 122:=⟨fnOk122⟩
instance iF78:FO Tryz.prog 78:=⟨fnOk78⟩
instance iF77:FO Tryz.prog 77:=⟨fnOk77⟩
instance iF76:FO Tryz.prog 76:=⟨fnOk76⟩
instance iF79:FO Tryz.prog 79:=⟨fnOk79⟩
instance iF46:FO Tryz.prog 46:=⟨fnOk46⟩
instance iF31:FO Tryz.prog 31:=⟨fnOk31⟩
instance iF11:FO Tryz.prog 11:=⟨fnOk11⟩
instance iF39:FO Tryz.prog 39:=⟨fnOk39⟩
instance iF68:FO Tryz.prog 68:=⟨fnOk68⟩
instance iF38:FO Tryz.prog 38:=⟨fnOk38⟩
instance iF69:FO Tryz.prog 69:=⟨fnOk69⟩
instance iF40:FO Tryz.prog 40:=⟨fnOk40⟩
instance iF16:FO Tryz.prog 16:=⟨fnOk16⟩
instance iF44:FO Tryz.prog 44:=⟨fnOk44⟩
instance iF43:FO Tryz.prog 43:=⟨fnOk43⟩
instance iF47:FO Tryz.prog 47:=⟨fnOk47⟩
instance iF50:FO Tryz.prog 50:=⟨fnOk50⟩
instance iF49:FO Tryz.prog 49:=⟨fnOk49⟩
instance iF19:FO Tryz.prog 19:=⟨fnOk19⟩
instance iF56:FO Tryz.prog 56:=⟨fnOk56⟩
instance iF22:FO Tryz.prog 22:=⟨fnOk22⟩
instance iF13:FO Tryz.prog 13:=⟨fnOk13⟩
instance iF6:FO Tryz.prog 6:=⟨fnOk6⟩
instance iU3:Und Tryz.prog 3 (.int .i64):=⟨underlying3⟩
instance iU4:Und Tryz.prog 4 .bool:=⟨underlying4⟩
instance iU5:Und Tryz.prog 5 (.int .u8):=⟨underlying5⟩
instance iU9:Und Tryz.prog 9 .string:=⟨underlying9⟩
instance iU22:Und Tryz.prog 22 (.slice 43):=⟨underlying22⟩
instance iU24:UF Tryz.prog 24 [(3,0),(3,1),(3,2)]:=⟨⟨_,underlying24,rfl⟩⟩
instance iU26:UF Tryz.prog 26 [(22,0),(24,1)]:=⟨⟨_,underlying26,rfl⟩⟩
instance iU27:Und Tryz.prog 27 (.slice 3):=⟨underlying27⟩
instance iU29:Und Tryz.prog 29 (.int .u64):=⟨underlying29⟩
instance iU31:UF Tryz.prog 31 [(4,0),(29,1),(29,2)]:=⟨⟨_,underlying31,rfl⟩⟩
instance iU33:UF Tryz.prog 33 [(31,0),(3,3)]:=⟨⟨_,underlying33,rfl⟩⟩
instance iU34:Und Tryz.prog 34 (.slice 75):=⟨underlying34⟩
instance iU35:Und Tryz.prog 35 (.slice 132):=⟨underlying35⟩
instance iU36:Und Tryz.prog 36 (.slice 134):=⟨underlying36⟩
instance iU37:Und Tryz.prog 37 (.slice 78):=⟨underlying37⟩
instance iU39:UF Tryz.prog 39 [(3,0),(34,1),(31,2),(3,5),(3,6),(3,7),(35,8),(36,9),(37,10)]:=⟨⟨_,underlying39,rfl⟩⟩
instance iU41:UF Tryz.prog 41 [(33,0),(3,4),(39,5)]:=⟨⟨_,underlying41,rfl⟩⟩
instance iU43:UF Tryz.prog 43 [(3,0),(33,1),(4,5),(41,6)]:=⟨⟨_,underlying43,rfl⟩⟩
instance iU57:Und Tryz.prog 57 (.slice 71):=⟨underlying57⟩
instance iU65:Und Tryz.prog 65 (.slice 41):=⟨underlying65⟩
instance iU69:Und Tryz.prog 69 (.slice 33):=⟨underlying69⟩
instance iU71:UF Tryz.prog 71 [(69,0),(39,1),(69,12)]:=⟨⟨_,underlying71,rfl⟩⟩
instance iU75:UF Tryz.prog 75 [(4,0),(27,1)]:=⟨⟨_,underlying75,rfl⟩⟩
instance iU76:Und Tryz.prog 76 (.slice 5):=⟨underlying76⟩
instance iU78:UF Tryz.prog 78 [(3,0),(3,1),(76,2)]:=⟨⟨_,underlying78,rfl⟩⟩
instance iU80:UF Tryz.prog 80 [(27,0),(3,1)]:=⟨⟨_,underlying80,rfl⟩⟩
instance iU112:Und Tryz.prog 112 (.int .u64):=⟨underlying112⟩
instance iU123:UF Tryz.prog 123 [(39,0),(69,11)]:=⟨⟨_,underlying123,rfl⟩⟩
instance iU124:Und Tryz.prog 124 (.slice 123):=⟨underlying124⟩
instance iU129:Und Tryz.prog 129 (.slice 4):=⟨underlying129⟩
instance iU132:UF Tryz.prog 132 [(3,0),(3,1)]:=⟨⟨_,underlying132,rfl⟩⟩
instance iU134:UF Tryz.prog 134 [(3,0),(3,1),(3,2)]:=⟨⟨_,underlying134,rfl⟩⟩
instance iM3:Emb Tryz.prog 3 Int (eI .i64):=⟨fun _ _=>rfl⟩
instance iM4:Emb Tryz.prog 4 Bool eB:=⟨fun _ _=>rfl⟩
instance iM5:Emb Tryz.prog 5 Int (eI .u8):=⟨fun _ _=>rfl⟩
instance iM33:Emb Tryz.prog 33 A1 B0:=⟨fun _ _=>rfl⟩
instance iM41:Emb Tryz.prog 41 D4 H1:=⟨fun _ _=>rfl⟩
instance iM43:Emb Tryz.prog 43 A2 A8:=⟨fun _ _=>rfl⟩
instance iM71:Emb Tryz.prog 71 A7 E5:=⟨fun _ _=>rfl⟩
instance iM75:Emb Tryz.prog 75 B5 D2:=⟨fun _ _=>rfl⟩
instance iM78:Emb Tryz.prog 78 A3 B4:=⟨fun _ _=>rfl⟩
instance iM123:Emb Tryz.prog 123 D0 F0:=⟨fun _ _=>rfl⟩
instance iM132:Emb Tryz.prog 132 B7 C4:=⟨fun _ _=>rfl⟩
instance iM134:Emb Tryz.prog 134 F5 E9:=⟨fun _ _=>rfl⟩
def Q4 (a0:(List Int)):Option (B1):=
 some (B1.mk a0 0)
theorem A5j (a0:(List Int)) (r:B1) (h:Q4 a0=some r):AC Tryz.prog 8 [.d (.list 1 (a0.map (eI .i64)))] [] (pt 1005) [(1005,bd 80 (B8 r))]:=by
 refine AC.of_code2 Tryz.func8 rfl rfl (Nat.le_of_ble_eq_true (by rfl)) fun B hB hN => ?_;delta Q4 at h;refine sr (SQ tt) ?_;refine sr (SQ tt) ?_;apply ret;obtain rfl:=oi h;exact rt (kp [(2,_)] [(1005,some _)] hB rfl rfl (by rfl)) [pt 1005] (rT rN) rfl
def J6 (a0:Int) (a1:Int):Option (Int):=
 chk (decide (a1≠0))<|
 jn (fun p:Int=>
 some p) (fun i=>
 (if (decide ((Int.tmod a0 a1)<0))=true then
 i (w64 ((Int.tmod a0 a1)+a1))
 else
 i (Int.tmod a0 a1)))
theorem A16 (a0:Int) (a1:Int) (r:Int) (h:J6 a0 a1=some r):AC Tryz.prog 10 [.d (.int .i64 a0),.d (.int .i64 a1)] [] (.d (.int .i64 r)) []:=by
 refine AC.of_code2 Tryz.func10 rfl rfl (Nat.le_of_ble_eq_true (by rfl)) fun B hB hN => ?_;delta J6 at h;refine sr (SQ tt) ?_;obtain⟨t,h⟩:=B2 h;refine sr (SQ (fa t tt)) ?_;apply seq;refine sr (SQ tt) ?_;refine gh [(1,_),(5,_),(10,_)] [] hB rfl rfl (by rfl) ?_;refine AWp.cut h (fun i:Int=>([(5,i6 i)]:EL)) (fun i:Int=>([]:OL)) (fun i h A C u => ?_) (fun E p h => ?_)
 ·apply A0;refine ghost u ?_;refine sr (SQ tt) ?_;apply ret;obtain rfl:=oi h;exact rt (kp [(4,_)] [] hB rfl rfl (by rfl)) [i6 i] (rT rN) rfl
 ·apply AWp.cond rfl<;>intro s
  ·have h:=A4 s h;refine rg (SQ tt) ?_;exact p _ h _ _ (mp [] _ _ hB)
  ·have h:=A5 s h;apply AWp.skip;exact p _ h _ _ (mp [] _ _ hB)
def F6 (a0:B1) (a1:Int):Option (Int×B1):=
 (if (decide ((a0.fL.length:Int)≤a0.fAt))=true then
 some (0,a0)
 else
 (idx a0.fL (w64 ((w64 (a0.fAt+1))-1))).bind fun i=>
 (J6 i a1).bind fun p=>
 some (p,B1.mk a0.fL (w64 (a0.fAt+1))))
theorem G1 (a0:B1) (a1:Int) (r:Int×B1) (h:F6 a0 a1=some r):AC Tryz.prog 25 [pt 0,.d (.int .i64 a1)] [(0,.box 80 (.d (B8 a0)))] (.d (.int .i64 r.1)) [(0,bd 80 (B8 r.2))]:=by
 refine ac2 Tryz.func25 rfl rfl fun B hB hN L => ?_;delta F6 at h;refine sr (SQ tt) ?_;apply seq;refine sdS (SQ tt) ?_;apply AWp.cond rfl<;>intro i
 ·have h:=A4 i h;refine sr (SQ tt) ?_;apply ret;apply B6;obtain rfl:=oi h;exact rt (kp [(4,_)] [(0,some _)] hB rfl rfl (by rfl)) [i6 0] (rT rN) rfl
 ·have h:=A5 i h;apply AWp.skip;apply A0;refine sr (SQ tt) ?_;obtain⟨s,t,h⟩:=bindS h;obtain⟨p,u,h⟩:=bindS h;refine sdS (SQ (fa t (fa (cl [] (A16 s a1 p u)) tt))) ?_;apply ret;obtain rfl:=oi h;exact rt (kp [(4,_)] [(0,some _)] hB rfl rfl (by rfl)) [i6 p] (rT rN) rfl
def N7 (a0:Int):Option (A1):=
 (if (decide (6≤a0))=true then
 some (A1.mk (D1.mk true (bitI .or .u64 2306139568115548160 (shlI .u64 (IntKind.u64.wrap a0) 16)) 0) 48)
 else
 some (A1.mk (D1.mk false 0 (bitI .or .u64 167772160 (shlI .u64 (IntKind.u64.wrap a0) 16))) 16))
theorem A4q (a0:Int) (r:A1) (h:N7 a0=some r):AC Tryz.prog 34 [.d (.int .i64 a0)] [] (.d (B0 r)) []:=by
 refine AC.of_code2 Tryz.func34 rfl rfl (Nat.le_of_ble_eq_true (by rfl)) fun B hB hN => ?_;delta N7 at h;refine sr (SQ tt) ?_;apply seq;refine sr (SQ tt) ?_;apply AWp.cond rfl<;>intro i
 ·have h:=A4 i h;refine sr (SQ tt) ?_;apply ret;apply B6;obtain rfl:=oi h;exact rt (kp [(2,_)] [(1002,some _)] hB rfl rfl (by rfl)) [.d (.st [.st [.bool true,.int .u64 (bitI .or .u64 2306139568115548160 (shlI .u64 (IntKind.u64.wrap a0) 16)),.int .u64 0],.int .i64 48])] (Res.cell (c:=(.d (.st [.st [.bool true,.int .u64 (bitI .or .u64 2306139568115548160 (shlI .u64 (IntKind.u64.wrap a0) 16)),.int .u64 0],.int .i64 48]))) (by rfl) (by rfl) tyS33 (by rfl) (by rfl) (by rfl) rN) rfl
 ·have h:=A5 i h;apply AWp.skip;apply A0;refine sr (SQ tt) ?_;apply ret;obtain rfl:=oi h;exact rt (kp [(2,_)] [(1002,some _)] hB rfl rfl (by rfl)) [.d (.st [.st [.bool false,.int .u64 0,.int .u64 (bitI .or .u64 167772160 (shlI .u64 (IntKind.u64.wrap a0) 16))],.int .i64 16])] (Res.cell (c:=(.d (.st [.st [.bool false,.int .u64 0,.int .u64 (bitI .or .u64 167772160 (shlI .u64 (IntKind.u64.wrap a0) 16))],.int .i64 16]))) (by rfl) (by rfl) tyS33 (by rfl) (by rfl) (by rfl) rN) rfl
def A0q:Option (D3):=
 some (D3.mk (-1) ([]:List B5) (D1.mk false 0 0) (-1) (-1) (-1) ([]:List B7) ([]:List F5) ([]:List A3))
theorem A43 (r:D3) (h:A0q=some r):AC Tryz.prog 35 [] [] (.d (C7 r)) []:=by
 refine AC.of_code2 Tryz.func35 rfl rfl (Nat.le_of_ble_eq_true (by rfl)) fun B hB hN => ?_;delta A0q at h;refine sr (SQ tt) ?_;refine sr (SQ tt) ?_;apply ret;obtain rfl:=oi h;exact rt (Mat.trans (Mat.coeP (Ts:=[]) (Bs:=[(1000,bd 39 (.st Zz5))]) TwT.nil (TwB.cons (x:=(.st [i6 (-1),.nils,.d (.st Zz0),i6 (-1),i6 (-1),i6 (-1),.nils,.nils,.nils])) (by rfl) (Tw.leaf ⟨_,Co.st (CoL.cons (Co.d _) (CoL.cons (Co.nils 2) (CoL.cons (Co.d _) (CoL.cons (Co.d _) (CoL.cons (Co.d _) (CoL.cons (Co.d _) (CoL.cons (Co.nils 2) (CoL.cons (Co.nils 3) (CoL.cons (Co.nils 3) CoL.nil))))))))),rfl⟩) TwB.nil)) (mp [] [(0,pt 1000)] [(1000,bd 39 (.st Zz5))] hB)) [.d (.st Zz5)] (Res.cell (c:=(.d (.st Zz5))) (by rfl) (by rfl) tyS39 (by rfl) (by rfl) (by rfl) rN) rfl
def P2 (a0:Int) (a1:Bool):Option (D1):=
 (if a1=true then
 some (D1.mk true 2306139568115613695 (IntKind.u64.wrap a0))
 else
 some (D1.mk false 0 (bitI .or .u64 3221225984 (IntKind.u64.wrap (w64 ((Int.tmod a0 250)+1))))))
theorem A52 (a0:Int) (a1:Bool) (r:D1) (h:P2 a0 a1=some r):AC Tryz.prog 36 [.d (.int .i64 a0),.d (.bool a1)] [] (.d (E4 r)) []:=by
 refine AC.of_code2 Tryz.func36 rfl rfl (Nat.le_of_ble_eq_true (by rfl)) fun B hB hN => ?_;delta P2 at h;refine sr (SQ tt) ?_;apply seq;refine sr (SQ tt) ?_;apply AWp.cond rfl<;>intro i
 ·have h:=A4 i h;refine sr (SQ tt) ?_;apply ret;apply B6;obtain rfl:=oi h;exact rt (kp [(4,_)] [(1004,some _)] hB rfl rfl (by rfl)) [.d (.st [.bool true,.int .u64 2306139568115613695,.int .u64 (IntKind.u64.wrap a0)])] (Res.cell (c:=(.d (.st [.bool true,.int .u64 2306139568115613695,.int .u64 (IntKind.u64.wrap a0)]))) (by rfl) (by rfl) tyS31 (by rfl) (by rfl) (by rfl) rN) rfl
 ·have h:=A5 i h;apply AWp.skip;apply A0;refine sr (SQ tt) ?_;apply ret;obtain rfl:=oi h;exact rt (kp [(4,_)] [(1004,some _)] hB rfl rfl (by rfl)) [.d (.st [.bool false,.int .u64 0,.int .u64 (bitI .or .u64 3221225984 (IntKind.u64.wrap (w64 ((Int.tmod a0 250)+1))))])] (Res.cell (c:=(.d (.st [.bool false,.int .u64 0,.int .u64 (bitI .or .u64 3221225984 (IntKind.u64.wrap (w64 ((Int.tmod a0 250)+1))))]))) (by rfl) (by rfl) tyS31 (by rfl) (by rfl) (by rfl) rN) rfl
def A4r (a0:D1) (a1:D1):Option (Int):=
 (if ((a0.fV6==a1.fV6)&&((a0.fHi==a1.fHi)&&((a0.fLo==a1.fLo)&&true)))=true then
 some 0
 else
 (if (a0.fV6 != a1.fV6)=true then
 (if a1.fV6=true then
 some (-1)
 else
 some 1)
 else
 jn (fun p:Bool=>
 (if p=true then
 some (-1)
 else
 some 1)) (fun i=>
 (if (decide (a0.fHi<a1.fHi))=true then
 i true
 else
 i ((a0.fHi==a1.fHi)&&(decide (a0.fLo<a1.fLo)))))))
theorem B30 (a0:D1) (a1:D1) (r:Int) (h:A4r a0 a1=some r):AC Tryz.prog 80 [.d (E4 a0),.d (E4 a1)] [] (.d (.int .i64 r)) []:=by
 refine ac2 Tryz.func80 rfl rfl fun B hB hN L => ?_;delta A4r at h;refine sr (SQ tt) ?_;apply seq;apply block;refine sr (SQ tt) ?_;apply AWp.cond rfl<;>intro s
 ·have h:=A4 s h;refine sr (SQ tt) ?_;apply ret;apply E0;apply B6;obtain rfl:=oi h;exact rt (kp [(4,_)] [] hB rfl rfl (by rfl)) [i6 0] (rT rN) rfl
 ·have h:=A5 s h;refine sr (SQ tt) ?_;apply AWp.cond rfl<;>intro t
  ·have h:=A4 t h;apply seq;refine sr (SQ tt) ?_;apply AWp.cond rfl<;>intro u
   ·have h:=A4 u h;refine sr (SQ tt) ?_;apply ret;apply B6;apply E0;apply B6;obtain rfl:=oi h;exact rt (kp [(4,_)] [] hB rfl rfl (by rfl)) [i6 (-1)] (rT rN) rfl
   ·have h:=A5 u h;apply AWp.skip;apply A0;refine sr (SQ tt) ?_;apply ret;apply E0;apply B6;obtain rfl:=oi h;exact rt (kp [(4,_)] [] hB rfl rfl (by rfl)) [i6 1] (rT rN) rfl
  ·have h:=A5 t h;apply seq;refine AWp.cut h (fun p:Bool=>([(17,bo p)]:EL)) (fun p:Bool=>([]:OL)) (fun p h F G E => ?_) (fun H A h => ?_)
   ·apply A0;refine ghost E ?_;apply AWp.cond rfl<;>intro C
    ·have h:=A4 C h;refine sr (SQ tt) ?_;apply ret;apply E0;apply B6;obtain rfl:=oi h;exact rt (kp [(4,_)] [] hB rfl rfl (by rfl)) [i6 (-1)] (rT rN) rfl
    ·have h:=A5 C h;apply AWp.skip;apply D9;apply A0;refine sr (SQ tt) ?_;apply ret;obtain rfl:=oi h;exact rt (kp [(4,_)] [] hB rfl rfl (by rfl)) [i6 1] (rT rN) rfl
   ·rcases bft (decide (a0.fHi<a1.fHi)) with i | i
    ·have h:=A4 i h;refine rg (SQ (fa i tt)) ?_;exact A _ h _ _ (mp [] _ _ hB)
    ·have h:=A5 i h;refine rg (SQ (fa i tt)) ?_;exact A _ h _ _ (mp [] _ _ hB)
def A1n (a0:A1) (a1:A1):Option (Int):=
 (A4r a0.fAddr a1.fAddr).bind fun i=>
 (if (i != 0)=true then
 some i
 else
 (if (decide (a0.fLen<a1.fLen))=true then
 some (-1)
 else
 (if (decide (a1.fLen<a0.fLen))=true then
 some 1
 else
 some 0)))
theorem A5k (a0:A1) (a1:A1) (r:Int) (h:A1n a0 a1=some r):AC Tryz.prog 51 [.d (B0 a0),.d (B0 a1)] [] (.d (.int .i64 r)) []:=by
 refine ac2 Tryz.func51 rfl rfl fun B hB hN L => ?_;delta A1n at h;refine sr (SQ tt) ?_;apply seq;obtain⟨i,u,h⟩:=bindS h;refine sr (SQ (fa (cl [] (B30 a0.fAddr a1.fAddr i u)) tt)) ?_;refine sr (SQ tt) ?_;apply AWp.cond rfl<;>intro p
 ·have h:=A4 p h;refine sr (SQ tt) ?_;apply ret;apply B6;obtain rfl:=oi h;exact rt (kp [(4,_)] [] hB rfl rfl (by rfl)) [i6 i] (rT rN) rfl
 ·have h:=A5 p h;apply AWp.skip;apply A0;apply seq;apply block;refine sr (SQ tt) ?_;apply AWp.cond rfl<;>intro s
  ·have h:=A4 s h;refine sr (SQ tt) ?_;apply ret;apply E0;apply B6;obtain rfl:=oi h;exact rt (kp [(4,_)] [] hB rfl rfl (by rfl)) [i6 (-1)] (rT rN) rfl
  ·have h:=A5 s h;refine sr (SQ tt) ?_;apply AWp.cond rfl<;>intro t
   ·have h:=A4 t h;refine sr (SQ tt) ?_;apply ret;apply E0;apply B6;obtain rfl:=oi h;exact rt (kp [(4,_)] [] hB rfl rfl (by rfl)) [i6 1] (rT rN) rfl
   ·have h:=A5 t h;apply AWp.skip;apply D9;apply A0;refine sr (SQ tt) ?_;apply ret;obtain rfl:=oi h;exact rt (kp [(4,_)] [] hB rfl rfl (by rfl)) [i6 0] (rT rN) rfl
def A0r (p:Int×(List A1)) (t:D4) (i:Int):Option (Int⊕Int):=
 jn (fun u:Bool=>
 (if u=true then
 some (.inr (w64 (i+1)))
 else
 some (.inl i))) (fun s=>
 (if (decide (i<(p.2.length:Int)))=true then
 (idx p.2 i).bind fun _=>
 (idx p.2 i).bind fun A=>
 (A1n A t.fPrefix).bind fun C=>
 s (decide (C<0))
 else
 s false))
def T8 (a0:(List D4)) (a1:(List D4)) (i:Int×(List A1)):Option (List A1⊕(Int×(List A1))):=
 (if (decide (i.1<((a0++a1).length:Int)))=true then
 (idx (a0++a1) i.1).bind fun _=>
 (idx (a0++a1) i.1).bind fun s=>
 (loop (A0r i s) 0).bind fun p=>
 jn (fun C:Bool=>
 jn (fun E:(List A1)=>
 some (.inr (w64 (i.1+1),E))) (fun u=>
 (if C=true then
 chk (decide (0≤p)&&decide (p.toNat≤i.2.length)&&decide (i.2.length≤i.2.length))<|
 chk (decide (p.toNat+(i.2.length-p.toNat)≤i.2.length))<|
 chk (decide (((i.2.drop p.toNat).take (i.2.length-p.toNat)).length≤LIM))<|
 chk (decide (0≤p)&&decide (0≤p.toNat)&&decide (p.toNat≤i.2.length))<|
 chk (decide (((i.2.take p.toNat)++[s.fPrefix]).length≤LIM))<|
 chk (decide ((((i.2.take p.toNat)++[s.fPrefix])++((i.2.drop p.toNat).take (i.2.length-p.toNat))).length≤LIM))<|
 u (((i.2.take p.toNat)++[s.fPrefix])++((i.2.drop p.toNat).take (i.2.length-p.toNat)))
 else
 u i.2))) (fun A=>
 (if (p==(i.2.length:Int))=true then
 A true
 else
 (idx i.2 p).bind fun _=>
 (idx i.2 p).bind fun t=>
 A (!(((t.fAddr.fV6==s.fPrefix.fAddr.fV6)&&((t.fAddr.fHi==s.fPrefix.fAddr.fHi)&&((t.fAddr.fLo==s.fPrefix.fAddr.fLo)&&true)))&&((t.fLen==s.fPrefix.fLen)&&true)))))
 else
 some (.inl i.2))
def A17 (a0:(List D4)) (a1:(List D4)):Option (List A1):=
 chk (decide (a0.length≤LIM))<|
 chk (decide ((a0++a1).length≤LIM))<|
 (loop (T8 a0 a1) (0,([]:List A1))).bind fun i=>
 some i
theorem A9m (a0:(List D4)) (a1:(List D4)) (r:(List A1)) (h:A17 a0 a1=some r):AC Tryz.prog 66 [.d (.list 16 (a0.map H1)),.d (.list 16 (a1.map H1))] [] (.d (.list 4 (r.map B0))) []:=by
 refine ac2 Tryz.func66 rfl rfl fun B hB hN L => ?_;delta A17 at h;refine sr (SQ tt) ?_;refine sr (SQ tt) ?_;apply seq;obtain⟨U,h⟩:=B2 h;obtain⟨W,h⟩:=B2 h;refine sr (SQ (fa U (fa W tt))) ?_;apply block;obtain⟨u,X,h⟩:=bindS h;refine lg (T8 a0 a1) (fun i:Int×(List A1)=>([(5,.sref 3005 4 0 i.2.length),(13,.sref 1013 16 0 ((a0++a1).length)),(14,i6 ((a0++a1).length:Int)),(15,i6 i.1)]:EL)) (fun i:Int×(List A1)=>([(1013,some (F9 (a0++a1))),(3005,some (G0 i.2))]:OL)) (fun(u:(List A1)) e A C=>e = .exit 0∧Mat B A C ([(5,.sref 3005 4 0 u.length)]:EL) ([(3005,some (G0 u))]:OL)) X (Mat.trans (Mat.beginP (n:=3005) (e:=33) (sz:=4) (Ts:=[(5,.sref 3005 4 0 0)]) (Bs:=[]) hB (by decide) (by rfl) (by decide) (TwT.cons (x:=.nils) (by rfl) (Tw.leaf ⟨rfl,rfl⟩) TwT.nil) TwB.nil) (mp [] _ _ hB)) (fun i y h => ?_) (fun e A C hR => ?_)
 ·unfold T8 at h;refine sr (SQ tt) ?_;apply seq;apply AWp.cond rfl<;>intro N
  ·have h:=A4 N h;apply AWp.skip;apply A0;apply seq;apply block;obtain⟨_,Y,h⟩:=bindS h;obtain⟨s,Z,h⟩:=bindS h;refine sr (SQ (fa Y (fa Z tt))) ?_;refine sr (SQ tt) ?_;apply seq;apply block;obtain⟨p,aa,h⟩:=bindS h;refine lg (A0r i s) (fun E:Int=>([(5,.sref 3005 4 0 i.2.length),(7,pt 1007),(8,i6 E),(13,.sref 1013 16 0 ((a0++a1).length)),(14,i6 ((a0++a1).length:Int)),(15,i6 i.1)]:EL)) (fun E:Int=>([(1007,bd 41 (H1 s)),(1013,some (F9 (a0++a1))),(3005,some (G0 i.2))]:OL)) (fun(p:(Int)) e A C=>e = .exit 2∧Mat B A C ([(5,.sref 3005 4 0 i.2.length),(7,pt 1007),(8,i6 p),(13,.sref 1013 16 0 ((a0++a1).length)),(14,i6 ((a0++a1).length:Int)),(15,i6 i.1)]:EL) ([(1007,bd 41 (H1 s)),(1013,some (F9 (a0++a1))),(3005,some (G0 i.2))]:OL)) aa (mp [] _ _ hB) (fun E y h => ?_) (fun e A C hR => ?_)
   ·unfold A0r at h;apply seq;apply seq;refine AWp.cut h (fun J:Bool=>([(5,.sref 3005 4 0 i.2.length),(7,pt 1007),(8,i6 E),(13,.sref 1013 16 0 ((a0++a1).length)),(14,i6 ((a0++a1).length:Int)),(15,i6 i.1),(32,bo J)]:EL)) (fun J:Bool=>([(1007,bd 41 (H1 s)),(1013,some (F9 (a0++a1))),(3005,some (G0 i.2))]:OL)) (fun J h A C t => ?_) (fun am O h => ?_)
    ·apply A0;refine ghost t ?_;apply AWp.cond rfl<;>intro P
     ·have h:=A4 P h;apply AWp.skip;apply A0;apply block;refine rg (SQ tt) ?_;apply D9;obtain rfl:=oi h;exact⟨rfl,mp [] _ _ hB⟩
     ·have h:=A5 P h;apply AWp.exit;apply D7;obtain rfl:=oi h;exact⟨nofun,rfl,mp [] _ _ hB⟩
    ·rcases bft (decide (E<(i.2.length:Int))) with F | F
     ·have h:=A4 F h;obtain⟨_,ab,h⟩:=bindS h;obtain⟨ac,ae,h⟩:=bindS h;obtain⟨af,ag,h⟩:=bindS h;refine drS (SQ (fa F (fa ab (fa ae (fa (cl [] (A5k ac s.fPrefix af ag)) tt))))) ?_;exact O _ h _ _ (mp [] _ _ hB)
     ·have h:=A5 F h;refine drS (SQ (fa F tt)) ?_;exact O _ h _ _ (mp [] _ _ hB)
   ·obtain⟨rfl,t⟩:=hR;apply C0;apply A0;refine ghost t ?_;apply seq;refine AWp.cut h (fun K:Bool=>([(5,.sref 3005 4 0 i.2.length),(7,pt 1007),(8,i6 p),(13,.sref 1013 16 0 ((a0++a1).length)),(14,i6 ((a0++a1).length:Int)),(15,i6 i.1),(47,bo K)]:EL)) (fun K:Bool=>([(1007,bd 41 (H1 s)),(1013,some (F9 (a0++a1))),(3005,some (G0 i.2))]:OL)) (fun K h A C t => ?_) (fun an Q h => ?_)
    ·apply A0;refine ghost t ?_;refine AWp.cut h (fun I:(List A1)=>([(5,.sref 3005 4 0 I.length),(13,.sref 1013 16 0 ((a0++a1).length)),(14,i6 ((a0++a1).length:Int)),(15,i6 i.1)]:EL)) (fun I:(List A1)=>([(1013,some (F9 (a0++a1))),(3005,some (G0 I))]:OL)) (fun I h A C t => ?_) (fun ao R h => ?_)
     ·apply D9;apply A0;refine ghost t ?_;refine rg (SQ tt) ?_;obtain rfl:=oi h;exact⟨rfl,mp [] _ _ hB⟩
     ·apply AWp.cond rfl<;>intro S
      ·have h:=A4 S h;obtain⟨M,h⟩:=B2 h;obtain⟨ah,h⟩:=B2 h;obtain⟨T,h⟩:=B2 h;apply sr (c (mv hN (q 5)) rfl (c (mv hN (q 8)) rfl (c (OpJ.cutS underlying69 tyS33 (l:=p.toNat) (h:=i.2.length) (off':=p.toNat) (len':=(i.2.length-p.toNat)) (.inr ⟨_,_,_,rfl,ot 49 (i6 p),of_decide_eq_true (S7 (S7 M)),rfl⟩) (.inl ⟨rfl,rfl,rfl⟩) (of_decide_eq_true (V5 (S7 M))) (of_decide_eq_true (V5 M)) (by simp) (by simp) (L rfl) (q 48)) rfl (cg (OpJ.appendNS hB underlying69 tyE33 (nm:=1051) (by decide) (es:=i.2.map B0) (ys:=((i.2.drop p.toNat).take (i.2.length-p.toNat)).map B0) (by rw [List.length_map];exact of_decide_eq_true ah) (by first | rw [List.map_drop,List.map_take] | (simp [List.map_take,List.map_drop];done) | simp [List.take_of_length_le]) (len:=((i.2.drop p.toNat).take (i.2.length-p.toNat)).length) (by simp) (A4o (f:=B0) (fun _=>rfl)) (by rw [List.length_map];exact X2 T (by decide)) (by rw [List.length_map];exact A25 T) (L rfl) Opd.nils (q 50)) rfl (c (assign (L rfl) (q 51)) rfl cn)))))
       refine gh [(5,_),(7,_),(8,_),(9,_),(13,_),(14,_),(15,_)] [(1007,some _),(1013,some _),(1051,some _),(3005,some _)] hB rfl rfl (by rfl) ?_;refine ghost (Mat.freezeP (n:=1051) (e:=33) (sz:=4) (es:=((i.2.drop p.toNat).take (i.2.length-p.toNat)).map B0) (Ts:=[(9,F7 ((i.2.drop p.toNat).take (i.2.length-p.toNat)))]) (Bs:=[]) (by rfl) (TwT.cons (x:=(.sref 1051 4 0 (((i.2.drop p.toNat).take (i.2.length-p.toNat)).length))) (by rfl) (FrzL.all (by first | rfl | (simp;done) | (simp;omega) | omega)) TwT.nil) TwB.nil) ?_
       obtain⟨G,h⟩:=B2 h;obtain⟨ai,h⟩:=B2 h;obtain⟨aj,h⟩:=B2 h;apply dr (c (mv hN (q 5)) rfl (c (mv hN (q 8)) rfl (cg (OpJ.val (v':=(.sref 3005 4 0 ((i.2.take p.toNat).length))) (by rw [List.length_take,Nat.min_eq_left (of_decide_eq_true (V5 G))]) (OpJ.shrS (OpJ.cutS underlying69 tyS33 (l:=0) (h:=p.toNat) (off':=0) (len':=p.toNat) (.inl ⟨rfl,rfl,rfl⟩) (.inr ⟨_,_,_,rfl,ot 53 (i6 p),of_decide_eq_true (S7 (S7 G)),rfl⟩) (of_decide_eq_true (V5 (S7 G))) (of_decide_eq_true (V5 G)) (by simp) (by simp) (L rfl) (q 52)) (es':=(i.2.take p.toNat).map B0) (by rw [List.length_map];exact(of_decide_eq_true (V5 G))) (by rw [List.map_take]))) rfl (c (fo 1007 0 [0] hN underlying41 0 tyS33 (q 7)) rfl (c (la hN 41 tyS33 (q 55)) rfl (c (buildSlice underlying69 tyS33 tyZD33 (by rfl) (by decide) (by decide) (Opds.cons (q 56) Opds.nil) (by kernel_rfl) (es:=([B0 s.fPrefix]:List D)) (by rfl) (by rfl) (by kernel_rfl) (by simp) (L rfl)) rfl (cg (apd hB underlying69 tyE33 1058 B0 (i.2.take p.toNat) [s.fPrefix] ai (L rfl) (q 54) (q 57)) rfl (c (mv hN (q 9)) rfl (cg (apd hB underlying69 tyE33 1060 B0 ((i.2.take p.toNat)++[s.fPrefix]) ((i.2.drop p.toNat).take (i.2.length-p.toNat)) aj (L rfl) (q 58) (q 59)) rfl (c (assign (L rfl) (q 60)) rfl cn)))))))))) (by kernel_rfl) (by kernel_rfl);exact R _ h _ _ (mp [(3005,1060)] _ _ hB)
      ·have h:=A5 S h;apply AWp.skip;exact R _ h _ _ (mp [] _ _ hB)
    ·rcases bft (p==(i.2.length:Int)) with H | H
     ·have h:=A4 H h;refine drS (SQ (fa H tt)) ?_;exact Q _ h _ _ (mp [] _ _ hB)
     ·have h:=A5 H h;obtain⟨_,ak,h⟩:=bindS h;obtain⟨_,al,h⟩:=bindS h;refine drS (SQ (fa H (fa ak (fa al tt)))) ?_;exact Q _ h _ _ (mp [] _ _ hB)
  ·have h:=A5 N h;apply AWp.exit;apply D7;obtain rfl:=oi h;exact⟨nofun,rfl,mp [] _ _ hB⟩
 ·obtain⟨rfl,t⟩:=hR;apply C0;apply A0;refine ghost t ?_;refine sr (SQ tt) ?_;apply ret;obtain rfl:=oi h;exact rt (Mat.trans (Mat.freezeP (n:=3005) (e:=33) (sz:=4) (es:=u.map B0) (Ts:=[(4,F7 u)]) (Bs:=[]) (by rfl) (TwT.cons (x:=(.sref 3005 4 0 u.length)) (by rfl) (FrzL.all (by first | rfl | (simp;done) | (simp;omega) | omega)) TwT.nil) TwB.nil) (mp [] [(4,F7 u)] [] hB)) [F7 u] (rT rN) rfl
def A08 (a0:(List D4)) (a1:A1) (p:Int):Option ((D4⊕Unit)⊕Int):=
 (if (decide (p<(a0.length:Int)))=true then
 (idx a0 p).bind fun i=>
 (if (((i.fPrefix.fAddr.fV6==a1.fAddr.fV6)&&((i.fPrefix.fAddr.fHi==a1.fAddr.fHi)&&((i.fPrefix.fAddr.fLo==a1.fAddr.fLo)&&true)))&&((i.fPrefix.fLen==a1.fLen)&&true))=true then
 some (.inl (.inl i))
 else
 some (.inr (w64 (p+1))))
 else
 some (.inl (.inr ())))
def A1x (a0:(List D4)) (a1:A1):Option (D4×Bool):=
 (loop (A08 a0 a1) 0).bind fun i=>match i with
 | (.inl p)=>
  some (p,true)
 | (.inr _)=>
  some (D4.mk (A1.mk (D1.mk false 0 0) 0) 0 (D3.mk 0 ([]:List B5) (D1.mk false 0 0) 0 0 0 ([]:List B7) ([]:List F5) ([]:List A3)),false)
theorem A7d (a0:(List D4)) (a1:A1) (r:D4×Bool) (h:A1x a0 a1=some r):AC Tryz.prog 67 [.d (.list 16 (a0.map H1)),.d (B0 a1)] [] (.tup [.d (H1 r.1),.d (.bool r.2)]) []:=by
 refine ac2 Tryz.func67 rfl rfl fun B hB hN L => ?_;delta A1x at h;refine sr (SQ tt) ?_;apply seq;refine sr (SQ tt) ?_;apply block;obtain⟨E,F,h⟩:=bindS h;refine lg (A08 a0 a1) (fun p:Int=>([(3,pt 1003),(4,pt 1004),(8,H6 a0),(9,i6 (a0.length:Int)),(10,i6 p)]:EL)) (fun p:Int=>([(1003,bd 33 (B0 a1)),(1004,some (.box 41 (.st [.d (.st Zz9),i6 0,.st Zz7])))]:OL)) (fun(x:(D4)⊕Unit) e s t=>match x with | (.inl i)=>e = .ret∧Mat B s t ([(4,pt 1004),(5,bo true)]:EL) ([(1004,bd 41 (H1 i))]:OL) | (.inr _p)=>e = .exit 0∧Mat B s t ([(4,pt 1004)]:EL) ([(1004,some (.box 41 (.st [.d (.st Zz9),i6 0,.st Zz7])))]:OL)) F (mp [] _ _ hB) (fun p y h => ?_) (fun e s t hR => ?_)
 ·unfold A08 at h;refine sr (SQ tt) ?_;apply seq;apply AWp.cond rfl<;>intro A
  ·have h:=A4 A h;apply AWp.skip;apply A0;apply seq;apply block;obtain⟨_,G,h⟩:=bindS h;refine sr (SQ (fa G tt)) ?_;refine sr (SQ tt) ?_;apply AWp.cond rfl<;>intro C
   ·have h:=A4 C h;refine sr (SQ tt) ?_;apply ret;apply E0;apply B6;obtain rfl:=oi h;exact⟨nofun,rfl,mp [] _ _ hB⟩
   ·have h:=A5 C h;apply AWp.skip;apply D9;apply A0;refine rg (SQ tt) ?_;obtain rfl:=oi h;exact⟨rfl,mp [] _ _ hB⟩
  ·have h:=A5 A h;apply AWp.exit;apply D7;obtain rfl:=oi h;exact⟨nofun,rfl,mp [] _ _ hB⟩
 ·rcases E with i | _
  ·obtain⟨rfl,u⟩:=hR;apply E0;apply B6;obtain rfl:=oi h;exact rt (Mat.trans u (mp [] [(4,pt 1004),(5,bo true)] [(1004,bd 41 (H1 i))] hB)) [.d (H1 i),bo true] (Res.cell (c:=(.d (H1 i))) (by rfl) (by rfl) tyS41 (by rfl) (by rfl) (by rfl) (rT rN)) rfl
  ·obtain⟨rfl,u⟩:=hR;apply C0;apply A0;refine ghost u ?_;refine sr (SQ tt) ?_;apply ret;obtain rfl:=oi h;exact rt (Mat.trans (Mat.coeP (Ts:=[]) (Bs:=[(1004,some (.box 41 (.d (.st [.st Zz9,.int .i64 0,.st Zz2]))))]) TwT.nil (TwB.cons (x:=(.st [.d (.st Zz9),i6 0,.st Zz7])) (by rfl) (Tw.leaf ⟨_,Co.st (CoL.cons (Co.d _) (CoL.cons (Co.d _) (CoL.cons (Co.st (CoL.cons (Co.d _) (CoL.cons (Co.nils 2) (CoL.cons (Co.d _) (CoL.cons (Co.d _) (CoL.cons (Co.d _) (CoL.cons (Co.d _) (CoL.cons (Co.nils 2) (CoL.cons (Co.nils 3) (CoL.cons (Co.nils 3) CoL.nil)))))))))) CoL.nil))),rfl⟩) TwB.nil)) (mp [] [(4,pt 1004),(5,bo false)] [(1004,some (.box 41 (.d (.st [.st Zz9,.int .i64 0,.st Zz2]))))] hB)) [.d (.st [.st Zz9,.int .i64 0,.st Zz2]),bo false] (Res.cell (c:=(.d (.st [.st Zz9,.int .i64 0,.st Zz2]))) (by rfl) (by rfl) tyS41 (by rfl) (by rfl) (by rfl) (rT rN)) rfl
def M3 (a0:(List Int)) (a1:(List Int)) (i:Int):Option ((Unit⊕Unit)⊕Int):=
 (if (decide (i<(a0.length:Int)))=true then
 (idx a0 i).bind fun p=>
 (idx a1 i).bind fun s=>
 (if (p != s)=true then
 some (.inl (.inl ()))
 else
 some (.inr (w64 (i+1))))
 else
 some (.inl (.inr ())))
def X3 (a0:(List Int)) (a1:(List Int)):Option (Bool):=
 (if ((a0.length:Int) != (a1.length:Int))=true then
 some false
 else
 (loop (M3 a0 a1) 0).bind fun i=>match i with
 | (.inl _)=>
  some false
 | (.inr _)=>
  some true)
theorem A8k (a0:(List Int)) (a1:(List Int)) (r:Bool) (h:X3 a0 a1=some r):AC Tryz.prog 82 [.d (.list 1 (a0.map (eI .i64))),.d (.list 1 (a1.map (eI .i64)))] [] (.d (.bool r)) []:=by
 refine ac2 Tryz.func82 rfl rfl fun B hB hN L => ?_;delta X3 at h;refine sr (SQ tt) ?_;apply seq;refine sr (SQ tt) ?_;apply AWp.cond rfl<;>intro u
 ·have h:=A4 u h;refine sr (SQ tt) ?_;apply ret;apply B6;obtain rfl:=oi h;exact rt (kp [(4,_)] [] hB rfl rfl (by rfl)) [bo false] (rT rN) rfl
 ·have h:=A5 u h;apply AWp.skip;apply A0;apply seq;refine sr (SQ tt) ?_;apply block;obtain⟨E,F,h⟩:=bindS h;refine lg (M3 a0 a1) (fun i:Int=>([(0,qI_1 a0),(1,qI_1 a1),(12,i6 (a0.length:Int)),(13,i6 i)]:EL)) (fun i:Int=>([]:OL)) (fun(x:(Unit)⊕Unit) e p s=>match x with | (.inl _p)=>e = .ret∧Mat B p s ([(4,bo false)]:EL) ([]:OL) | (.inr _p)=>e = .exit 0∧Mat B p s ([]:EL) ([]:OL)) F (mp [] _ _ hB) (fun i y h => ?_) (fun e p s hR => ?_)
  ·unfold M3 at h;refine sr (SQ tt) ?_;apply seq;apply AWp.cond rfl<;>intro A
   ·have h:=A4 A h;apply AWp.skip;apply A0;apply seq;apply block;refine sr (SQ tt) ?_;obtain⟨_,G,h⟩:=bindS h;obtain⟨_,H,h⟩:=bindS h;refine sdS (SQ (fa G (fa H tt))) ?_;apply AWp.cond rfl<;>intro C
    ·have h:=A4 C h;refine sr (SQ tt) ?_;apply ret;apply E0;apply B6;obtain rfl:=oi h;exact⟨nofun,rfl,mp [] _ _ hB⟩
    ·have h:=A5 C h;apply AWp.skip;apply D9;apply A0;refine rg (SQ tt) ?_;obtain rfl:=oi h;exact⟨rfl,mp [] _ _ hB⟩
   ·have h:=A5 A h;apply AWp.exit;apply D7;obtain rfl:=oi h;exact⟨nofun,rfl,mp [] _ _ hB⟩
  ·rcases E with _ | _
   ·obtain⟨rfl,t⟩:=hR;apply E0;apply B6;obtain rfl:=oi h;exact rt (Mat.trans t (mp [] [(4,bo false)] [] hB)) [bo false] (rT rN) rfl
   ·obtain⟨rfl,t⟩:=hR;apply C0;apply A0;refine ghost t ?_;refine sr (SQ tt) ?_;apply ret;obtain rfl:=oi h;exact rt (kp [(4,_)] [] hB rfl rfl (by rfl)) [bo true] (rT rN) rfl
def H2 (a0:D3) (a1:D3) (i:Int):Option ((Unit⊕Unit)⊕Int):=
 (if (decide (i<(a0.fPath.length:Int)))=true then
 jn (fun s:Bool=>
 (if s=true then
 some (.inl (.inl ()))
 else
 some (.inr (w64 (i+1))))) (fun p=>
 (idx a0.fPath i).bind fun t=>
 (idx a1.fPath i).bind fun u=>
 (if (t.fSet != u.fSet)=true then
 p true
 else
 (idx a0.fPath i).bind fun A=>
 (idx a1.fPath i).bind fun C=>
 (X3 A.fASNs C.fASNs).bind fun E=>
 p (!E)))
 else
 some (.inl (.inr ())))
def I8 (a0:D3) (a1:D3) (i:Int):Option ((Unit⊕Unit)⊕Int):=
 (if (decide (i<(a0.fCommunities.length:Int)))=true then
 (idx a0.fCommunities i).bind fun p=>
 (idx a1.fCommunities i).bind fun s=>
 (if (!((p.fA==s.fA)&&((p.fB==s.fB)&&true)))=true then
 some (.inl (.inl ()))
 else
 some (.inr (w64 (i+1))))
 else
 some (.inl (.inr ())))
def I9 (a0:D3) (a1:D3) (i:Int):Option ((Unit⊕Unit)⊕Int):=
 (if (decide (i<(a0.fLarge.length:Int)))=true then
 (idx a0.fLarge i).bind fun p=>
 (idx a1.fLarge i).bind fun s=>
 (if (!((p.fA==s.fA)&&((p.fB==s.fB)&&((p.fC==s.fC)&&true))))=true then
 some (.inl (.inl ()))
 else
 some (.inr (w64 (i+1))))
 else
 some (.inl (.inr ())))
def J0 (a0:D3) (a1:D3) (i:Int):Option ((Unit⊕Unit)⊕Int):=
 (if (decide (i<(a0.fOther.length:Int)))=true then
 jn (fun s:Bool=>
 (if s=true then
 some (.inl (.inl ()))
 else
 some (.inr (w64 (i+1))))) (fun p=>
 (idx a0.fOther i).bind fun t=>
 (idx a1.fOther i).bind fun u=>
 (if (t.fFlags != u.fFlags)=true then
 p true
 else
 (idx a0.fOther i).bind fun A=>
 (idx a1.fOther i).bind fun C=>
 (if (A.fType != C.fType)=true then
 p true
 else
 (idx a0.fOther i).bind fun E=>
 (idx a1.fOther i).bind fun F=>
 p ((bstr E.fData) != (bstr F.fData)))))
 else
 some (.inl (.inr ())))
def I1 (a0:D3) (a1:D3):Option (Bool):=
 (if (((((((((a0.fOrigin != a1.fOrigin) || (!((a0.fNext.fV6==a1.fNext.fV6)&&((a0.fNext.fHi==a1.fNext.fHi)&&((a0.fNext.fLo==a1.fNext.fLo)&&true))))) || (a0.fMED != a1.fMED)) || (a0.fPref != a1.fPref)) || (a0.fOTC != a1.fOTC)) || ((a0.fPath.length:Int) != (a1.fPath.length:Int))) || ((a0.fCommunities.length:Int) != (a1.fCommunities.length:Int))) || ((a0.fLarge.length:Int) != (a1.fLarge.length:Int))) || ((a0.fOther.length:Int) != (a1.fOther.length:Int)))=true then
 some false
 else
 (loop (H2 a0 a1) 0).bind fun i=>match i with
 | (.inl _)=>
  some false
 | (.inr _)=>
  (loop (I8 a0 a1) 0).bind fun p=>match p with
  | (.inl _)=>
   some false
  | (.inr _)=>
   (loop (I9 a0 a1) 0).bind fun s=>match s with
   | (.inl _)=>
    some false
   | (.inr _)=>
    (loop (J0 a0 a1) 0).bind fun t=>match t with
    | (.inl _)=>
     some false
    | (.inr _)=>
     some true)
theorem A4a (a0:D3) (a1:D3) (r:Bool) (h:I1 a0 a1=some r):AC Tryz.prog 55 [.d (C7 a0),.d (C7 a1)] [] (.d (.bool r)) []:=by
 refine ac2 Tryz.func55 rfl rfl fun B hB hN L => ?_;delta I1 at h;refine sr (SQ tt) ?_;apply seq;refine sr (SQ tt) ?_;apply AWp.cond rfl<;>intro P
 ·have h:=A4 P h;refine sr (SQ tt) ?_;apply ret;apply B6;obtain rfl:=oi h;exact rt (kp [(4,_)] [] hB rfl rfl (by rfl)) [bo false] (rT rN) rfl
 ·have h:=A5 P h;apply AWp.skip;apply A0;apply seq;refine sr (SQ tt) ?_;apply block;obtain⟨af,ag,h⟩:=bindS h;refine lg (H2 a0 a1) (fun C:Int=>([(2,pt 1002),(3,pt 1003),(80,i6 (a0.fPath.length:Int)),(81,i6 C)]:EL)) (fun C:Int=>([(1002,bd 39 (C7 a0)),(1003,bd 39 (C7 a1))]:OL)) (fun(x:(Unit)⊕Unit) e p s=>match x with | (.inl _p)=>e = .ret∧Mat B p s ([(4,bo false)]:EL) ([]:OL) | (.inr _p)=>e = .exit 0∧Mat B p s ([(2,pt 1002),(3,pt 1003)]:EL) ([(1002,bd 39 (C7 a0)),(1003,bd 39 (C7 a1))]:OL)) ag (mp [] _ _ hB) (fun C y h => ?_) (fun e p s hR => ?_)
  ·unfold H2 at h;refine sr (SQ tt) ?_;apply seq;apply AWp.cond rfl<;>intro Q
   ·have h:=A4 Q h;apply AWp.skip;apply A0;apply seq;apply block;refine sr (SQ tt) ?_;apply seq;refine AWp.cut h (fun H:Bool=>([(2,pt 1002),(3,pt 1003),(80,i6 (a0.fPath.length:Int)),(81,i6 C),(112,bo H)]:EL)) (fun H:Bool=>([(1002,bd 39 (C7 a0)),(1003,bd 39 (C7 a1))]:OL)) (fun H h p s i => ?_) (fun bb R h => ?_)
    ·apply A0;refine ghost i ?_;apply AWp.cond rfl<;>intro S
     ·have h:=A4 S h;refine sr (SQ tt) ?_;apply ret;apply E0;apply B6;obtain rfl:=oi h;exact⟨nofun,rfl,mp [] _ _ hB⟩
     ·have h:=A5 S h;apply AWp.skip;apply D9;apply A0;refine rg (SQ tt) ?_;obtain rfl:=oi h;exact⟨rfl,mp [] _ _ hB⟩
    ·obtain⟨ah,T,h⟩:=bindS h;obtain⟨ai,U,h⟩:=bindS h;rcases bft (ah.fSet != ai.fSet) with u | u
     ·have h:=A4 u h;refine drS (SQ (fa T (fa U (fa u tt)))) ?_;exact R _ h _ _ (mp [] _ _ hB)
     ·have h:=A5 u h;obtain⟨aj,ak,h⟩:=bindS h;obtain⟨al,am,h⟩:=bindS h;obtain⟨an,ao,h⟩:=bindS h;refine drS (SQ (fa T (fa U (fa u (fa ak (fa am (fa (cl [] (A8k aj.fASNs al.fASNs an ao)) tt))))))) ?_;exact R _ h _ _ (mp [] _ _ hB)
   ·have h:=A5 Q h;apply AWp.exit;apply D7;obtain rfl:=oi h;exact⟨nofun,rfl,mp [] _ _ hB⟩
  ·rcases af with _ | _
   ·obtain⟨rfl,i⟩:=hR;apply E0;apply B6;obtain rfl:=oi h;exact rt (Mat.trans i (mp [] [(4,bo false)] [] hB)) [bo false] (rT rN) rfl
   ·obtain⟨rfl,i⟩:=hR;apply C0;apply A0;refine ghost i ?_;apply seq;refine sr (SQ tt) ?_;apply block;obtain⟨ap,aq,h⟩:=bindS h;refine lg (I8 a0 a1) (fun I:Int=>([(2,pt 1002),(3,pt 1003),(116,i6 (a0.fCommunities.length:Int)),(117,i6 I)]:EL)) (fun I:Int=>([(1002,bd 39 (C7 a0)),(1003,bd 39 (C7 a1))]:OL)) (fun(x:(Unit)⊕Unit) e p s=>match x with | (.inl _p)=>e = .ret∧Mat B p s ([(4,bo false)]:EL) ([]:OL) | (.inr _p)=>e = .exit 2∧Mat B p s ([(2,pt 1002),(3,pt 1003)]:EL) ([(1002,bd 39 (C7 a0)),(1003,bd 39 (C7 a1))]:OL)) aq (mp [] _ _ hB) (fun I y h => ?_) (fun e p s hR => ?_)
    ·unfold I8 at h;refine sr (SQ tt) ?_;apply seq;apply AWp.cond rfl<;>intro W
     ·have h:=A4 W h;apply AWp.skip;apply A0;apply seq;apply block;refine sr (SQ tt) ?_;obtain⟨_,ar,h⟩:=bindS h;obtain⟨_,au,h⟩:=bindS h;refine sdS (SQ (fa ar (fa au tt))) ?_;apply AWp.cond rfl<;>intro X
      ·have h:=A4 X h;refine sr (SQ tt) ?_;apply ret;apply E0;apply B6;obtain rfl:=oi h;exact⟨nofun,rfl,mp [] _ _ hB⟩
      ·have h:=A5 X h;apply AWp.skip;apply D9;apply A0;refine rg (SQ tt) ?_;obtain rfl:=oi h;exact⟨rfl,mp [] _ _ hB⟩
     ·have h:=A5 W h;apply AWp.exit;apply D7;obtain rfl:=oi h;exact⟨nofun,rfl,mp [] _ _ hB⟩
    ·rcases ap with _ | _
     ·obtain⟨rfl,i⟩:=hR;apply E0;apply B6;obtain rfl:=oi h;exact rt (Mat.trans i (mp [] [(4,bo false)] [] hB)) [bo false] (rT rN) rfl
     ·obtain⟨rfl,i⟩:=hR;apply C0;apply A0;refine ghost i ?_;apply seq;refine sr (SQ tt) ?_;apply block;obtain⟨av,aw,h⟩:=bindS h;refine lg (I9 a0 a1) (fun J:Int=>([(2,pt 1002),(3,pt 1003),(134,i6 (a0.fLarge.length:Int)),(135,i6 J)]:EL)) (fun J:Int=>([(1002,bd 39 (C7 a0)),(1003,bd 39 (C7 a1))]:OL)) (fun(x:(Unit)⊕Unit) e p s=>match x with | (.inl _p)=>e = .ret∧Mat B p s ([(4,bo false)]:EL) ([]:OL) | (.inr _p)=>e = .exit 4∧Mat B p s ([(2,pt 1002),(3,pt 1003)]:EL) ([(1002,bd 39 (C7 a0)),(1003,bd 39 (C7 a1))]:OL)) aw (mp [] _ _ hB) (fun J y h => ?_) (fun e p s hR => ?_)
      ·unfold I9 at h;refine sr (SQ tt) ?_;apply seq;apply AWp.cond rfl<;>intro Y
       ·have h:=A4 Y h;apply AWp.skip;apply A0;apply seq;apply block;refine sr (SQ tt) ?_;obtain⟨_,ax,h⟩:=bindS h;obtain⟨_,ay,h⟩:=bindS h;refine sdS (SQ (fa ax (fa ay tt))) ?_;apply AWp.cond rfl<;>intro Z
        ·have h:=A4 Z h;refine sr (SQ tt) ?_;apply ret;apply E0;apply B6;obtain rfl:=oi h;exact⟨nofun,rfl,mp [] _ _ hB⟩
        ·have h:=A5 Z h;apply AWp.skip;apply D9;apply A0;refine rg (SQ tt) ?_;obtain rfl:=oi h;exact⟨rfl,mp [] _ _ hB⟩
       ·have h:=A5 Y h;apply AWp.exit;apply D7;obtain rfl:=oi h;exact⟨nofun,rfl,mp [] _ _ hB⟩
      ·rcases av with _ | _
       ·obtain⟨rfl,i⟩:=hR;apply E0;apply B6;obtain rfl:=oi h;exact rt (Mat.trans i (mp [] [(4,bo false)] [] hB)) [bo false] (rT rN) rfl
       ·obtain⟨rfl,i⟩:=hR;apply C0;apply A0;refine ghost i ?_;apply seq;refine sr (SQ tt) ?_;apply block;obtain⟨az,a4,h⟩:=bindS h;refine lg (J0 a0 a1) (fun E:Int=>([(2,pt 1002),(3,pt 1003),(152,i6 (a0.fOther.length:Int)),(153,i6 E)]:EL)) (fun E:Int=>([(1002,bd 39 (C7 a0)),(1003,bd 39 (C7 a1))]:OL)) (fun(x:(Unit)⊕Unit) e p s=>match x with | (.inl _p)=>e = .ret∧Mat B p s ([(4,bo false)]:EL) ([]:OL) | (.inr _p)=>e = .exit 6∧Mat B p s ([]:EL) ([]:OL)) a4 (mp [] _ _ hB) (fun E y h => ?_) (fun e p s hR => ?_)
        ·unfold J0 at h;refine sr (SQ tt) ?_;apply seq;apply AWp.cond rfl<;>intro aa
         ·have h:=A4 aa h;apply AWp.skip;apply A0;apply seq;apply block;refine sr (SQ tt) ?_;apply seq;refine AWp.cut h (fun K:Bool=>([(2,pt 1002),(3,pt 1003),(152,i6 (a0.fOther.length:Int)),(153,i6 E),(200,bo K)]:EL)) (fun K:Bool=>([(1002,bd 39 (C7 a0)),(1003,bd 39 (C7 a1))]:OL)) (fun K h p s i => ?_) (fun bc M h => ?_)
          ·apply A0;refine ghost i ?_;apply AWp.cond rfl<;>intro ab
           ·have h:=A4 ab h;refine sr (SQ tt) ?_;apply ret;apply E0;apply B6;obtain rfl:=oi h;exact⟨nofun,rfl,mp [] _ _ hB⟩
           ·have h:=A5 ab h;apply AWp.skip;apply D9;apply A0;refine rg (SQ tt) ?_;obtain rfl:=oi h;exact⟨rfl,mp [] _ _ hB⟩
          ·obtain⟨a5,F,h⟩:=bindS h;obtain⟨a6,G,h⟩:=bindS h;rcases bft (a5.fFlags != a6.fFlags) with t | t
           ·have h:=A4 t h;refine drS (SQ (fa F (fa G (fa t tt)))) ?_;exact M _ h _ _ (mp [] _ _ hB)
           ·have h:=A5 t h;obtain⟨a7,N,h⟩:=bindS h;obtain⟨a8,O,h⟩:=bindS h;rcases bft (a7.fType != a8.fType) with A | A
            ·have h:=A4 A h;refine drS (SQ (fa F (fa G (fa t (fa N (fa O (fa A tt))))))) ?_;exact M _ h _ _ (mp [] _ _ hB)
            ·have h:=A5 A h;obtain⟨a9,ac,h⟩:=bindS h;obtain⟨ba,ae,h⟩:=bindS h;apply dr (c (fo 1002 10 [8] hN underlying39 10 tyS37 (q 2)) rfl (c (la hN 39 tyS37 (q 156)) rfl (c (mv hN (q 8)) rfl (c (indexD underlying37 tyS78 (G4 F).1 (T0 B4 (G4 F).2) (L rfl) (q 157) (q 158)) rfl (c (fieldD underlying78 (by rfl) (o:=0) (by rfl) tyS3 (by decide) (by rfl) (by rfl) (L rfl) (q 159)) rfl (c (loadD tyS3 (by rfl) (by rfl) (L rfl) (q 160)) rfl (c (fo 1003 10 [8] hN underlying39 10 tyS37 (q 3)) rfl (c (la hN 39 tyS37 (q 162)) rfl (c (mv hN (q 8)) rfl (c (indexD underlying37 tyS78 (G4 G).1 (T0 B4 (G4 G).2) (L rfl) (q 163) (q 164)) rfl (c (fieldD underlying78 (by rfl) (o:=0) (by rfl) tyS3 (by decide) (by rfl) (by rfl) (L rfl) (q 165)) rfl (c (loadD tyS3 (by rfl) (by rfl) (L rfl) (q 166)) rfl (c (neqI (L rfl) (q 161) (q 167)) rfl (c (OpJ.val (v':=.d (.bool false)) (by rw [t]<;>rfl) (mv hN (q 168))) rfl (c (gd 169 (fo 1002 10 [8] hN underlying39 10 tyS37 (q 2))) rfl (c (gd 169 (la hN 39 tyS37 (q 170))) rfl (c (gd 169 (mv hN (q 8))) rfl (c (gd 169 (indexD underlying37 tyS78 (G4 N).1 (T0 B4 (G4 N).2) (L rfl) (q 171) (q 172))) rfl (c (gd 169 (fieldD underlying78 (by rfl) (o:=1) (by rfl) tyS3 (by decide) (by rfl) (by rfl) (L rfl) (q 173))) rfl (c (gd 169 (loadD tyS3 (by rfl) (by rfl) (L rfl) (q 174))) rfl (c (gd 169 (fo 1003 10 [8] hN underlying39 10 tyS37 (q 3))) rfl (c (gd 169 (la hN 39 tyS37 (q 176))) rfl (c (gd 169 (mv hN (q 8))) rfl (c (gd 169 (indexD underlying37 tyS78 (G4 O).1 (T0 B4 (G4 O).2) (L rfl) (q 177) (q 178))) rfl (c (gd 169 (fieldD underlying78 (by rfl) (o:=1) (by rfl) tyS3 (by decide) (by rfl) (by rfl) (L rfl) (q 179))) rfl (c (gd 169 (loadD tyS3 (by rfl) (by rfl) (L rfl) (q 180))) rfl (c (gd 169 (neqI (L rfl) (q 175) (q 181))) rfl (c (pickF (L rfl) (q 169) (q 182)) rfl (c (OpJ.val (v':=.d (.bool false)) (by rw [A]<;>rfl) (mv hN (q 183))) rfl (c (gd 184 (fo 1002 10 [8] hN underlying39 10 tyS37 (q 2))) rfl (c (gd 184 (la hN 39 tyS37 (q 185))) rfl (c (gd 184 (mv hN (q 8))) rfl (c (gd 184 (indexD underlying37 tyS78 (G4 ac).1 (T0 B4 (G4 ac).2) (L rfl) (q 186) (q 187))) rfl (c (gd 184 (fieldD underlying78 (by rfl) (o:=2) (by rfl) tyS76 (by decide) (by rfl) (by rfl) (L rfl) (q 188))) rfl (c (gd 184 (loadD tyS76 (by rfl) (by rfl) (L rfl) (q 189))) rfl (cg (gd 184 (OpJ.bytesStr (xs:=a9.fData) tyU76 underlying5 underlying9 (L rfl) (q 190))) rfl (c (gd 184 (fo 1003 10 [8] hN underlying39 10 tyS37 (q 3))) rfl (c (gd 184 (la hN 39 tyS37 (q 192))) rfl (c (gd 184 (mv hN (q 8))) rfl (c (gd 184 (indexD underlying37 tyS78 (G4 ae).1 (T0 B4 (G4 ae).2) (L rfl) (q 193) (q 194))) rfl (c (gd 184 (fieldD underlying78 (by rfl) (o:=2) (by rfl) tyS76 (by decide) (by rfl) (by rfl) (L rfl) (q 195))) rfl (c (gd 184 (loadD tyS76 (by rfl) (by rfl) (L rfl) (q 196))) rfl (cg (gd 184 (OpJ.bytesStr (xs:=ba.fData) tyU76 underlying5 underlying9 (L rfl) (q 197))) rfl (cg (gd 184 (OpJ.neqS (L rfl) (q 191) (q 198))) rfl (c (pickF (L rfl) (q 184) (q 199)) rfl cn))))))))))))))))))))))))))))))))))))))))))))) (by kernel_rfl) (by kernel_rfl);exact M _ h _ _ (mp [] _ _ hB)
         ·have h:=A5 aa h;apply AWp.exit;apply D7;obtain rfl:=oi h;exact⟨nofun,rfl,mp [] _ _ hB⟩
        ·rcases az with _ | _
         ·obtain⟨rfl,i⟩:=hR;apply E0;apply B6;obtain rfl:=oi h;exact rt (Mat.trans i (mp [] [(4,bo false)] [] hB)) [bo false] (rT rN) rfl
         ·obtain⟨rfl,i⟩:=hR;apply C0;apply A0;refine ghost i ?_;refine sr (SQ tt) ?_;apply ret;obtain rfl:=oi h;exact rt (kp [(4,_)] [] hB rfl rfl (by rfl)) [bo true] (rT rN) rfl
def T9 (a0:D4) (a1:D4):Option (Bool):=
 jn (fun p:Bool=>
 some p) (fun i=>
 (if ((((a0.fPrefix.fAddr.fV6==a1.fPrefix.fAddr.fV6)&&((a0.fPrefix.fAddr.fHi==a1.fPrefix.fAddr.fHi)&&((a0.fPrefix.fAddr.fLo==a1.fPrefix.fAddr.fLo)&&true)))&&((a0.fPrefix.fLen==a1.fPrefix.fLen)&&true))&&(a0.fFrom==a1.fFrom))=true then
 (I1 a0.fAttrs a1.fAttrs).bind fun s=>
 i s
 else
 i false))
theorem A87 (a0:D4) (a1:D4) (r:Bool) (h:T9 a0 a1=some r):AC Tryz.prog 61 [.d (H1 a0),.d (H1 a1)] [] (.d (.bool r)) []:=by
 refine ac2 Tryz.func61 rfl rfl fun B hB hN L => ?_;delta T9 at h;refine sr (SQ tt) ?_;apply seq;refine AWp.cut h (fun p:Bool=>([(4,bo p)]:EL)) (fun p:Bool=>([]:OL)) (fun p h C E t => ?_) (fun F s h => ?_)
 ·apply A0;refine ghost t ?_;apply ret;obtain rfl:=oi h;exact rt (kp [(4,_)] [] hB rfl rfl (by rfl)) [bo p] (rT rN) rfl
 ·rcases bft ((((a0.fPrefix.fAddr.fV6==a1.fPrefix.fAddr.fV6)&&((a0.fPrefix.fAddr.fHi==a1.fPrefix.fAddr.fHi)&&((a0.fPrefix.fAddr.fLo==a1.fPrefix.fAddr.fLo)&&true)))&&((a0.fPrefix.fLen==a1.fPrefix.fLen)&&true))&&(a0.fFrom==a1.fFrom)) with i | i
  ·have h:=A4 i h;obtain⟨u,A,h⟩:=bindS h;refine rg (SQ (fa i (fa (cl [] (A4a a0.fAttrs a1.fAttrs u A)) tt))) ?_;exact s _ h _ _ (mp [] _ _ hB)
  ·have h:=A5 i h;refine rg (SQ (fa i tt)) ?_;exact s _ h _ _ (mp [] _ _ hB)
def L3 (a0:D3) (i:Int×(List B5)):Option (List B5⊕(Int×(List B5))):=
 (if (decide (i.1<(a0.fPath.length:Int)))=true then
 (idx a0.fPath i.1).bind fun p=>
 chk (decide (p.fASNs.length≤LIM))<|
 chk (decide ((i.2++[B5.mk p.fSet p.fASNs]).length≤LIM))<|
 some (.inr (w64 (i.1+1),(i.2++[B5.mk p.fSet p.fASNs])))
 else
 some (.inl i.2))
def O9 (a0:D3) (p:Int×(List A3)):Option (List A3⊕(Int×(List A3))):=
 (if (decide (p.1<(a0.fOther.length:Int)))=true then
 (idx a0.fOther p.1).bind fun i=>
 chk (decide (i.fData.length≤LIM))<|
 chk (decide ((p.2++[A3.mk i.fFlags i.fType i.fData]).length≤LIM))<|
 some (.inr (w64 (p.1+1),(p.2++[A3.mk i.fFlags i.fType i.fData])))
 else
 some (.inl p.2))
def G8 (a0:D3):Option (D3):=
 (loop (L3 a0) (0,([]:List B5))).bind fun i=>
 chk (decide (a0.fCommunities.length≤LIM))<|
 chk (decide (a0.fLarge.length≤LIM))<|
 (loop (O9 a0) (0,([]:List A3))).bind fun p=>
 some (D3.mk a0.fOrigin i a0.fNext a0.fMED a0.fPref a0.fOTC a0.fCommunities a0.fLarge p)
theorem T1 (a0:D3) (r:D3) (h:G8 a0=some r):AC Tryz.prog 60 [.d (C7 a0)] [] (.d (C7 r)) []:=by
 refine ac2 Tryz.func60 rfl rfl fun B hB hN L => ?_;delta G8 at h;refine sr (SQ tt) ?_;refine sr (SQ tt) ?_;refine sr (SQ tt) ?_;apply seq;refine sr (SQ tt) ?_;apply block;obtain⟨i,K,h⟩:=bindS h;refine lg (L3 a0) (fun u:Int×(List B5)=>([(1,pt 1001),(2,pt 1002),(3,pt 1003),(12,C6 a0.fPath),(13,i6 (a0.fPath.length:Int)),(14,i6 u.1)]:EL)) (fun u:Int×(List B5)=>([(1001,bd 39 (C7 a0)),(1002,some (.box 39 (.st Zz7))),(1003,some (.box 39 (.st [i6 a0.fOrigin,.sref 13031 2 0 u.2.length,.d (E4 a0.fNext),i6 a0.fMED,i6 a0.fPref,i6 a0.fOTC,C5 a0.fCommunities,E7 a0.fLarge,.nils]))),(13031,some (K3 u.2))]:OL)) (fun(i:(List B5)) e C E=>e = .exit 0∧Mat B C E ([(1,pt 1001),(2,pt 1002),(3,pt 1003)]:EL) ([(1001,bd 39 (C7 a0)),(1002,some (.box 39 (.st Zz7))),(1003,some (.box 39 (.st [i6 a0.fOrigin,.sref 13031 2 0 i.length,.d (E4 a0.fNext),i6 a0.fMED,i6 a0.fPref,i6 a0.fOTC,C5 a0.fCommunities,E7 a0.fLarge,.nils]))),(13031,some (K3 i))]:OL)) K (Mat.trans (Mat.beginP (n:=13031) (e:=75) (sz:=2) (Ts:=[]) (Bs:=[(1003,some (.box 39 (.st [i6 a0.fOrigin,.sref 13031 2 0 0,.d (E4 a0.fNext),i6 a0.fMED,i6 a0.fPref,i6 a0.fOTC,C5 a0.fCommunities,E7 a0.fLarge,.nils])))]) hB (by decide) (by rfl) (by decide) TwT.nil (TwB.cons (x:=(.st [i6 a0.fOrigin,.nils,.d (E4 a0.fNext),i6 a0.fMED,i6 a0.fPref,i6 a0.fOTC,C5 a0.fCommunities,E7 a0.fLarge,.nils])) (by rfl) (Tw.st (TwL.cons (Tw.same _) (TwL.cons (Tw.leaf ⟨rfl,rfl⟩) (TwL.cons (Tw.same _) (TwL.cons (Tw.same _) (TwL.cons (Tw.same _) (TwL.cons (Tw.same _) (TwL.cons (Tw.same _) (TwL.cons (Tw.same _) (TwL.cons (Tw.same _) TwL.nil)))))))))) TwB.nil)) (mp [] _ _ hB)) (fun u y h => ?_) (fun e C E hR => ?_)
 ·unfold L3 at h;refine sr (SQ tt) ?_;apply seq;apply AWp.cond rfl<;>intro G
  ·have h:=A4 G h;apply AWp.skip;apply A0;apply seq;apply block;obtain⟨t,M,h⟩:=bindS h;refine sr (SQ (fa M tt)) ?_;obtain⟨H,h⟩:=B2 h;obtain⟨N,h⟩:=B2 h;apply dr (c (fo 1003 1 [1] hN underlying39 1 tyS34 (q 3)) rfl (c (lb hN 39 _ (.sref 13031 2 0 u.2.length) tyS34 (At.st1 (f:=(.sref 13031 2 0 u.2.length)) (by rfl) (by rfl) (At.here _) (by first | rfl | omega)) (q 18)) rfl (c (fo 1005 0 [0] hN underlying75 0 tyS4 (q 5)) rfl (c (la hN 75 tyS4 (q 20)) rfl (c (fo 1005 1 [1] hN underlying75 1 tyS27 (q 5)) rfl (c (la hN 75 tyS27 (q 22)) rfl (cg (OpJ.frz (OpJ.appendN hB underlying27 tyE3 (nm:=1024) (by decide) (ys:=t.fASNs.map (eI .i64)) (len:=t.fASNs.length) (by simp) (A4o (f:=(eI .i64)) (fun _=>rfl)) (by rw [List.length_map];exact X2 H (by decide)) (by rw [List.length_map];exact A25 H) (L rfl) Opd.nils (q 23)) (by simp)) rfl (c (OpJ.coe (v:=(.st [bo t.fSet,qI_1 t.fASNs])) (y:=(.st [.bool t.fSet,.list 1 (t.fASNs.map (eI .i64))])) (Co.st (CoL.cons (Co.d _) (CoL.cons (Co.d _) CoL.nil))) rfl (OpJ.build (places:=[(0,1),(1,1)]) ⟨underlying75,fun w=>by kernel_rfl⟩ tyZS75 (Opds.cons (q 21) (Opds.cons (q 24) Opds.nil)) (by kernel_rfl) (r:=(.st [bo t.fSet,qI_1 t.fASNs])) (by rfl) (L rfl))) rfl (c (buildSlice underlying34 tyS75 tyZD75 (by rfl) (by decide) (by decide) (Opds.cons (q 25) Opds.nil) (by kernel_rfl) (es:=([.st [.bool t.fSet,.list 1 (t.fASNs.map (eI .i64))]]:List D)) (by rfl) (by rfl) (by kernel_rfl) (by simp) (L rfl)) rfl (cg (apd hB underlying34 tyE75 1027 D2 u.2 [B5.mk t.fSet t.fASNs] N (L rfl) (q 19) (q 26)) rfl (c (fo 1003 1 [1] hN underlying39 1 tyS34 (q 3)) rfl (cg (OpJ.storeB (c':=(.st [i6 a0.fOrigin,.sref 1027 2 0 ((u.2++[B5.mk t.fSet t.fASNs]).length),.d (E4 a0.fNext),i6 a0.fMED,i6 a0.fPref,i6 a0.fOTC,C5 a0.fCommunities,E7 a0.fLarge,.nils])) tyS34 (SetAt.st1 (f:=(.sref 13031 2 0 u.2.length)) (by rfl) (by rfl) (SetAt.here _ _) (by rfl) (by rfl) (by first | rfl | omega)) (by rfl) (by rfl) (by simp) rfl (q 28) (q 27)) rfl cn)))))))))))) (by kernel_rfl) (by kernel_rfl)
   apply D9;apply A0;refine rg (SQ tt) ?_;obtain rfl:=oi h;exact⟨rfl,mp [(13031,1027)] _ _ hB⟩
  ·have h:=A5 G h;apply AWp.exit;apply D7;obtain rfl:=oi h;exact⟨nofun,rfl,mp [] _ _ hB⟩
 ·obtain⟨rfl,F⟩:=hR;apply C0;apply A0;refine ghost F ?_;obtain⟨O,h⟩:=B2 h;refine sr (SQ (fa O tt)) ?_;obtain⟨P,h⟩:=B2 h;refine sr (SQ (fa P tt)) ?_;apply seq;refine sr (SQ tt) ?_;apply block;obtain⟨s,Q,h⟩:=bindS h;refine lg (O9 a0) (fun A:Int×(List A3)=>([(2,pt 1002),(3,pt 1003),(39,C2 a0.fOther),(40,i6 (a0.fOther.length:Int)),(41,i6 A.1)]:EL)) (fun A:Int×(List A3)=>([(1002,some (.box 39 (.st Zz7))),(1003,some (.box 39 (.st [i6 a0.fOrigin,.sref 13031 2 0 i.length,.d (E4 a0.fNext),i6 a0.fMED,i6 a0.fPref,i6 a0.fOTC,.sref 1032 2 0 a0.fCommunities.length,.sref 1036 3 0 a0.fLarge.length,.sref 13038 3 0 A.2.length]))),(1032,some (A49 a0.fCommunities)),(1036,some (A6p a0.fLarge)),(13031,some (K3 i)),(13038,some (D8 A.2))]:OL)) (fun(s:(List A3)) e C E=>e = .exit 2∧Mat B C E ([(2,pt 1002),(3,pt 1003)]:EL) ([(1002,some (.box 39 (.st Zz7))),(1003,some (.box 39 (.st [i6 a0.fOrigin,.sref 13031 2 0 i.length,.d (E4 a0.fNext),i6 a0.fMED,i6 a0.fPref,i6 a0.fOTC,.sref 1032 2 0 a0.fCommunities.length,.sref 1036 3 0 a0.fLarge.length,.sref 13038 3 0 s.length]))),(1032,some (A49 a0.fCommunities)),(1036,some (A6p a0.fLarge)),(13031,some (K3 i)),(13038,some (D8 s))]:OL)) Q (Mat.trans (Mat.beginP (n:=13038) (e:=78) (sz:=3) (Ts:=[]) (Bs:=[(1003,some (.box 39 (.st [i6 a0.fOrigin,.sref 13031 2 0 i.length,.d (E4 a0.fNext),i6 a0.fMED,i6 a0.fPref,i6 a0.fOTC,.sref 1032 2 0 a0.fCommunities.length,.sref 1036 3 0 a0.fLarge.length,.sref 13038 3 0 0])))]) hB (by decide) (by rfl) (by decide) TwT.nil (TwB.cons (x:=(.st [i6 a0.fOrigin,.sref 13031 2 0 i.length,.d (E4 a0.fNext),i6 a0.fMED,i6 a0.fPref,i6 a0.fOTC,.sref 1032 2 0 a0.fCommunities.length,.sref 1036 3 0 a0.fLarge.length,.nils])) (by rfl) (Tw.st (TwL.cons (Tw.same _) (TwL.cons (Tw.same _) (TwL.cons (Tw.same _) (TwL.cons (Tw.same _) (TwL.cons (Tw.same _) (TwL.cons (Tw.same _) (TwL.cons (Tw.same _) (TwL.cons (Tw.same _) (TwL.cons (Tw.leaf ⟨rfl,rfl⟩) TwL.nil)))))))))) TwB.nil)) (mp [] _ _ hB)) (fun A y h => ?_) (fun e C E hR => ?_)
  ·unfold O9 at h;refine sr (SQ tt) ?_;apply seq;apply AWp.cond rfl<;>intro I
   ·have h:=A4 I h;apply AWp.skip;apply A0;apply seq;apply block;obtain⟨p,R,h⟩:=bindS h;refine sr (SQ (fa R tt)) ?_;obtain⟨J,h⟩:=B2 h;obtain⟨S,h⟩:=B2 h;apply dr (c (fo 1003 10 [8] hN underlying39 10 tyS37 (q 3)) rfl (c (lb hN 39 _ (.sref 13038 3 0 A.2.length) tyS37 (At.st1 (f:=(.sref 13038 3 0 A.2.length)) (by rfl) (by rfl) (At.here _) (by first | rfl | omega)) (q 45)) rfl (c (fo 1007 0 [0] hN underlying78 0 tyS3 (q 7)) rfl (c (la hN 78 tyS3 (q 47)) rfl (c (fo 1007 1 [1] hN underlying78 1 tyS3 (q 7)) rfl (c (la hN 78 tyS3 (q 49)) rfl (c (fo 1007 2 [2] hN underlying78 2 tyS76 (q 7)) rfl (c (la hN 78 tyS76 (q 51)) rfl (cg (OpJ.frz (OpJ.appendN hB underlying76 tyE5 (nm:=1053) (by decide) (ys:=p.fData.map (eI .u8)) (len:=p.fData.length) (by simp) (A4o (f:=(eI .u8)) (fun _=>rfl)) (by rw [List.length_map];exact X2 J (by decide)) (by rw [List.length_map];exact A25 J) (L rfl) Opd.nils (q 52)) (by simp)) rfl (c (OpJ.coe (v:=(.st [i6 p.fFlags,i6 p.fType,.d (.list 1 (p.fData.map (eI .u8)))])) (y:=(.st [.int .i64 p.fFlags,.int .i64 p.fType,.list 1 (p.fData.map (eI .u8))])) (Co.st (CoL.cons (Co.d _) (CoL.cons (Co.d _) (CoL.cons (Co.d _) CoL.nil)))) rfl (OpJ.build (places:=[(0,1),(1,1),(2,1)]) ⟨underlying78,fun w=>by kernel_rfl⟩ tyZS78 (Opds.cons (q 48) (Opds.cons (q 50) (Opds.cons (q 53) Opds.nil))) (by kernel_rfl) (r:=(.st [i6 p.fFlags,i6 p.fType,.d (.list 1 (p.fData.map (eI .u8)))])) (by rfl) (L rfl))) rfl (c (buildSlice underlying37 tyS78 tyZD78 (by rfl) (by decide) (by decide) (Opds.cons (q 54) Opds.nil) (by kernel_rfl) (es:=([.st [.int .i64 p.fFlags,.int .i64 p.fType,.list 1 (p.fData.map (eI .u8))]]:List D)) (by rfl) (by rfl) (by kernel_rfl) (by simp) (L rfl)) rfl (cg (apd hB underlying37 tyE78 1056 B4 A.2 [A3.mk p.fFlags p.fType p.fData] S (L rfl) (q 46) (q 55)) rfl (c (fo 1003 10 [8] hN underlying39 10 tyS37 (q 3)) rfl (cg (OpJ.storeB (c':=(.st [i6 a0.fOrigin,.sref 13031 2 0 i.length,.d (E4 a0.fNext),i6 a0.fMED,i6 a0.fPref,i6 a0.fOTC,.sref 1032 2 0 a0.fCommunities.length,.sref 1036 3 0 a0.fLarge.length,.sref 1056 3 0 ((A.2++[A3.mk p.fFlags p.fType p.fData]).length)])) tyS37 (SetAt.st1 (f:=(.sref 13038 3 0 A.2.length)) (by rfl) (by rfl) (SetAt.here _ _) (by rfl) (by rfl) (by first | rfl | omega)) (by rfl) (by rfl) (by simp) rfl (q 57) (q 56)) rfl cn)))))))))))))) (by kernel_rfl) (by kernel_rfl)
    apply D9;apply A0;refine rg (SQ tt) ?_;obtain rfl:=oi h;exact⟨rfl,mp [(13038,1056)] _ _ hB⟩
   ·have h:=A5 I h;apply AWp.exit;apply D7;obtain rfl:=oi h;exact⟨nofun,rfl,mp [] _ _ hB⟩
  ·obtain⟨rfl,F⟩:=hR;apply C0;apply A0;refine ghost F ?_;refine sr (SQ tt) ?_;apply ret;obtain rfl:=oi h;exact rt (Mat.trans (Mat.freezeP (n:=13031) (e:=75) (sz:=2) (es:=i.map D2) (Ts:=[]) (Bs:=[(1002,some (.box 39 (.st [i6 a0.fOrigin,C6 i,.d (E4 a0.fNext),i6 a0.fMED,i6 a0.fPref,i6 a0.fOTC,.sref 1032 2 0 a0.fCommunities.length,.sref 1036 3 0 a0.fLarge.length,.sref 13038 3 0 s.length])))]) (by rfl) TwT.nil (TwB.cons (x:=(.st [i6 a0.fOrigin,.sref 13031 2 0 i.length,.d (E4 a0.fNext),i6 a0.fMED,i6 a0.fPref,i6 a0.fOTC,.sref 1032 2 0 a0.fCommunities.length,.sref 1036 3 0 a0.fLarge.length,.sref 13038 3 0 s.length])) (by rfl) (Tw.st (TwL.cons (Tw.same _) (TwL.cons (FrzL.all (by first | rfl | (simp;done) | (simp;omega) | omega)) (TwL.cons (Tw.same _) (TwL.cons (Tw.same _) (TwL.cons (Tw.same _) (TwL.cons (Tw.same _) (TwL.cons (Tw.same _) (TwL.cons (Tw.same _) (TwL.cons (Tw.same _) TwL.nil)))))))))) TwB.nil)) (Mat.trans (Mat.freezeP (n:=1032) (e:=132) (sz:=2) (es:=a0.fCommunities.map C4) (Ts:=[]) (Bs:=[(1002,some (.box 39 (.st [i6 a0.fOrigin,C6 i,.d (E4 a0.fNext),i6 a0.fMED,i6 a0.fPref,i6 a0.fOTC,C5 a0.fCommunities,.sref 1036 3 0 a0.fLarge.length,.sref 13038 3 0 s.length])))]) (by rfl) TwT.nil (TwB.cons (x:=(.st [i6 a0.fOrigin,C6 i,.d (E4 a0.fNext),i6 a0.fMED,i6 a0.fPref,i6 a0.fOTC,.sref 1032 2 0 a0.fCommunities.length,.sref 1036 3 0 a0.fLarge.length,.sref 13038 3 0 s.length])) (by rfl) (Tw.st (TwL.cons (Tw.same _) (TwL.cons (Tw.same _) (TwL.cons (Tw.same _) (TwL.cons (Tw.same _) (TwL.cons (Tw.same _) (TwL.cons (Tw.same _) (TwL.cons (FrzL.all (by first | rfl | (simp;done) | (simp;omega) | omega)) (TwL.cons (Tw.same _) (TwL.cons (Tw.same _) TwL.nil)))))))))) TwB.nil)) (Mat.trans (Mat.freezeP (n:=1036) (e:=134) (sz:=3) (es:=a0.fLarge.map E9) (Ts:=[]) (Bs:=[(1002,some (.box 39 (.st [i6 a0.fOrigin,C6 i,.d (E4 a0.fNext),i6 a0.fMED,i6 a0.fPref,i6 a0.fOTC,C5 a0.fCommunities,E7 a0.fLarge,.sref 13038 3 0 s.length])))]) (by rfl) TwT.nil (TwB.cons (x:=(.st [i6 a0.fOrigin,C6 i,.d (E4 a0.fNext),i6 a0.fMED,i6 a0.fPref,i6 a0.fOTC,C5 a0.fCommunities,.sref 1036 3 0 a0.fLarge.length,.sref 13038 3 0 s.length])) (by rfl) (Tw.st (TwL.cons (Tw.same _) (TwL.cons (Tw.same _) (TwL.cons (Tw.same _) (TwL.cons (Tw.same _) (TwL.cons (Tw.same _) (TwL.cons (Tw.same _) (TwL.cons (Tw.same _) (TwL.cons (FrzL.all (by first | rfl | (simp;done) | (simp;omega) | omega)) (TwL.cons (Tw.same _) TwL.nil)))))))))) TwB.nil)) (Mat.trans (Mat.freezeP (n:=13038) (e:=78) (sz:=3) (es:=s.map B4) (Ts:=[]) (Bs:=[(1002,some (.box 39 (.st [i6 a0.fOrigin,C6 i,.d (E4 a0.fNext),i6 a0.fMED,i6 a0.fPref,i6 a0.fOTC,C5 a0.fCommunities,E7 a0.fLarge,C2 s])))]) (by rfl) TwT.nil (TwB.cons (x:=(.st [i6 a0.fOrigin,C6 i,.d (E4 a0.fNext),i6 a0.fMED,i6 a0.fPref,i6 a0.fOTC,C5 a0.fCommunities,E7 a0.fLarge,.sref 13038 3 0 s.length])) (by rfl) (Tw.st (TwL.cons (Tw.same _) (TwL.cons (Tw.same _) (TwL.cons (Tw.same _) (TwL.cons (Tw.same _) (TwL.cons (Tw.same _) (TwL.cons (Tw.same _) (TwL.cons (Tw.same _) (TwL.cons (Tw.same _) (TwL.cons (FrzL.all (by first | rfl | (simp;done) | (simp;omega) | omega)) TwL.nil)))))))))) TwB.nil)) (Mat.trans (Mat.coeP (Ts:=[]) (Bs:=[(1002,bd 39 (.st [.int .i64 a0.fOrigin,.list 2 (i.map D2),E4 a0.fNext,.int .i64 a0.fMED,.int .i64 a0.fPref,.int .i64 a0.fOTC,.list 2 (a0.fCommunities.map C4),.list 3 (a0.fLarge.map E9),.list 3 (s.map B4)]))]) TwT.nil (TwB.cons (x:=(.st [i6 a0.fOrigin,C6 i,.d (E4 a0.fNext),i6 a0.fMED,i6 a0.fPref,i6 a0.fOTC,C5 a0.fCommunities,E7 a0.fLarge,C2 s])) (by rfl) (Tw.leaf ⟨_,Co.st (CoL.cons (Co.d _) (CoL.cons (Co.d _) (CoL.cons (Co.d _) (CoL.cons (Co.d _) (CoL.cons (Co.d _) (CoL.cons (Co.d _) (CoL.cons (Co.d _) (CoL.cons (Co.d _) (CoL.cons (Co.d _) CoL.nil))))))))),rfl⟩) TwB.nil)) (mp [] [(2,pt 1002)] [(1002,bd 39 (.st [.int .i64 a0.fOrigin,.list 2 (i.map D2),E4 a0.fNext,.int .i64 a0.fMED,.int .i64 a0.fPref,.int .i64 a0.fOTC,.list 2 (a0.fCommunities.map C4),.list 3 (a0.fLarge.map E9),.list 3 (s.map B4)]))] hB)))))) [.d (.st [.int .i64 a0.fOrigin,.list 2 (i.map D2),E4 a0.fNext,.int .i64 a0.fMED,.int .i64 a0.fPref,.int .i64 a0.fOTC,.list 2 (a0.fCommunities.map C4),.list 3 (a0.fLarge.map E9),.list 3 (s.map B4)])] (Res.cell (c:=(.d (.st [.int .i64 a0.fOrigin,.list 2 (i.map D2),E4 a0.fNext,.int .i64 a0.fMED,.int .i64 a0.fPref,.int .i64 a0.fOTC,.list 2 (a0.fCommunities.map C4),.list 3 (a0.fLarge.map E9),.list 3 (s.map B4)]))) (by rfl) (by rfl) tyS39 (by rfl) (by rfl) (by rfl) rN) rfl
def N1 (a0:(List D4)) (i:Int×(List D4)):Option (List D4⊕(Int×(List D4))):=
 (if (decide (i.1<(a0.length:Int)))=true then
 (idx a0 i.1).bind fun p=>
 (G8 p.fAttrs).bind fun s=>
 chk (decide ((i.2++[D4.mk p.fPrefix p.fFrom s]).length≤LIM))<|
 some (.inr (w64 (i.1+1),(i.2++[D4.mk p.fPrefix p.fFrom s])))
 else
 some (.inl i.2))
def R6 (a0:(List D4)):Option (List D4):=
 (loop (N1 a0) (0,([]:List D4))).bind fun i=>
 some i
theorem A7e (a0:(List D4)) (r:(List D4)) (h:R6 a0=some r):AC Tryz.prog 58 [.d (.list 16 (a0.map H1))] [] (.d (.list 16 (r.map H1))) []:=by
 refine ac2 Tryz.func58 rfl rfl fun B hB hN L => ?_;delta R6 at h;refine sr (SQ tt) ?_;refine sr (SQ tt) ?_;apply seq;refine sr (SQ tt) ?_;apply block;obtain⟨i,A,h⟩:=bindS h;refine lg (N1 a0) (fun p:Int×(List D4)=>([(3,.sref 3003 16 0 p.2.length),(6,H6 a0),(7,i6 (a0.length:Int)),(8,i6 p.1)]:EL)) (fun p:Int×(List D4)=>([(3003,some (F9 p.2))]:OL)) (fun(i:(List D4)) e s t=>e = .exit 0∧Mat B s t ([(3,.sref 3003 16 0 i.length)]:EL) ([(3003,some (F9 i))]:OL)) A (Mat.trans (Mat.beginP (n:=3003) (e:=41) (sz:=16) (Ts:=[(3,.sref 3003 16 0 0)]) (Bs:=[]) hB (by decide) (by rfl) (by decide) (TwT.cons (x:=.nils) (by rfl) (Tw.leaf ⟨rfl,rfl⟩) TwT.nil) TwB.nil) (mp [] _ _ hB)) (fun p y h => ?_) (fun e s t hR => ?_)
 ·unfold N1 at h;refine sr (SQ tt) ?_;apply seq;apply AWp.cond rfl<;>intro u
  ·have h:=A4 u h;apply AWp.skip;apply A0;apply seq;apply block;obtain⟨C,E,h⟩:=bindS h;refine sr (SQ (fa E tt)) ?_;obtain⟨F,G,h⟩:=bindS h;obtain⟨H,h⟩:=B2 h;refine drS (SQ (fa (cl [] (T1 C.fAttrs F G)) (fa H tt))) ?_;apply D9;apply A0;refine rg (SQ tt) ?_;obtain rfl:=oi h;exact⟨rfl,mp [(3003,1022)] _ _ hB⟩
  ·have h:=A5 u h;apply AWp.exit;apply D7;obtain rfl:=oi h;exact⟨nofun,rfl,mp [] _ _ hB⟩
 ·obtain⟨rfl,I⟩:=hR;apply C0;apply A0;refine ghost I ?_;refine sr (SQ tt) ?_;apply ret;obtain rfl:=oi h;exact rt (Mat.trans (Mat.freezeP (n:=3003) (e:=41) (sz:=16) (es:=i.map H1) (Ts:=[(2,H6 i)]) (Bs:=[]) (by rfl) (TwT.cons (x:=(.sref 3003 16 0 i.length)) (by rfl) (FrzL.all (by first | rfl | (simp;done) | (simp;omega) | omega)) TwT.nil) TwB.nil) (mp [] [(2,H6 i)] [] hB)) [H6 i] (rT rN) rfl
def A09 (a0:Int) (a1:(List D4)) (a2:(List D4)) (t:(List A1)) (i:Int×(List A2)):Option (List A2⊕(Int×(List A2))):=
 (if (decide (i.1<(t.length:Int)))=true then
 jn (fun G:(List A2)=>
 some (.inr (w64 (i.1+1),G))) (fun u=>
 (idx t i.1).bind fun s=>
 (A1x a1 s).bind fun A=>
 (A1x a2 s).bind fun p=>
 jn (fun H:Bool=>
 (if H=true then
 u i.2
 else
 jn (fun C:D4=>
 chk (decide ((i.2++[A2.mk a0 s p.2 C]).length≤LIM))<|
 u (i.2++[A2.mk a0 s p.2 C])) (fun E=>
 (if p.2=true then
 (R6 [p.1]).bind fun I=>
 (idx I 0).bind fun J=>
 E J
 else
 E (D4.mk (A1.mk (D1.mk false 0 0) 0) 0 (D3.mk 0 ([]:List B5) (D1.mk false 0 0) 0 0 0 ([]:List B7) ([]:List F5) ([]:List A3))))))) (fun F=>
 (if (A.2==p.2)=true then
 (T9 A.1 p.1).bind fun K=>
 F K
 else
 F false)))
 else
 some (.inl i.2))
def A3p (a0:Int) (a1:(List D4)) (a2:(List D4)):Option (List A2):=
 (A17 a1 a2).bind fun i=>
 (loop (A09 a0 a1 a2 i) (0,([]:List A2))).bind fun p=>
 some p
theorem B1x (a0:Int) (a1:(List D4)) (a2:(List D4)) (r:(List A2)) (h:A3p a0 a1 a2=some r):AC Tryz.prog 37 [.d (.int .i64 a0),.d (.list 16 (a1.map H1)),.d (.list 16 (a2.map H1))] [] (.d (.list 22 (r.map A8))) []:=by
 refine ac2 Tryz.func37 rfl rfl fun B hB hN L => ?_;delta A3p at h;refine sr (SQ tt) ?_;refine sr (SQ tt) ?_;apply seq;obtain⟨p,R,h⟩:=bindS h;refine sr (SQ (fa (cl [] (A9m a1 a2 p R)) tt)) ?_;apply block;obtain⟨t,S,h⟩:=bindS h;refine lg (A09 a0 a1 a2 p) (fun i:Int×(List A2)=>([(0,i6 a0),(1,H6 a1),(2,H6 a2),(7,.sref 3007 22 0 i.2.length),(17,F7 p),(18,i6 (p.length:Int)),(19,i6 i.1)]:EL)) (fun i:Int×(List A2)=>([(3007,some (B3 i.2))]:OL)) (fun(t:(List A2)) e C E=>e = .exit 0∧Mat B C E ([(7,.sref 3007 22 0 t.length)]:EL) ([(3007,some (B3 t))]:OL)) S (Mat.trans (Mat.beginP (n:=3007) (e:=43) (sz:=22) (Ts:=[(7,.sref 3007 22 0 0)]) (Bs:=[]) hB (by decide) (by rfl) (by decide) (TwT.cons (x:=.nils) (by rfl) (Tw.leaf ⟨rfl,rfl⟩) TwT.nil) TwB.nil) (mp [] _ _ hB)) (fun i y h => ?_) (fun e C E hR => ?_)
 ·unfold A09 at h;refine sr (SQ tt) ?_;apply seq;apply AWp.cond rfl<;>intro K
  ·have h:=A4 K h;apply AWp.skip;apply A0;apply seq;refine AWp.cut h (fun G:(List A2)=>([(0,i6 a0),(1,H6 a1),(2,H6 a2),(7,.sref 3007 22 0 G.length),(17,F7 p),(18,i6 (p.length:Int)),(19,i6 i.1)]:EL)) (fun G:(List A2)=>([(3007,some (B3 G))]:OL)) (fun G h C E u => ?_) (fun ae M h => ?_)
   ·apply A0;refine ghost u ?_;refine rg (SQ tt) ?_;obtain rfl:=oi h;exact⟨rfl,mp [] _ _ hB⟩
   ·apply block;obtain⟨A,T,h⟩:=bindS h;refine sr (SQ (fa T tt)) ?_;obtain⟨H,U,h⟩:=bindS h;refine sr (SQ (fa (cl [] (A7d a1 A H U)) tt)) ?_;obtain⟨s,W,h⟩:=bindS h;refine sr (SQ (fa (cl [] (A7d a2 A s W)) tt)) ?_;apply seq;apply seq;refine AWp.cut h (fun I:Bool=>([(0,i6 a0),(1,H6 a1),(2,H6 a2),(7,.sref 3007 22 0 i.2.length),(9,pt 1009),(12,pt 1012),(13,bo s.2),(17,F7 p),(18,i6 (p.length:Int)),(19,i6 i.1),(42,bo I)]:EL)) (fun I:Bool=>([(1009,bd 33 (B0 A)),(1012,bd 41 (H1 s.1)),(3007,some (B3 i.2))]:OL)) (fun I h C E u => ?_) (fun af N h => ?_)
    ·apply A0;refine ghost u ?_;apply AWp.cond rfl<;>intro O
     ·have h:=A4 O h;apply AWp.exit;apply D7;apply C0;exact M _ h _ _ (mp [] _ _ hB)
     ·have h:=A5 O h;apply AWp.skip;apply A0;refine sr (SQ tt) ?_;apply seq;refine sr (SQ tt) ?_;refine gh [(0,_),(1,_),(2,_),(7,_),(12,_),(14,_),(17,_),(18,_),(19,_),(47,_)] [(1012,some _),(1014,some _),(3007,some _)] hB rfl rfl (by rfl) ?_;refine AWp.cut h (fun J:D4=>([(0,i6 a0),(1,H6 a1),(2,H6 a2),(7,.sref 3007 22 0 i.2.length),(14,pt 1014),(17,F7 p),(18,i6 (p.length:Int)),(19,i6 i.1)]:EL)) (fun J:D4=>([(1014,some (.box 43 (.st [i6 a0,.d (B0 A),bo s.2,.d (H1 J)]))),(3007,some (B3 i.2))]:OL)) (fun J h C E u => ?_) (fun ag P h => ?_)
      ·apply A0;refine ghost u ?_;obtain⟨X,h⟩:=B2 h;refine rg (SQ (fa X tt)) ?_;apply D9;exact M _ h _ _ (mp [(3007,1057)] _ _ hB)
      ·apply AWp.cond rfl<;>intro Q
       ·have h:=A4 Q h;obtain⟨Y,Z,h⟩:=bindS h;obtain⟨_,aa,h⟩:=bindS h;refine rg (SQ (fa (cl [] (A7e [s.1] Y Z)) (fa aa tt))) ?_;exact P _ h _ _ (mp [] _ _ hB)
       ·have h:=A5 Q h;apply AWp.skip;exact P _ h _ _ (Mat.trans (Mat.coeP (Ts:=[]) (Bs:=[(1014,some (.box 43 (.st [i6 a0,.d (B0 A),bo s.2,.d (.st [.st Zz9,.int .i64 0,.st Zz2])])))]) TwT.nil (TwB.cons (x:=(.st [i6 a0,.d (B0 A),bo s.2,.st [.d (.st Zz9),i6 0,.st Zz7]])) (by rfl) (Tw.st (TwL.cons (Tw.same _) (TwL.cons (Tw.same _) (TwL.cons (Tw.same _) (TwL.cons (Tw.leaf ⟨_,Co.st (CoL.cons (Co.d _) (CoL.cons (Co.d _) (CoL.cons (Co.st (CoL.cons (Co.d _) (CoL.cons (Co.nils 2) (CoL.cons (Co.d _) (CoL.cons (Co.d _) (CoL.cons (Co.d _) (CoL.cons (Co.d _) (CoL.cons (Co.nils 2) (CoL.cons (Co.nils 3) (CoL.cons (Co.nils 3) CoL.nil)))))))))) CoL.nil))),rfl⟩) TwL.nil))))) TwB.nil)) (mp [] _ _ hB))
    ·rcases bft (H.2==s.2) with F | F
     ·have h:=A4 F h;obtain⟨ab,ac,h⟩:=bindS h;refine rg (SQ (fa F (fa (cl [] (A87 H.1 s.1 ab ac)) tt))) ?_;exact N _ h _ _ (mp [] _ _ hB)
     ·have h:=A5 F h;refine rg (SQ (fa F tt)) ?_;exact N _ h _ _ (mp [] _ _ hB)
  ·have h:=A5 K h;apply AWp.exit;apply D7;obtain rfl:=oi h;exact⟨nofun,rfl,mp [] _ _ hB⟩
 ·obtain⟨rfl,u⟩:=hR;apply C0;apply A0;refine ghost u ?_;refine sr (SQ tt) ?_;apply ret;obtain rfl:=oi h;exact rt (Mat.trans (Mat.freezeP (n:=3007) (e:=43) (sz:=22) (es:=t.map A8) (Ts:=[(6,A6 t)]) (Bs:=[]) (by rfl) (TwT.cons (x:=(.sref 3007 22 0 t.length)) (by rfl) (FrzL.all (by first | rfl | (simp;done) | (simp;omega) | omega)) TwT.nil) TwB.nil) (mp [] [(6,A6 t)] [] hB)) [A6 t] (rT rN) rfl
def G7 (p:Int×(List D4)×(List D4)×B1):Option ((B1×(List D4)×(List D4))⊕(Int×(List D4)×(List D4)×B1)):=
 (if (decide (p.1<8))=true then
 (N7 p.1).bind fun t=>
 (F6 p.2.2.2 3).bind fun s=>
 (A0q).bind fun i=>
 (P2 (w64 (101+s.1)) t.fAddr.fV6).bind fun u=>
 (F6 s.2 2).bind fun A=>
 (F6 A.2 4).bind fun C=>
 jn (fun F:(List D4)×(List D4)=>
 some (.inr (w64 (p.1+1),F.1,F.2,C.2))) (fun E=>
 (if (C.1==0)=true then
 chk (decide ((p.2.2.1++([D4.mk t (w64 (101+s.1)) (D3.mk 0 ([B5.mk false ([w64 (101+s.1)]:List Int)]:List B5) u A.1 i.fPref i.fOTC i.fCommunities i.fLarge i.fOther)]:List D4)).length≤LIM))<|
 E (p.2.1,(p.2.2.1++([D4.mk t (w64 (101+s.1)) (D3.mk 0 ([B5.mk false ([w64 (101+s.1)]:List Int)]:List B5) u A.1 i.fPref i.fOTC i.fCommunities i.fLarge i.fOther)]:List D4)))
 else
 (if (C.1==1)=true then
 chk (decide ((p.2.1++([D4.mk t (w64 (101+s.1)) (D3.mk 0 ([B5.mk false ([w64 (101+s.1)]:List Int)]:List B5) u A.1 i.fPref i.fOTC i.fCommunities i.fLarge i.fOther)]:List D4)).length≤LIM))<|
 E ((p.2.1++([D4.mk t (w64 (101+s.1)) (D3.mk 0 ([B5.mk false ([w64 (101+s.1)]:List Int)]:List B5) u A.1 i.fPref i.fOTC i.fCommunities i.fLarge i.fOther)]:List D4)),p.2.2.1)
 else
 (if (C.1==2)=true then
 chk (decide ((p.2.2.1++([D4.mk t (w64 (101+s.1)) (D3.mk 0 ([B5.mk false ([w64 (101+s.1)]:List Int)]:List B5) u A.1 i.fPref i.fOTC i.fCommunities i.fLarge i.fOther)]:List D4)).length≤LIM))<|
 chk (decide ((p.2.1++([D4.mk t (w64 (101+s.1)) (D3.mk 0 ([B5.mk false ([w64 (101+s.1)]:List Int)]:List B5) u 5 i.fPref i.fOTC i.fCommunities i.fLarge i.fOther)]:List D4)).length≤LIM))<|
 E ((p.2.1++([D4.mk t (w64 (101+s.1)) (D3.mk 0 ([B5.mk false ([w64 (101+s.1)]:List Int)]:List B5) u 5 i.fPref i.fOTC i.fCommunities i.fLarge i.fOther)]:List D4)),(p.2.2.1++([D4.mk t (w64 (101+s.1)) (D3.mk 0 ([B5.mk false ([w64 (101+s.1)]:List Int)]:List B5) u A.1 i.fPref i.fOTC i.fCommunities i.fLarge i.fOther)]:List D4)))
 else
 E (p.2.1,p.2.2.1)))))
 else
 some (.inl (p.2.2.2,p.2.1,p.2.2.1)))
def G6 (a0:B1) (a1:Int):Option ((List A2)×B1):=
 (loop (G7) (0,([]:List D4),([]:List D4),a0)).bind fun i=>
 (A3p a1 i.2.2 i.2.1).bind fun p=>
 some (p,i.1)
theorem Q6 (a0:B1) (a1:Int) (r:(List A2)×B1) (h:G6 a0 a1=some r):AC Tryz.prog 15 [pt 0,.d (.int .i64 a1)] [(0,.box 80 (.d (B8 a0)))] (.d (.list 22 (r.1.map A8))) [(0,bd 80 (B8 r.2))]:=by
 refine ac2 Tryz.func15 rfl rfl fun B hB hN L => ?_;delta G6 at h;refine sr (SQ tt) ?_;refine sr (SQ tt) ?_;apply seq;refine sr (SQ tt) ?_;apply block;obtain⟨p,Q,h⟩:=bindS h;refine lg (G7) (fun i:Int×(List D4)×(List D4)×B1=>([(0,pt 0),(1,i6 a1),(5,.sref 3005 16 0 i.2.2.1.length),(6,.sref 3006 16 0 i.2.1.length),(7,i6 i.1)]:EL)) (fun i:Int×(List D4)×(List D4)×B1=>([(0,bd 80 (B8 i.2.2.2)),(3005,some (F9 i.2.2.1)),(3006,some (F9 i.2.1))]:OL)) (fun(p:(B1×(List D4)×(List D4))) e G H=>e = .exit 0∧Mat B G H ([(1,i6 a1),(5,.sref 3005 16 0 p.2.2.length),(6,.sref 3006 16 0 p.2.1.length)]:EL) ([(0,bd 80 (B8 p.1)),(3005,some (F9 p.2.2)),(3006,some (F9 p.2.1))]:OL)) Q (Mat.trans (Mat.beginP (n:=3005) (e:=41) (sz:=16) (Ts:=[(5,.sref 3005 16 0 0)]) (Bs:=[]) hB (by decide) (by rfl) (by decide) (TwT.cons (x:=.nils) (by rfl) (Tw.leaf ⟨rfl,rfl⟩) TwT.nil) TwB.nil) (Mat.trans (Mat.beginP (n:=3006) (e:=41) (sz:=16) (Ts:=[(6,.sref 3006 16 0 0)]) (Bs:=[]) hB (by decide) (by rfl) (by decide) (TwT.cons (x:=.nils) (by rfl) (Tw.leaf ⟨rfl,rfl⟩) TwT.nil) TwB.nil) (mp [] _ _ hB))) (fun i y h => ?_) (fun e G H hR => ?_)
 ·unfold G7 at h;apply seq;refine sr (SQ tt) ?_;apply AWp.cond rfl<;>intro K
  ·have h:=A4 K h;apply AWp.skip;apply A0;apply seq;apply block;obtain⟨u,R,h⟩:=bindS h;refine sr (SQ (fa (cl [] (A4q i.1 u R)) tt)) ?_;apply seq;obtain⟨t,S,h⟩:=bindS h;refine drS (SQ (fa (cl [(0,0)] (G1 i.2.2.2 3 t S)) tt)) ?_;apply A0;refine ghost (mp [] [(0,pt 0),(1,i6 a1),(5,.sref 3005 16 0 i.2.2.1.length),(6,.sref 3006 16 0 i.2.1.length),(7,i6 i.1),(8,pt 1008),(9,pt 1009)] [(0,bd 80 (B8 t.2)),(1008,bd 33 (B0 u)),(1009,some (.box 41 (.st [.d (B0 u),i6 (w64 (101+t.1)),.st Zz7]))),(3005,some (F9 i.2.2.1)),(3006,some (F9 i.2.1))] hB) ?_;obtain⟨s,T,h⟩:=bindS h;refine sr (SQ (fa (cl [] (A43 s T)) tt)) ?_;obtain⟨I,U,h⟩:=bindS h;refine sdS (SQ (fa (cl [] (A52 (w64 (101+t.1)) u.fAddr.fV6 I U)) tt)) ?_;apply seq;obtain⟨C,W,h⟩:=bindS h;refine rg (SQ (fa (cl [(0,0)] (G1 t.2 2 C W)) tt)) ?_;apply A0;refine ghost (mp [] [(0,pt 0),(1,i6 a1),(5,.sref 3005 16 0 i.2.2.1.length),(6,.sref 3006 16 0 i.2.1.length),(7,i6 i.1),(9,pt 1009)] [(0,bd 80 (B8 C.2)),(1009,some (.box 41 (.st [.d (B0 u),i6 (w64 (101+t.1)),.d (.st [.int .i64 0,.list 2 (([B5.mk false ([w64 (101+t.1)]:List Int)]:List B5).map D2),E4 I,.int .i64 C.1,.int .i64 s.fPref,.int .i64 s.fOTC,.list 2 (s.fCommunities.map C4),.list 3 (s.fLarge.map E9),.list 3 (s.fOther.map B4)])]))),(3005,some (F9 i.2.2.1)),(3006,some (F9 i.2.1))] hB) ?_;apply seq;obtain⟨E,X,h⟩:=bindS h;refine rg (SQ (fa (cl [(0,0)] (G1 C.2 4 E X)) tt)) ?_;apply A0;refine ghost (mp [] [(0,pt 0),(1,i6 a1),(5,.sref 3005 16 0 i.2.2.1.length),(6,.sref 3006 16 0 i.2.1.length),(7,i6 i.1),(9,pt 1009),(45,i6 E.1)] [(0,bd 80 (B8 E.2)),(1009,some (.box 41 (.st [.d (B0 u),i6 (w64 (101+t.1)),.d (.st [.int .i64 0,.list 2 (([B5.mk false ([w64 (101+t.1)]:List Int)]:List B5).map D2),E4 I,.int .i64 C.1,.int .i64 s.fPref,.int .i64 s.fOTC,.list 2 (s.fCommunities.map C4),.list 3 (s.fLarge.map E9),.list 3 (s.fOther.map B4)])]))),(3005,some (F9 i.2.2.1)),(3006,some (F9 i.2.1))] hB) ?_;apply block;refine sr (SQ tt) ?_;refine gh [(0,_),(1,_),(5,_),(6,_),(7,_),(9,_),(45,_),(46,_)] [(0,some _),(1009,some _),(3005,some _),(3006,some _)] hB rfl rfl (by rfl) ?_;refine AWp.cut h (fun A:(List D4)×(List D4)=>([(0,pt 0),(1,i6 a1),(5,.sref 3005 16 0 A.2.length),(6,.sref 3006 16 0 A.1.length),(7,i6 i.1)]:EL)) (fun A:(List D4)×(List D4)=>([(0,bd 80 (B8 E.2)),(3005,some (F9 A.2)),(3006,some (F9 A.1))]:OL)) (fun A h G H J => ?_) (fun ae F h => ?_)
   ·apply D9;apply D9;apply A0;refine ghost J ?_;refine rg (SQ tt) ?_;obtain rfl:=oi h;exact⟨rfl,mp [] _ _ hB⟩
   ·apply AWp.cond rfl<;>intro M
    ·have h:=A4 M h;obtain⟨Y,h⟩:=B2 h;refine rg (SQ (fa Y tt)) ?_;exact F _ h _ _ (mp [(3005,1051)] _ _ hB)
    ·have h:=A5 M h;refine sr (SQ tt) ?_;apply AWp.cond rfl<;>intro N
     ·have h:=A4 N h;obtain⟨Z,h⟩:=B2 h;refine rg (SQ (fa Z tt)) ?_;exact F _ h _ _ (mp [(3006,1057)] _ _ hB)
     ·have h:=A5 N h;refine sr (SQ tt) ?_;apply AWp.cond rfl<;>intro O
      ·have h:=A4 O h;obtain⟨aa,h⟩:=B2 h;refine sr (SQ (fa aa tt)) ?_;refine sr (SQ tt) ?_;obtain⟨ab,h⟩:=B2 h;refine rg (SQ (fa ab tt)) ?_;exact F _ h _ _ (mp [(3005,1063),(3006,1069)] _ _ hB)
      ·have h:=A5 O h;apply AWp.skip;exact F _ h _ _ (mp [] _ _ hB)
  ·have h:=A5 K h;apply AWp.exit;apply D7;obtain rfl:=oi h;exact⟨nofun,rfl,mp [] _ _ hB⟩
 ·obtain⟨rfl,J⟩:=hR;apply C0;apply A0;refine ghost J ?_;apply seq;refine ghost (Mat.freezeP (n:=3005) (e:=41) (sz:=16) (es:=p.2.2.map H1) (Ts:=[(5,H6 p.2.2)]) (Bs:=[]) (by rfl) (TwT.cons (x:=(.sref 3005 16 0 p.2.2.length)) (by rfl) (FrzL.all (by first | rfl | (simp;done) | (simp;omega) | omega)) TwT.nil) TwB.nil) ?_
  refine ghost (Mat.freezeP (n:=3006) (e:=41) (sz:=16) (es:=p.2.1.map H1) (Ts:=[(6,H6 p.2.1)]) (Bs:=[]) (by rfl) (TwT.cons (x:=(.sref 3006 16 0 p.2.1.length)) (by rfl) (FrzL.all (by first | rfl | (simp;done) | (simp;omega) | omega)) TwT.nil) TwB.nil) ?_
  obtain⟨P,ac,h⟩:=bindS h;refine rg (SQ (fa (cl [] (B1x a1 p.2.2 p.2.1 P ac)) tt)) ?_;apply A0;apply ret;obtain rfl:=oi h;exact rt (kp [(4,_)] [(0,some _)] hB rfl rfl (by rfl)) [A6 P] (rT rN) rfl
def A4e (a0:F4):Option (Bool):=
 some ((((((decide (0≤a0.fBurst))&&(decide (a0.fBurst≤1048576)))&&(decide (0≤a0.fRate)))&&(decide (a0.fRate≤a0.fBurst)))&&(decide (0≤a0.fLevel)))&&(decide (a0.fLevel≤a0.fBurst)))
theorem B0n (a0:F4) (r:Bool) (h:A4e a0=some r):AC Tryz.prog 32 [.d (C8 a0)] [] (.d (.bool r)) []:=by
 refine ac2 Tryz.func32 rfl rfl fun B hB hN L => ?_;delta A4e at h;refine sr (SQ tt) ?_;refine sr (SQ tt) ?_;apply ret;obtain rfl:=oi h;exact rt (kp [(2,_)] [] hB rfl rfl (by rfl)) [bo ((((((decide (0≤a0.fBurst))&&(decide (a0.fBurst≤1048576)))&&(decide (0≤a0.fRate)))&&(decide (a0.fRate≤a0.fBurst)))&&(decide (0≤a0.fLevel)))&&(decide (a0.fLevel≤a0.fBurst)))] (rT rN) rfl
def R7 (a0:D1):Option (Bool):=
 jn (fun p:Bool=>
 some p) (fun i=>
 (if a0.fV6=true then
 i true
 else
 i ((a0.fHi==0)&&(decide (a0.fLo<4294967296)))))
theorem J8 (a0:D1) (r:Bool) (h:R7 a0=some r):AC Tryz.prog 90 [.d (E4 a0)] [] (.d (.bool r)) []:=by
 refine ac2 Tryz.func90 rfl rfl fun B hB hN L => ?_;delta R7 at h;refine sr (SQ tt) ?_;apply seq;refine AWp.cut h (fun p:Bool=>([(2,bo p)]:EL)) (fun p:Bool=>([]:OL)) (fun p h u A t => ?_) (fun C s h => ?_)
 ·apply A0;refine ghost t ?_;apply ret;obtain rfl:=oi h;exact rt (kp [(2,_)] [] hB rfl rfl (by rfl)) [bo p] (rT rN) rfl
 ·rcases bft a0.fV6 with i | i
  ·have h:=A4 i h;refine rg (SQ (fa i tt)) ?_;exact s _ h _ _ (mp [] _ _ hB)
  ·have h:=A5 i h;refine rg (SQ (fa i tt)) ?_;exact s _ h _ _ (mp [] _ _ hB)
def A4f (a0:D1):Option (Int):=
 (if a0.fV6=true then
 some 128
 else
 some 32)
theorem B0o (a0:D1) (r:Int) (h:A4f a0=some r):AC Tryz.prog 123 [.d (E4 a0)] [] (.d (.int .i64 r)) []:=by
 refine AC.of_code2 Tryz.func123 rfl rfl (Nat.le_of_ble_eq_true (by rfl)) fun B hB hN => ?_;delta A4f at h;refine sr (SQ tt) ?_;apply seq;refine sr (SQ tt) ?_;apply AWp.cond rfl<;>intro i
 ·have h:=A4 i h;refine sr (SQ tt) ?_;apply ret;apply B6;obtain rfl:=oi h;exact rt (kp [(2,_)] [] hB rfl rfl (by rfl)) [i6 128] (rT rN) rfl
 ·have h:=A5 i h;apply AWp.skip;apply A0;refine sr (SQ tt) ?_;apply ret;obtain rfl:=oi h;exact rt (kp [(2,_)] [] hB rfl rfl (by rfl)) [i6 32] (rT rN) rfl
def A1f (a0:D1) (i:Int×(List Int)):Option (List Int⊕(Int×(List Int))):=
 (if (decide (0≤i.1))=true then
 jn (fun p:Int=>
 chk (decide ((i.2++([IntKind.u8.wrap (shrI .u64 p (IntKind.u64.wrap (8*(IntKind.u64.wrap (Int.tmod i.1 8)))))]:List Int)).length≤LIM))<|
 some (.inr (w64 (i.1-1),(i.2++([IntKind.u8.wrap (shrI .u64 p (IntKind.u64.wrap (8*(IntKind.u64.wrap (Int.tmod i.1 8)))))]:List Int))))) (fun s=>
 (if (decide (8≤i.1))=true then
 s a0.fHi
 else
 s a0.fLo))
 else
 some (.inl i.2))
def M6 (a0:D1):Option (List Int):=
 (R7 a0).bind fun p=>
 (if (!p)=true then
 some ([]:List Int)
 else
 jn (fun s:Int=>
 (loop (A1f a0) (w64 (s-1),([]:List Int))).bind fun t=>
 some t) (fun i=>
 (if a0.fV6=true then
 i 16
 else
 i 4)))
theorem A44 (a0:D1) (r:(List Int)) (h:M6 a0=some r):AC Tryz.prog 96 [.d (E4 a0)] [] (.d (.list 1 (r.map (eI .u8)))) []:=by
 refine ac2 Tryz.func96 rfl rfl fun B hB hN L => ?_;delta M6 at h;refine sr (SQ tt) ?_;apply seq;obtain⟨K,M,h⟩:=bindS h;refine sr (SQ (fa (cl [] (J8 a0 K M)) tt)) ?_;apply AWp.cond rfl<;>intro E
 ·have h:=A4 E h;refine sr (SQ tt) ?_;apply ret;apply B6;obtain rfl:=oi h;exact rt (Mat.trans (Mat.coeP (Ts:=[(2,.d (.list 1 (([]:List Int).map (eI .u8))))]) (Bs:=[]) (TwT.cons (x:=.nils) (by rfl) (Tw.leaf ⟨_,Co.nils 1,rfl⟩) TwT.nil) TwB.nil) (mp [] [(2,.d (.list 1 (([]:List Int).map (eI .u8))))] [] hB)) [.d (.list 1 (([]:List Int).map (eI .u8)))] (rT rN) rfl
 ·have h:=A5 E h;apply AWp.skip;apply A0;refine sr (SQ tt) ?_;apply seq;refine sr (SQ tt) ?_;refine gh [(1,_),(3,_),(11,_)] [(1001,some _)] hB rfl rfl (by rfl) ?_;refine AWp.cut h (fun A:Int=>([(1,pt 1001),(3,i6 A)]:EL)) (fun A:Int=>([(1001,bd 31 (E4 a0))]:OL)) (fun A h t u s => ?_) (fun P F h => ?_)
  ·apply A0;refine ghost s ?_;refine sr (SQ tt) ?_;apply seq;refine sr (SQ tt) ?_;apply block;obtain⟨i,N,h⟩:=bindS h;refine lg (A1f a0) (fun p:Int×(List Int)=>([(1,pt 1001),(4,.sref 3004 1 0 p.2.length),(5,i6 p.1)]:EL)) (fun p:Int×(List Int)=>([(1001,bd 31 (E4 a0)),(3004,some (.row 5 1 (p.2.map (eI .u8))))]:OL)) (fun(i:(List Int)) e t u=>e = .exit 0∧Mat B t u ([(4,.sref 3004 1 0 i.length)]:EL) ([(3004,some (.row 5 1 (i.map (eI .u8))))]:OL)) N (Mat.trans (Mat.beginP (n:=3004) (e:=5) (sz:=1) (Ts:=[(4,.sref 3004 1 0 0)]) (Bs:=[]) hB (by decide) (by rfl) (by decide) (TwT.cons (x:=.nils) (by rfl) (Tw.leaf ⟨rfl,rfl⟩) TwT.nil) TwB.nil) (mp [] _ _ hB)) (fun p y h => ?_) (fun e t u hR => ?_)
   ·unfold A1f at h;apply seq;refine sr (SQ tt) ?_;apply AWp.cond rfl<;>intro G
    ·have h:=A4 G h;apply AWp.skip;apply A0;apply seq;apply block;refine sr (SQ tt) ?_;apply seq;refine sr (SQ tt) ?_;refine gh [(1,_),(4,_),(5,_),(6,_),(21,_)] [(1001,some _),(3004,some _)] hB rfl rfl (by rfl) ?_;refine AWp.cut h (fun C:Int=>([(1,pt 1001),(4,.sref 3004 1 0 p.2.length),(5,i6 p.1),(6,.d (.int .u64 C))]:EL)) (fun C:Int=>([(1001,bd 31 (E4 a0)),(3004,some (.row 5 1 (p.2.map (eI .u8))))]:OL)) (fun C h t u s => ?_) (fun Q H h => ?_)
     ·apply A0;refine ghost s ?_;obtain⟨O,h⟩:=B2 h;refine rg (SQ (fa O tt)) ?_;apply D9;apply A0;refine rg (SQ tt) ?_;obtain rfl:=oi h;exact⟨rfl,mp [(3004,1033)] _ _ hB⟩
     ·apply AWp.cond rfl<;>intro I
      ·have h:=A4 I h;refine rg (SQ tt) ?_;exact H _ h _ _ (mp [] _ _ hB)
      ·have h:=A5 I h;apply AWp.skip;exact H _ h _ _ (mp [] _ _ hB)
    ·have h:=A5 G h;apply AWp.exit;apply D7;obtain rfl:=oi h;exact⟨nofun,rfl,mp [] _ _ hB⟩
   ·obtain⟨rfl,s⟩:=hR;apply C0;apply A0;refine ghost s ?_;refine sr (SQ tt) ?_;apply ret;obtain rfl:=oi h;exact rt (Mat.trans (Mat.freezeP (n:=3004) (e:=5) (sz:=1) (es:=i.map (eI .u8)) (Ts:=[(2,.d (.list 1 (i.map (eI .u8))))]) (Bs:=[]) (by rfl) (TwT.cons (x:=(.sref 3004 1 0 i.length)) (by rfl) (FrzL.all (by first | rfl | (simp;done) | (simp;omega) | omega)) TwT.nil) TwB.nil) (mp [] [(2,.d (.list 1 (i.map (eI .u8))))] [] hB)) [.d (.list 1 (i.map (eI .u8)))] (rT rN) rfl
  ·apply AWp.cond rfl<;>intro J
   ·have h:=A4 J h;refine rg (SQ tt) ?_;exact F _ h _ _ (mp [] _ _ hB)
   ·have h:=A5 J h;apply AWp.skip;exact F _ h _ _ (mp [] _ _ hB)
def A26 (a0:D1) (i:Int×(List Int)):Option (List Int⊕(Int×(List Int))):=
 (if (decide (0≤i.1))=true then
 jn (fun p:Int=>
 chk (decide ((i.2++([IntKind.u8.wrap (shrI .u64 p (IntKind.u64.wrap (8*(IntKind.u64.wrap (Int.tmod i.1 8)))))]:List Int)).length≤LIM))<|
 some (.inr (w64 (i.1-1),(i.2++([IntKind.u8.wrap (shrI .u64 p (IntKind.u64.wrap (8*(IntKind.u64.wrap (Int.tmod i.1 8)))))]:List Int))))) (fun s=>
 (if (decide (8≤i.1))=true then
 s a0.fHi
 else
 s a0.fLo))
 else
 some (.inl i.2))
def A27 (a0:D1):Option (List Int):=
 (R7 a0).bind fun p=>
 (if (!p)=true then
 some ([]:List Int)
 else
 jn (fun s:Int=>
 (loop (A26 a0) (w64 (s-1),([]:List Int))).bind fun t=>
 some t) (fun i=>
 (if a0.fV6=true then
 i 16
 else
 i 4)))
theorem A91 (a0:D1) (r:(List Int)) (h:A27 a0=some r):AC Tryz.prog 96 [.d (E4 a0)] [] (.sref 900000 1 0 r.length) [(900000,some (.row 5 1 (r.map (eI .u8))))]:=by
 refine ac2 Tryz.func96 rfl rfl fun B hB hN L => ?_;delta A27 at h;refine sr (SQ tt) ?_;apply seq;obtain⟨K,M,h⟩:=bindS h;refine sr (SQ (fa (cl [] (J8 a0 K M)) tt)) ?_;apply AWp.cond rfl<;>intro E
 ·have h:=A4 E h;refine sr (SQ tt) ?_;apply ret;apply B6;obtain rfl:=oi h;exact rt (Mat.trans (Mat.beginP (n:=900500) (e:=5) (sz:=1) (Ts:=[(2,.sref 900500 1 0 0)]) (Bs:=[]) hB (by decide) (by rfl) (by decide) (TwT.cons (x:=.nils) (by rfl) (Tw.leaf ⟨rfl,rfl⟩) TwT.nil) TwB.nil) (Mat.trans (Mat.lenP (Ts:=[(2,.sref 900500 1 0 (([]:List Int).length))]) (Bs:=[]) (TwT.cons (x:=(.sref 900500 1 0 0)) (by rfl) (Tw.leaf ⟨_,_,_,_,_,rfl,rfl,(by first | rfl | (simp;done) | (simp;omega) | omega)⟩) TwT.nil) TwB.nil) (mp [(900000,900500)] [(2,.sref 900000 1 0 (([]:List Int).length))] [(900000,some (.row 5 1 (([]:List Int).map (eI .u8))))] hB))) [.sref 900000 1 0 (([]:List Int).length)] (rT rN) rfl
 ·have h:=A5 E h;apply AWp.skip;apply A0;refine sr (SQ tt) ?_;apply seq;refine sr (SQ tt) ?_;refine gh [(1,_),(3,_),(11,_)] [(1001,some _)] hB rfl rfl (by rfl) ?_;refine AWp.cut h (fun A:Int=>([(1,pt 1001),(3,i6 A)]:EL)) (fun A:Int=>([(1001,bd 31 (E4 a0))]:OL)) (fun A h t u s => ?_) (fun P F h => ?_)
  ·apply A0;refine ghost s ?_;refine sr (SQ tt) ?_;apply seq;refine sr (SQ tt) ?_;apply block;obtain⟨p,N,h⟩:=bindS h;refine lg (A26 a0) (fun i:Int×(List Int)=>([(1,pt 1001),(4,.sref 3004 1 0 i.2.length),(5,i6 i.1)]:EL)) (fun i:Int×(List Int)=>([(1001,bd 31 (E4 a0)),(3004,some (.row 5 1 (i.2.map (eI .u8))))]:OL)) (fun(p:(List Int)) e t u=>e = .exit 0∧Mat B t u ([(4,.sref 3004 1 0 p.length)]:EL) ([(3004,some (.row 5 1 (p.map (eI .u8))))]:OL)) N (Mat.trans (Mat.beginP (n:=3004) (e:=5) (sz:=1) (Ts:=[(4,.sref 3004 1 0 0)]) (Bs:=[]) hB (by decide) (by rfl) (by decide) (TwT.cons (x:=.nils) (by rfl) (Tw.leaf ⟨rfl,rfl⟩) TwT.nil) TwB.nil) (mp [] _ _ hB)) (fun i y h => ?_) (fun e t u hR => ?_)
   ·unfold A26 at h;apply seq;refine sr (SQ tt) ?_;apply AWp.cond rfl<;>intro G
    ·have h:=A4 G h;apply AWp.skip;apply A0;apply seq;apply block;refine sr (SQ tt) ?_;apply seq;refine sr (SQ tt) ?_;refine gh [(1,_),(4,_),(5,_),(6,_),(21,_)] [(1001,some _),(3004,some _)] hB rfl rfl (by rfl) ?_;refine AWp.cut h (fun C:Int=>([(1,pt 1001),(4,.sref 3004 1 0 i.2.length),(5,i6 i.1),(6,.d (.int .u64 C))]:EL)) (fun C:Int=>([(1001,bd 31 (E4 a0)),(3004,some (.row 5 1 (i.2.map (eI .u8))))]:OL)) (fun C h t u s => ?_) (fun Q H h => ?_)
     ·apply A0;refine ghost s ?_;obtain⟨O,h⟩:=B2 h;refine rg (SQ (fa O tt)) ?_;apply D9;apply A0;refine rg (SQ tt) ?_;obtain rfl:=oi h;exact⟨rfl,mp [(3004,1033)] _ _ hB⟩
     ·apply AWp.cond rfl<;>intro I
      ·have h:=A4 I h;refine rg (SQ tt) ?_;exact H _ h _ _ (mp [] _ _ hB)
      ·have h:=A5 I h;apply AWp.skip;exact H _ h _ _ (mp [] _ _ hB)
    ·have h:=A5 G h;apply AWp.exit;apply D7;obtain rfl:=oi h;exact⟨nofun,rfl,mp [] _ _ hB⟩
   ·obtain⟨rfl,s⟩:=hR;apply C0;apply A0;refine ghost s ?_;refine sr (SQ tt) ?_;apply ret;obtain rfl:=oi h;exact rt (mp [(900000,3004)] [(2,.sref 900000 1 0 p.length)] [(900000,some (.row 5 1 (p.map (eI .u8))))] hB) [.sref 900000 1 0 p.length] (rT rN) rfl
  ·apply AWp.cond rfl<;>intro J
   ·have h:=A4 J h;refine rg (SQ tt) ?_;exact F _ h _ _ (mp [] _ _ hB)
   ·have h:=A5 J h;apply AWp.skip;exact F _ h _ _ (mp [] _ _ hB)
def P0 (a0:(List Int)) (i:Int×Int×Int):Option ((Int×Int)⊕(Int×Int×Int)):=
 (if (decide (i.1<(a0.length:Int)))=true then
 (idx a0 i.1).bind fun p=>
 some (.inr (w64 (i.1+1),bitI .or .u64 (shlI .u64 i.2.1 8) (shrI .u64 i.2.2 56),bitI .or .u64 (shlI .u64 i.2.2 8) (IntKind.u64.wrap p)))
 else
 some (.inl (i.2.1,i.2.2)))
def U0 (a0:(List Int)):Option (D1×Int):=
 (if (((a0.length:Int) != 4)&&((a0.length:Int) != 16))=true then
 some (D1.mk false 0 0,1)
 else
 (loop (P0 a0) (0,0,0)).bind fun i=>
 some (D1.mk ((a0.length:Int)==16) i.1 i.2,0))
theorem A88 (a0:(List Int)) (r:D1×Int) (h:U0 a0=some r):AC Tryz.prog 124 [.d (.list 1 (a0.map (eI .u8)))] [] (.tup [.d (E4 r.1),.d (.int .i64 r.2)]) []:=by
 refine ac2 Tryz.func124 rfl rfl fun B hB hN L => ?_;delta U0 at h;refine sr (SQ tt) ?_;apply seq;refine sr (SQ tt) ?_;apply AWp.cond rfl<;>intro s
 ·have h:=A4 s h;refine sr (SQ tt) ?_;apply ret;apply B6;obtain rfl:=oi h;exact rt (kp [(2,_),(3,_)] [(1002,some _)] hB rfl rfl (by rfl)) [.d (.st Zz0),i6 1] (Res.cell (c:=(.d (.st Zz0))) (by rfl) (by rfl) tyS31 (by rfl) (by rfl) (by rfl) (rT rN)) rfl
 ·have h:=A5 s h;apply AWp.skip;apply A0;refine sr (SQ tt) ?_;apply seq;refine sr (SQ tt) ?_;apply block;obtain⟨i,C,h⟩:=bindS h;refine lg (P0 a0) (fun p:Int×Int×Int=>([(2,pt 1002),(4,pt 1004),(20,.d (.list 1 (a0.map (eI .u8)))),(21,i6 (a0.length:Int)),(22,i6 p.1)]:EL)) (fun p:Int×Int×Int=>([(1002,bd 31 (.st Zz0)),(1004,bd 31 (.st [.bool ((a0.length:Int)==16),.int .u64 p.2.1,.int .u64 p.2.2]))]:OL)) (fun(i:(Int×Int)) e t u=>e = .exit 0∧Mat B t u ([(2,pt 1002),(4,pt 1004)]:EL) ([(1002,bd 31 (.st Zz0)),(1004,bd 31 (.st [.bool ((a0.length:Int)==16),.int .u64 i.1,.int .u64 i.2]))]:OL)) C (mp [] _ _ hB) (fun p y h => ?_) (fun e t u hR => ?_)
  ·unfold P0 at h;refine sr (SQ tt) ?_;apply seq;apply AWp.cond rfl<;>intro A
   ·have h:=A4 A h;apply AWp.skip;apply A0;apply seq;apply block;obtain⟨_,E,h⟩:=bindS h;refine sr (SQ (fa E tt)) ?_;refine sr (SQ tt) ?_;refine rg (SQ tt) ?_;apply D9;apply A0;refine rg (SQ tt) ?_;obtain rfl:=oi h;exact⟨rfl,mp [] _ _ hB⟩
   ·have h:=A5 A h;apply AWp.exit;apply D7;obtain rfl:=oi h;exact⟨nofun,rfl,mp [] _ _ hB⟩
  ·obtain⟨rfl,F⟩:=hR;apply C0;apply A0;refine ghost F ?_;refine sr (SQ tt) ?_;apply ret;obtain rfl:=oi h;exact rt (kp [(2,_),(3,_)] [(1002,some _)] hB rfl rfl (by rfl)) [.d (.st [.bool ((a0.length:Int)==16),.int .u64 i.1,.int .u64 i.2]),i6 0] (Res.cell (c:=(.d (.st [.bool ((a0.length:Int)==16),.int .u64 i.1,.int .u64 i.2]))) (by rfl) (by rfl) tyS31 (by rfl) (by rfl) (by rfl) (rT rN)) rfl
end
end Go.Proofs.YtplbaenjbihekaaGreatDoor
