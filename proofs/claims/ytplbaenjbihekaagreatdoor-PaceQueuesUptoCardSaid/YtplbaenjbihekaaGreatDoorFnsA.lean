/- Printed by gen.py: the Go functions as plain functions, and that the code does what they say. -/
import Derived.Test.YtplbaenjbihekaaGreatDoorChecked
import Derived.Test.YtplbaenjbihekaaGreatDoorVcYB
import Derived.Test.YtplbaenjbihekaaGreatDoorVcZ
import Derived.Test.YtplbaenjbihekaaGreatDoorVcGC
import Derived.KernelRfl
import Derived.Test.YtplbaenjbihekaaGreatDoorVcMD
import Derived.Test.YtplbaenjbihekaaGreatDoorVcMQ
import Derived.Test.YtplbaenjbihekaaGreatDoorVcSG
import Derived.Test.YtplbaenjbihekaaGreatDoorExt
import Derived.Test.YtplbaenjbihekaaGreatDoorVcPm
import Derived.Test.YtplbaenjbihekaaGreatDoorVcRg
import Derived.Test.YtplbaenjbihekaaGreatDoorVcSt
import Derived.Test.YtplbaenjbihekaaGreatDoorVcMR
namespace Go.Proofs.YtplbaenjbihekaaGreatDoor
open Go Go.Vc
open Tryz
open Go.Vc.OpJ (assign alloc lss pickT pickF extract lenD indexD loadD eqlI gtr callVal leq geq loadR nilP indexS buildSlice lenS fieldD neqI pickAnd pickOr)
open Go.Vc.AWp (seq ghost ret block)
set_option maxHeartbeats 4000000
set_option maxRecDepth 100000
noncomputable section
structure E5 where
 fV6:Bool
 fHi:Int
 fLo:Int
@[reducible] def Zz0:List D:=[.bool false,.int .u64 0,.int .u64 0]
@[reducible] def Zz1:List D:=[.int .i64 0,.int .i64 0,.int .i64 0]
@[reducible] def Zz4:List V:=[.d (.int .i64 0),.nils,.d (.st Zz0),.d (.int .i64 0),.d (.int .i64 0),.d (.int .i64 0),.nils,.nils,.nils]
@[reducible] def Zz7:List V:=[i6 0,.nils,.d (.st Zz0),i6 0,i6 0,i6 0,.nils,.nils,.nils]
@[reducible] def Zz8:List V:=[.nils,.d (.st Zz1)]
@[reducible] def Zz9:List D:=[.st Zz0,.int .i64 0]
def E4 (x:E5):D:=.st [.bool x.fV6,.int .u64 x.fHi,.int .u64 x.fLo]
structure A2 where
 fAddr:E5
 fLen:Int
def B0 (x:A2):D:=.st [E4 x.fAddr,.int .i64 x.fLen]
def C3k (x:(List Int)):D:=(.list 1 (x.map (eI .i64)))
structure B4 where
 fSet:Bool
 fASNs:(List Int)
def D2 (x:B4):D:=.st [.bool x.fSet,.list 1 (x.fASNs.map (eI .i64))]
def C0k (x:(List B4)):D:=(.list 2 (x.map D2))
structure B5 where
 fA:Int
 fB:Int
def C5 (x:B5):D:=.st [.int .i64 x.fA,.int .i64 x.fB]
def B9l (x:(List B5)):D:=(.list 2 (x.map C5))
structure E7 where
 fA:Int
 fB:Int
 fC:Int
def E9 (x:E7):D:=.st [.int .i64 x.fA,.int .i64 x.fB,.int .i64 x.fC]
def C21 (x:(List E7)):D:=(.list 3 (x.map E9))
def A97 (x:(List Int)):D:=(.list 1 (x.map (eI .u8)))
structure A3 where
 fFlags:Int
 fType:Int
 fData:(List Int)
def B6 (x:A3):D:=.st [.int .i64 x.fFlags,.int .i64 x.fType,.list 1 (x.fData.map (eI .u8))]
@[reducible] def Zz2:List D:=[.int .i64 0,.list 2 (([]:List B4).map D2),.st Zz0,.int .i64 0,.int .i64 0,.int .i64 0,.list 2 (([]:List B5).map C5),.list 3 (([]:List E7).map E9),.list 3 (([]:List A3).map B6)]
@[reducible] def Zz6:List D:=[.int .i64 (-1),.list 2 (([]:List B4).map D2),.st Zz0,.int .i64 (-1),.int .i64 (-1),.int .i64 (-1),.list 2 (([]:List B5).map C5),.list 3 (([]:List E7).map E9),.list 3 (([]:List A3).map B6)]
def C0l (x:(List A3)):D:=(.list 3 (x.map B6))
structure C2 where
 fOrigin:Int
 fPath:(List B4)
 fNext:E5
 fMED:Int
 fPref:Int
 fOTC:Int
 fCommunities:(List B5)
 fLarge:(List E7)
 fOther:(List A3)
def C8 (x:C2):D:=.st [.int .i64 x.fOrigin,.list 2 (x.fPath.map D2),E4 x.fNext,.int .i64 x.fMED,.int .i64 x.fPref,.int .i64 x.fOTC,.list 2 (x.fCommunities.map C5),.list 3 (x.fLarge.map E9),.list 3 (x.fOther.map B6)]
structure D5 where
 fPrefix:A2
 fFrom:Int
 fAttrs:C2
def G6 (x:D5):D:=.st [B0 x.fPrefix,.int .i64 x.fFrom,C8 x.fAttrs]
structure A1 where
 fTo:Int
 fPrefix:A2
 fHas:Bool
 fRoute:D5
def A8 (x:A1):D:=.st [.int .i64 x.fTo,B0 x.fPrefix,.bool x.fHas,G6 x.fRoute]
@[reducible] def Zz5:List D:=[.list 22 (([]:List A1).map A8),.st Zz1]
def A2b (x:(List A1)):D:=(.list 22 (x.map A8))
structure D9 where
 fLevel:Int
 fRate:Int
 fBurst:Int
def C1 (x:D9):D:=.st [.int .i64 x.fLevel,.int .i64 x.fRate,.int .i64 x.fBurst]
structure C3 where
 fPending:(List A1)
 fBucket:D9
def D4 (x:C3):D:=.st [.list 22 (x.fPending.map A8),C1 x.fBucket]
def gv0:List (Int×Int):=[(1,64),(2,64),(3,64),(4,128),(5,64),(8,192),(32,192),(35,192)]
@[reducible] def Zz3:OL:=[(500,some (.know (globD 0 (.imap gv0))))]
@[reducible] def Zz10:List (Nat×Ob):=[(500,.know (globD 0 (.imap gv0)))]
def keq33 (a b:A2):Bool:=(((a.fAddr.fV6==b.fAddr.fV6)&&((a.fAddr.fHi==b.fAddr.fHi)&&((a.fAddr.fLo==b.fAddr.fLo)&&true)))&&((a.fLen==b.fLen)&&true))
def C1r (x:(List A2)):D:=(.list 4 (x.map B0))
structure A7 where
 fWithdraw:(List A2)
 fAttrs:C2
 fAnnounce:(List A2)
def E6 (x:A7):D:=.st [.list 4 (x.fWithdraw.map B0),C8 x.fAttrs,.list 4 (x.fAnnounce.map B0)]
def keq3 (a b:Int):Bool:=(a==b)
structure D3 where
 fattrs:C2
 fprefixes:(List A2)
def F3 (x:D3):D:=.st [C8 x.fattrs,.list 4 (x.fprefixes.map B0)]
structure A9 where
 fL:(List Int)
 fAt:Int
def B7 (x:A9):D:=.st [.list 1 (x.fL.map (eI .i64)),.int .i64 x.fAt]
@[reducible] def qI_1 (x:List Int):V:=.d (.list 1 (x.map (eI .i64)))
@[reducible] def C3t (x:List Int):Ob:=.row 3 1 (x.map (eI .i64))
@[reducible] def C9 (x:List B5):V:=.d (.list 2 (x.map C5))
@[reducible] def A5d (x:List B5):Ob:=.row 132 2 (x.map C5)
@[reducible] def E8 (x:List E7):V:=.d (.list 3 (x.map E9))
@[reducible] def A7s (x:List E7):Ob:=.row 134 3 (x.map E9)
@[reducible] def D0 (x:List B4):V:=.d (.list 2 (x.map D2))
@[reducible] def C6 (x:List A3):V:=.d (.list 3 (x.map B6))
@[reducible] def K7 (x:List B4):Ob:=.row 75 2 (x.map D2)
@[reducible] def E0 (x:List A3):Ob:=.row 78 3 (x.map B6)
@[reducible] def F8 (x:List A2):V:=.d (.list 4 (x.map B0))
@[reducible] def G0 (x:List A2):Ob:=.row 33 4 (x.map B0)
@[reducible] def C4 (x:List A7):Ob:=.row 71 13 (x.map E6)
@[reducible] def D1 (x:List A7):V:=.d (.list 13 (x.map E6))
@[reducible] def A4 (x:List A1):V:=.d (.list 22 (x.map A8))
@[reducible] def B3 (x:List A1):Ob:=.row 43 22 (x.map A8)
@[reducible] def H7 (x:List D5):V:=.d (.list 16 (x.map G6))
@[reducible] def G1 (x:List D5):Ob:=.row 41 16 (x.map G6)
@[reducible] def V6 (x:List C3):V:=.d (.list 4 (x.map D4))
theorem tyS22:TyS Tryz.prog 22 1 false:=⟨by kernel_rfl,by kernel_rfl⟩
theorem tyZS24:TyZ Tryz.prog 24 (.st [.d (.int .i64 0),.d (.int .i64 0),.d (.int .i64 0)]):=⟨by kernel_rfl,fun w=>by kernel_rfl⟩
theorem tyZS26:TyZ Tryz.prog 26 (.st Zz8):=⟨by kernel_rfl,fun w=>by kernel_rfl⟩
theorem tyZS33:TyZ Tryz.prog 33 (.st [.d (.st Zz0),.d (.int .i64 0)]):=⟨by kernel_rfl,fun w=>by kernel_rfl⟩
theorem tyZS43:TyZ Tryz.prog 43 (.st [.d (.int .i64 0),.d (.st Zz9),.d (.bool false),.st [.d (.st Zz9),.d (.int .i64 0),.st Zz4]]):=⟨by kernel_rfl,fun w=>by kernel_rfl⟩
theorem tyS43:TyS Tryz.prog 43 22 true:=⟨by kernel_rfl,by kernel_rfl⟩
theorem tyZD43:TyZ Tryz.prog 43 (.d (.st [.int .i64 0,.st Zz9,.bool false,.st [.st Zz9,.int .i64 0,.st Zz2]])):=⟨by kernel_rfl,fun w=>by kernel_rfl⟩
theorem tyZ26:TyZ Tryz.prog 26 (.st Zz8):=⟨by kernel_rfl,fun w=>by kernel_rfl⟩
theorem tyS26:TyS Tryz.prog 26 4 true:=⟨by kernel_rfl,by kernel_rfl⟩
theorem tyS24:TyS Tryz.prog 24 3 true:=⟨by kernel_rfl,by kernel_rfl⟩
theorem tyS3:TyS Tryz.prog 3 1 false:=⟨by kernel_rfl,by kernel_rfl⟩
theorem fnOk30:FnOk Tryz.prog 30:=⟨by kernel_rfl⟩
theorem tyZ43:TyZ Tryz.prog 43 (.st [.d (.int .i64 0),.d (.st Zz9),.d (.bool false),.st [.d (.st Zz9),.d (.int .i64 0),.st Zz4]]):=⟨by kernel_rfl,fun w=>by kernel_rfl⟩
theorem tyS33:TyS Tryz.prog 33 4 true:=⟨by kernel_rfl,by kernel_rfl⟩
theorem tyS29:TyS Tryz.prog 29 1 false:=⟨by kernel_rfl,by kernel_rfl⟩
theorem tyS4:TyS Tryz.prog 4 1 false:=⟨by kernel_rfl,by kernel_rfl⟩
theorem held31:Program.stoodInHeld Tryz.prog 31=false:=by kernel_rfl
theorem tyS31:TyS Tryz.prog 31 3 true:=⟨by kernel_rfl,by kernel_rfl⟩
theorem held33:Program.stoodInHeld Tryz.prog 33=false:=by kernel_rfl
theorem keyEq33:KeyEq Tryz.prog 33 B0 keq33:=⟨⟨3,by decide,fun a b=>(FitE.st underlying33 rfl held33 (FitF.cons (x:=(E4 a.fAddr)) (y:=(E4 b.fAddr)) (by decide) rfl tyS31 ⟨rfl,rfl⟩ ⟨rfl,rfl⟩ (FitE.st underlying31 rfl held31 (FitF.cons (x:=(.bool a.fAddr.fV6)) (y:=(.bool b.fAddr.fV6)) (by decide) rfl tyS4 ⟨rfl,rfl⟩ ⟨rfl,rfl⟩ (FitE.bool (h:=0) a.fAddr.fV6 b.fAddr.fV6 underlying4) (FitF.cons (x:=(.int .u64 a.fAddr.fHi)) (y:=(.int .u64 b.fAddr.fHi)) (by decide) rfl tyS29 ⟨rfl,rfl⟩ ⟨rfl,rfl⟩ (FitE.int (h:=0) a.fAddr.fHi b.fAddr.fHi underlying29) (FitF.cons (x:=(.int .u64 a.fAddr.fLo)) (y:=(.int .u64 b.fAddr.fLo)) (by decide) rfl tyS29 ⟨rfl,rfl⟩ ⟨rfl,rfl⟩ (FitE.int (h:=0) a.fAddr.fLo b.fAddr.fLo underlying29) FitF.nil)))) (FitF.cons (x:=(.int .i64 a.fLen)) (y:=(.int .i64 b.fLen)) (by decide) rfl tyS3 ⟨rfl,rfl⟩ ⟨rfl,rfl⟩ (FitE.int (h:=1) a.fLen b.fLen underlying3) FitF.nil)))⟩,fun a b h=>by
 unfold keq33 at h;simp at h;simp [E4,B0,h]⟩
theorem tyU82:Tryz.prog.underlying 82=some (.map 33 4):=by kernel_rfl
theorem tyZD4:TyZ Tryz.prog 4 (.d (.bool false)):=⟨by kernel_rfl,fun w=>by kernel_rfl⟩
theorem tyZ123:TyZ Tryz.prog 123 (.st [.st Zz4,.nils]):=⟨by kernel_rfl,fun w=>by kernel_rfl⟩
theorem fnOk141:FnOk Tryz.prog 141:=⟨by kernel_rfl⟩
theorem fnOk142:FnOk Tryz.prog 142:=⟨by kernel_rfl⟩
theorem tyZ31:TyZ Tryz.prog 31 (.d (.st Zz0)):=⟨by kernel_rfl,fun w=>by kernel_rfl⟩
theorem fnOk150:FnOk Tryz.prog 150:=⟨by kernel_rfl⟩
theorem fnOk143:FnOk Tryz.prog 143:=⟨by kernel_rfl⟩
theorem feq31:∀ a b:E5,FitE Tryz.prog 2 31 (E4 a) (E4 b) ((a.fV6==b.fV6)&&((a.fHi==b.fHi)&&((a.fLo==b.fLo)&&true))):=fun a b=>(FitE.st underlying31 rfl held31 (FitF.cons (x:=(.bool a.fV6)) (y:=(.bool b.fV6)) (by decide) rfl tyS4 ⟨rfl,rfl⟩ ⟨rfl,rfl⟩ (FitE.bool (h:=0) a.fV6 b.fV6 underlying4) (FitF.cons (x:=(.int .u64 a.fHi)) (y:=(.int .u64 b.fHi)) (by decide) rfl tyS29 ⟨rfl,rfl⟩ ⟨rfl,rfl⟩ (FitE.int (h:=0) a.fHi b.fHi underlying29) (FitF.cons (x:=(.int .u64 a.fLo)) (y:=(.int .u64 b.fLo)) (by decide) rfl tyS29 ⟨rfl,rfl⟩ ⟨rfl,rfl⟩ (FitE.int (h:=0) a.fLo b.fLo underlying29) FitF.nil))))
theorem eqg31:Program.eqGuardType Tryz.prog (Program.depth Tryz.prog) 31=false:=by kernel_rfl
theorem fnOk112:FnOk Tryz.prog 112:=⟨by kernel_rfl⟩
theorem tyS41:TyS Tryz.prog 41 16 true:=⟨by kernel_rfl,by kernel_rfl⟩
theorem feq33:∀ a b:A2,FitE Tryz.prog 3 33 (B0 a) (B0 b) (((a.fAddr.fV6==b.fAddr.fV6)&&((a.fAddr.fHi==b.fAddr.fHi)&&((a.fAddr.fLo==b.fAddr.fLo)&&true)))&&((a.fLen==b.fLen)&&true)):=fun a b=>(FitE.st underlying33 rfl held33 (FitF.cons (x:=(E4 a.fAddr)) (y:=(E4 b.fAddr)) (by decide) rfl tyS31 ⟨rfl,rfl⟩ ⟨rfl,rfl⟩ (FitE.st underlying31 rfl held31 (FitF.cons (x:=(.bool a.fAddr.fV6)) (y:=(.bool b.fAddr.fV6)) (by decide) rfl tyS4 ⟨rfl,rfl⟩ ⟨rfl,rfl⟩ (FitE.bool (h:=0) a.fAddr.fV6 b.fAddr.fV6 underlying4) (FitF.cons (x:=(.int .u64 a.fAddr.fHi)) (y:=(.int .u64 b.fAddr.fHi)) (by decide) rfl tyS29 ⟨rfl,rfl⟩ ⟨rfl,rfl⟩ (FitE.int (h:=0) a.fAddr.fHi b.fAddr.fHi underlying29) (FitF.cons (x:=(.int .u64 a.fAddr.fLo)) (y:=(.int .u64 b.fAddr.fLo)) (by decide) rfl tyS29 ⟨rfl,rfl⟩ ⟨rfl,rfl⟩ (FitE.int (h:=0) a.fAddr.fLo b.fAddr.fLo underlying29) FitF.nil)))) (FitF.cons (x:=(.int .i64 a.fLen)) (y:=(.int .i64 b.fLen)) (by decide) rfl tyS3 ⟨rfl,rfl⟩ ⟨rfl,rfl⟩ (FitE.int (h:=1) a.fLen b.fLen underlying3) FitF.nil)))
theorem eqg33:Program.eqGuardType Tryz.prog (Program.depth Tryz.prog) 33=false:=by kernel_rfl
theorem tyS39:TyS Tryz.prog 39 11 true:=⟨by kernel_rfl,by kernel_rfl⟩
theorem tyZD33:TyZ Tryz.prog 33 (.d (.st Zz9)):=⟨by kernel_rfl,fun w=>by kernel_rfl⟩
theorem tyZ71:TyZ Tryz.prog 71 (.st [.nils,.st Zz4,.nils]):=⟨by kernel_rfl,fun w=>by kernel_rfl⟩
theorem tyZ39:TyZ Tryz.prog 39 (.st Zz4):=⟨by kernel_rfl,fun w=>by kernel_rfl⟩
theorem tyS34:TyS Tryz.prog 34 1 false:=⟨by kernel_rfl,by kernel_rfl⟩
theorem tyS37:TyS Tryz.prog 37 1 false:=⟨by kernel_rfl,by kernel_rfl⟩
theorem tyS75:TyS Tryz.prog 75 2 true:=⟨by kernel_rfl,by kernel_rfl⟩
theorem tyZ75:TyZ Tryz.prog 75 (.st [.d (.bool false),.nils]):=⟨by kernel_rfl,fun w=>by kernel_rfl⟩
theorem tyS27:TyS Tryz.prog 27 1 false:=⟨by kernel_rfl,by kernel_rfl⟩
theorem tyE3:TyE Tryz.prog 3 1 8:=⟨by kernel_rfl,by decide⟩
theorem fnOk131:FnOk Tryz.prog 131:=⟨by kernel_rfl⟩
theorem tyZS75:TyZ Tryz.prog 75 (.st [.d (.bool false),.nils]):=⟨by kernel_rfl,fun w=>by kernel_rfl⟩
theorem tyZD75:TyZ Tryz.prog 75 (.d (.st [.bool false,.list 1 (([]:List Int).map (eI .i64))])):=⟨by kernel_rfl,fun w=>by kernel_rfl⟩
theorem tyE75:TyE Tryz.prog 75 2 32:=⟨by kernel_rfl,by decide⟩
theorem tyS78:TyS Tryz.prog 78 3 true:=⟨by kernel_rfl,by kernel_rfl⟩
theorem tyZ78:TyZ Tryz.prog 78 (.st [.d (.int .i64 0),.d (.int .i64 0),.nils]):=⟨by kernel_rfl,fun w=>by kernel_rfl⟩
theorem tyS76:TyS Tryz.prog 76 1 false:=⟨by kernel_rfl,by kernel_rfl⟩
theorem tyE5:TyE Tryz.prog 5 1 1:=⟨by kernel_rfl,by decide⟩
theorem fnOk132:FnOk Tryz.prog 132:=⟨by kernel_rfl⟩
theorem tyZS78:TyZ Tryz.prog 78 (.st [.d (.int .i64 0),.d (.int .i64 0),.nils]):=⟨by kernel_rfl,fun w=>by kernel_rfl⟩
theorem tyZD78:TyZ Tryz.prog 78 (.d (.st [.int .i64 0,.int .i64 0,.list 1 (([]:List Int).map (eI .u8))])):=⟨by kernel_rfl,fun w=>by kernel_rfl⟩
theorem tyE78:TyE Tryz.prog 78 3 40:=⟨by kernel_rfl,by decide⟩
theorem tyS35:TyS Tryz.prog 35 1 false:=⟨by kernel_rfl,by kernel_rfl⟩
theorem tyE132:TyE Tryz.prog 132 2 16:=⟨by kernel_rfl,by decide⟩
theorem fnOk133:FnOk Tryz.prog 133:=⟨by kernel_rfl⟩
theorem tyS36:TyS Tryz.prog 36 1 false:=⟨by kernel_rfl,by kernel_rfl⟩
theorem tyE134:TyE Tryz.prog 134 3 24:=⟨by kernel_rfl,by decide⟩
theorem fnOk134:FnOk Tryz.prog 134:=⟨by kernel_rfl⟩
theorem fnOk98:FnOk Tryz.prog 98:=⟨by kernel_rfl⟩
theorem tyE33:TyE Tryz.prog 33 4 32:=⟨by kernel_rfl,by decide⟩
theorem fnOk48:FnOk Tryz.prog 48:=⟨by kernel_rfl⟩
theorem tyZS71:TyZ Tryz.prog 71 (.st [.nils,.st Zz4,.nils]):=⟨by kernel_rfl,fun w=>by kernel_rfl⟩
theorem tyS71:TyS Tryz.prog 71 13 true:=⟨by kernel_rfl,by kernel_rfl⟩
theorem tyZS39:TyZ Tryz.prog 39 (.st Zz4):=⟨by kernel_rfl,fun w=>by kernel_rfl⟩
theorem fnOk148:FnOk Tryz.prog 148:=⟨by kernel_rfl⟩
theorem fnOk114:FnOk Tryz.prog 114:=⟨by kernel_rfl⟩
theorem tyS69:TyS Tryz.prog 69 1 false:=⟨by kernel_rfl,by kernel_rfl⟩
theorem fnOk144:FnOk Tryz.prog 144:=⟨by kernel_rfl⟩
theorem fnOk151:FnOk Tryz.prog 151:=⟨by kernel_rfl⟩
theorem fnOk145:FnOk Tryz.prog 145:=⟨by kernel_rfl⟩
theorem fnOk152:FnOk Tryz.prog 152:=⟨by kernel_rfl⟩
theorem fnOk159:FnOk Tryz.prog 159:=⟨by kernel_rfl⟩
theorem fnOk161:FnOk Tryz.prog 161:=⟨by kernel_rfl⟩
theorem fnOk160:FnOk Tryz.prog 160:=⟨by kernel_rfl⟩
theorem tyS132:TyS Tryz.prog 132 2 true:=⟨by kernel_rfl,by kernel_rfl⟩
theorem tyZ132:TyZ Tryz.prog 132 (.d (.st [.int .i64 0,.int .i64 0])):=⟨by kernel_rfl,fun w=>by kernel_rfl⟩
theorem tyZD3:TyZ Tryz.prog 3 (.d (.int .i64 0)):=⟨by kernel_rfl,fun w=>by kernel_rfl⟩
theorem fnOk193:FnOk Tryz.prog 193:=⟨by kernel_rfl⟩
theorem fnOk194:FnOk Tryz.prog 194:=⟨by kernel_rfl⟩
theorem fnOk184:FnOk Tryz.prog 184:=⟨by kernel_rfl⟩
theorem fnOk170:FnOk Tryz.prog 170:=⟨by kernel_rfl⟩
theorem fnOk111:FnOk Tryz.prog 111:=⟨by kernel_rfl⟩
theorem fnOk74:FnOk Tryz.prog 74:=⟨by kernel_rfl⟩
theorem fnOk72:FnOk Tryz.prog 72:=⟨by kernel_rfl⟩
theorem fnOk171:FnOk Tryz.prog 171:=⟨by kernel_rfl⟩
theorem fnOk169:FnOk Tryz.prog 169:=⟨by kernel_rfl⟩
theorem fnOk162:FnOk Tryz.prog 162:=⟨by kernel_rfl⟩
theorem tyS134:TyS Tryz.prog 134 3 true:=⟨by kernel_rfl,by kernel_rfl⟩
theorem tyZ134:TyZ Tryz.prog 134 (.d (.st Zz1)):=⟨by kernel_rfl,fun w=>by kernel_rfl⟩
theorem fnOk173:FnOk Tryz.prog 173:=⟨by kernel_rfl⟩
theorem fnOk174:FnOk Tryz.prog 174:=⟨by kernel_rfl⟩
theorem fnOk172:FnOk Tryz.prog 172:=⟨by kernel_rfl⟩
theorem fnOk163:FnOk Tryz.prog 163:=⟨by kernel_rfl⟩
theorem tyS210:TyS Tryz.prog 210 1 false:=⟨by kernel_rfl,by kernel_rfl⟩
theorem keyEq3:KeyEq Tryz.prog 3 (eI .i64) keq3:=⟨⟨1,by decide,fun a b=>(FitE.int (h:=0) a b underlying3)⟩,fun a b h=>by
 unfold keq3 at h;simp at h;simp [eI,h]⟩
theorem tyU210:Tryz.prog.underlying 210=some (.map 3 3):=by kernel_rfl
theorem fnOk175:FnOk Tryz.prog 175:=⟨by kernel_rfl⟩
theorem fnOk164:FnOk Tryz.prog 164:=⟨by kernel_rfl⟩
theorem fnOk154:FnOk Tryz.prog 154:=⟨by kernel_rfl⟩
theorem tyZS31:TyZ Tryz.prog 31 (.st [.d (.bool false),.d (.int .u64 0),.d (.int .u64 0)]):=⟨by kernel_rfl,fun w=>by kernel_rfl⟩
theorem C22:∀ a:E5,FitE Tryz.prog 2 31 (E4 a) (.st Zz0) ((a.fV6==false)&&((a.fHi==0)&&((a.fLo==0)&&true))):=fun a=>(FitE.st underlying31 rfl held31 (FitF.cons (x:=(.bool a.fV6)) (y:=(.bool false)) (by decide) rfl tyS4 ⟨rfl,rfl⟩ ⟨rfl,rfl⟩ (FitE.bool (h:=0) a.fV6 false underlying4) (FitF.cons (x:=(.int .u64 a.fHi)) (y:=(.int .u64 0)) (by decide) rfl tyS29 ⟨rfl,rfl⟩ ⟨rfl,rfl⟩ (FitE.int (h:=0) a.fHi 0 underlying29) (FitF.cons (x:=(.int .u64 a.fLo)) (y:=(.int .u64 0)) (by decide) rfl tyS29 ⟨rfl,rfl⟩ ⟨rfl,rfl⟩ (FitE.int (h:=0) a.fLo 0 underlying29) FitF.nil))))
theorem fnOk153:FnOk Tryz.prog 153:=⟨by kernel_rfl⟩
theorem fnOk146:FnOk Tryz.prog 146:=⟨by kernel_rfl⟩
theorem tyZ37:TyZ Tryz.prog 37 .nils:=⟨by kernel_rfl,fun w=>by kernel_rfl⟩
theorem tyS5:TyS Tryz.prog 5 1 false:=⟨by kernel_rfl,by kernel_rfl⟩
theorem tyZD5:TyZ Tryz.prog 5 (.d (.int .u8 0)):=⟨by kernel_rfl,fun w=>by kernel_rfl⟩
theorem fnOk176:FnOk Tryz.prog 176:=⟨by kernel_rfl⟩
theorem fnOk178:FnOk Tryz.prog 178:=⟨by kernel_rfl⟩
theorem fnOk177:FnOk Tryz.prog 177:=⟨by kernel_rfl⟩
theorem fnOk166:FnOk Tryz.prog 166:=⟨by kernel_rfl⟩
theorem fnOk179:FnOk Tryz.prog 179:=⟨by kernel_rfl⟩
theorem fnOk180:FnOk Tryz.prog 180:=⟨by kernel_rfl⟩
theorem fnOk181:FnOk Tryz.prog 181:=⟨by kernel_rfl⟩
theorem fnOk182:FnOk Tryz.prog 182:=⟨by kernel_rfl⟩
theorem fnOk167:FnOk Tryz.prog 167:=⟨by kernel_rfl⟩
theorem fnOk165:FnOk Tryz.prog 165:=⟨by kernel_rfl⟩
theorem tyZ33:TyZ Tryz.prog 33 (.d (.st Zz9)):=⟨by kernel_rfl,fun w=>by kernel_rfl⟩
theorem fnOk157:FnOk Tryz.prog 157:=⟨by kernel_rfl⟩
theorem fnOk168:FnOk Tryz.prog 168:=⟨by kernel_rfl⟩
theorem fnOk156:FnOk Tryz.prog 156:=⟨by kernel_rfl⟩
theorem fnOk155:FnOk Tryz.prog 155:=⟨by kernel_rfl⟩
theorem fnOk158:FnOk Tryz.prog 158:=⟨by kernel_rfl⟩
theorem fnOk147:FnOk Tryz.prog 147:=⟨by kernel_rfl⟩
theorem fnOk113:FnOk Tryz.prog 113:=⟨by kernel_rfl⟩
theorem fnOk75:FnOk Tryz.prog 75:=⟨by kernel_rfl⟩
theorem fnOk109:FnOk Tryz.prog 109:=⟨by kernel_rfl⟩
theorem fnOk140:FnOk Tryz.prog 140:=⟨by kernel_rfl⟩
theorem fnOk110:FnOk Tryz.prog 110:=⟨by kernel_rfl⟩
theorem fnOk73:FnOk Tryz.prog 73:=⟨by kernel_rfl⟩
theorem fnOk45:FnOk Tryz.prog 45:=⟨by kernel_rfl⟩
theorem tyS123:TyS Tryz.prog 123 12 true:=⟨by kernel_rfl,by kernel_rfl⟩
theorem fnOk116:FnOk Tryz.prog 116:=⟨by kernel_rfl⟩
theorem fnOk115:FnOk Tryz.prog 115:=⟨by kernel_rfl⟩
theorem fnOk119:FnOk Tryz.prog 119:=⟨by kernel_rfl⟩
theorem held132:Program.stoodInHeld Tryz.prog 132=false:=by kernel_rfl
theorem feq132:∀ a b:B5,FitE Tryz.prog 2 132 (C5 a) (C5 b) ((a.fA==b.fA)&&((a.fB==b.fB)&&true)):=fun a b=>(FitE.st underlying132 rfl held132 (FitF.cons (x:=(.int .i64 a.fA)) (y:=(.int .i64 b.fA)) (by decide) rfl tyS3 ⟨rfl,rfl⟩ ⟨rfl,rfl⟩ (FitE.int (h:=0) a.fA b.fA underlying3) (FitF.cons (x:=(.int .i64 a.fB)) (y:=(.int .i64 b.fB)) (by decide) rfl tyS3 ⟨rfl,rfl⟩ ⟨rfl,rfl⟩ (FitE.int (h:=0) a.fB b.fB underlying3) FitF.nil)))
theorem eqg132:Program.eqGuardType Tryz.prog (Program.depth Tryz.prog) 132=false:=by kernel_rfl
theorem fnOk120:FnOk Tryz.prog 120:=⟨by kernel_rfl⟩
theorem held134:Program.stoodInHeld Tryz.prog 134=false:=by kernel_rfl
theorem feq134:∀ a b:E7,FitE Tryz.prog 2 134 (E9 a) (E9 b) ((a.fA==b.fA)&&((a.fB==b.fB)&&((a.fC==b.fC)&&true))):=fun a b=>(FitE.st underlying134 rfl held134 (FitF.cons (x:=(.int .i64 a.fA)) (y:=(.int .i64 b.fA)) (by decide) rfl tyS3 ⟨rfl,rfl⟩ ⟨rfl,rfl⟩ (FitE.int (h:=0) a.fA b.fA underlying3) (FitF.cons (x:=(.int .i64 a.fB)) (y:=(.int .i64 b.fB)) (by decide) rfl tyS3 ⟨rfl,rfl⟩ ⟨rfl,rfl⟩ (FitE.int (h:=0) a.fB b.fB underlying3) (FitF.cons (x:=(.int .i64 a.fC)) (y:=(.int .i64 b.fC)) (by decide) rfl tyS3 ⟨rfl,rfl⟩ ⟨rfl,rfl⟩ (FitE.int (h:=0) a.fC b.fC underlying3) FitF.nil))))
theorem eqg134:Program.eqGuardType Tryz.prog (Program.depth Tryz.prog) 134=false:=by kernel_rfl
theorem fnOk121:FnOk Tryz.prog 121:=⟨by kernel_rfl⟩
theorem fnOk118:FnOk Tryz.prog 118:=⟨by kernel_rfl⟩
theorem fnOk117:FnOk Tryz.prog 117:=⟨by kernel_rfl⟩
theorem fnOk122:FnOk Tryz.prog 122:=⟨by kernel_rfl⟩
theorem fnOk78:FnOk Tryz.prog 78:=⟨by kernel_rfl⟩
theorem fnOk77:FnOk Tryz.prog 77:=⟨by kernel_rfl⟩
theorem fnOk76:FnOk Tryz.prog 76:=⟨by kernel_rfl⟩
theorem tyZS123:TyZ Tryz.prog 123 (.st [.st Zz4,.nils]):=⟨by kernel_rfl,fun w=>by kernel_rfl⟩
theorem tyZD123:TyZ Tryz.prog 123 (.d (.st [.st Zz2,.list 4 (([]:List A2).map B0)])):=⟨by kernel_rfl,fun w=>by kernel_rfl⟩
theorem tyE123:TyE Tryz.prog 123 12 176:=⟨by kernel_rfl,by decide⟩
theorem tyZD71:TyZ Tryz.prog 71 (.d (.st [.list 4 (([]:List A2).map B0),.st Zz2,.list 4 (([]:List A2).map B0)])):=⟨by kernel_rfl,fun w=>by kernel_rfl⟩
theorem tyE71:TyE Tryz.prog 71 13 200:=⟨by kernel_rfl,by decide⟩
theorem fnOk79:FnOk Tryz.prog 79:=⟨by kernel_rfl⟩
theorem fnOk46:FnOk Tryz.prog 46:=⟨by kernel_rfl⟩
theorem fnOk31:FnOk Tryz.prog 31:=⟨by kernel_rfl⟩
theorem fnOk11:FnOk Tryz.prog 11:=⟨by kernel_rfl⟩
theorem fnOk39:FnOk Tryz.prog 39:=⟨by kernel_rfl⟩
theorem fnOk68:FnOk Tryz.prog 68:=⟨by kernel_rfl⟩
theorem fnOk38:FnOk Tryz.prog 38:=⟨by kernel_rfl⟩
theorem tyZ41:TyZ Tryz.prog 41 (.st [.d (.st Zz9),.d (.int .i64 0),.st Zz4]):=⟨by kernel_rfl,fun w=>by kernel_rfl⟩
theorem fnOk69:FnOk Tryz.prog 69:=⟨by kernel_rfl⟩
theorem tyE43:TyE Tryz.prog 43 22 240:=⟨by kernel_rfl,by decide⟩
theorem fnOk40:FnOk Tryz.prog 40:=⟨by kernel_rfl⟩
theorem tyU90:Tryz.prog.underlying 90=some (.map 33 3):=by kernel_rfl
theorem fnOk16:FnOk Tryz.prog 16:=⟨by kernel_rfl⟩
theorem fnOk44:FnOk Tryz.prog 44:=⟨by kernel_rfl⟩
theorem fnOk43:FnOk Tryz.prog 43:=⟨by kernel_rfl⟩
theorem tyJ82:∀ w,(zeroValue 82).run Tryz.prog w = .ok (.map none) w:=fun w=>by kernel_rfl
theorem tyS82:TyS Tryz.prog 82 1 false:=⟨by kernel_rfl,by kernel_rfl⟩
theorem tyZ24:TyZ Tryz.prog 24 (.d (.st Zz1)):=⟨by kernel_rfl,fun w=>by kernel_rfl⟩
theorem fnOk47:FnOk Tryz.prog 47:=⟨by kernel_rfl⟩
theorem fnOk50:FnOk Tryz.prog 50:=⟨by kernel_rfl⟩
theorem fnOk49:FnOk Tryz.prog 49:=⟨by kernel_rfl⟩
theorem fnOk19:FnOk Tryz.prog 19:=⟨by kernel_rfl⟩
theorem fnOk13:FnOk Tryz.prog 13:=⟨by kernel_rfl⟩
theorem fnOk6:FnOk Tryz.prog 6:=⟨by kernel_rfl⟩
theorem fnOk7:FnOk Tryz.prog 7:=⟨by kernel_rfl⟩
theorem tyZS80:TyZ Tryz.prog 80 (.st [.nils,.d (.int .i64 0)]):=⟨by kernel_rfl,fun w=>by kernel_rfl⟩
theorem fnOk8:FnOk Tryz.prog 8:=⟨by kernel_rfl⟩
theorem fnOk10:FnOk Tryz.prog 10:=⟨by kernel_rfl⟩
theorem fnOk25:FnOk Tryz.prog 25:=⟨by kernel_rfl⟩
theorem fnOk34:FnOk Tryz.prog 34:=⟨by kernel_rfl⟩
theorem tyZS41:TyZ Tryz.prog 41 (.st [.d (.st Zz9),.d (.int .i64 0),.st Zz4]):=⟨by kernel_rfl,fun w=>by kernel_rfl⟩
theorem fnOk35:FnOk Tryz.prog 35:=⟨by kernel_rfl⟩
theorem fnOk36:FnOk Tryz.prog 36:=⟨by kernel_rfl⟩
theorem tyZD41:TyZ Tryz.prog 41 (.d (.st [.st Zz9,.int .i64 0,.st Zz2])):=⟨by kernel_rfl,fun w=>by kernel_rfl⟩
theorem tyE41:TyE Tryz.prog 41 16 192:=⟨by kernel_rfl,by decide⟩
theorem fnOk80:FnOk Tryz.prog 80:=⟨by kernel_rfl⟩
theorem fnOk51:FnOk Tryz.prog 51:=⟨by kernel_rfl⟩
theorem fnOk66:FnOk Tryz.prog 66:=⟨by kernel_rfl⟩
theorem fnOk67:FnOk Tryz.prog 67:=⟨by kernel_rfl⟩
theorem fnOk82:FnOk Tryz.prog 82:=⟨by kernel_rfl⟩
theorem tyU76:Tryz.prog.underlying 76=some (.slice 5):=by kernel_rfl
theorem fnOk55:FnOk Tryz.prog 55:=⟨by kernel_rfl⟩
theorem fnOk61:FnOk Tryz.prog 61:=⟨by kernel_rfl⟩
theorem fnOk60:FnOk Tryz.prog 60:=⟨by kernel_rfl⟩
theorem fnOk58:FnOk Tryz.prog 58:=⟨by kernel_rfl⟩
theorem fnOk37:FnOk Tryz.prog 37:=⟨by kernel_rfl⟩
theorem fnOk15:FnOk Tryz.prog 15:=⟨by kernel_rfl⟩
theorem fnOk32:FnOk Tryz.prog 32:=⟨by kernel_rfl⟩
theorem fnOk90:FnOk Tryz.prog 90:=⟨by kernel_rfl⟩
theorem fnOk123:FnOk Tryz.prog 123:=⟨by kernel_rfl⟩
theorem fnOk96:FnOk Tryz.prog 96:=⟨by kernel_rfl⟩
theorem fnOk124:FnOk Tryz.prog 124:=⟨by kernel_rfl⟩
theorem fnOk84:FnOk Tryz.prog 84:=⟨by kernel_rfl⟩
theorem fnOk62:FnOk Tryz.prog 62:=⟨by kernel_rfl⟩
theorem fnOk85:FnOk Tryz.prog 85:=⟨by kernel_rfl⟩
theorem fnOk86:FnOk Tryz.prog 86:=⟨by kernel_rfl⟩
theorem fnOk87:FnOk Tryz.prog 87:=⟨by kernel_rfl⟩
theorem fnOk88:FnOk Tryz.prog 88:=⟨by kernel_rfl⟩
theorem fnOk63:FnOk Tryz.prog 63:=⟨by kernel_rfl⟩
theorem fnOk125:FnOk Tryz.prog 125:=⟨by kernel_rfl⟩
theorem fnOk89:FnOk Tryz.prog 89:=⟨by kernel_rfl⟩
theorem fnOk83:FnOk Tryz.prog 83:=⟨by kernel_rfl⟩
theorem fnOk126:FnOk Tryz.prog 126:=⟨by kernel_rfl⟩
theorem fnOk127:FnOk Tryz.prog 127:=⟨by kernel_rfl⟩
theorem fnOk91:FnOk Tryz.prog 91:=⟨by kernel_rfl⟩
theorem fnOk128:FnOk Tryz.prog 128:=⟨by kernel_rfl⟩
theorem fnOk129:FnOk Tryz.prog 129:=⟨by kernel_rfl⟩
theorem fnOk92:FnOk Tryz.prog 92:=⟨by kernel_rfl⟩
theorem fnOk64:FnOk Tryz.prog 64:=⟨by kernel_rfl⟩
theorem tyU176:Tryz.prog.underlying 176=some (.map 3 76):=by kernel_rfl
theorem fnOk130:FnOk Tryz.prog 130:=⟨by kernel_rfl⟩
theorem tyZ76:TyZ Tryz.prog 76 .nils:=⟨by kernel_rfl,fun w=>by kernel_rfl⟩
theorem tyZD76:TyZ Tryz.prog 76 (.d (.list 1 (([]:List Int).map (eI .u8)))):=⟨by kernel_rfl,fun w=>by kernel_rfl⟩
theorem fnOk93:FnOk Tryz.prog 93:=⟨by kernel_rfl⟩
theorem fnOk94:FnOk Tryz.prog 94:=⟨by kernel_rfl⟩
theorem fnOk95:FnOk Tryz.prog 95:=⟨by kernel_rfl⟩
theorem fnOk97:FnOk Tryz.prog 97:=⟨by kernel_rfl⟩
theorem fnOk65:FnOk Tryz.prog 65:=⟨by kernel_rfl⟩
theorem fnOk29:FnOk Tryz.prog 29:=⟨by kernel_rfl⟩
theorem fnOk33:FnOk Tryz.prog 33:=⟨by kernel_rfl⟩
theorem fnOk12:FnOk Tryz.prog 12:=⟨by kernel_rfl⟩
theorem fnOk41:FnOk Tryz.prog 41:=⟨by kernel_rfl⟩
theorem fnOk17:FnOk Tryz.prog 17:=⟨by kernel_rfl⟩
theorem fnOk81:FnOk Tryz.prog 81:=⟨by kernel_rfl⟩
theorem tyE4:TyE Tryz.prog 4 1 1:=⟨by kernel_rfl,by decide⟩
theorem fnOk52:FnOk Tryz.prog 52:=⟨by kernel_rfl⟩
theorem fnOk53:FnOk Tryz.prog 53:=⟨by kernel_rfl⟩
theorem fnOk20:FnOk Tryz.prog 20:=⟨by kernel_rfl⟩
theorem fnOk9:FnOk Tryz.prog 9:=⟨by kernel_rfl⟩
theorem tyZD26:TyZ Tryz.prog 26 (.d (.st Zz5)):=⟨by kernel_rfl,fun w=>by kernel_rfl⟩
theorem fnOk14:FnOk Tryz.prog 14:=⟨by kernel_rfl⟩
theorem tyZD22:TyZ Tryz.prog 22 (.d (.list 22 (([]:List A1).map A8))):=⟨by kernel_rfl,fun w=>by kernel_rfl⟩
theorem held24:Program.stoodInHeld Tryz.prog 24=false:=by kernel_rfl
theorem feq24:∀ a b:D9,FitE Tryz.prog 2 24 (C1 a) (C1 b) ((a.fLevel==b.fLevel)&&((a.fRate==b.fRate)&&((a.fBurst==b.fBurst)&&true))):=fun a b=>(FitE.st underlying24 rfl held24 (FitF.cons (x:=(.int .i64 a.fLevel)) (y:=(.int .i64 b.fLevel)) (by decide) rfl tyS3 ⟨rfl,rfl⟩ ⟨rfl,rfl⟩ (FitE.int (h:=0) a.fLevel b.fLevel underlying3) (FitF.cons (x:=(.int .i64 a.fRate)) (y:=(.int .i64 b.fRate)) (by decide) rfl tyS3 ⟨rfl,rfl⟩ ⟨rfl,rfl⟩ (FitE.int (h:=0) a.fRate b.fRate underlying3) (FitF.cons (x:=(.int .i64 a.fBurst)) (y:=(.int .i64 b.fBurst)) (by decide) rfl tyS3 ⟨rfl,rfl⟩ ⟨rfl,rfl⟩ (FitE.int (h:=0) a.fBurst b.fBurst underlying3) FitF.nil))))
theorem eqg24:Program.eqGuardType Tryz.prog (Program.depth Tryz.prog) 24=false:=by kernel_rfl
theorem fnOk42:FnOk Tryz.prog 42:=⟨by kernel_rfl⟩
theorem fnOk18:FnOk Tryz.prog 18:=⟨by kernel_rfl⟩
theorem fnOk54:FnOk Tryz.prog 54:=⟨by kernel_rfl⟩
theorem fnOk21:FnOk Tryz.prog 21:=⟨by kernel_rfl⟩
theorem fnOk56:FnOk Tryz.prog 56:=⟨by kernel_rfl⟩
theorem fnOk22:FnOk Tryz.prog 22:=⟨by kernel_rfl⟩
theorem fnOk57:FnOk Tryz.prog 57:=⟨by kernel_rfl⟩
theorem fnOk23:FnOk Tryz.prog 23:=⟨by kernel_rfl⟩
instance iS22:TS Tryz.prog 22 1 false:=⟨tyS22⟩
instance iS43:TS Tryz.prog 43 22 true:=⟨tyS43⟩
instance iS26:TS Tryz.prog 26 4 true:=⟨tyS26⟩
instance iS24:TS Tryz.prog 24 3 true:=⟨tyS24⟩
instance iS3:TS Tryz.prog 3 1 false:=⟨tyS3⟩
instance iS33:TS Tryz.prog 33 4 true:=⟨tyS33⟩
instance iS29:TS Tryz.prog 29 1 false:=⟨tyS29⟩
instance iS4:TS Tryz.prog 4 1 false:=⟨tyS4⟩
instance iS31:TS Tryz.prog 31 3 true:=⟨tyS31⟩
instance iS41:TS Tryz.prog 41 16 true:=⟨tyS41⟩
instance iS39:TS Tryz.prog 39 11 true:=⟨tyS39⟩
instance iS34:TS Tryz.prog 34 1 false:=⟨tyS34⟩
instance iS37:TS Tryz.prog 37 1 false:=⟨tyS37⟩
instance iS75:TS Tryz.prog 75 2 true:=⟨tyS75⟩
instance iS27:TS Tryz.prog 27 1 false:=⟨tyS27⟩
instance iS78:TS Tryz.prog 78 3 true:=⟨tyS78⟩
instance iS76:TS Tryz.prog 76 1 false:=⟨tyS76⟩
instance iS35:TS Tryz.prog 35 1 false:=⟨tyS35⟩
instance iS36:TS Tryz.prog 36 1 false:=⟨tyS36⟩
instance iS71:TS Tryz.prog 71 13 true:=⟨tyS71⟩
instance iS69:TS Tryz.prog 69 1 false:=⟨tyS69⟩
instance iS132:TS Tryz.prog 132 2 true:=⟨tyS132⟩
instance iS134:TS Tryz.prog 134 3 true:=⟨tyS134⟩
instance iS210:TS Tryz.prog 210 1 false:=⟨tyS210⟩
instance iS5:TS Tryz.prog 5 1 false:=⟨tyS5⟩
instance iS123:TS Tryz.prog 123 12 true:=⟨tyS123⟩
instance iS82:TS Tryz.prog 82 1 false:=⟨tyS82⟩
instance iZ26:TZ Tryz.prog 26 (.st Zz8):=⟨tyZ26⟩
instance iZ43:TZ Tryz.prog 43 (.st [.d (.int .i64 0),.d (.st Zz9),.d (.bool false),.st [.d (.st Zz9),.d (.int .i64 0),.st Zz4]]):=⟨tyZ43⟩
instance iZ123:TZ Tryz.prog 123 (.st [.st Zz4,.nils]):=⟨tyZ123⟩
instance iZ31:TZ Tryz.prog 31 (.d (.st Zz0)):=⟨tyZ31⟩
instance iZ71:TZ Tryz.prog 71 (.st [.nils,.st Zz4,.nils]):=⟨tyZ71⟩
instance iZ39:TZ Tryz.prog 39 (.st Zz4):=⟨tyZ39⟩
instance iZ75:TZ Tryz.prog 75 (.st [.d (.bool false),.nils]):=⟨tyZ75⟩
instance iZ78:TZ Tryz.prog 78 (.st [.d (.int .i64 0),.d (.int .i64 0),.nils]):=⟨tyZ78⟩
instance iZ132:TZ Tryz.prog 132 (.d (.st [.int .i64 0,.int .i64 0])):=⟨tyZ132⟩
instance iZ134:TZ Tryz.prog 134 (.d (.st Zz1)):=⟨tyZ134⟩
instance iZ37:TZ Tryz.prog 37 .nils:=⟨tyZ37⟩
instance iZ33:TZ Tryz.prog 33 (.d (.st Zz9)):=⟨tyZ33⟩
instance iZ41:TZ Tryz.prog 41 (.st [.d (.st Zz9),.d (.int .i64 0),.st Zz4]):=⟨tyZ41⟩
instance iZ24:TZ Tryz.prog 24 (.d (.st Zz1)):=⟨tyZ24⟩
instance iZ76:TZ Tryz.prog 76 .nils:=⟨tyZ76⟩
instance iL24:TZL Tryz.prog 24 [.d (.int .i64 0),.d (.int .i64 0),.d (.int .i64 0)]:=⟨tyZS24⟩
instance iP24:TP Tryz.prog 24 [(0,1),(1,1),(2,1)]:=⟨⟨_,underlying24,fun w=>by kernel_rfl⟩⟩
instance iL26:TZL Tryz.prog 26 Zz8:=⟨tyZS26⟩
instance iP26:TP Tryz.prog 26 [(0,1),(1,3)]:=⟨⟨_,underlying26,fun w=>by kernel_rfl⟩⟩
instance iL33:TZL Tryz.prog 33 [.d (.st Zz0),.d (.int .i64 0)]:=⟨tyZS33⟩
instance iP33:TP Tryz.prog 33 [(0,3),(3,1)]:=⟨⟨_,underlying33,fun w=>by kernel_rfl⟩⟩
instance iL43:TZL Tryz.prog 43 [.d (.int .i64 0),.d (.st Zz9),.d (.bool false),.st [.d (.st Zz9),.d (.int .i64 0),.st Zz4]]:=⟨tyZS43⟩
instance iP43:TP Tryz.prog 43 [(0,1),(1,4),(5,1),(6,16)]:=⟨⟨_,underlying43,fun w=>by kernel_rfl⟩⟩
instance iL75:TZL Tryz.prog 75 [.d (.bool false),.nils]:=⟨tyZS75⟩
instance iP75:TP Tryz.prog 75 [(0,1),(1,1)]:=⟨⟨_,underlying75,fun w=>by kernel_rfl⟩⟩
instance iL78:TZL Tryz.prog 78 [.d (.int .i64 0),.d (.int .i64 0),.nils]:=⟨tyZS78⟩
instance iP78:TP Tryz.prog 78 [(0,1),(1,1),(2,1)]:=⟨⟨_,underlying78,fun w=>by kernel_rfl⟩⟩
instance iL71:TZL Tryz.prog 71 [.nils,.st Zz4,.nils]:=⟨tyZS71⟩
instance iP71:TP Tryz.prog 71 [(0,1),(1,11),(12,1)]:=⟨⟨_,underlying71,fun w=>by kernel_rfl⟩⟩
instance iL39:TZL Tryz.prog 39 Zz4:=⟨tyZS39⟩
instance iP39:TP Tryz.prog 39 [(0,1),(1,1),(2,3),(5,1),(6,1),(7,1),(8,1),(9,1),(10,1)]:=⟨⟨_,underlying39,fun w=>by kernel_rfl⟩⟩
instance iL31:TZL Tryz.prog 31 [.d (.bool false),.d (.int .u64 0),.d (.int .u64 0)]:=⟨tyZS31⟩
instance iP31:TP Tryz.prog 31 [(0,1),(1,1),(2,1)]:=⟨⟨_,underlying31,fun w=>by kernel_rfl⟩⟩
instance iL123:TZL Tryz.prog 123 [.st Zz4,.nils]:=⟨tyZS123⟩
instance iP123:TP Tryz.prog 123 [(0,11),(11,1)]:=⟨⟨_,underlying123,fun w=>by kernel_rfl⟩⟩
instance iL80:TZL Tryz.prog 80 [.nils,.d (.int .i64 0)]:=⟨tyZS80⟩
instance iP80:TP Tryz.prog 80 [(0,1),(1,1)]:=⟨⟨_,underlying80,fun w=>by kernel_rfl⟩⟩
instance iL41:TZL Tryz.prog 41 [.d (.st Zz9),.d (.int .i64 0),.st Zz4]:=⟨tyZS41⟩
instance iP41:TP Tryz.prog 41 [(0,4),(4,1),(5,11)]:=⟨⟨_,underlying41,fun w=>by kernel_rfl⟩⟩
instance iD43:TZD Tryz.prog 43 (.st [.int .i64 0,.st Zz9,.bool false,.st [.st Zz9,.int .i64 0,.st Zz2]]):=⟨tyZD43⟩
instance iD4:TZD Tryz.prog 4 (.bool false):=⟨tyZD4⟩
instance iD33:TZD Tryz.prog 33 (.st Zz9):=⟨tyZD33⟩
instance iD75:TZD Tryz.prog 75 (.st [.bool false,.list 1 (([]:List Int).map (eI .i64))]):=⟨tyZD75⟩
instance iD78:TZD Tryz.prog 78 (.st [.int .i64 0,.int .i64 0,.list 1 (([]:List Int).map (eI .u8))]):=⟨tyZD78⟩
instance iD3:TZD Tryz.prog 3 (.int .i64 0):=⟨tyZD3⟩
instance iD5:TZD Tryz.prog 5 (.int .u8 0):=⟨tyZD5⟩
instance iD123:TZD Tryz.prog 123 (.st [.st Zz2,.list 4 (([]:List A2).map B0)]):=⟨tyZD123⟩
instance iD71:TZD Tryz.prog 71 (.st [.list 4 (([]:List A2).map B0),.st Zz2,.list 4 (([]:List A2).map B0)]):=⟨tyZD71⟩
instance iD41:TZD Tryz.prog 41 (.st [.st Zz9,.int .i64 0,.st Zz2]):=⟨tyZD41⟩
instance iD76:TZD Tryz.prog 76 (.list 1 (([]:List Int).map (eI .u8))):=⟨tyZD76⟩
instance iD26:TZD Tryz.prog 26 (.st Zz5):=⟨tyZD26⟩
instance iD22:TZD Tryz.prog 22 (.list 22 (([]:List A1).map A8)):=⟨tyZD22⟩
instance iE3:TE Tryz.prog 3 1 8:=⟨tyE3⟩
instance iE75:TE Tryz.prog 75 2 32:=⟨tyE75⟩
instance iE5:TE Tryz.prog 5 1 1:=⟨tyE5⟩
instance iE78:TE Tryz.prog 78 3 40:=⟨tyE78⟩
instance iE132:TE Tryz.prog 132 2 16:=⟨tyE132⟩
instance iE134:TE Tryz.prog 134 3 24:=⟨tyE134⟩
instance iE33:TE Tryz.prog 33 4 32:=⟨tyE33⟩
instance iE123:TE Tryz.prog 123 12 176:=⟨tyE123⟩
instance iE71:TE Tryz.prog 71 13 200:=⟨tyE71⟩
instance iE43:TE Tryz.prog 43 22 240:=⟨tyE43⟩
instance iE41:TE Tryz.prog 41 16 192:=⟨tyE41⟩
instance iE4:TE Tryz.prog 4 1 1:=⟨tyE4⟩
instance iQ31 (a b:E5):FE Tryz.prog 31 (E4 a) (E4 b) ((a.fV6==b.fV6)&&((a.fHi==b.fHi)&&((a.fLo==b.fLo)&&true))):=⟨⟨2,rfl,feq31 a b⟩,eqg31,rfl,rfl⟩
instance iQ33 (a b:A2):FE Tryz.prog 33 (B0 a) (B0 b) (((a.fAddr.fV6==b.fAddr.fV6)&&((a.fAddr.fHi==b.fAddr.fHi)&&((a.fAddr.fLo==b.fAddr.fLo)&&true)))&&((a.fLen==b.fLen)&&true)):=⟨⟨3,rfl,feq33 a b⟩,eqg33,rfl,rfl⟩
instance iQ132 (a b:B5):FE Tryz.prog 132 (C5 a) (C5 b) ((a.fA==b.fA)&&((a.fB==b.fB)&&true)):=⟨⟨2,rfl,feq132 a b⟩,eqg132,rfl,rfl⟩
instance iQ134 (a b:E7):FE Tryz.prog 134 (E9 a) (E9 b) ((a.fA==b.fA)&&((a.fB==b.fB)&&((a.fC==b.fC)&&true))):=⟨⟨2,rfl,feq134 a b⟩,eqg134,rfl,rfl⟩
instance iQ24 (a b:D9):FE Tryz.prog 24 (C1 a) (C1 b) ((a.fLevel==b.fLevel)&&((a.fRate==b.fRate)&&((a.fBurst==b.fBurst)&&true))):=⟨⟨2,rfl,feq24 a b⟩,eqg24,rfl,rfl⟩
instance iR31_0 (a:E5):FE Tryz.prog 31 (E4 a) (.st Zz0) ((a.fV6==false)&&((a.fHi==0)&&((a.fLo==0)&&true))):=⟨⟨2,rfl,C22 a⟩,eqg31,rfl,rfl⟩
instance iF30:FO Tryz.prog 30:=⟨fnOk30⟩
instance iF141:FO Tryz.prog 141:=⟨fnOk141⟩
instance iF142:FO Tryz.prog 142:=⟨fnOk142⟩
instance iF150:FO Tryz.prog 150:=⟨fnOk150⟩
instance iF143:FO Tryz.prog 143:=⟨fnOk143⟩
instance iF112:FO Tryz.prog 112:=⟨fnOk112⟩
instance iF131:FO Tryz.prog 131:=⟨fnOk131⟩
instance iF132:FO Tryz.prog 132:=⟨fnOk132⟩
instance iF133:FO Tryz.prog 133:=⟨fnOk133⟩
instance iF134:FO Tryz.prog 134:=⟨fnOk134⟩
instance iF98:FO Tryz.prog 98:=⟨fnOk98⟩
instance iF48:FO Tryz.prog 48:=⟨fnOk48⟩
instance iF148:FO Tryz.prog 148:=⟨fnOk148⟩
instance iF114:FO Tryz.prog 114:=⟨fnOk114⟩
instance iF144:FO Tryz.prog 144:=⟨fnOk144⟩
instance iF151:FO Tryz.prog 151:=⟨fnOk151⟩
instance iF145:FO Tryz.prog 145:=⟨fnOk145⟩
instance iF152:FO Tryz.prog 152:=⟨fnOk152⟩
instance iF159:FO Tryz.prog 159:=⟨fnOk159⟩
instance iF161:FO Tryz.prog 161:=⟨fnOk161⟩
instance iF160:FO Tryz.prog 160:=⟨fnOk160⟩
instance iF193:FO Tryz.prog 193:=⟨fnOk193⟩
instance iF194:FO Tryz.prog 194:=⟨fnOk194⟩
instance iF184:FO Tryz.prog 184:=⟨fnOk184⟩
instance iF170:FO Tryz.prog 170:=⟨fnOk170⟩
instance iF111:FO Tryz.prog 111:=⟨fnOk111⟩
instance iF74:FO Tryz.prog 74:=⟨fnOk74⟩
instance iF72:FO Tryz.prog 72:=⟨fnOk72⟩
instance iF171:FO Tryz.prog 171:=⟨fnOk171⟩
instance iF169:FO Tryz.prog 169:=⟨fnOk169⟩
instance iF162:FO Tryz.prog 162:=⟨fnOk162⟩
instance iF173:FO Tryz.prog 173:=⟨fnOk173⟩
instance iF174:FO Tryz.prog 174:=⟨fnOk174⟩
instance iF172:FO Tryz.prog 172:=⟨fnOk172⟩
instance iF163:FO Tryz.prog 163:=⟨fnOk163⟩
instance iF175:FO Tryz.prog 175:=⟨fnOk175⟩
instance iF164:FO Tryz.prog 164:=⟨fnOk164⟩
instance iF154:FO Tryz.prog 154:=⟨fnOk154⟩
instance iF153:FO Tryz.prog 153:=⟨fnOk153⟩
instance iF146:FO Tryz.prog 146:=⟨fnOk146⟩
instance iF176:FO Tryz.prog 176:=⟨fnOk176⟩
instance iF178:FO Tryz.prog 178:=⟨fnOk178⟩
instance iF177:FO Tryz.prog 177:=⟨fnOk177⟩
instance iF166:FO Tryz.prog 166:=⟨fnOk166⟩
instance iF179:FO Tryz.prog 179:=⟨fnOk179⟩
instance iF180:FO Tryz.prog 180:=⟨fnOk180⟩
instance iF181:FO Tryz.prog 181:=⟨fnOk181⟩
instance iF182:FO Tryz.prog 182:=⟨fnOk182⟩
instance iF167:FO Tryz.prog 167:=⟨fnOk167⟩
instance iF165:FO Tryz.prog 165:=⟨fnOk165⟩
instance iF157:FO Tryz.prog 157:=⟨fnOk157⟩
instance iF168:FO Tryz.prog 168:=⟨fnOk168⟩
instance iF156:FO Tryz.prog 156:=⟨fnOk156⟩
instance iF155:FO Tryz.prog 155:=⟨fnOk155⟩
instance iF158:FO Tryz.prog 158:=⟨fnOk158⟩
instance iF147:FO Tryz.prog 147:=⟨fnOk147⟩
instance iF113:FO Tryz.prog 113:=⟨fnOk113⟩
instance iF75:FO Tryz.prog 75:=⟨fnOk75⟩
instance iF109:FO Tryz.prog 109:=⟨fnOk109⟩
instance iF140:FO Tryz.prog 140:=⟨fnOk140⟩
instance iF110:FO Tryz.prog 110:=⟨fnOk110⟩
instance iF73:FO Tryz.prog 73:=⟨fnOk73⟩
instance iF45:FO Tryz.prog 45:=⟨fnOk45⟩
instance iF116:FO Tryz.prog 116:=⟨fnOk116⟩
instance iF115:FO Tryz.prog 115:=⟨fnOk115⟩
instance iF119:FO Tryz.prog 119:=⟨fnOk119⟩
instance iF120:FO Tryz.prog 120:=⟨fnOk120⟩
instance iF121:FO Tryz.prog 121:=⟨fnOk121⟩
instance iF118:FO Tryz.prog 118:=⟨fnOk118⟩
instance iF117:FO Tryz.prog 117:=⟨fnOk117⟩
instance iF122:FO Tryz.prog 122:=⟨fnOk122⟩
instance iF78:FO Tryz.prog 78:=⟨fnOk78⟩
instance iF77:FO Tryz.prog 77:=⟨fnOk77⟩
instance iF76:FO Tryz.prog 76:=⟨fnOk76⟩
instance iF79:FO Tryz.prog 79:=⟨fnOk79⟩
instance iF46:FO Tryz.prog 46:=⟨fnOk46⟩
instance iF31:FO Tryz.prog 31:=⟨fnOk31⟩
instance iF11:FO Tryz.prog 11:=⟨fnOk11⟩
instance iF39:FO Tryz.prog 39:=⟨fnOk39⟩
instance iF68:FO Tryz.prog 68:=⟨fnOk68⟩
instance iF38:FO Tryz.prog 38:=⟨fnOk38⟩
instance iF69:FO Tryz.prog 69:=⟨fnOk69⟩
instance iF40:FO Tryz.prog 40:=⟨fnOk40⟩
instance iF16:FO Tryz.prog 16:=⟨fnOk16⟩
instance iF44:FO Tryz.prog 44:=⟨fnOk44⟩
instance iF43:FO Tryz.prog 43:=⟨fnOk43⟩
instance iF47:FO Tryz.prog 47:=⟨fnOk47⟩
instance iF50:FO Tryz.prog 50:=⟨fnOk50⟩
instance iF49:FO Tryz.prog 49:=⟨fnOk49⟩
instance iF19:FO Tryz.prog 19:=⟨fnOk19⟩
instance iF13:FO Tryz.prog 13:=⟨fnOk13⟩
instance iF6:FO Tryz.prog 6:=⟨fnOk6⟩
instance iF7:FO Tryz.prog 7:=⟨fnOk7⟩
instance iF8:FO Tryz.prog 8:=⟨fnOk8⟩
instance iF10:FO Tryz.prog 10:=⟨fnOk10⟩
instance iF25:FO Tryz.prog 25:=⟨fnOk25⟩
instance iF34:FO Tryz.prog 34:=⟨fnOk34⟩
instance iF35:FO Tryz.prog 35:=⟨fnOk35⟩
instance iF36:FO Tryz.prog 36:=⟨fnOk36⟩
instance iF80:FO Tryz.prog 80:=⟨fnOk80⟩
instance iF51:FO Tryz.prog 51:=⟨fnOk51⟩
instance iF66:FO Tryz.prog 66:=⟨fnOk66⟩
instance iF67:FO Tryz.prog 67:=⟨fnOk67⟩
instance iF82:FO Tryz.prog 82:=⟨fnOk82⟩
instance iF55:FO Tryz.prog 55:=⟨fnOk55⟩
instance iF61:FO Tryz.prog 61:=⟨fnOk61⟩
instance iF60:FO Tryz.prog 60:=⟨fnOk60⟩
instance iF58:FO Tryz.prog 58:=⟨fnOk58⟩
instance iF37:FO Tryz.prog 37:=⟨fnOk37⟩
instance iF15:FO Tryz.prog 15:=⟨fnOk15⟩
instance iF32:FO Tryz.prog 32:=⟨fnOk32⟩
instance iF90:FO Tryz.prog 90:=⟨fnOk90⟩
instance iF123:FO Tryz.prog 123:=⟨fnOk123⟩
instance iF96:FO Tryz.prog 96:=⟨fnOk96⟩
instance iF124:FO Tryz.prog 124:=⟨fnOk124⟩
instance iF84:FO Tryz.prog 84:=⟨fnOk84⟩
instance iF62:FO Tryz.prog 62:=⟨fnOk62⟩
instance iF85:FO Tryz.prog 85:=⟨fnOk85⟩
instance iF86:FO Tryz.prog 86:=⟨fnOk86⟩
instance iF87:FO Tryz.prog 87:=⟨fnOk87⟩
instance iF88:FO Tryz.prog 88:=⟨fnOk88⟩
instance iF63:FO Tryz.prog 63:=⟨fnOk63⟩
instance iF125:FO Tryz.prog 125:=⟨fnOk125⟩
instance iF89:FO Tryz.prog 89:=⟨fnOk89⟩
instance iF83:FO Tryz.prog 83:=⟨fnOk83⟩
instance iF126:FO Tryz.prog 126:=⟨fnOk126⟩
instance iF127:FO Tryz.prog 127:=⟨fnOk127⟩
instance iF91:FO Tryz.prog 91:=⟨fnOk91⟩
instance iF128:FO Tryz.prog 128:=⟨fnOk128⟩
instance iF129:FO Tryz.prog 129:=⟨fnOk129⟩
instance iF92:FO Tryz.prog 92:=⟨fnOk92⟩
instance iF64:FO Tryz.prog 64:=⟨fnOk64⟩
instance iF130:FO Tryz.prog 130:=⟨fnOk130⟩
instance iF93:FO Tryz.prog 93:=⟨fnOk93⟩
instance iF94:FO Tryz.prog 94:=⟨fnOk94⟩
instance iF95:FO Tryz.prog 95:=⟨fnOk95⟩
instance iF97:FO Tryz.prog 97:=⟨fnOk97⟩
instance iF65:FO Tryz.prog 65:=⟨fnOk65⟩
instance iF29:FO Tryz.prog 29:=⟨fnOk29⟩
instance iF33:FO Tryz.prog 33:=⟨fnOk33⟩
instance iF12:FO Tryz.prog 12:=⟨fnOk12⟩
instance iF41:FO Tryz.prog 41:=⟨fnOk41⟩
instance iF17:FO Tryz.prog 17:=⟨fnOk17⟩
instance iF81:FO Tryz.prog 81:=⟨fnOk81⟩
instance iF52:FO Tryz.prog 52:=⟨fnOk52⟩
instance iF53:FO Tryz.prog 53:=⟨fnOk53⟩
instance iF20:FO Tryz.prog 20:=⟨fnOk20⟩
instance iF9:FO Tryz.prog 9:=⟨fnOk9⟩
instance iF14:FO Tryz.prog 14:=⟨fnOk14⟩
instance iF42:FO Tryz.prog 42:=⟨fnOk42⟩
instance iF18:FO Tryz.prog 18:=⟨fnOk18⟩
instance iF54:FO Tryz.prog 54:=⟨fnOk54⟩
instance iF21:FO Tryz.prog 21:=⟨fnOk21⟩
instance iF56:FO Tryz.prog 56:=⟨fnOk56⟩
instance iF22:FO Tryz.prog 22:=⟨fnOk22⟩
instance iF57:FO Tryz.prog 57:=⟨fnOk57⟩
instance iF23:FO Tryz.prog 23:=⟨fnOk23⟩
instance iU3:Und Tryz.prog 3 (.int .i64):=⟨underlying3⟩
instance iU4:Und Tryz.prog 4 .bool:=⟨underlying4⟩
instance iU5:Und Tryz.prog 5 (.int .u8):=⟨underlying5⟩
instance iU9:Und Tryz.prog 9 .string:=⟨underlying9⟩
instance iU22:Und Tryz.prog 22 (.slice 43):=⟨underlying22⟩
instance iU24:UF Tryz.prog 24 [(3,0),(3,1),(3,2)]:=⟨⟨_,underlying24,rfl⟩⟩
instance iU26:UF Tryz.prog 26 [(22,0),(24,1)]:=⟨⟨_,underlying26,rfl⟩⟩
instance iU27:Und Tryz.prog 27 (.slice 3):=⟨underlying27⟩
instance iU29:Und Tryz.prog 29 (.int .u64):=⟨underlying29⟩
instance iU31:UF Tryz.prog 31 [(4,0),(29,1),(29,2)]:=⟨⟨_,underlying31,rfl⟩⟩
instance iU33:UF Tryz.prog 33 [(31,0),(3,3)]:=⟨⟨_,underlying33,rfl⟩⟩
instance iU34:Und Tryz.prog 34 (.slice 75):=⟨underlying34⟩
instance iU35:Und Tryz.prog 35 (.slice 132):=⟨underlying35⟩
instance iU36:Und Tryz.prog 36 (.slice 134):=⟨underlying36⟩
instance iU37:Und Tryz.prog 37 (.slice 78):=⟨underlying37⟩
instance iU39:UF Tryz.prog 39 [(3,0),(34,1),(31,2),(3,5),(3,6),(3,7),(35,8),(36,9),(37,10)]:=⟨⟨_,underlying39,rfl⟩⟩
instance iU41:UF Tryz.prog 41 [(33,0),(3,4),(39,5)]:=⟨⟨_,underlying41,rfl⟩⟩
instance iU43:UF Tryz.prog 43 [(3,0),(33,1),(4,5),(41,6)]:=⟨⟨_,underlying43,rfl⟩⟩
instance iU49:Und Tryz.prog 49 (.slice 26):=⟨underlying49⟩
instance iU52:Und Tryz.prog 52 (.slice 22):=⟨underlying52⟩
instance iU57:Und Tryz.prog 57 (.slice 71):=⟨underlying57⟩
instance iU65:Und Tryz.prog 65 (.slice 41):=⟨underlying65⟩
instance iU69:Und Tryz.prog 69 (.slice 33):=⟨underlying69⟩
instance iU71:UF Tryz.prog 71 [(69,0),(39,1),(69,12)]:=⟨⟨_,underlying71,rfl⟩⟩
instance iU75:UF Tryz.prog 75 [(4,0),(27,1)]:=⟨⟨_,underlying75,rfl⟩⟩
instance iU76:Und Tryz.prog 76 (.slice 5):=⟨underlying76⟩
instance iU78:UF Tryz.prog 78 [(3,0),(3,1),(76,2)]:=⟨⟨_,underlying78,rfl⟩⟩
instance iU80:UF Tryz.prog 80 [(27,0),(3,1)]:=⟨⟨_,underlying80,rfl⟩⟩
instance iU112:Und Tryz.prog 112 (.int .u64):=⟨underlying112⟩
instance iU123:UF Tryz.prog 123 [(39,0),(69,11)]:=⟨⟨_,underlying123,rfl⟩⟩
instance iU124:Und Tryz.prog 124 (.slice 123):=⟨underlying124⟩
instance iU129:Und Tryz.prog 129 (.slice 4):=⟨underlying129⟩
instance iU132:UF Tryz.prog 132 [(3,0),(3,1)]:=⟨⟨_,underlying132,rfl⟩⟩
instance iU134:UF Tryz.prog 134 [(3,0),(3,1),(3,2)]:=⟨⟨_,underlying134,rfl⟩⟩
instance iM3:Emb Tryz.prog 3 Int (eI .i64):=⟨fun _ _=>rfl⟩
instance iM4:Emb Tryz.prog 4 Bool eB:=⟨fun _ _=>rfl⟩
instance iM5:Emb Tryz.prog 5 Int (eI .u8):=⟨fun _ _=>rfl⟩
instance iM22:Emb Tryz.prog 22 (List A1) A2b:=⟨fun _ _=>rfl⟩
instance iM26:Emb Tryz.prog 26 C3 D4:=⟨fun _ _=>rfl⟩
instance iM33:Emb Tryz.prog 33 A2 B0:=⟨fun _ _=>rfl⟩
instance iM41:Emb Tryz.prog 41 D5 G6:=⟨fun _ _=>rfl⟩
instance iM43:Emb Tryz.prog 43 A1 A8:=⟨fun _ _=>rfl⟩
instance iM71:Emb Tryz.prog 71 A7 E6:=⟨fun _ _=>rfl⟩
instance iM75:Emb Tryz.prog 75 B4 D2:=⟨fun _ _=>rfl⟩
instance iM78:Emb Tryz.prog 78 A3 B6:=⟨fun _ _=>rfl⟩
instance iM123:Emb Tryz.prog 123 D3 F3:=⟨fun _ _=>rfl⟩
instance iM132:Emb Tryz.prog 132 B5 C5:=⟨fun _ _=>rfl⟩
instance iM134:Emb Tryz.prog 134 E7 E9:=⟨fun _ _=>rfl⟩
def A4s (a0:D9):Option (Bool):=
 some ((((((decide (0≤a0.fBurst))&&(decide (a0.fBurst≤1048576)))&&(decide (0≤a0.fRate)))&&(decide (a0.fRate≤a0.fBurst)))&&(decide (0≤a0.fLevel)))&&(decide (a0.fLevel≤a0.fBurst)))
theorem B2y (a0:D9) (r:Bool) (h:A4s a0=some r):AC Tryz.prog 30 [.d (C1 a0)] [] (.d (.bool r)) []:=by
 refine ac2 Tryz.func30 rfl rfl fun B hB hN L => ?_;delta A4s at h;refine sr (SQ tt) ?_;refine sr (SQ tt) ?_;apply ret;obtain rfl:=oi h;exact rt (kp [(2,_)] [] hB rfl rfl (by rfl)) [bo ((((((decide (0≤a0.fBurst))&&(decide (a0.fBurst≤1048576)))&&(decide (0≤a0.fRate)))&&(decide (a0.fRate≤a0.fBurst)))&&(decide (0≤a0.fLevel)))&&(decide (a0.fLevel≤a0.fBurst)))] (rT rN) rfl
def X7 (a0:E5):Option (Bool):=
 jn (fun p:Bool=>
 some p) (fun i=>
 (if a0.fV6=true then
 i true
 else
 i ((a0.fHi==0)&&(decide (a0.fLo<4294967296)))))
theorem H4 (a0:E5) (r:Bool) (h:X7 a0=some r):AC Tryz.prog 141 [.d (E4 a0)] [] (.d (.bool r)) []:=by
 refine ac2 Tryz.func141 rfl rfl fun B hB hN L => ?_;delta X7 at h;refine sr (SQ tt) ?_;apply seq;refine AWp.cut h (fun p:Bool=>([(2,bo p)]:EL)) (fun p:Bool=>([]:OL)) (fun p h u A t => ?_) (fun C s h => ?_)
 ·apply A0;refine ghost t ?_;apply ret;obtain rfl:=oi h;exact rt (kp [(2,_)] [] hB rfl rfl (by rfl)) [bo p] (rT rN) rfl
 ·rcases bft a0.fV6 with i | i
  ·have h:=A5 i h;refine rg (SQ (fa i tt)) ?_;exact s _ h _ _ (mp [] _ _ hB)
  ·have h:=A6 i h;refine rg (SQ (fa i tt)) ?_;exact s _ h _ _ (mp [] _ _ hB)
def A1x (a0:E5):Option (Int):=
 (if a0.fV6=true then
 some 128
 else
 some 32)
theorem A57 (a0:E5) (r:Int) (h:A1x a0=some r):AC Tryz.prog 142 [.d (E4 a0)] [] (.d (.int .i64 r)) []:=by
 refine AC.of_code2 Tryz.func142 rfl rfl (Nat.le_of_ble_eq_true (by rfl)) fun B hB hN => ?_;delta A1x at h;refine sr (SQ tt) ?_;apply seq;refine sr (SQ tt) ?_;apply AWp.cond rfl<;>intro i
 ·have h:=A5 i h;refine sr (SQ tt) ?_;apply ret;apply B8;obtain rfl:=oi h;exact rt (kp [(2,_)] [] hB rfl rfl (by rfl)) [i6 128] (rT rN) rfl
 ·have h:=A6 i h;apply AWp.skip;apply A0;refine sr (SQ tt) ?_;apply ret;obtain rfl:=oi h;exact rt (kp [(2,_)] [] hB rfl rfl (by rfl)) [i6 32] (rT rN) rfl
def A3h (a0:Int):Option (Int×Int):=
 (if (decide (64<a0))=true then
 some (IntKind.u64.wrap ((shlI .u64 1 (IntKind.u64.wrap (w64 (a0-64))))-1),18446744073709551615)
 else
 some (0,IntKind.u64.wrap ((shlI .u64 1 (IntKind.u64.wrap a0))-1)))
theorem B1k (a0:Int) (r:Int×Int) (h:A3h a0=some r):AC Tryz.prog 150 [.d (.int .i64 a0)] [] (.tup [.d (.int .u64 r.1),.d (.int .u64 r.2)]) []:=by
 refine ac2 Tryz.func150 rfl rfl fun B hB hN L => ?_;delta A3h at h;refine sr (SQ tt) ?_;apply seq;refine sr (SQ tt) ?_;apply AWp.cond rfl<;>intro i
 ·have h:=A5 i h;refine sr (SQ tt) ?_;apply ret;apply B8;obtain rfl:=oi h;exact rt (kp [(2,_),(3,_)] [] hB rfl rfl (by rfl)) [.d (.int .u64 (IntKind.u64.wrap ((shlI .u64 1 (IntKind.u64.wrap (w64 (a0-64))))-1))),.d (.int .u64 18446744073709551615)] (rT (rT rN)) rfl
 ·have h:=A6 i h;apply AWp.skip;apply A0;refine sr (SQ tt) ?_;apply ret;obtain rfl:=oi h;exact rt (kp [(2,_),(3,_)] [] hB rfl rfl (by rfl)) [.d (.int .u64 0),.d (.int .u64 (IntKind.u64.wrap ((shlI .u64 1 (IntKind.u64.wrap a0))-1)))] (rT (rT rN)) rfl
def A3i (a0:E5) (a1:Int):Option (E5):=
 (A1x a0).bind fun p=>
 (A3h (w64 (p-a1))).bind fun i=>
 some (E5.mk a0.fV6 (bitI .andNot .u64 a0.fHi i.1) (bitI .andNot .u64 a0.fLo i.2))
theorem B1l (a0:E5) (a1:Int) (r:E5) (h:A3i a0 a1=some r):AC Tryz.prog 143 [.d (E4 a0),.d (.int .i64 a1)] [] (.d (E4 r)) []:=by
 refine AC.of_code2 Tryz.func143 rfl rfl (Nat.le_of_ble_eq_true (by rfl)) fun B hB hN => ?_;delta A3i at h;refine sr (SQ tt) ?_;obtain⟨p,s,h⟩:=bindS h;obtain⟨i,t,h⟩:=bindS h;refine sr (SQ (fa (cl [] (A57 a0 p s)) (fa (cl [] (B1k (w64 (p-a1)) i t)) tt))) ?_;refine sr (SQ tt) ?_;refine sr (SQ tt) ?_;refine sr (SQ tt) ?_;apply ret;obtain rfl:=oi h;exact rt (kp [(4,_)] [(1004,some _)] hB rfl rfl (by rfl)) [.d (.st [.bool a0.fV6,.int .u64 (bitI .andNot .u64 a0.fHi i.1),.int .u64 (bitI .andNot .u64 a0.fLo i.2)])] (Res.cell (c:=(.d (.st [.bool a0.fV6,.int .u64 (bitI .andNot .u64 a0.fHi i.1),.int .u64 (bitI .andNot .u64 a0.fLo i.2)]))) (by rfl) (by rfl) tyS31 (by rfl) (by rfl) (by rfl) rN) rfl
def A1y (a0:A2):Option (Bool):=
 jn (fun s:Bool=>
 some s) (fun i=>
 (X7 a0.fAddr).bind fun t=>
 (if (t&&(decide (0≤a0.fLen)))=true then
 (A1x a0.fAddr).bind fun u=>
 (if (decide (a0.fLen≤u))=true then
 (A3i a0.fAddr a0.fLen).bind fun p=>
 i ((p.fV6==a0.fAddr.fV6)&&((p.fHi==a0.fAddr.fHi)&&((p.fLo==a0.fAddr.fLo)&&true)))
 else
 i false)
 else
 i false))
theorem A0j (a0:A2) (r:Bool) (h:A1y a0=some r):AC Tryz.prog 112 [.d (B0 a0)] [] (.d (.bool r)) []:=by
 refine ac2 Tryz.func112 rfl rfl fun B hB hN L => ?_;delta A1y at h;refine sr (SQ tt) ?_;apply seq;refine AWp.cut h (fun s:Bool=>([(2,bo s)]:EL)) (fun s:Bool=>([]:OL)) (fun s h I J F => ?_) (fun K u h => ?_)
 ·apply A0;refine ghost F ?_;apply ret;obtain rfl:=oi h;exact rt (kp [(2,_)] [] hB rfl rfl (by rfl)) [bo s] (rT rN) rfl
 ·obtain⟨t,A,h⟩:=bindS h;rcases bft (t&&(decide (0≤a0.fLen))) with i | i
  ·have h:=A5 i h;obtain⟨C,E,h⟩:=bindS h;rcases bft (decide (a0.fLen≤C)) with p | p
   ·have h:=A5 p h;obtain⟨G,H,h⟩:=bindS h;refine drS (SQ (fa (cl [] (H4 a0.fAddr t A)) (fa i (fa (cl [] (A57 a0.fAddr C E)) (fa p (fa (cl [] (B1l a0.fAddr a0.fLen G H)) tt)))))) ?_;exact u _ h _ _ (mp [] _ _ hB)
   ·have h:=A6 p h;refine drS (SQ (fa (cl [] (H4 a0.fAddr t A)) (fa i (fa (cl [] (A57 a0.fAddr C E)) (fa p tt))))) ?_;exact u _ h _ _ (mp [] _ _ hB)
  ·have h:=A6 i h;refine drS (SQ (fa (cl [] (H4 a0.fAddr t A)) (fa i tt))) ?_;exact u _ h _ _ (mp [] _ _ hB)
def A5v (a0:(List Int)):Option (List Int):=
 chk (decide (a0.length≤LIM))<|
 some a0
theorem B3z (a0:(List Int)) (r:(List Int)) (h:A5v a0=some r):AC Tryz.prog 131 [.d (.list 1 (a0.map (eI .i64)))] [] (.d (.list 1 (r.map (eI .i64)))) []:=by
 refine AC.of_code2 Tryz.func131 rfl rfl (Nat.le_of_ble_eq_true (by rfl)) fun B hB hN => ?_;delta A5v at h;refine sr (SQ tt) ?_;obtain⟨i,h⟩:=B2 h;refine sr (SQ (fa i tt)) ?_;apply ret;obtain rfl:=oi h;exact rt (Mat.trans (Mat.freezeP (n:=1004) (e:=3) (sz:=1) (es:=a0.map (eI .i64)) (Ts:=[(2,qI_1 a0)]) (Bs:=[]) (by rfl) (TwT.cons (x:=(.sref 1004 1 0 a0.length)) (by rfl) (FrzL.all (by first | rfl | (simp;done) | (simp;omega) | omega)) TwT.nil) TwB.nil) (mp [] [(2,qI_1 a0)] [] hB)) [qI_1 a0] (rT rN) rfl
def A3j (a0:(List Int)):Option (List Int):=
 chk (decide (a0.length≤LIM))<|
 some a0
theorem B1m (a0:(List Int)) (r:(List Int)) (h:A3j a0=some r):AC Tryz.prog 132 [.d (.list 1 (a0.map (eI .u8)))] [] (.d (.list 1 (r.map (eI .u8)))) []:=by
 refine AC.of_code2 Tryz.func132 rfl rfl (Nat.le_of_ble_eq_true (by rfl)) fun B hB hN => ?_;delta A3j at h;refine sr (SQ tt) ?_;obtain⟨i,h⟩:=B2 h;refine sr (SQ (fa i tt)) ?_;apply ret;obtain rfl:=oi h;exact rt (Mat.trans (Mat.freezeP (n:=1004) (e:=5) (sz:=1) (es:=a0.map (eI .u8)) (Ts:=[(2,.d (.list 1 (a0.map (eI .u8))))]) (Bs:=[]) (by rfl) (TwT.cons (x:=(.sref 1004 1 0 a0.length)) (by rfl) (FrzL.all (by first | rfl | (simp;done) | (simp;omega) | omega)) TwT.nil) TwB.nil) (mp [] [(2,.d (.list 1 (a0.map (eI .u8))))] [] hB)) [.d (.list 1 (a0.map (eI .u8)))] (rT rN) rfl
def A3k (a0:(List B5)):Option (List B5):=
 chk (decide (a0.length≤LIM))<|
 some a0
theorem B1n (a0:(List B5)) (r:(List B5)) (h:A3k a0=some r):AC Tryz.prog 133 [.d (.list 2 (a0.map C5))] [] (.d (.list 2 (r.map C5))) []:=by
 refine AC.of_code2 Tryz.func133 rfl rfl (Nat.le_of_ble_eq_true (by rfl)) fun B hB hN => ?_;delta A3k at h;refine sr (SQ tt) ?_;obtain⟨i,h⟩:=B2 h;refine sr (SQ (fa i tt)) ?_;apply ret;obtain rfl:=oi h;exact rt (Mat.trans (Mat.freezeP (n:=1004) (e:=132) (sz:=2) (es:=a0.map C5) (Ts:=[(2,C9 a0)]) (Bs:=[]) (by rfl) (TwT.cons (x:=(.sref 1004 2 0 a0.length)) (by rfl) (FrzL.all (by first | rfl | (simp;done) | (simp;omega) | omega)) TwT.nil) TwB.nil) (mp [] [(2,C9 a0)] [] hB)) [C9 a0] (rT rN) rfl
def A3l (a0:(List E7)):Option (List E7):=
 chk (decide (a0.length≤LIM))<|
 some a0
theorem B1o (a0:(List E7)) (r:(List E7)) (h:A3l a0=some r):AC Tryz.prog 134 [.d (.list 3 (a0.map E9))] [] (.d (.list 3 (r.map E9))) []:=by
 refine AC.of_code2 Tryz.func134 rfl rfl (Nat.le_of_ble_eq_true (by rfl)) fun B hB hN => ?_;delta A3l at h;refine sr (SQ tt) ?_;obtain⟨i,h⟩:=B2 h;refine sr (SQ (fa i tt)) ?_;apply ret;obtain rfl:=oi h;exact rt (Mat.trans (Mat.freezeP (n:=1004) (e:=134) (sz:=3) (es:=a0.map E9) (Ts:=[(2,E8 a0)]) (Bs:=[]) (by rfl) (TwT.cons (x:=(.sref 1004 3 0 a0.length)) (by rfl) (FrzL.all (by first | rfl | (simp;done) | (simp;omega) | omega)) TwT.nil) TwB.nil) (mp [] [(2,E8 a0)] [] hB)) [E8 a0] (rT rN) rfl
def A19 (a0:C2) (i:Int×(List B4)):Option (List B4⊕(Int×(List B4))):=
 (if (decide (i.1<(a0.fPath.length:Int)))=true then
 (idx a0.fPath i.1).bind fun p=>
 (A5v p.fASNs).bind fun s=>
 chk (decide ((i.2++[B4.mk p.fSet s]).length≤LIM))<|
 some (.inr (w64 (i.1+1),(i.2++[B4.mk p.fSet s])))
 else
 some (.inl i.2))
def A1a (a0:C2) (i:Int×(List A3)):Option (List A3⊕(Int×(List A3))):=
 (if (decide (i.1<(a0.fOther.length:Int)))=true then
 (idx a0.fOther i.1).bind fun p=>
 (A3j p.fData).bind fun s=>
 chk (decide ((i.2++[A3.mk p.fFlags p.fType s]).length≤LIM))<|
 some (.inr (w64 (i.1+1),(i.2++[A3.mk p.fFlags p.fType s])))
 else
 some (.inl i.2))
def A34 (a0:C2):Option (C2):=
 (loop (A19 a0) (0,([]:List B4))).bind fun i=>
 (loop (A1a a0) (0,([]:List A3))).bind fun p=>
 (A3k a0.fCommunities).bind fun s=>
 (A3l a0.fLarge).bind fun t=>
 some (C2.mk a0.fOrigin i a0.fNext a0.fMED a0.fPref a0.fOTC s t p)
theorem A8h (a0:C2) (r:C2) (h:A34 a0=some r):AC Tryz.prog 98 [.d (C8 a0)] [] (.d (C8 r)) []:=by
 refine ac2 Tryz.func98 rfl rfl fun B hB hN L => ?_;delta A34 at h;refine sr (SQ tt) ?_;refine sdS (SQ tt) ?_;refine sr (SQ tt) ?_;apply seq;refine sr (SQ tt) ?_;apply block;obtain⟨i,I,h⟩:=bindS h;refine lg (A19 a0) (fun u:Int×(List B4)=>([(1,pt 1001),(2,pt 1002),(4,C6 a0.fOther),(15,D0 a0.fPath),(16,i6 (a0.fPath.length:Int)),(17,i6 u.1)]:EL)) (fun u:Int×(List B4)=>([(1001,some (.box 39 (.st [i6 a0.fOrigin,.sref 13011 2 0 u.2.length,.d (E4 a0.fNext),i6 a0.fMED,i6 a0.fPref,i6 a0.fOTC,C9 a0.fCommunities,E8 a0.fLarge,.nils]))),(1002,some (.box 39 (.st Zz7))),(13011,some (K7 u.2))]:OL)) (fun(i:(List B4)) e A C=>e = .exit 0∧Mat B A C ([(1,pt 1001),(2,pt 1002),(4,C6 a0.fOther)]:EL) ([(1001,some (.box 39 (.st [i6 a0.fOrigin,.sref 13011 2 0 i.length,.d (E4 a0.fNext),i6 a0.fMED,i6 a0.fPref,i6 a0.fOTC,C9 a0.fCommunities,E8 a0.fLarge,.nils]))),(1002,some (.box 39 (.st Zz7))),(13011,some (K7 i))]:OL)) I (Mat.trans (Mat.beginP (n:=13011) (e:=75) (sz:=2) (Ts:=[]) (Bs:=[(1001,some (.box 39 (.st [i6 a0.fOrigin,.sref 13011 2 0 0,.d (E4 a0.fNext),i6 a0.fMED,i6 a0.fPref,i6 a0.fOTC,C9 a0.fCommunities,E8 a0.fLarge,.nils])))]) hB (by decide) (by rfl) (by decide) TwT.nil (TwB.cons (x:=(.st [i6 a0.fOrigin,.nils,.d (E4 a0.fNext),i6 a0.fMED,i6 a0.fPref,i6 a0.fOTC,C9 a0.fCommunities,E8 a0.fLarge,.nils])) (by rfl) (Tw.st (TwL.cons (Tw.same _) (TwL.cons (Tw.leaf ⟨rfl,rfl⟩) (TwL.cons (Tw.same _) (TwL.cons (Tw.same _) (TwL.cons (Tw.same _) (TwL.cons (Tw.same _) (TwL.cons (Tw.same _) (TwL.cons (Tw.same _) (TwL.cons (Tw.same _) TwL.nil)))))))))) TwB.nil)) (mp [] _ _ hB)) (fun u y h => ?_) (fun e A C hR => ?_)
 ·unfold A19 at h;refine sr (SQ tt) ?_;apply seq;apply AWp.cond rfl<;>intro G
  ·have h:=A5 G h;apply AWp.skip;apply A0;apply seq;apply block;obtain⟨J,K,h⟩:=bindS h;refine sr (SQ (fa K tt)) ?_;obtain⟨M,N,h⟩:=bindS h;obtain⟨O,h⟩:=B2 h;refine drS (SQ (fa (cl [] (B3z J.fASNs M N)) (fa O tt))) ?_;apply D7;apply A0;refine rg (SQ tt) ?_;obtain rfl:=oi h;exact⟨rfl,mp [(13011,1030)] _ _ hB⟩
  ·have h:=A6 G h;apply AWp.exit;apply D6;obtain rfl:=oi h;exact⟨nofun,rfl,mp [] _ _ hB⟩
 ·obtain⟨rfl,F⟩:=hR;apply B9;apply A0;refine ghost F ?_;apply seq;refine sr (SQ tt) ?_;apply block;obtain⟨p,P,h⟩:=bindS h;refine lg (A1a a0) (fun E:Int×(List A3)=>([(1,pt 1001),(2,pt 1002),(33,C6 a0.fOther),(34,i6 (a0.fOther.length:Int)),(35,i6 E.1)]:EL)) (fun E:Int×(List A3)=>([(1001,some (.box 39 (.st [i6 a0.fOrigin,.sref 13011 2 0 i.length,.d (E4 a0.fNext),i6 a0.fMED,i6 a0.fPref,i6 a0.fOTC,C9 a0.fCommunities,E8 a0.fLarge,.sref 13018 3 0 E.2.length]))),(1002,some (.box 39 (.st Zz7))),(13011,some (K7 i)),(13018,some (E0 E.2))]:OL)) (fun(p:(List A3)) e A C=>e = .exit 2∧Mat B A C ([(1,pt 1001),(2,pt 1002)]:EL) ([(1001,some (.box 39 (.st [i6 a0.fOrigin,.sref 13011 2 0 i.length,.d (E4 a0.fNext),i6 a0.fMED,i6 a0.fPref,i6 a0.fOTC,C9 a0.fCommunities,E8 a0.fLarge,.sref 13018 3 0 p.length]))),(1002,some (.box 39 (.st Zz7))),(13011,some (K7 i)),(13018,some (E0 p))]:OL)) P (Mat.trans (Mat.beginP (n:=13018) (e:=78) (sz:=3) (Ts:=[]) (Bs:=[(1001,some (.box 39 (.st [i6 a0.fOrigin,.sref 13011 2 0 i.length,.d (E4 a0.fNext),i6 a0.fMED,i6 a0.fPref,i6 a0.fOTC,C9 a0.fCommunities,E8 a0.fLarge,.sref 13018 3 0 0])))]) hB (by decide) (by rfl) (by decide) TwT.nil (TwB.cons (x:=(.st [i6 a0.fOrigin,.sref 13011 2 0 i.length,.d (E4 a0.fNext),i6 a0.fMED,i6 a0.fPref,i6 a0.fOTC,C9 a0.fCommunities,E8 a0.fLarge,.nils])) (by rfl) (Tw.st (TwL.cons (Tw.same _) (TwL.cons (Tw.same _) (TwL.cons (Tw.same _) (TwL.cons (Tw.same _) (TwL.cons (Tw.same _) (TwL.cons (Tw.same _) (TwL.cons (Tw.same _) (TwL.cons (Tw.same _) (TwL.cons (Tw.leaf ⟨rfl,rfl⟩) TwL.nil)))))))))) TwB.nil)) (mp [] _ _ hB)) (fun E y h => ?_) (fun e A C hR => ?_)
  ·unfold A1a at h;refine sr (SQ tt) ?_;apply seq;apply AWp.cond rfl<;>intro H
   ·have h:=A5 H h;apply AWp.skip;apply A0;apply seq;apply block;obtain⟨Q,R,h⟩:=bindS h;refine sr (SQ (fa R tt)) ?_;obtain⟨S,T,h⟩:=bindS h;obtain⟨U,h⟩:=B2 h;refine drS (SQ (fa (cl [] (B1m Q.fData S T)) (fa U tt))) ?_;apply D7;apply A0;refine rg (SQ tt) ?_;obtain rfl:=oi h;exact⟨rfl,mp [(13018,1050)] _ _ hB⟩
   ·have h:=A6 H h;apply AWp.exit;apply D6;obtain rfl:=oi h;exact⟨nofun,rfl,mp [] _ _ hB⟩
  ·obtain⟨rfl,F⟩:=hR;apply B9;apply A0;refine ghost F ?_;obtain⟨s,W,h⟩:=bindS h;obtain⟨t,X,h⟩:=bindS h;refine sdS (SQ (fa (cl [] (B1n a0.fCommunities s W)) (fa (cl [] (B1o a0.fLarge t X)) tt))) ?_;refine sr (SQ tt) ?_;apply ret;obtain rfl:=oi h;exact rt (Mat.trans (Mat.freezeP (n:=13011) (e:=75) (sz:=2) (es:=i.map D2) (Ts:=[]) (Bs:=[(1002,some (.box 39 (.st [i6 a0.fOrigin,D0 i,.d (E4 a0.fNext),i6 a0.fMED,i6 a0.fPref,i6 a0.fOTC,C9 s,E8 t,.sref 13018 3 0 p.length])))]) (by rfl) TwT.nil (TwB.cons (x:=(.st [i6 a0.fOrigin,.sref 13011 2 0 i.length,.d (E4 a0.fNext),i6 a0.fMED,i6 a0.fPref,i6 a0.fOTC,C9 s,E8 t,.sref 13018 3 0 p.length])) (by rfl) (Tw.st (TwL.cons (Tw.same _) (TwL.cons (FrzL.all (by first | rfl | (simp;done) | (simp;omega) | omega)) (TwL.cons (Tw.same _) (TwL.cons (Tw.same _) (TwL.cons (Tw.same _) (TwL.cons (Tw.same _) (TwL.cons (Tw.same _) (TwL.cons (Tw.same _) (TwL.cons (Tw.same _) TwL.nil)))))))))) TwB.nil)) (Mat.trans (Mat.freezeP (n:=13018) (e:=78) (sz:=3) (es:=p.map B6) (Ts:=[]) (Bs:=[(1002,some (.box 39 (.st [i6 a0.fOrigin,D0 i,.d (E4 a0.fNext),i6 a0.fMED,i6 a0.fPref,i6 a0.fOTC,C9 s,E8 t,C6 p])))]) (by rfl) TwT.nil (TwB.cons (x:=(.st [i6 a0.fOrigin,D0 i,.d (E4 a0.fNext),i6 a0.fMED,i6 a0.fPref,i6 a0.fOTC,C9 s,E8 t,.sref 13018 3 0 p.length])) (by rfl) (Tw.st (TwL.cons (Tw.same _) (TwL.cons (Tw.same _) (TwL.cons (Tw.same _) (TwL.cons (Tw.same _) (TwL.cons (Tw.same _) (TwL.cons (Tw.same _) (TwL.cons (Tw.same _) (TwL.cons (Tw.same _) (TwL.cons (FrzL.all (by first | rfl | (simp;done) | (simp;omega) | omega)) TwL.nil)))))))))) TwB.nil)) (Mat.trans (Mat.coeP (Ts:=[]) (Bs:=[(1002,bd 39 (.st [.int .i64 a0.fOrigin,.list 2 (i.map D2),E4 a0.fNext,.int .i64 a0.fMED,.int .i64 a0.fPref,.int .i64 a0.fOTC,.list 2 (s.map C5),.list 3 (t.map E9),.list 3 (p.map B6)]))]) TwT.nil (TwB.cons (x:=(.st [i6 a0.fOrigin,D0 i,.d (E4 a0.fNext),i6 a0.fMED,i6 a0.fPref,i6 a0.fOTC,C9 s,E8 t,C6 p])) (by rfl) (Tw.leaf ⟨_,Co.st (CoL.cons (Co.d _) (CoL.cons (Co.d _) (CoL.cons (Co.d _) (CoL.cons (Co.d _) (CoL.cons (Co.d _) (CoL.cons (Co.d _) (CoL.cons (Co.d _) (CoL.cons (Co.d _) (CoL.cons (Co.d _) CoL.nil))))))))),rfl⟩) TwB.nil)) (mp [] [(2,pt 1002)] [(1002,bd 39 (.st [.int .i64 a0.fOrigin,.list 2 (i.map D2),E4 a0.fNext,.int .i64 a0.fMED,.int .i64 a0.fPref,.int .i64 a0.fOTC,.list 2 (s.map C5),.list 3 (t.map E9),.list 3 (p.map B6)]))] hB)))) [.d (.st [.int .i64 a0.fOrigin,.list 2 (i.map D2),E4 a0.fNext,.int .i64 a0.fMED,.int .i64 a0.fPref,.int .i64 a0.fOTC,.list 2 (s.map C5),.list 3 (t.map E9),.list 3 (p.map B6)])] (Res.cell (c:=(.d (.st [.int .i64 a0.fOrigin,.list 2 (i.map D2),E4 a0.fNext,.int .i64 a0.fMED,.int .i64 a0.fPref,.int .i64 a0.fOTC,.list 2 (s.map C5),.list 3 (t.map E9),.list 3 (p.map B6)]))) (by rfl) (by rfl) tyS39 (by rfl) (by rfl) (by rfl) rN) rfl
def A1z (a0:(List A2)):Option (List A2):=
 chk (decide (a0.length≤LIM))<|
 some a0
theorem A7t (a0:(List A2)) (r:(List A2)) (h:A1z a0=some r):AC Tryz.prog 48 [.d (.list 4 (a0.map B0))] [] (.d (.list 4 (r.map B0))) []:=by
 refine AC.of_code2 Tryz.func48 rfl rfl (Nat.le_of_ble_eq_true (by rfl)) fun B hB hN => ?_;delta A1z at h;refine sr (SQ tt) ?_;obtain⟨i,h⟩:=B2 h;refine sr (SQ (fa i tt)) ?_;apply ret;obtain rfl:=oi h;exact rt (Mat.trans (Mat.freezeP (n:=1004) (e:=33) (sz:=4) (es:=a0.map B0) (Ts:=[(2,F8 a0)]) (Bs:=[]) (by rfl) (TwT.cons (x:=(.sref 1004 4 0 a0.length)) (by rfl) (FrzL.all (by first | rfl | (simp;done) | (simp;omega) | omega)) TwT.nil) TwB.nil) (mp [] [(2,F8 a0)] [] hB)) [F8 a0] (rT rN) rfl
def A0k:Option (C2):=
 some (C2.mk (-1) ([]:List B4) (E5.mk false 0 0) (-1) (-1) (-1) ([]:List B5) ([]:List E7) ([]:List A3))
theorem A5w (r:C2) (h:A0k=some r):AC Tryz.prog 148 [] [] (.d (C8 r)) []:=by
 refine AC.of_code2 Tryz.func148 rfl rfl (Nat.le_of_ble_eq_true (by rfl)) fun B hB hN => ?_;delta A0k at h;refine sr (SQ tt) ?_;refine sr (SQ tt) ?_;apply ret;obtain rfl:=oi h;exact rt (Mat.trans (Mat.coeP (Ts:=[]) (Bs:=[(1000,bd 39 (.st Zz6))]) TwT.nil (TwB.cons (x:=(.st [i6 (-1),.nils,.d (.st Zz0),i6 (-1),i6 (-1),i6 (-1),.nils,.nils,.nils])) (by rfl) (Tw.leaf ⟨_,Co.st (CoL.cons (Co.d _) (CoL.cons (Co.nils 2) (CoL.cons (Co.d _) (CoL.cons (Co.d _) (CoL.cons (Co.d _) (CoL.cons (Co.d _) (CoL.cons (Co.nils 2) (CoL.cons (Co.nils 3) (CoL.cons (Co.nils 3) CoL.nil))))))))),rfl⟩) TwB.nil)) (mp [] [(0,pt 1000)] [(1000,bd 39 (.st Zz6))] hB)) [.d (.st Zz6)] (Res.cell (c:=(.d (.st Zz6))) (by rfl) (by rfl) tyS39 (by rfl) (by rfl) (by rfl) rN) rfl
def I5 (a0:C2) (a1:(List A2)) (a2:Bool):Option (A7):=
 (if a2=true then
 (A34 a0).bind fun i=>
 (A1z a1).bind fun p=>
 some (A7.mk ([]:List A2) i p)
 else
 (A0k).bind fun s=>
 (A1z a1).bind fun t=>
 some (A7.mk t s ([]:List A2)))
theorem A0l (a0:C2) (a1:(List A2)) (a2:Bool) (r:A7) (h:I5 a0 a1 a2=some r):AC Tryz.prog 114 [.d (C8 a0),.d (.list 4 (a1.map B0)),.d (.bool a2)] [] (.d (E6 r)) []:=by
 refine AC.of_code2 Tryz.func114 rfl rfl (Nat.le_of_ble_eq_true (by rfl)) fun B hB hN => ?_;delta I5 at h;refine sr (SQ tt) ?_;apply seq;refine sr (SQ tt) ?_;apply AWp.cond rfl<;>intro u
 ·have h:=A5 u h;obtain⟨i,A,h⟩:=bindS h;obtain⟨p,C,h⟩:=bindS h;refine sr (SQ (fa (cl [] (A8h a0 i A)) (fa (cl [] (A7t a1 p C)) tt))) ?_;apply ret;apply B8;obtain rfl:=oi h;exact rt (Mat.trans (Mat.coeP (Ts:=[]) (Bs:=[(1006,bd 71 (.st [.list 4 (([]:List A2).map B0),C8 i,.list 4 (p.map B0)]))]) TwT.nil (TwB.cons (x:=(.st [.nils,.d (C8 i),F8 p])) (by rfl) (Tw.leaf ⟨_,Co.st (CoL.cons (Co.nils 4) (CoL.cons (Co.d _) (CoL.cons (Co.d _) CoL.nil))),rfl⟩) TwB.nil)) (mp [] [(6,pt 1006)] [(1006,bd 71 (.st [.list 4 (([]:List A2).map B0),C8 i,.list 4 (p.map B0)]))] hB)) [.d (.st [.list 4 (([]:List A2).map B0),C8 i,.list 4 (p.map B0)])] (Res.cell (c:=(.d (.st [.list 4 (([]:List A2).map B0),C8 i,.list 4 (p.map B0)]))) (by rfl) (by rfl) tyS71 (by rfl) (by rfl) (by rfl) rN) rfl
 ·have h:=A6 u h;apply AWp.skip;apply A0;obtain⟨s,E,h⟩:=bindS h;obtain⟨t,F,h⟩:=bindS h;refine sr (SQ (fa (cl [] (A5w s E)) (fa (cl [] (A7t a1 t F)) tt))) ?_;apply ret;obtain rfl:=oi h;exact rt (Mat.trans (Mat.coeP (Ts:=[]) (Bs:=[(1006,bd 71 (.st [.list 4 (t.map B0),C8 s,.list 4 (([]:List A2).map B0)]))]) TwT.nil (TwB.cons (x:=(.st [F8 t,.d (C8 s),.nils])) (by rfl) (Tw.leaf ⟨_,Co.st (CoL.cons (Co.d _) (CoL.cons (Co.d _) (CoL.cons (Co.nils 4) CoL.nil))),rfl⟩) TwB.nil)) (mp [] [(6,pt 1006)] [(1006,bd 71 (.st [.list 4 (t.map B0),C8 s,.list 4 (([]:List A2).map B0)]))] hB)) [.d (.st [.list 4 (t.map B0),C8 s,.list 4 (([]:List A2).map B0)])] (Res.cell (c:=(.d (.st [.list 4 (t.map B0),C8 s,.list 4 (([]:List A2).map B0)]))) (by rfl) (by rfl) tyS71 (by rfl) (by rfl) (by rfl) rN) rfl
def A3m (a0:A2):Option (Bool):=
 (A1y a0).bind fun i=>
 some (!i)
theorem B03 (a0:A2) (r:Bool) (h:A3m a0=some r):AC Tryz.prog 144 [.d (B0 a0)] [] (.d (.bool r)) []:=by
 refine AC.of_code2 Tryz.func144 rfl rfl (Nat.le_of_ble_eq_true (by rfl)) fun B hB hN => ?_;delta A3m at h;refine sr (SQ tt) ?_;obtain⟨i,p,h⟩:=bindS h;refine sr (SQ (fa (cl [] (A0j a0 i p)) tt)) ?_;apply ret;obtain rfl:=oi h;exact rt (kp [(2,_)] [] hB rfl rfl (by rfl)) [bo (!i)] (rT rN) rfl
def R9 (a0:(List A2)) (i:Int):Option ((Int⊕Unit)⊕Int):=
 (if (decide (i<(a0.length:Int)))=true then
 (idx a0 i).bind fun p=>
 (A3m p).bind fun s=>
 (if s=true then
 some (.inl (.inl i))
 else
 some (.inr (w64 (i+1))))
 else
 some (.inl (.inr ())))
def A20 (a0:(List A2)):Option (Int):=
 (loop (R9 a0) 0).bind fun i=>match i with
 | (.inl p)=>
  some p
 | (.inr _)=>
  some (-1)
theorem A9c (a0:(List A2)) (r:Int) (h:A20 a0=some r):AC Tryz.prog 151 [.d (.list 4 (a0.map B0)),.func 144 []] [] (.d (.int .i64 r)) []:=by
 refine AC.of_code2 Tryz.func151 rfl rfl (Nat.le_of_ble_eq_true (by rfl)) fun B hB hN => ?_;delta A20 at h;refine sr (SQ tt) ?_;apply seq;refine sr (SQ tt) ?_;apply block;obtain⟨E,F,h⟩:=bindS h;refine lg (R9 a0) (fun p:Int=>([(0,F8 a0),(1,.func 144 []),(7,i6 (a0.length:Int)),(8,i6 p)]:EL)) (fun p:Int=>([]:OL)) (fun(x:(Int)⊕Unit) e s t=>match x with | (.inl i)=>e = .ret∧Mat B s t ([(4,i6 i)]:EL) ([]:OL) | (.inr _p)=>e = .exit 0∧Mat B s t ([]:EL) ([]:OL)) F (mp [] _ _ hB) (fun p y h => ?_) (fun e s t hR => ?_)
 ·unfold R9 at h;refine sr (SQ tt) ?_;apply seq;apply AWp.cond rfl<;>intro A
  ·have h:=A5 A h;apply AWp.skip;apply A0;apply seq;apply block;refine sr (SQ tt) ?_;obtain⟨G,H,h⟩:=bindS h;obtain⟨I,J,h⟩:=bindS h;refine sr (SQ (fa H (fa (cl [] (B03 G I J)) tt))) ?_;apply AWp.cond rfl<;>intro C
   ·have h:=A5 C h;refine sr (SQ tt) ?_;apply ret;apply D8;apply B8;obtain rfl:=oi h;exact⟨nofun,rfl,mp [] _ _ hB⟩
   ·have h:=A6 C h;apply AWp.skip;apply D7;apply A0;refine rg (SQ tt) ?_;obtain rfl:=oi h;exact⟨rfl,mp [] _ _ hB⟩
  ·have h:=A6 A h;apply AWp.exit;apply D6;obtain rfl:=oi h;exact⟨nofun,rfl,mp [] _ _ hB⟩
 ·rcases E with i | _
  ·obtain⟨rfl,u⟩:=hR;apply D8;apply B8;obtain rfl:=oi h;exact rt (Mat.trans u (mp [] [(4,i6 i)] [] hB)) [i6 i] (rT rN) rfl
  ·obtain⟨rfl,u⟩:=hR;apply B9;apply A0;refine ghost u ?_;refine sr (SQ tt) ?_;apply ret;obtain rfl:=oi h;exact rt (kp [(4,_)] [] hB rfl rfl (by rfl)) [i6 (-1)] (rT rN) rfl
def K2 (a0:(List A2)):Option (Bool):=
 (A20 a0).bind fun i=>
 some (decide (0≤i))
theorem L5 (a0:(List A2)) (r:Bool) (h:K2 a0=some r):AC Tryz.prog 145 [.d (.list 4 (a0.map B0)),.func 144 []] [] (.d (.bool r)) []:=by
 refine AC.of_code2 Tryz.func145 rfl rfl (Nat.le_of_ble_eq_true (by rfl)) fun B hB hN => ?_;delta K2 at h;refine sr (SQ tt) ?_;obtain⟨i,p,h⟩:=bindS h;refine sr (SQ (fa (cl [] (A9c a0 i p)) tt)) ?_;apply ret;obtain rfl:=oi h;exact rt (kp [(4,_)] [] hB rfl rfl (by rfl)) [bo (decide (0≤i))] (rT rN) rfl
def A3n (a0:C2):Option (Bool):=
 (A0k).bind fun i=>
 some ((((((a0.fOrigin==i.fOrigin)&&(a0.fMED==i.fMED))&&(a0.fPref==i.fPref))&&(a0.fOTC==i.fOTC))&&((a0.fNext.fV6==i.fNext.fV6)&&((a0.fNext.fHi==i.fNext.fHi)&&((a0.fNext.fLo==i.fNext.fLo)&&true))))&&((w64 ((w64 ((w64 ((a0.fPath.length:Int)+(a0.fCommunities.length:Int)))+(a0.fLarge.length:Int)))+(a0.fOther.length:Int)))==0))
theorem B1p (a0:C2) (r:Bool) (h:A3n a0=some r):AC Tryz.prog 152 [.d (C8 a0)] [] (.d (.bool r)) []:=by
 refine ac2 Tryz.func152 rfl rfl fun B hB hN L => ?_;delta A3n at h;refine sr (SQ tt) ?_;obtain⟨i,p,h⟩:=bindS h;refine sr (SQ (fa (cl [] (A5w i p)) tt)) ?_;refine sr (SQ tt) ?_;apply ret;obtain rfl:=oi h;exact rt (kp [(2,_)] [] hB rfl rfl (by rfl)) [bo ((((((a0.fOrigin==i.fOrigin)&&(a0.fMED==i.fMED))&&(a0.fPref==i.fPref))&&(a0.fOTC==i.fOTC))&&((a0.fNext.fV6==i.fNext.fV6)&&((a0.fNext.fHi==i.fNext.fHi)&&((a0.fNext.fLo==i.fNext.fLo)&&true))))&&((w64 ((w64 ((w64 ((a0.fPath.length:Int)+(a0.fCommunities.length:Int)))+(a0.fLarge.length:Int)))+(a0.fOther.length:Int)))==0))] (rT rN) rfl
def G8 (a0:Int) (a1:Int) (a2:Int):Option (Bool):=
 some ((decide (a1≤a0))&&(decide (a0≤a2)))
theorem C7 (a0:Int) (a1:Int) (a2:Int) (r:Bool) (h:G8 a0 a1 a2=some r):AC Tryz.prog 159 [.d (.int .i64 a0),.d (.int .i64 a1),.d (.int .i64 a2)] [] (.d (.bool r)) []:=by
 refine AC.of_code2 Tryz.func159 rfl rfl (Nat.le_of_ble_eq_true (by rfl)) fun B hB hN => ?_;delta G8 at h;refine sr (SQ tt) ?_;refine sr (SQ tt) ?_;apply ret;obtain rfl:=oi h;exact rt (kp [(6,_)] [] hB rfl rfl (by rfl)) [bo ((decide (a1≤a0))&&(decide (a0≤a2)))] (rT rN) rfl
def A0w (a0:Int):Option (Bool):=
 some ((decide (1≤a0))&&(decide (a0≤4294967295)))
theorem P4 (a0:Int) (r:Bool) (h:A0w a0=some r):AC Tryz.prog 161 [.d (.int .i64 a0)] [] (.d (.bool r)) []:=by
 refine AC.of_code2 Tryz.func161 rfl rfl (Nat.le_of_ble_eq_true (by rfl)) fun B hB hN => ?_;delta A0w at h;refine sr (SQ tt) ?_;refine sr (SQ tt) ?_;apply ret;obtain rfl:=oi h;exact rt (kp [(2,_)] [] hB rfl rfl (by rfl)) [bo ((decide (1≤a0))&&(decide (a0≤4294967295)))] (rT rN) rfl
def A0m (p:B4) (i:Int):Option ((Unit⊕Unit)⊕Int):=
 (if (decide (i<(p.fASNs.length:Int)))=true then
 (idx p.fASNs i).bind fun t=>
 jn (fun u:Bool=>
 (if u=true then
 some (.inl (.inl ()))
 else
 some (.inr (w64 (i+1))))) (fun s=>
 (A0w t).bind fun A=>
 (if (!A)=true then
 s true
 else
 (if (p.fSet&&(decide (0<i)))=true then
 (idx p.fASNs (w64 (i-1))).bind fun C=>
 s (decide (t≤C))
 else
 s false)))
 else
 some (.inl (.inr ())))
def U5 (a0:(List B4)) (i:Int×Int):Option ((Unit⊕Int)⊕(Int×Int)):=
 (if (decide (i.2<(a0.length:Int)))=true then
 (idx a0 i.2).bind fun p=>
 jn (fun t:Bool=>
 (if t=true then
 some (.inl (.inl ()))
 else
 (loop (A0m p) 0).bind fun u=>match u with
 | (.inl _)=>
  some (.inl (.inl ()))
 | (.inr _)=>
  some (.inr (w64 (i.1+(p.fASNs.length:Int)),w64 (i.2+1))))) (fun s=>
 (if ((p.fASNs.length:Int)==0)=true then
 s true
 else
 (if ((decide (0<i.2))&&(!p.fSet))=true then
 (idx a0 (w64 (i.2-1))).bind fun A=>
 s (!A.fSet)
 else
 s false)))
 else
 some (.inl (.inr i.1)))
def A05 (a0:(List B4)):Option (Bool):=
 (loop (U5 a0) (0,0)).bind fun i=>match i with
 | (.inl _)=>
  some false
 | (.inr p)=>
  some (decide (p≤64))
theorem I0 (a0:(List B4)) (r:Bool) (h:A05 a0=some r):AC Tryz.prog 160 [.d (.list 2 (a0.map D2))] [] (.d (.bool r)) []:=by
 refine ac2 Tryz.func160 rfl rfl fun B hB hN L => ?_;delta A05 at h;refine sr (SQ tt) ?_;refine sr (SQ tt) ?_;apply seq;refine sr (SQ tt) ?_;apply block;obtain⟨U,W,h⟩:=bindS h;refine lg (U5 a0) (fun i:Int×Int=>([(0,D0 a0),(3,i6 i.1),(8,D0 a0),(9,i6 (a0.length:Int)),(10,i6 i.2)]:EL)) (fun i:Int×Int=>([]:OL)) (fun(x:(Unit)⊕Int) e t u=>match x with | (.inl _p)=>e = .ret∧Mat B t u ([(2,bo false)]:EL) ([]:OL) | (.inr I)=>e = .exit 0∧Mat B t u ([(3,i6 I)]:EL) ([]:OL)) W (mp [] _ _ hB) (fun i y h => ?_) (fun e t u hR => ?_)
 ·unfold U5 at h;refine sr (SQ tt) ?_;apply seq;apply AWp.cond rfl<;>intro Q
  ·have h:=A5 Q h;apply AWp.skip;apply A0;apply seq;apply block;obtain⟨p,X,h⟩:=bindS h;refine sr (SQ (fa X tt)) ?_;apply seq;apply seq;refine AWp.cut h (fun J:Bool=>([(0,D0 a0),(3,i6 i.1),(5,pt 1005),(8,D0 a0),(9,i6 (a0.length:Int)),(10,i6 i.2),(36,bo J)]:EL)) (fun J:Bool=>([(1005,bd 75 (D2 p))]:OL)) (fun J h t u s => ?_) (fun ae K h => ?_)
   ·apply A0;refine ghost s ?_;apply AWp.cond rfl<;>intro R
    ·have h:=A5 R h;refine sr (SQ tt) ?_;apply ret;apply B8;apply D8;apply B8;obtain rfl:=oi h;exact⟨nofun,rfl,mp [] _ _ hB⟩
    ·have h:=A6 R h;apply AWp.skip;apply A0;apply seq;refine sr (SQ tt) ?_;apply block;obtain⟨Y,Z,h⟩:=bindS h;refine lg (A0m p) (fun E:Int=>([(0,D0 a0),(3,i6 i.1),(5,pt 1005),(8,D0 a0),(9,i6 (a0.length:Int)),(10,i6 i.2),(38,qI_1 p.fASNs),(39,i6 (p.fASNs.length:Int)),(40,i6 E)]:EL)) (fun E:Int=>([(1005,bd 75 (D2 p))]:OL)) (fun(x:(Unit)⊕Unit) e t u=>match x with | (.inl _p)=>e = .ret∧Mat B t u ([(2,bo false)]:EL) ([]:OL) | (.inr _p)=>e = .exit 2∧Mat B t u ([(0,D0 a0),(3,i6 i.1),(5,pt 1005),(8,D0 a0),(9,i6 (a0.length:Int)),(10,i6 i.2)]:EL) ([(1005,bd 75 (D2 p))]:OL)) Z (mp [] _ _ hB) (fun E y h => ?_) (fun e t u hR => ?_)
     ·unfold A0m at h;refine sr (SQ tt) ?_;apply seq;apply AWp.cond rfl<;>intro S
      ·have h:=A5 S h;apply AWp.skip;apply A0;apply seq;apply block;obtain⟨M,aa,h⟩:=bindS h;refine sr (SQ (fa aa tt)) ?_;apply seq;refine AWp.cut h (fun N:Bool=>([(0,D0 a0),(3,i6 i.1),(5,pt 1005),(8,D0 a0),(9,i6 (a0.length:Int)),(10,i6 i.2),(38,qI_1 p.fASNs),(39,i6 (p.fASNs.length:Int)),(40,i6 E),(65,bo N)]:EL)) (fun N:Bool=>([(1005,bd 75 (D2 p))]:OL)) (fun N h t u s => ?_) (fun af O h => ?_)
       ·apply A0;refine ghost s ?_;apply AWp.cond rfl<;>intro T
        ·have h:=A5 T h;refine sr (SQ tt) ?_;apply ret;apply D8;apply B8;obtain rfl:=oi h;exact⟨nofun,rfl,mp [] _ _ hB⟩
        ·have h:=A6 T h;apply AWp.skip;apply D7;apply A0;refine rg (SQ tt) ?_;obtain rfl:=oi h;exact⟨rfl,mp [] _ _ hB⟩
       ·obtain⟨H,P,h⟩:=bindS h;rcases bft (!H) with A | A
        ·have h:=A5 A h;refine rg (SQ (fa (cl [] (P4 M H P)) (fa A tt))) ?_;exact O _ h _ _ (mp [] _ _ hB)
        ·have h:=A6 A h;rcases bft (p.fSet&&(decide (0<E))) with F | F
         ·have h:=A5 F h;obtain⟨_,ab,h⟩:=bindS h;refine rg (SQ (fa (cl [] (P4 M H P)) (fa A (fa F (fa ab tt))))) ?_;exact O _ h _ _ (mp [] _ _ hB)
         ·have h:=A6 F h;refine rg (SQ (fa (cl [] (P4 M H P)) (fa A (fa F tt)))) ?_;exact O _ h _ _ (mp [] _ _ hB)
      ·have h:=A6 S h;apply AWp.exit;apply D6;obtain rfl:=oi h;exact⟨nofun,rfl,mp [] _ _ hB⟩
     ·rcases Y with _ | _
      ·obtain⟨rfl,s⟩:=hR;apply D8;apply B8;apply D8;apply B8;obtain rfl:=oi h;exact⟨nofun,rfl,Mat.trans s (mp [] _ _ hB)⟩
      ·obtain⟨rfl,s⟩:=hR;apply B9;apply A0;refine ghost s ?_;refine rg (SQ tt) ?_;apply D7;apply A0;refine rg (SQ tt) ?_;obtain rfl:=oi h;exact⟨rfl,mp [] _ _ hB⟩
   ·rcases bft ((p.fASNs.length:Int)==0) with C | C
    ·have h:=A5 C h;refine rg (SQ (fa C tt)) ?_;exact K _ h _ _ (mp [] _ _ hB)
    ·have h:=A6 C h;rcases bft ((decide (0<i.2))&&(!p.fSet)) with G | G
     ·have h:=A5 G h;obtain⟨_,ac,h⟩:=bindS h;refine rg (SQ (fa C (fa G (fa ac tt)))) ?_;exact K _ h _ _ (mp [] _ _ hB)
     ·have h:=A6 G h;refine rg (SQ (fa C (fa G tt))) ?_;exact K _ h _ _ (mp [] _ _ hB)
  ·have h:=A6 Q h;apply AWp.exit;apply D6;obtain rfl:=oi h;exact⟨nofun,rfl,mp [] _ _ hB⟩
 ·rcases U with _ | I
  ·obtain⟨rfl,s⟩:=hR;apply D8;apply B8;obtain rfl:=oi h;exact rt (Mat.trans s (mp [] [(2,bo false)] [] hB)) [bo false] (rT rN) rfl
  ·obtain⟨rfl,s⟩:=hR;apply B9;apply A0;refine ghost s ?_;refine sr (SQ tt) ?_;apply ret;obtain rfl:=oi h;exact rt (kp [(2,_)] [] hB rfl rfl (by rfl)) [bo (decide (I≤64))] (rT rN) rfl
def S9 (a0:(List Int)) (i:Int×Int):Option (Int⊕(Int×Int)):=
 (if (decide (i.2<(a0.length:Int)))=true then
 (idx a0 i.2).bind fun p=>
 some (.inr (minI i.1 p,w64 (i.2+1)))
 else
 some (.inl i.1))
def A2s (a0:(List Int)):Option (Int):=
 (if (decide ((a0.length:Int)<1))=true then
 none
 else
 (idx a0 0).bind fun i=>
 (loop (S9 a0) (i,1)).bind fun p=>
 some p)
theorem A9h (a0:(List Int)) (r:Int) (h:A2s a0=some r):AC Tryz.prog 193 [.d (.list 1 (a0.map (eI .i64)))] [] (.d (.int .i64 r)) []:=by
 refine ac2 Tryz.func193 rfl rfl fun B hB hN L => ?_;delta A2s at h;refine sr (SQ tt) ?_;apply seq;refine sr (SQ tt) ?_;apply AWp.cond rfl<;>intro s
 ·have h:=A5 s h;cases h
 ·have h:=A6 s h;apply AWp.skip;apply A0;obtain⟨_,C,h⟩:=bindS h;refine sr (SQ (fa C tt)) ?_;apply seq;refine sr (SQ tt) ?_;apply block;obtain⟨p,E,h⟩:=bindS h;refine lg (S9 a0) (fun i:Int×Int=>([(0,qI_1 a0),(3,i6 i.1),(4,i6 i.2)]:EL)) (fun i:Int×Int=>([]:OL)) (fun(p:(Int)) e t u=>e = .exit 0∧Mat B t u ([(3,i6 p)]:EL) ([]:OL)) E (mp [] _ _ hB) (fun i y h => ?_) (fun e t u hR => ?_)
  ·unfold S9 at h;apply seq;refine sr (SQ tt) ?_;apply AWp.cond rfl<;>intro A
   ·have h:=A5 A h;apply AWp.skip;apply A0;apply seq;apply block;obtain⟨_,F,h⟩:=bindS h;refine rg (SQ (fa F tt)) ?_;apply D7;apply A0;refine rg (SQ tt) ?_;obtain rfl:=oi h;exact⟨rfl,mp [] _ _ hB⟩
   ·have h:=A6 A h;apply AWp.exit;apply D6;obtain rfl:=oi h;exact⟨nofun,rfl,mp [] _ _ hB⟩
  ·obtain⟨rfl,G⟩:=hR;apply B9;apply A0;refine ghost G ?_;refine sr (SQ tt) ?_;apply ret;obtain rfl:=oi h;exact rt (kp [(2,_)] [] hB rfl rfl (by rfl)) [i6 p] (rT rN) rfl
def T0 (a0:(List Int)) (i:Int×Int):Option (Int⊕(Int×Int)):=
 (if (decide (i.2<(a0.length:Int)))=true then
 (idx a0 i.2).bind fun p=>
 some (.inr (maxI i.1 p,w64 (i.2+1)))
 else
 some (.inl i.1))
def A2t (a0:(List Int)):Option (Int):=
 (if (decide ((a0.length:Int)<1))=true then
 none
 else
 (idx a0 0).bind fun i=>
 (loop (T0 a0) (i,1)).bind fun p=>
 some p)
theorem B40 (a0:(List Int)) (r:Int) (h:A2t a0=some r):AC Tryz.prog 194 [.d (.list 1 (a0.map (eI .i64)))] [] (.d (.int .i64 r)) []:=by
 refine ac2 Tryz.func194 rfl rfl fun B hB hN L => ?_;delta A2t at h;refine sr (SQ tt) ?_;apply seq;refine sr (SQ tt) ?_;apply AWp.cond rfl<;>intro s
 ·have h:=A5 s h;cases h
 ·have h:=A6 s h;apply AWp.skip;apply A0;obtain⟨_,C,h⟩:=bindS h;refine sr (SQ (fa C tt)) ?_;apply seq;refine sr (SQ tt) ?_;apply block;obtain⟨p,E,h⟩:=bindS h;refine lg (T0 a0) (fun i:Int×Int=>([(0,qI_1 a0),(3,i6 i.1),(4,i6 i.2)]:EL)) (fun i:Int×Int=>([]:OL)) (fun(p:(Int)) e t u=>e = .exit 0∧Mat B t u ([(3,i6 p)]:EL) ([]:OL)) E (mp [] _ _ hB) (fun i y h => ?_) (fun e t u hR => ?_)
  ·unfold T0 at h;apply seq;refine sr (SQ tt) ?_;apply AWp.cond rfl<;>intro A
   ·have h:=A5 A h;apply AWp.skip;apply A0;apply seq;apply block;obtain⟨_,F,h⟩:=bindS h;refine rg (SQ (fa F tt)) ?_;apply D7;apply A0;refine rg (SQ tt) ?_;obtain rfl:=oi h;exact⟨rfl,mp [] _ _ hB⟩
   ·have h:=A6 A h;apply AWp.exit;apply D6;obtain rfl:=oi h;exact⟨nofun,rfl,mp [] _ _ hB⟩
  ·obtain⟨rfl,G⟩:=hR;apply B9;apply A0;refine ghost G ?_;refine sr (SQ tt) ?_;apply ret;obtain rfl:=oi h;exact rt (kp [(2,_)] [] hB rfl rfl (by rfl)) [i6 p] (rT rN) rfl
def T3 (a0:Int) (a1:(List Int)):Option (Bool):=
 jn (fun p:Bool=>
 some p) (fun i=>
 (A2s a1).bind fun s=>
 (if (decide (0≤s))=true then
 (A2t a1).bind fun t=>
 i (decide (t≤a0))
 else
 i false))
theorem A5e (a0:Int) (a1:(List Int)) (r:Bool) (h:T3 a0 a1=some r):AC Tryz.prog 184 [.d (.int .i64 a0),.d (.list 1 (a1.map (eI .i64)))] [] (.d (.bool r)) []:=by
 refine ac2 Tryz.func184 rfl rfl fun B hB hN L => ?_;delta T3 at h;refine sr (SQ tt) ?_;apply seq;refine AWp.cut h (fun p:Bool=>([(4,bo p)]:EL)) (fun p:Bool=>([]:OL)) (fun p h F G A => ?_) (fun H t h => ?_)
 ·apply A0;refine ghost A ?_;apply ret;obtain rfl:=oi h;exact rt (kp [(4,_)] [] hB rfl rfl (by rfl)) [bo p] (rT rN) rfl
 ·obtain⟨s,u,h⟩:=bindS h;rcases bft (decide (0≤s)) with i | i
  ·have h:=A5 i h;obtain⟨C,E,h⟩:=bindS h;refine rg (SQ (fa (cl [] (A9h a1 s u)) (fa i (fa (cl [] (B40 a1 C E)) tt)))) ?_;exact t _ h _ _ (mp [] _ _ hB)
  ·have h:=A6 i h;refine rg (SQ (fa (cl [] (A9h a1 s u)) (fa i tt))) ?_;exact t _ h _ _ (mp [] _ _ hB)
def A1b (a0:B5):Option (Bool):=
 (T3 65535 ([a0.fA,a0.fB]:List Int)).bind fun i=>
 some i
theorem A3o (a0:B5) (r:Bool) (h:A1b a0=some r):AC Tryz.prog 170 [.d (C5 a0)] [] (.d (.bool r)) []:=by
 refine AC.of_code2 Tryz.func170 rfl rfl (Nat.le_of_ble_eq_true (by rfl)) fun B hB hN => ?_;delta A1b at h;refine sr (SQ tt) ?_;obtain⟨i,p,h⟩:=bindS h;refine sr (SQ (fa (cl [] (A5e 65535 ([a0.fA,a0.fB]:List Int) i p)) tt)) ?_;apply ret;obtain rfl:=oi h;exact rt (kp [(2,_)] [] hB rfl rfl (by rfl)) [bo i] (rT rN) rfl
def A77 (a0:Int):Option (Bool):=
 some (a0 != a0)
theorem B04 (a0:Int) (r:Bool) (h:A77 a0=some r):AC Tryz.prog 111 [.d (.int .i64 a0)] [] (.d (.bool r)) []:=by
 refine AC.of_code2 Tryz.func111 rfl rfl (Nat.le_of_ble_eq_true (by rfl)) fun B hB hN => ?_;delta A77 at h;refine sr (SQ tt) ?_;refine sr (SQ tt) ?_;apply ret;obtain rfl:=oi h;exact rt (kp [(2,_)] [] hB rfl rfl (by rfl)) [bo (a0 != a0)] (rT rN) rfl
def K4 (a0:Int) (a1:Int):Option (Int):=
 (A77 a0).bind fun p=>
 (A77 a1).bind fun i=>
 (if p=true then
 (if i=true then
 some 0
 else
 some (-1))
 else
 (if i=true then
 some 1
 else
 (if (decide (a0<a1))=true then
 some (-1)
 else
 (if (decide (a1<a0))=true then
 some 1
 else
 some 0))))
theorem L6 (a0:Int) (a1:Int) (r:Int) (h:K4 a0 a1=some r):AC Tryz.prog 74 [.d (.int .i64 a0),.d (.int .i64 a1)] [] (.d (.int .i64 r)) []:=by
 refine ac2 Tryz.func74 rfl rfl fun B hB hN L => ?_;delta K4 at h;refine sr (SQ tt) ?_;obtain⟨A,C,h⟩:=bindS h;refine sr (SQ (fa (cl [] (B04 a0 A C)) tt)) ?_;obtain⟨E,F,h⟩:=bindS h;refine sr (SQ (fa (cl [] (B04 a1 E F)) tt)) ?_;apply seq;refine sr (SQ tt) ?_;apply AWp.cond rfl<;>intro i
 ·have h:=A5 i h;apply seq;refine sr (SQ tt) ?_;apply AWp.cond rfl<;>intro p
  ·have h:=A5 p h;refine sr (SQ tt) ?_;apply ret;apply B8;apply B8;obtain rfl:=oi h;exact rt (kp [(4,_)] [] hB rfl rfl (by rfl)) [i6 0] (rT rN) rfl
  ·have h:=A6 p h;apply AWp.skip;apply A0;refine sr (SQ tt) ?_;apply ret;apply B8;obtain rfl:=oi h;exact rt (kp [(4,_)] [] hB rfl rfl (by rfl)) [i6 (-1)] (rT rN) rfl
 ·have h:=A6 i h;apply AWp.skip;apply A0;apply seq;refine sr (SQ tt) ?_;apply AWp.cond rfl<;>intro s
  ·have h:=A5 s h;refine sr (SQ tt) ?_;apply ret;apply B8;obtain rfl:=oi h;exact rt (kp [(4,_)] [] hB rfl rfl (by rfl)) [i6 1] (rT rN) rfl
  ·have h:=A6 s h;apply AWp.skip;apply A0;apply seq;refine sr (SQ tt) ?_;apply AWp.cond rfl<;>intro t
   ·have h:=A5 t h;refine sr (SQ tt) ?_;apply ret;apply B8;obtain rfl:=oi h;exact rt (kp [(4,_)] [] hB rfl rfl (by rfl)) [i6 (-1)] (rT rN) rfl
   ·have h:=A6 t h;apply AWp.skip;apply A0;apply seq;refine sr (SQ tt) ?_;apply AWp.cond rfl<;>intro u
    ·have h:=A5 u h;refine sr (SQ tt) ?_;apply ret;apply B8;obtain rfl:=oi h;exact rt (kp [(4,_)] [] hB rfl rfl (by rfl)) [i6 1] (rT rN) rfl
    ·have h:=A6 u h;apply AWp.skip;apply A0;refine sr (SQ tt) ?_;apply ret;obtain rfl:=oi h;exact rt (kp [(4,_)] [] hB rfl rfl (by rfl)) [i6 0] (rT rN) rfl
def A78 (a0:(List Int)) (i:Int):Option ((Int⊕Unit)⊕Int):=
 (if (decide (i<(a0.length:Int)))=true then
 (idx a0 i).bind fun p=>
 (if (p != 0)=true then
 some (.inl (.inl p))
 else
 some (.inr (w64 (i+1))))
 else
 some (.inl (.inr ())))
def A8i (a0:(List Int)):Option (Int):=
 (loop (A78 a0) 0).bind fun i=>match i with
 | (.inl p)=>
  some p
 | (.inr _)=>
  some 0
theorem A98 (a0:(List Int)) (r:Int) (h:A8i a0=some r):AC Tryz.prog 72 [.d (.list 1 (a0.map (eI .i64)))] [] (.d (.int .i64 r)) []:=by
 refine AC.of_code2 Tryz.func72 rfl rfl (Nat.le_of_ble_eq_true (by rfl)) fun B hB hN => ?_;delta A8i at h;refine sr (SQ tt) ?_;refine sr (SQ tt) ?_;apply seq;refine sr (SQ tt) ?_;apply block;obtain⟨E,F,h⟩:=bindS h;refine lg (A78 a0) (fun p:Int=>([(3,i6 0),(6,qI_1 a0),(7,i6 (a0.length:Int)),(8,i6 p)]:EL)) (fun p:Int=>([]:OL)) (fun(x:(Int)⊕Unit) e s t=>match x with | (.inl i)=>e = .ret∧Mat B s t ([(2,i6 i)]:EL) ([]:OL) | (.inr _p)=>e = .exit 0∧Mat B s t ([(3,i6 0)]:EL) ([]:OL)) F (mp [] _ _ hB) (fun p y h => ?_) (fun e s t hR => ?_)
 ·unfold A78 at h;refine sr (SQ tt) ?_;apply seq;apply AWp.cond rfl<;>intro A
  ·have h:=A5 A h;apply AWp.skip;apply A0;apply seq;apply block;obtain⟨_,G,h⟩:=bindS h;refine sr (SQ (fa G tt)) ?_;refine sr (SQ tt) ?_;apply AWp.cond rfl<;>intro C
   ·have h:=A5 C h;refine sr (SQ tt) ?_;apply ret;apply D8;apply B8;obtain rfl:=oi h;exact⟨nofun,rfl,mp [] _ _ hB⟩
   ·have h:=A6 C h;apply AWp.skip;apply D7;apply A0;refine rg (SQ tt) ?_;obtain rfl:=oi h;exact⟨rfl,mp [] _ _ hB⟩
  ·have h:=A6 A h;apply AWp.exit;apply D6;obtain rfl:=oi h;exact⟨nofun,rfl,mp [] _ _ hB⟩
 ·rcases E with i | _
  ·obtain⟨rfl,u⟩:=hR;apply D8;apply B8;obtain rfl:=oi h;exact rt (Mat.trans u (mp [] [(2,i6 i)] [] hB)) [i6 i] (rT rN) rfl
  ·obtain⟨rfl,u⟩:=hR;apply B9;apply A0;refine ghost u ?_;refine sr (SQ tt) ?_;apply ret;obtain rfl:=oi h;exact rt (kp [(2,_)] [] hB rfl rfl (by rfl)) [i6 0] (rT rN) rfl
def V7 (a0:B5) (a1:B5):Option (Int):=
 (K4 a0.fA a1.fA).bind fun i=>
 (K4 a0.fB a1.fB).bind fun p=>
 (A8i ([i,p]:List Int)).bind fun s=>
 some s
theorem A8j (a0:B5) (a1:B5) (r:Int) (h:V7 a0 a1=some r):AC Tryz.prog 171 [.d (C5 a0),.d (C5 a1)] [] (.d (.int .i64 r)) []:=by
 refine AC.of_code2 Tryz.func171 rfl rfl (Nat.le_of_ble_eq_true (by rfl)) fun B hB hN => ?_;delta V7 at h;refine sr (SQ tt) ?_;obtain⟨i,t,h⟩:=bindS h;obtain⟨p,u,h⟩:=bindS h;obtain⟨s,A,h⟩:=bindS h;refine sdS (SQ (fa (cl [] (L6 a0.fA a1.fA i t)) (fa (cl [] (L6 a0.fB a1.fB p u)) (fa (cl [] (A98 ([i,p]:List Int) s A)) tt)))) ?_;apply ret;obtain rfl:=oi h;exact rt (kp [(4,_)] [] hB rfl rfl (by rfl)) [i6 s] (rT rN) rfl
def K8 (a0:(List B5)) (i:Int):Option ((Unit⊕Unit)⊕Int):=
 (if (decide (i<(a0.length:Int)))=true then
 (idx a0 i).bind fun s=>
 jn (fun t:Bool=>
 (if t=true then
 some (.inl (.inl ()))
 else
 some (.inr (w64 (i+1))))) (fun p=>
 (A1b s).bind fun u=>
 (if (!u)=true then
 p true
 else
 (if (decide (0<i))=true then
 (idx a0 (w64 (i-1))).bind fun A=>
 (V7 A s).bind fun C=>
 p (decide (0≤C))
 else
 p false)))
 else
 some (.inl (.inr ())))
def V8 (a0:(List B5)):Option (Bool):=
 (loop (K8 a0) 0).bind fun i=>match i with
 | (.inl _)=>
  some false
 | (.inr _)=>
  some (decide ((a0.length:Int)≤64))
theorem A8k (a0:(List B5)) (r:Bool) (h:V8 a0=some r):AC Tryz.prog 169 [.d (.list 2 (a0.map C5)),.func 170 [],.func 171 []] [] (.d (.bool r)) []:=by
 refine ac2 Tryz.func169 rfl rfl fun B hB hN L => ?_;delta V8 at h;refine sr (SQ tt) ?_;apply seq;refine sr (SQ tt) ?_;apply block;obtain⟨K,M,h⟩:=bindS h;refine lg (K8 a0) (fun p:Int=>([(0,C9 a0),(1,.func 170 []),(2,.func 171 []),(9,C9 a0),(10,i6 (a0.length:Int)),(11,i6 p)]:EL)) (fun p:Int=>([]:OL)) (fun(x:(Unit)⊕Unit) e u A=>match x with | (.inl _p)=>e = .ret∧Mat B u A ([(6,bo false)]:EL) ([]:OL) | (.inr _p)=>e = .exit 0∧Mat B u A ([(0,C9 a0)]:EL) ([]:OL)) M (mp [] _ _ hB) (fun p y h => ?_) (fun e u A hR => ?_)
 ·unfold K8 at h;refine sr (SQ tt) ?_;apply seq;apply AWp.cond rfl<;>intro I
  ·have h:=A5 I h;apply AWp.skip;apply A0;apply seq;apply block;obtain⟨C,N,h⟩:=bindS h;refine sr (SQ (fa N tt)) ?_;apply seq;refine AWp.cut h (fun F:Bool=>([(0,C9 a0),(1,.func 170 []),(2,.func 171 []),(9,C9 a0),(10,i6 (a0.length:Int)),(11,i6 p),(34,bo F)]:EL)) (fun F:Bool=>([]:OL)) (fun F h u A s => ?_) (fun S G h => ?_)
   ·apply A0;refine ghost s ?_;apply AWp.cond rfl<;>intro J
    ·have h:=A5 J h;refine sr (SQ tt) ?_;apply ret;apply D8;apply B8;obtain rfl:=oi h;exact⟨nofun,rfl,mp [] _ _ hB⟩
    ·have h:=A6 J h;apply AWp.skip;apply D7;apply A0;refine rg (SQ tt) ?_;obtain rfl:=oi h;exact⟨rfl,mp [] _ _ hB⟩
   ·obtain⟨E,H,h⟩:=bindS h;rcases bft (!E) with i | i
    ·have h:=A5 i h;refine drS (SQ (fa (cl [] (A3o C E H)) (fa i tt))) ?_;exact G _ h _ _ (mp [] _ _ hB)
    ·have h:=A6 i h;rcases bft (decide (0<p)) with t | t
     ·have h:=A5 t h;obtain⟨O,P,h⟩:=bindS h;obtain⟨Q,R,h⟩:=bindS h;refine drS (SQ (fa (cl [] (A3o C E H)) (fa i (fa t (fa P (fa (cl [] (A8j O C Q R)) tt)))))) ?_;exact G _ h _ _ (mp [] _ _ hB)
     ·have h:=A6 t h;refine drS (SQ (fa (cl [] (A3o C E H)) (fa i (fa t tt)))) ?_;exact G _ h _ _ (mp [] _ _ hB)
  ·have h:=A6 I h;apply AWp.exit;apply D6;obtain rfl:=oi h;exact⟨nofun,rfl,mp [] _ _ hB⟩
 ·rcases K with _ | _
  ·obtain⟨rfl,s⟩:=hR;apply D8;apply B8;obtain rfl:=oi h;exact rt (Mat.trans s (mp [] [(6,bo false)] [] hB)) [bo false] (rT rN) rfl
  ·obtain⟨rfl,s⟩:=hR;apply B9;apply A0;refine ghost s ?_;refine sr (SQ tt) ?_;apply ret;obtain rfl:=oi h;exact rt (kp [(6,_)] [] hB rfl rfl (by rfl)) [bo (decide ((a0.length:Int)≤64))] (rT rN) rfl
def N7 (a0:(List B5)):Option (Bool):=
 (V8 a0).bind fun i=>
 some i
theorem P5 (a0:(List B5)) (r:Bool) (h:N7 a0=some r):AC Tryz.prog 162 [.d (.list 2 (a0.map C5))] [] (.d (.bool r)) []:=by
 refine AC.of_code2 Tryz.func162 rfl rfl (Nat.le_of_ble_eq_true (by rfl)) fun B hB hN => ?_;delta N7 at h;refine sr (SQ tt) ?_;obtain⟨i,p,h⟩:=bindS h;refine sr (SQ (fa (cl [] (A8k a0 i p)) tt)) ?_;apply ret;obtain rfl:=oi h;exact rt (kp [(2,_)] [] hB rfl rfl (by rfl)) [bo i] (rT rN) rfl
def S0 (a0:E7):Option (Bool):=
 (T3 4294967295 ([a0.fA,a0.fB,a0.fC]:List Int)).bind fun i=>
 some i
theorem A06 (a0:E7) (r:Bool) (h:S0 a0=some r):AC Tryz.prog 173 [.d (E9 a0)] [] (.d (.bool r)) []:=by
 refine AC.of_code2 Tryz.func173 rfl rfl (Nat.le_of_ble_eq_true (by rfl)) fun B hB hN => ?_;delta S0 at h;refine sr (SQ tt) ?_;obtain⟨i,p,h⟩:=bindS h;refine sr (SQ (fa (cl [] (A5e 4294967295 ([a0.fA,a0.fB,a0.fC]:List Int) i p)) tt)) ?_;apply ret;obtain rfl:=oi h;exact rt (kp [(2,_)] [] hB rfl rfl (by rfl)) [bo i] (rT rN) rfl
def L7 (a0:E7) (a1:E7):Option (Int):=
 (K4 a0.fA a1.fA).bind fun i=>
 (K4 a0.fB a1.fB).bind fun p=>
 (K4 a0.fC a1.fC).bind fun s=>
 (A8i ([i,p,s]:List Int)).bind fun t=>
 some t
theorem A67 (a0:E7) (a1:E7) (r:Int) (h:L7 a0 a1=some r):AC Tryz.prog 174 [.d (E9 a0),.d (E9 a1)] [] (.d (.int .i64 r)) []:=by
 refine AC.of_code2 Tryz.func174 rfl rfl (Nat.le_of_ble_eq_true (by rfl)) fun B hB hN => ?_;delta L7 at h;refine sr (SQ tt) ?_;obtain⟨i,u,h⟩:=bindS h;obtain⟨p,A,h⟩:=bindS h;obtain⟨s,C,h⟩:=bindS h;obtain⟨t,E,h⟩:=bindS h;refine sdS (SQ (fa (cl [] (L6 a0.fA a1.fA i u)) (fa (cl [] (L6 a0.fB a1.fB p A)) (fa (cl [] (L6 a0.fC a1.fC s C)) (fa (cl [] (A98 ([i,p,s]:List Int) t E)) tt))))) ?_;apply ret;obtain rfl:=oi h;exact rt (kp [(4,_)] [] hB rfl rfl (by rfl)) [i6 t] (rT rN) rfl
def J7 (a0:(List E7)) (i:Int):Option ((Unit⊕Unit)⊕Int):=
 (if (decide (i<(a0.length:Int)))=true then
 (idx a0 i).bind fun s=>
 jn (fun t:Bool=>
 (if t=true then
 some (.inl (.inl ()))
 else
 some (.inr (w64 (i+1))))) (fun p=>
 (S0 s).bind fun u=>
 (if (!u)=true then
 p true
 else
 (if (decide (0<i))=true then
 (idx a0 (w64 (i-1))).bind fun A=>
 (L7 A s).bind fun C=>
 p (decide (0≤C))
 else
 p false)))
 else
 some (.inl (.inr ())))
def S1 (a0:(List E7)):Option (Bool):=
 (loop (J7 a0) 0).bind fun i=>match i with
 | (.inl _)=>
  some false
 | (.inr _)=>
  some (decide ((a0.length:Int)≤64))
theorem A7k (a0:(List E7)) (r:Bool) (h:S1 a0=some r):AC Tryz.prog 172 [.d (.list 3 (a0.map E9)),.func 173 [],.func 174 []] [] (.d (.bool r)) []:=by
 refine ac2 Tryz.func172 rfl rfl fun B hB hN L => ?_;delta S1 at h;refine sr (SQ tt) ?_;apply seq;refine sr (SQ tt) ?_;apply block;obtain⟨K,M,h⟩:=bindS h;refine lg (J7 a0) (fun p:Int=>([(0,E8 a0),(1,.func 173 []),(2,.func 174 []),(9,E8 a0),(10,i6 (a0.length:Int)),(11,i6 p)]:EL)) (fun p:Int=>([]:OL)) (fun(x:(Unit)⊕Unit) e u A=>match x with | (.inl _p)=>e = .ret∧Mat B u A ([(6,bo false)]:EL) ([]:OL) | (.inr _p)=>e = .exit 0∧Mat B u A ([(0,E8 a0)]:EL) ([]:OL)) M (mp [] _ _ hB) (fun p y h => ?_) (fun e u A hR => ?_)
 ·unfold J7 at h;refine sr (SQ tt) ?_;apply seq;apply AWp.cond rfl<;>intro I
  ·have h:=A5 I h;apply AWp.skip;apply A0;apply seq;apply block;obtain⟨C,N,h⟩:=bindS h;refine sr (SQ (fa N tt)) ?_;apply seq;refine AWp.cut h (fun F:Bool=>([(0,E8 a0),(1,.func 173 []),(2,.func 174 []),(9,E8 a0),(10,i6 (a0.length:Int)),(11,i6 p),(34,bo F)]:EL)) (fun F:Bool=>([]:OL)) (fun F h u A s => ?_) (fun S G h => ?_)
   ·apply A0;refine ghost s ?_;apply AWp.cond rfl<;>intro J
    ·have h:=A5 J h;refine sr (SQ tt) ?_;apply ret;apply D8;apply B8;obtain rfl:=oi h;exact⟨nofun,rfl,mp [] _ _ hB⟩
    ·have h:=A6 J h;apply AWp.skip;apply D7;apply A0;refine rg (SQ tt) ?_;obtain rfl:=oi h;exact⟨rfl,mp [] _ _ hB⟩
   ·obtain⟨E,H,h⟩:=bindS h;rcases bft (!E) with i | i
    ·have h:=A5 i h;refine drS (SQ (fa (cl [] (A06 C E H)) (fa i tt))) ?_;exact G _ h _ _ (mp [] _ _ hB)
    ·have h:=A6 i h;rcases bft (decide (0<p)) with t | t
     ·have h:=A5 t h;obtain⟨O,P,h⟩:=bindS h;obtain⟨Q,R,h⟩:=bindS h;refine drS (SQ (fa (cl [] (A06 C E H)) (fa i (fa t (fa P (fa (cl [] (A67 O C Q R)) tt)))))) ?_;exact G _ h _ _ (mp [] _ _ hB)
     ·have h:=A6 t h;refine drS (SQ (fa (cl [] (A06 C E H)) (fa i (fa t tt)))) ?_;exact G _ h _ _ (mp [] _ _ hB)
  ·have h:=A6 I h;apply AWp.exit;apply D6;obtain rfl:=oi h;exact⟨nofun,rfl,mp [] _ _ hB⟩
 ·rcases K with _ | _
  ·obtain⟨rfl,s⟩:=hR;apply D8;apply B8;obtain rfl:=oi h;exact rt (Mat.trans s (mp [] [(6,bo false)] [] hB)) [bo false] (rT rN) rfl
  ·obtain⟨rfl,s⟩:=hR;apply B9;apply A0;refine ghost s ?_;refine sr (SQ tt) ?_;apply ret;obtain rfl:=oi h;exact rt (kp [(6,_)] [] hB rfl rfl (by rfl)) [bo (decide ((a0.length:Int)≤64))] (rT rN) rfl
def H5 (a0:(List E7)):Option (Bool):=
 (S1 a0).bind fun i=>
 some i
theorem Q9 (a0:(List E7)) (r:Bool) (h:H5 a0=some r):AC Tryz.prog 163 [.d (.list 3 (a0.map E9))] [] (.d (.bool r)) []:=by
 refine AC.of_code2 Tryz.func163 rfl rfl (Nat.le_of_ble_eq_true (by rfl)) fun B hB hN => ?_;delta H5 at h;refine sr (SQ tt) ?_;obtain⟨i,p,h⟩:=bindS h;refine sr (SQ (fa (cl [] (A7k a0 i p)) tt)) ?_;apply ret;obtain rfl:=oi h;exact rt (kp [(2,_)] [] hB rfl rfl (by rfl)) [bo i] (rT rN) rfl
def V9 (a0:Int):Option (Bool):=
 some ((((ilk gv0 a0)==0)&&(a0 != 14))&&(a0 != 15))
theorem W4 (a0:Int) (r:Bool) (h:V9 a0=some r):AC Tryz.prog 175 [.d (.int .i64 a0)] Zz10 (.d (.bool r)) Zz3:=by
 refine AC.of_code2 Tryz.func175 rfl rfl (Nat.le_of_ble_eq_true (by rfl)) fun B hB hN => ?_;delta V9 at h;refine sr (SQ tt) ?_;apply sr (cg (OpJ.loadGD (nm:=500) (.imap gv0) tyS210 (by rfl) (by rfl) (by simp) (ltN hN rfl)) rfl (c (mv hN (q 0)) rfl (cg (OpJ.ilook tyU210 underlying3 keyEq3 tyZD3 (ltN hN rfl) (q 3) (q 4)) rfl (c (eqlI (ltN hN rfl) (q 5) (ii 0)) rfl (c (mv hN (q 6)) rfl (c (oq hN 7 (mv hN (q 0)) (OptL.keep (by rfl) OptL.nil) (GuardV.plain _)) rfl (c (oq hN 7 (neqI (ltN hN rfl) (q 8) (ii 14)) (OptL.opt OptL.nil) (GuardV.plain _)) rfl (c (pickAnd rfl (ltN hN rfl) (q 7) (q 9)) rfl (c (mv hN (q 10)) rfl (c (oq hN 11 (mv hN (q 0)) (OptL.keep (by rfl) OptL.nil) (GuardV.plain _)) rfl (c (oq hN 11 (neqI (ltN hN rfl) (q 12) (ii 15)) (OptL.opt OptL.nil) (GuardV.plain _)) rfl (c (pickAnd rfl (ltN hN rfl) (q 11) (q 13)) rfl (c (assign (ltN hN rfl) (q 14)) rfl cn)))))))))))));apply ret;obtain rfl:=oi h;exact rt (kp [(2,_)] [(500,some _)] hB rfl rfl (by rfl)) [bo ((((ilk gv0 a0)==0)&&(a0 != 14))&&(a0 != 15))] (rT rN) rfl
def N1 (a0:(List A3)) (i:Int):Option ((Unit⊕Unit)⊕Int):=
 (if (decide (i<(a0.length:Int)))=true then
 (idx a0 i).bind fun p=>
 jn (fun t:Bool=>
 (if t=true then
 some (.inl (.inl ()))
 else
 some (.inr (w64 (i+1))))) (fun s=>
 (V9 p.fType).bind fun u=>
 (if (!u)=true then
 s true
 else
 (G8 p.fType 1 255).bind fun A=>
 (if (((!A) || (p.fFlags != 224)) || (decide (255<(p.fData.length:Int))))=true then
 s true
 else
 (if (decide (0<i))=true then
 (idx a0 (w64 (i-1))).bind fun C=>
 s (decide (p.fType≤C.fType))
 else
 s false))))
 else
 some (.inl (.inr ())))
def P6 (a0:(List A3)):Option (Bool):=
 (loop (N1 a0) 0).bind fun i=>match i with
 | (.inl _)=>
  some false
 | (.inr _)=>
  some (decide ((a0.length:Int)≤8))
theorem A5f (a0:(List A3)) (r:Bool) (h:P6 a0=some r):AC Tryz.prog 164 [.d (.list 3 (a0.map B6))] Zz10 (.d (.bool r)) Zz3:=by
 refine ac2 Tryz.func164 rfl rfl fun B hB hN L => ?_;delta P6 at h;refine sr (SQ tt) ?_;apply seq;refine sr (SQ tt) ?_;apply block;obtain⟨O,P,h⟩:=bindS h;refine lg (N1 a0) (fun t:Int=>([(0,C6 a0),(5,C6 a0),(6,i6 (a0.length:Int)),(7,i6 t)]:EL)) (fun t:Int=>(Zz3:OL)) (fun(x:(Unit)⊕Unit) e E F=>match x with | (.inl _p)=>e = .ret∧Mat B E F ([(2,bo false)]:EL) (Zz3:OL) | (.inr _p)=>e = .exit 0∧Mat B E F ([(0,C6 a0)]:EL) (Zz3:OL)) P (mp [] _ _ hB) (fun t y h => ?_) (fun e E F hR => ?_)
 ·unfold N1 at h;refine sr (SQ tt) ?_;apply seq;apply AWp.cond rfl<;>intro M
  ·have h:=A5 M h;apply AWp.skip;apply A0;apply seq;apply block;obtain⟨i,Q,h⟩:=bindS h;refine sr (SQ (fa Q tt)) ?_;apply seq;refine AWp.cut h (fun J:Bool=>([(0,C6 a0),(5,C6 a0),(6,i6 (a0.length:Int)),(7,i6 t),(47,bo J)]:EL)) (fun J:Bool=>(Zz3:OL)) (fun J h E F u => ?_) (fun S G h => ?_)
   ·apply A0;refine ghost u ?_;apply AWp.cond rfl<;>intro N
    ·have h:=A5 N h;refine sr (SQ tt) ?_;apply ret;apply D8;apply B8;obtain rfl:=oi h;exact⟨nofun,rfl,mp [] _ _ hB⟩
    ·have h:=A6 N h;apply AWp.skip;apply D7;apply A0;refine rg (SQ tt) ?_;obtain rfl:=oi h;exact⟨rfl,mp [] _ _ hB⟩
   ·obtain⟨A,H,h⟩:=bindS h;rcases bft (!A) with p | p
    ·have h:=A5 p h;refine drS (SQ (fa (cl [(500,500)] (W4 i.fType A H)) (fa p tt))) ?_;exact G _ h _ _ (mp [] _ _ hB)
    ·have h:=A6 p h;obtain⟨I,K,h⟩:=bindS h;rcases bft (((!I) || (i.fFlags != 224)) || (decide (255<(i.fData.length:Int)))) with s | s
     ·have h:=A5 s h;refine drS (SQ (fa (cl [(500,500)] (W4 i.fType A H)) (fa p (fa (cl [] (C7 i.fType 1 255 I K)) (fa s tt))))) ?_;exact G _ h _ _ (mp [] _ _ hB)
     ·have h:=A6 s h;rcases bft (decide (0<t)) with C | C
      ·have h:=A5 C h;obtain⟨_,R,h⟩:=bindS h;refine drS (SQ (fa (cl [(500,500)] (W4 i.fType A H)) (fa p (fa (cl [] (C7 i.fType 1 255 I K)) (fa s (fa C (fa R tt))))))) ?_;exact G _ h _ _ (mp [] _ _ hB)
      ·have h:=A6 C h;refine drS (SQ (fa (cl [(500,500)] (W4 i.fType A H)) (fa p (fa (cl [] (C7 i.fType 1 255 I K)) (fa s (fa C tt)))))) ?_;exact G _ h _ _ (mp [] _ _ hB)
  ·have h:=A6 M h;apply AWp.exit;apply D6;obtain rfl:=oi h;exact⟨nofun,rfl,mp [] _ _ hB⟩
 ·rcases O with _ | _
  ·obtain⟨rfl,u⟩:=hR;apply D8;apply B8;obtain rfl:=oi h;exact rt (Mat.trans u (mp [] [(2,bo false)] Zz3 hB)) [bo false] (rT rN) rfl
  ·obtain⟨rfl,u⟩:=hR;apply B9;apply A0;refine ghost u ?_;refine sr (SQ tt) ?_;apply ret;obtain rfl:=oi h;exact rt (kp [(2,_)] [(500,some _)] hB rfl rfl (by rfl)) [bo (decide ((a0.length:Int)≤8))] (rT rN) rfl
def J4 (a0:C2):Option (Bool):=
 jn (fun p:Bool=>
 some p) (fun i=>
 (G8 a0.fOrigin (-1) 2).bind fun s=>
 (if s=true then
 (A05 a0.fPath).bind fun t=>
 (if t=true then
 (X7 a0.fNext).bind fun u=>
 (if u=true then
 (G8 a0.fMED (-1) 4294967295).bind fun A=>
 (if A=true then
 (G8 a0.fPref (-1) 4294967295).bind fun C=>
 (if C=true then
 (if (a0.fOTC==(-1))=true then
 (N7 a0.fCommunities).bind fun E=>
 (if E=true then
 (H5 a0.fLarge).bind fun F=>
 (if F=true then
 (P6 a0.fOther).bind fun G=>
 i G
 else
 i false)
 else
 i false)
 else
 (A0w a0.fOTC).bind fun H=>
 (if H=true then
 (N7 a0.fCommunities).bind fun I=>
 (if I=true then
 (H5 a0.fLarge).bind fun J=>
 (if J=true then
 (P6 a0.fOther).bind fun K=>
 i K
 else
 i false)
 else
 i false)
 else
 i false))
 else
 i false)
 else
 i false)
 else
 i false)
 else
 i false)
 else
 i false))
theorem A2u (a0:C2) (r:Bool) (h:J4 a0=some r):AC Tryz.prog 154 [.d (C8 a0)] Zz10 (.d (.bool r)) Zz3:=by
 refine ac2 Tryz.func154 rfl rfl fun B hB hN L => ?_;delta J4 at h;refine sr (SQ tt) ?_;apply seq;refine AWp.cut h (fun W:Bool=>([(2,bo W)]:EL)) (fun W:Bool=>(Zz3:OL)) (fun W h E' O' ah => ?_) (fun ao u h => ?_)
 ·apply A0;refine ghost ah ?_;apply ret;obtain rfl:=oi h;exact rt (kp [(2,_)] [(500,some _)] hB rfl rfl (by rfl)) [bo W] (rT rN) rfl
 ·obtain⟨s,A,h⟩:=bindS h;rcases bft s with i | i
  ·have h:=A5 i h;obtain⟨C,F,h⟩:=bindS h;rcases bft C with p | p
   ·have h:=A5 p h;obtain⟨G,I,h⟩:=bindS h;rcases bft G with t | t
    ·have h:=A5 t h;obtain⟨J,M,h⟩:=bindS h;rcases bft J with E | E
     ·have h:=A5 E h;obtain⟨N,O,h⟩:=bindS h;rcases bft N with H | H
      ·have h:=A5 H h;rcases bft (a0.fOTC==(-1)) with K | K
       ·have h:=A5 K h;obtain⟨X,aa,h⟩:=bindS h;rcases bft X with Q | Q
        ·have h:=A5 Q h;obtain⟨ab,af,h⟩:=bindS h;rcases bft ab with S | S
         ·have h:=A5 S h;obtain⟨ai,aj,h⟩:=bindS h;refine rg (SQ (fa (cl [] (C7 a0.fOrigin (-1) 2 s A)) (fa i (fa (cl [] (I0 a0.fPath C F)) (fa p (fa (cl [] (H4 a0.fNext G I)) (fa t (fa (cl [] (C7 a0.fMED (-1) 4294967295 J M)) (fa E (fa (cl [] (C7 a0.fPref (-1) 4294967295 N O)) (fa H (fa K (fa (cl [] (P5 a0.fCommunities X aa)) (fa Q (fa (cl [] (Q9 a0.fLarge ab af)) (fa S (fa (cl [(500,500)] (A5f a0.fOther ai aj)) tt))))))))))))))))) ?_;exact u _ h _ _ (mp [] _ _ hB)
         ·have h:=A6 S h;refine rg (SQ (fa (cl [] (C7 a0.fOrigin (-1) 2 s A)) (fa i (fa (cl [] (I0 a0.fPath C F)) (fa p (fa (cl [] (H4 a0.fNext G I)) (fa t (fa (cl [] (C7 a0.fMED (-1) 4294967295 J M)) (fa E (fa (cl [] (C7 a0.fPref (-1) 4294967295 N O)) (fa H (fa K (fa (cl [] (P5 a0.fCommunities X aa)) (fa Q (fa (cl [] (Q9 a0.fLarge ab af)) (fa S tt)))))))))))))))) ?_;exact u _ h _ _ (mp [] _ _ hB)
        ·have h:=A6 Q h;refine rg (SQ (fa (cl [] (C7 a0.fOrigin (-1) 2 s A)) (fa i (fa (cl [] (I0 a0.fPath C F)) (fa p (fa (cl [] (H4 a0.fNext G I)) (fa t (fa (cl [] (C7 a0.fMED (-1) 4294967295 J M)) (fa E (fa (cl [] (C7 a0.fPref (-1) 4294967295 N O)) (fa H (fa K (fa (cl [] (P5 a0.fCommunities X aa)) (fa Q tt)))))))))))))) ?_;exact u _ h _ _ (mp [] _ _ hB)
       ·have h:=A6 K h;obtain⟨T,Y,h⟩:=bindS h;rcases bft T with P | P
        ·have h:=A5 P h;obtain⟨Z,ac,h⟩:=bindS h;rcases bft Z with R | R
         ·have h:=A5 R h;obtain⟨ae,ag,h⟩:=bindS h;rcases bft ae with U | U
          ·have h:=A5 U h;obtain⟨ak,al,h⟩:=bindS h;refine rg (SQ (fa (cl [] (C7 a0.fOrigin (-1) 2 s A)) (fa i (fa (cl [] (I0 a0.fPath C F)) (fa p (fa (cl [] (H4 a0.fNext G I)) (fa t (fa (cl [] (C7 a0.fMED (-1) 4294967295 J M)) (fa E (fa (cl [] (C7 a0.fPref (-1) 4294967295 N O)) (fa H (fa K (fa (cl [] (P4 a0.fOTC T Y)) (fa P (fa (cl [] (P5 a0.fCommunities Z ac)) (fa R (fa (cl [] (Q9 a0.fLarge ae ag)) (fa U (fa (cl [(500,500)] (A5f a0.fOther ak al)) tt))))))))))))))))))) ?_;exact u _ h _ _ (mp [] _ _ hB)
          ·have h:=A6 U h;refine rg (SQ (fa (cl [] (C7 a0.fOrigin (-1) 2 s A)) (fa i (fa (cl [] (I0 a0.fPath C F)) (fa p (fa (cl [] (H4 a0.fNext G I)) (fa t (fa (cl [] (C7 a0.fMED (-1) 4294967295 J M)) (fa E (fa (cl [] (C7 a0.fPref (-1) 4294967295 N O)) (fa H (fa K (fa (cl [] (P4 a0.fOTC T Y)) (fa P (fa (cl [] (P5 a0.fCommunities Z ac)) (fa R (fa (cl [] (Q9 a0.fLarge ae ag)) (fa U tt)))))))))))))))))) ?_;exact u _ h _ _ (mp [] _ _ hB)
         ·have h:=A6 R h;refine rg (SQ (fa (cl [] (C7 a0.fOrigin (-1) 2 s A)) (fa i (fa (cl [] (I0 a0.fPath C F)) (fa p (fa (cl [] (H4 a0.fNext G I)) (fa t (fa (cl [] (C7 a0.fMED (-1) 4294967295 J M)) (fa E (fa (cl [] (C7 a0.fPref (-1) 4294967295 N O)) (fa H (fa K (fa (cl [] (P4 a0.fOTC T Y)) (fa P (fa (cl [] (P5 a0.fCommunities Z ac)) (fa R tt)))))))))))))))) ?_;exact u _ h _ _ (mp [] _ _ hB)
        ·have h:=A6 P h;refine rg (SQ (fa (cl [] (C7 a0.fOrigin (-1) 2 s A)) (fa i (fa (cl [] (I0 a0.fPath C F)) (fa p (fa (cl [] (H4 a0.fNext G I)) (fa t (fa (cl [] (C7 a0.fMED (-1) 4294967295 J M)) (fa E (fa (cl [] (C7 a0.fPref (-1) 4294967295 N O)) (fa H (fa K (fa (cl [] (P4 a0.fOTC T Y)) (fa P tt)))))))))))))) ?_;exact u _ h _ _ (mp [] _ _ hB)
      ·have h:=A6 H h;refine rg (SQ (fa (cl [] (C7 a0.fOrigin (-1) 2 s A)) (fa i (fa (cl [] (I0 a0.fPath C F)) (fa p (fa (cl [] (H4 a0.fNext G I)) (fa t (fa (cl [] (C7 a0.fMED (-1) 4294967295 J M)) (fa E (fa (cl [] (C7 a0.fPref (-1) 4294967295 N O)) (fa H tt))))))))))) ?_;exact u _ h _ _ (mp [] _ _ hB)
     ·have h:=A6 E h;refine rg (SQ (fa (cl [] (C7 a0.fOrigin (-1) 2 s A)) (fa i (fa (cl [] (I0 a0.fPath C F)) (fa p (fa (cl [] (H4 a0.fNext G I)) (fa t (fa (cl [] (C7 a0.fMED (-1) 4294967295 J M)) (fa E tt))))))))) ?_;exact u _ h _ _ (mp [] _ _ hB)
    ·have h:=A6 t h;refine rg (SQ (fa (cl [] (C7 a0.fOrigin (-1) 2 s A)) (fa i (fa (cl [] (I0 a0.fPath C F)) (fa p (fa (cl [] (H4 a0.fNext G I)) (fa t tt))))))) ?_;exact u _ h _ _ (mp [] _ _ hB)
   ·have h:=A6 p h;refine rg (SQ (fa (cl [] (C7 a0.fOrigin (-1) 2 s A)) (fa i (fa (cl [] (I0 a0.fPath C F)) (fa p tt))))) ?_;exact u _ h _ _ (mp [] _ _ hB)
  ·have h:=A6 i h;refine rg (SQ (fa (cl [] (C7 a0.fOrigin (-1) 2 s A)) (fa i tt))) ?_;exact u _ h _ _ (mp [] _ _ hB)
def A6r (a0:A2) (a1:A7):Option (Bool):=
 some (a0.fAddr.fV6 != a1.fAttrs.fNext.fV6)
theorem B0n (a0:A2) (a1:A7) (r:Bool) (h:A6r a0 a1=some r):AC Tryz.prog 153 [.d (B0 a0),pt 0] [(0,.box 71 (.d (E6 a1)))] (.d (.bool r)) [(0,bd 71 (E6 a1))]:=by
 refine AC.of_code2 Tryz.func153 rfl rfl (Nat.le_of_ble_eq_true (by rfl)) fun B hB hN => ?_;delta A6r at h;refine sr (SQ tt) ?_;refine sr (SQ tt) ?_;apply ret;obtain rfl:=oi h;exact rt (kp [(3,_)] [(0,some _)] hB rfl rfl (by rfl)) [bo (a0.fAddr.fV6 != a1.fAttrs.fNext.fV6)] (rT rN) rfl
def O5 (a0:(List A2)) (a1:A7) (i:Int):Option ((Int⊕Unit)⊕Int):=
 (if (decide (i<(a0.length:Int)))=true then
 (idx a0 i).bind fun p=>
 (A6r p a1).bind fun s=>
 (if s=true then
 some (.inl (.inl i))
 else
 some (.inr (w64 (i+1))))
 else
 some (.inl (.inr ())))
def A07 (a0:(List A2)) (a1:A7):Option (Int):=
 (loop (O5 a0 a1) 0).bind fun i=>match i with
 | (.inl p)=>
  some p
 | (.inr _)=>
  some (-1)
theorem A80 (a0:(List A2)) (a1:A7) (r:Int) (h:A07 a0 a1=some r):AC Tryz.prog 151 [.d (.list 4 (a0.map B0)),.func 153 [pt 0]] [(0,.box 71 (.d (E6 a1)))] (.d (.int .i64 r)) [(0,bd 71 (E6 a1))]:=by
 refine AC.of_code2 Tryz.func151 rfl rfl (Nat.le_of_ble_eq_true (by rfl)) fun B hB hN => ?_;delta A07 at h;refine sr (SQ tt) ?_;apply seq;refine sr (SQ tt) ?_;apply block;obtain⟨F,G,h⟩:=bindS h;refine lg (O5 a0 a1) (fun i:Int=>([(0,F8 a0),(1,.func 153 [pt 0]),(7,i6 (a0.length:Int)),(8,i6 i)]:EL)) (fun i:Int=>([(0,bd 71 (E6 a1))]:OL)) (fun(x:(Int)⊕Unit) e s t=>match x with | (.inl p)=>e = .ret∧Mat B s t ([(4,i6 p)]:EL) ([(0,bd 71 (E6 a1))]:OL) | (.inr _p)=>e = .exit 0∧Mat B s t ([]:EL) ([(0,bd 71 (E6 a1))]:OL)) G (mp [] _ _ hB) (fun i y h => ?_) (fun e s t hR => ?_)
 ·unfold O5 at h;refine sr (SQ tt) ?_;apply seq;apply AWp.cond rfl<;>intro A
  ·have h:=A5 A h;apply AWp.skip;apply A0;apply seq;apply block;refine sr (SQ tt) ?_;apply seq;obtain⟨H,I,h⟩:=bindS h;obtain⟨C,J,h⟩:=bindS h;refine rg (SQ (fa I (fa (cl [(0,0)] (B0n H a1 C J)) tt))) ?_;apply A0;refine ghost (mp [] [(0,F8 a0),(1,.func 153 [pt 0]),(5,i6 i),(7,i6 (a0.length:Int)),(8,i6 i),(16,bo C)] [(0,bd 71 (E6 a1))] hB) ?_;apply AWp.cond rfl<;>intro E
   ·have h:=A5 E h;refine sr (SQ tt) ?_;apply ret;apply D8;apply B8;obtain rfl:=oi h;exact⟨nofun,rfl,mp [] _ _ hB⟩
   ·have h:=A6 E h;apply AWp.skip;apply D7;apply A0;refine rg (SQ tt) ?_;obtain rfl:=oi h;exact⟨rfl,mp [] _ _ hB⟩
  ·have h:=A6 A h;apply AWp.exit;apply D6;obtain rfl:=oi h;exact⟨nofun,rfl,mp [] _ _ hB⟩
 ·rcases F with p | _
  ·obtain⟨rfl,u⟩:=hR;apply D8;apply B8;obtain rfl:=oi h;exact rt (Mat.trans u (mp [] [(4,i6 p)] [(0,bd 71 (E6 a1))] hB)) [i6 p] (rT rN) rfl
  ·obtain⟨rfl,u⟩:=hR;apply B9;apply A0;refine ghost u ?_;refine sr (SQ tt) ?_;apply ret;obtain rfl:=oi h;exact rt (kp [(4,_)] [(0,some _)] hB rfl rfl (by rfl)) [i6 (-1)] (rT rN) rfl
def O6 (a0:(List A2)) (a1:A7):Option (Bool):=
 (A07 a0 a1).bind fun i=>
 some (decide (0≤i))
theorem A6s (a0:(List A2)) (a1:A7) (r:Bool) (h:O6 a0 a1=some r):AC Tryz.prog 145 [.d (.list 4 (a0.map B0)),.func 153 [pt 0]] [(0,.box 71 (.d (E6 a1)))] (.d (.bool r)) [(0,bd 71 (E6 a1))]:=by
 refine AC.of_code2 Tryz.func145 rfl rfl (Nat.le_of_ble_eq_true (by rfl)) fun B hB hN => ?_;delta O6 at h;refine sr (SQ tt) ?_;apply seq;obtain⟨i,p,h⟩:=bindS h;refine rg (SQ (fa (cl [(0,0)] (A80 a0 a1 i p)) tt)) ?_;apply A0;refine ghost (mp [] [(4,bo (decide (0≤i)))] [(0,bd 71 (E6 a1))] hB) ?_;apply ret;obtain rfl:=oi h;exact rt (kp [(4,_)] [(0,some _)] hB rfl rfl (by rfl)) [bo (decide (0≤i))] (rT rN) rfl
def A1c (a0:A7):Option (Bool):=
 (if ((a0.fAnnounce.length:Int)==0)=true then
 (A3n a0.fAttrs).bind fun p=>
 some p
 else
 jn (fun s:Bool=>
 some s) (fun i=>
 (J4 a0.fAttrs).bind fun t=>
 (if ((t&&(a0.fAttrs.fOrigin != (-1)))&&(!((a0.fAttrs.fNext.fV6==false)&&((a0.fAttrs.fNext.fHi==0)&&((a0.fAttrs.fNext.fLo==0)&&true)))))=true then
 (O6 a0.fAnnounce a0).bind fun u=>
 i (!u)
 else
 i false)))
theorem B2z (a0:A7) (r:Bool) (h:A1c a0=some r):AC Tryz.prog 146 [.d (E6 a0)] Zz10 (.d (.bool r)) Zz3:=by
 refine ac2 Tryz.func146 rfl rfl fun B hB hN L => ?_;delta A1c at h;refine sr (SQ tt) ?_;apply seq;refine sr (SQ tt) ?_;apply AWp.cond rfl<;>intro t
 ·have h:=A5 t h;obtain⟨u,E,h⟩:=bindS h;refine sr (SQ (fa (cl [] (B1p a0.fAttrs u E)) tt)) ?_;apply ret;apply B8;obtain rfl:=oi h;exact rt (kp [(2,_)] [(500,some _)] hB rfl rfl (by rfl)) [bo u] (rT rN) rfl
 ·have h:=A6 t h;apply AWp.skip;apply A0;apply sr (cg (OpJ.makeF (OpdL.cons (q 1) OpdL.nil) rfl rfl (L rfl)) rfl (c (assign (L rfl) (q 11)) rfl cn));apply seq;refine AWp.cut h (fun p:Bool=>([(2,bo p)]:EL)) (fun p:Bool=>(Zz3:OL)) (fun p h I J F => ?_) (fun K A h => ?_)
  ·apply A0;refine ghost F ?_;apply ret;obtain rfl:=oi h;exact rt (kp [(2,_)] [(500,some _)] hB rfl rfl (by rfl)) [bo p] (rT rN) rfl
  ·obtain⟨s,C,h⟩:=bindS h;rcases bft ((s&&(a0.fAttrs.fOrigin != (-1)))&&(!((a0.fAttrs.fNext.fV6==false)&&((a0.fAttrs.fNext.fHi==0)&&((a0.fAttrs.fNext.fLo==0)&&true))))) with i | i
   ·have h:=A5 i h;obtain⟨G,H,h⟩:=bindS h;refine rg (SQ (fa (cl [(500,500)] (A2u a0.fAttrs s C)) (fa i (fa (cl [(0,1001)] (A6s a0.fAnnounce a0 G H)) tt)))) ?_;exact A _ h _ _ (mp [] _ _ hB)
   ·have h:=A6 i h;refine rg (SQ (fa (cl [(500,500)] (A2u a0.fAttrs s C)) (fa i tt))) ?_;exact A _ h _ _ (mp [] _ _ hB)
def L8 (a0:Bool) (a1:Int) (a2:(List Int)):Option (List A3):=
 jn (fun p:(List A3)=>
 some p) (fun i=>
 (if a0=true then
 chk (decide ([A3.mk (ilk gv0 a1) a1 a2].length≤LIM))<|
 i [A3.mk (ilk gv0 a1) a1 a2]
 else
 i ([]:List A3)))
theorem A8l (a0:Bool) (a1:Int) (a2:(List Int)) (r:(List A3)) (h:L8 a0 a1 a2=some r):AC Tryz.prog 176 [.d (.bool a0),.d (.int .i64 a1),.d (.list 1 (a2.map (eI .u8))),pt 0] [(0,.box 37 .nils),(500,.know (globD 0 (.imap gv0)))] (.tup []) [(0,some (.box 37 (.sref 950000 3 0 r.length))),(500,some (.know (globD 0 (.imap gv0)))),(950000,some (.row 78 3 (r.map B6)))]:=by
 refine AC.of_code2 Tryz.func176 rfl rfl (Nat.le_of_ble_eq_true (by rfl)) fun B hB hN => ?_;delta L8 at h;refine sr (SQ tt) ?_;refine gh [(1,_),(2,_),(3,_),(7,_)] [(0,some _),(500,some _)] hB rfl rfl (by rfl) ?_;refine AWp.cut h (fun i:(List A3)=>([]:EL)) (fun i:(List A3)=>([(0,some (.box 37 (.sref 3000 3 0 i.length))),(500,some (.know (globD 0 (.imap gv0)))),(3000,some (E0 i))]:OL)) (fun i h A C u => ?_) (fun E p h => ?_)
 ·obtain rfl:=oi h;exact⟨.inr rfl,_,_,Mat.trans u (mp [(950000,3000)] [] [(0,some (.box 37 (.sref 950000 3 0 i.length))),(500,some (.know (globD 0 (.imap gv0)))),(950000,some (E0 i))] hB),[],rN,rfl,by rfl,by rfl,by rfl⟩
 ·apply AWp.cond rfl<;>intro s
  ·have h:=A5 s h;obtain⟨t,h⟩:=B2 h;apply rg (c (lb hN 37 _ _ tyS37 (At.here _) (q 3)) rfl (cg (OpJ.loadGD (nm:=500) (.imap gv0) tyS210 (by rfl) (by rfl) (by simp) (ltN hN rfl)) rfl (c (mv hN (q 1)) rfl (cg (OpJ.ilook tyU210 underlying3 keyEq3 tyZD3 (ltN hN rfl) (q 9) (q 10)) rfl (c (mv hN (q 1)) rfl (c (mv hN (q 2)) rfl (c (OpJ.coe (v:=(.st [i6 (ilk gv0 a1),i6 a1,.d (.list 1 (a2.map (eI .u8)))])) (y:=(.st [.int .i64 (ilk gv0 a1),.int .i64 a1,.list 1 (a2.map (eI .u8))])) (Co.st (CoL.cons (Co.d _) (CoL.cons (Co.d _) (CoL.cons (Co.d _) CoL.nil)))) rfl (OpJ.build (places:=[(0,1),(1,1),(2,1)]) ⟨underlying78,fun w=>by kernel_rfl⟩ tyZS78 (Opds.cons (q 11) (Opds.cons (q 12) (Opds.cons (q 13) Opds.nil))) (by kernel_rfl) (r:=(.st [i6 (ilk gv0 a1),i6 a1,.d (.list 1 (a2.map (eI .u8)))])) (by rfl) (ltN hN rfl))) rfl (c (buildSlice underlying37 tyS78 tyZD78 (by rfl) (by decide) (by decide) (Opds.cons (q 14) Opds.nil) (by kernel_rfl) (es:=([.st [.int .i64 (ilk gv0 a1),.int .i64 a1,.list 1 (a2.map (eI .u8))]]:List D)) (by rfl) (by rfl) (by kernel_rfl) (by simp) (ltN hN rfl)) rfl (cg (OpJ.appendN hB underlying37 tyE78 (nm:=1016) (by decide) (ys:=[A3.mk (ilk gv0 a1) a1 a2].map B6) (len:=[A3.mk (ilk gv0 a1) a1 a2].length) (by simp) (A5t (f:=B6) (fun _=>rfl)) (by rw [List.length_map];exact A0i t (by decide)) (by rw [List.length_map];exact A3g t) (ltN hN rfl) (q 8) (q 15)) rfl (cg (sB tyS37 (q 3) (q 16)) rfl cn))))))))));exact p _ h _ _ (mp [(3000,1016)] _ _ hB)
  ·have h:=A6 s h;apply AWp.skip;exact p _ h _ _ (Mat.trans (Mat.beginP (n:=3000) (e:=78) (sz:=3) (Ts:=[]) (Bs:=[(0,some (.box 37 (.sref 3000 3 0 0)))]) hB (by decide) (by rfl) (by decide) TwT.nil (TwB.cons (x:=.nils) (by rfl) (Tw.leaf ⟨rfl,rfl⟩) TwB.nil)) (mp [] _ _ hB))
def T5 (a1:(List Int)) (p:Int×(List Int)):Option (List Int⊕(Int×(List Int))):=
 (if (decide (p.1<(a1.length:Int)))=true then
 (idx a1 p.1).bind fun i=>
 chk (decide ((p.2++([IntKind.u8.wrap (shrI .i64 i 24),IntKind.u8.wrap (shrI .i64 i 16),IntKind.u8.wrap (shrI .i64 i 8),IntKind.u8.wrap i]:List Int)).length≤LIM))<|
 some (.inr (w64 (p.1+1),(p.2++([IntKind.u8.wrap (shrI .i64 i 24),IntKind.u8.wrap (shrI .i64 i 16),IntKind.u8.wrap (shrI .i64 i 8),IntKind.u8.wrap i]:List Int))))
 else
 some (.inl p.2))
def R3 (a0:(List Int)) (a1:(List Int)):Option (List Int):=
 (loop (T5 a1) (0,a0)).bind fun i=>
 some i
theorem A2v (a0:(List Int)) (a1:(List Int)) (r:(List Int)) (h:R3 a0 a1=some r):AC Tryz.prog 178 [.sref 0 1 0 a0.length,.d (.list 1 (a1.map (eI .i64)))] [(0,.row 5 1 (a0.map (eI .u8)))] (.sref 900000 1 0 r.length) [(0,none),(900000,some (.row 5 1 (r.map (eI .u8))))]:=by
 refine ac2 Tryz.func178 rfl rfl fun B hB hN L => ?_;delta R3 at h;refine sr (SQ tt) ?_;apply seq;refine sr (SQ tt) ?_;apply block;obtain⟨i,C,h⟩:=bindS h;refine lg (T5 a1) (fun p:Int×(List Int)=>([(0,.sref 3000 1 0 p.2.length),(7,qI_1 a1),(8,i6 (a1.length:Int)),(9,i6 p.1)]:EL)) (fun p:Int×(List Int)=>([(3000,some (.row 5 1 (p.2.map (eI .u8))))]:OL)) (fun(i:(List Int)) e s t=>e = .exit 0∧Mat B s t ([(0,.sref 3000 1 0 i.length)]:EL) ([(3000,some (.row 5 1 (i.map (eI .u8))))]:OL)) C (mp [(3000,0)] _ _ hB) (fun p y h => ?_) (fun e s t hR => ?_)
 ·unfold T5 at h;refine sr (SQ tt) ?_;apply seq;apply AWp.cond rfl<;>intro u
  ·have h:=A5 u h;apply AWp.skip;apply A0;apply seq;apply block;obtain⟨_,E,h⟩:=bindS h;refine sr (SQ (fa E tt)) ?_;obtain⟨A,h⟩:=B2 h;have hc11_o:=A;simp only [decide_eq_true_eq] at hc11_o;refine rg (SQ (fa A tt)) ?_;apply D7;apply A0;refine rg (SQ tt) ?_;obtain rfl:=oi h;exact⟨rfl,mp [(3000,1026)] _ _ hB⟩
  ·have h:=A6 u h;apply AWp.exit;apply D6;obtain rfl:=oi h;exact⟨nofun,rfl,mp [] _ _ hB⟩
 ·obtain⟨rfl,F⟩:=hR;apply B9;apply A0;refine ghost F ?_;refine sr (SQ tt) ?_;apply ret;obtain rfl:=oi h;exact rt (mp [(900000,3000)] [(4,.sref 900000 1 0 i.length)] [(900000,some (.row 5 1 (i.map (eI .u8))))] hB) [.sref 900000 1 0 i.length] (rT rN) rfl
def R0 (a0:(List B4)) (i:Int×(List Int)):Option (List Int⊕(Int×(List Int))):=
 (if (decide (i.1<(a0.length:Int)))=true then
 (idx a0 i.1).bind fun p=>
 jn (fun s:Int=>
 chk (decide ((i.2++([s,IntKind.u8.wrap (p.fASNs.length:Int)]:List Int)).length≤LIM))<|
 (R3 (i.2++([s,IntKind.u8.wrap (p.fASNs.length:Int)]:List Int)) p.fASNs).bind fun u=>
 some (.inr (w64 (i.1+1),u))) (fun t=>
 (if p.fSet=true then
 t 1
 else
 t 2))
 else
 some (.inl i.2))
def T6 (a0:(List B4)):Option (List Int):=
 (loop (R0 a0) (0,([]:List Int))).bind fun i=>
 some i
theorem B05 (a0:(List B4)) (r:(List Int)) (h:T6 a0=some r):AC Tryz.prog 177 [.d (.list 2 (a0.map D2))] [] (.d (.list 1 (r.map (eI .u8)))) []:=by
 refine ac2 Tryz.func177 rfl rfl fun B hB hN L => ?_;delta T6 at h;refine sr (SQ tt) ?_;refine sr (SQ tt) ?_;apply seq;refine sr (SQ tt) ?_;apply block;obtain⟨p,I,h⟩:=bindS h;refine lg (R0 a0) (fun i:Int×(List Int)=>([(3,.sref 3003 1 0 i.2.length),(7,D0 a0),(8,i6 (a0.length:Int)),(9,i6 i.1)]:EL)) (fun i:Int×(List Int)=>([(3003,some (.row 5 1 (i.2.map (eI .u8))))]:OL)) (fun(p:(List Int)) e t u=>e = .exit 0∧Mat B t u ([(3,.sref 3003 1 0 p.length)]:EL) ([(3003,some (.row 5 1 (p.map (eI .u8))))]:OL)) I (Mat.trans (Mat.beginP (n:=3003) (e:=5) (sz:=1) (Ts:=[(3,.sref 3003 1 0 0)]) (Bs:=[]) hB (by decide) (by rfl) (by decide) (TwT.cons (x:=.nils) (by rfl) (Tw.leaf ⟨rfl,rfl⟩) TwT.nil) TwB.nil) (mp [] _ _ hB)) (fun i y h => ?_) (fun e t u hR => ?_)
 ·unfold R0 at h;refine sr (SQ tt) ?_;apply seq;apply AWp.cond rfl<;>intro F
  ·have h:=A5 F h;apply AWp.skip;apply A0;apply seq;apply block;obtain⟨A,J,h⟩:=bindS h;refine sr (SQ (fa J tt)) ?_;refine sr (SQ tt) ?_;apply seq;refine sr (SQ tt) ?_;refine gh [(3,_),(5,_),(6,_),(7,_),(8,_),(9,_),(14,_)] [(1005,some _),(3003,some _)] hB rfl rfl (by rfl) ?_;refine AWp.cut h (fun s:Int=>([(3,.sref 3003 1 0 i.2.length),(5,pt 1005),(6,.d (.int .u8 s)),(7,D0 a0),(8,i6 (a0.length:Int)),(9,i6 i.1)]:EL)) (fun s:Int=>([(1005,bd 75 (D2 A)),(3003,some (.row 5 1 (i.2.map (eI .u8))))]:OL)) (fun s h t u C => ?_) (fun N G h => ?_)
   ·apply A0;refine ghost C ?_;obtain⟨K,h⟩:=B2 h;obtain⟨E,M,h⟩:=bindS h;refine drS (SQ (fa K (fa (cl [(0,1022),(900000,100000)] (A2v (i.2++([s,IntKind.u8.wrap (A.fASNs.length:Int)]:List Int)) A.fASNs E M)) tt))) ?_;apply D7;apply A0;refine ghost (mp [] [(3,.sref 100000 1 0 E.length),(7,D0 a0),(8,i6 (a0.length:Int)),(9,i6 i.1)] [(100000,some (.row 5 1 (E.map (eI .u8))))] hB) ?_;refine rg (SQ tt) ?_;obtain rfl:=oi h;exact⟨rfl,mp [(3003,100000)] _ _ hB⟩
   ·apply AWp.cond rfl<;>intro H
    ·have h:=A5 H h;refine rg (SQ tt) ?_;exact G _ h _ _ (mp [] _ _ hB)
    ·have h:=A6 H h;apply AWp.skip;exact G _ h _ _ (mp [] _ _ hB)
  ·have h:=A6 F h;apply AWp.exit;apply D6;obtain rfl:=oi h;exact⟨nofun,rfl,mp [] _ _ hB⟩
 ·obtain⟨rfl,C⟩:=hR;apply B9;apply A0;refine ghost C ?_;refine sr (SQ tt) ?_;apply ret;obtain rfl:=oi h;exact rt (Mat.trans (Mat.freezeP (n:=3003) (e:=5) (sz:=1) (es:=p.map (eI .u8)) (Ts:=[(2,.d (.list 1 (p.map (eI .u8))))]) (Bs:=[]) (by rfl) (TwT.cons (x:=(.sref 3003 1 0 p.length)) (by rfl) (FrzL.all (by first | rfl | (simp;done) | (simp;omega) | omega)) TwT.nil) TwB.nil) (mp [] [(2,.d (.list 1 (p.map (eI .u8))))] [] hB)) [.d (.list 1 (p.map (eI .u8)))] (rT rN) rfl
def F4 (a0:Bool) (a1:Int) (a2:(List Int)) (a3:(List A3)):Option (List A3):=
 jn (fun p:(List A3)=>
 some p) (fun i=>
 (if a0=true then
 chk (decide ((a3++[A3.mk (ilk gv0 a1) a1 a2]).length≤LIM))<|
 i (a3++[A3.mk (ilk gv0 a1) a1 a2])
 else
 i a3))
theorem H8 (a0:Bool) (a1:Int) (a2:(List Int)) (a3:(List A3)) (r:(List A3)) (h:F4 a0 a1 a2 a3=some r):AC Tryz.prog 176 [.d (.bool a0),.d (.int .i64 a1),.d (.list 1 (a2.map (eI .u8))),pt 0] [(0,.box 37 (.sref 1 3 0 a3.length)),(1,.row 78 3 (a3.map B6)),(500,.know (globD 0 (.imap gv0)))] (.tup []) [(1,none),(0,some (.box 37 (.sref 950000 3 0 r.length))),(500,some (.know (globD 0 (.imap gv0)))),(950000,some (.row 78 3 (r.map B6)))]:=by
 refine AC.of_code2 Tryz.func176 rfl rfl (Nat.le_of_ble_eq_true (by rfl)) fun B hB hN => ?_;delta F4 at h;refine sr (SQ tt) ?_;refine gh [(1,_),(2,_),(3,_),(7,_)] [(0,some _),(1,some _),(500,some _)] hB rfl rfl (by rfl) ?_;refine AWp.cut h (fun i:(List A3)=>([]:EL)) (fun i:(List A3)=>([(0,some (.box 37 (.sref 3000 3 0 i.length))),(500,some (.know (globD 0 (.imap gv0)))),(3000,some (E0 i))]:OL)) (fun i h A C u => ?_) (fun E s h => ?_)
 ·obtain rfl:=oi h;exact⟨.inr rfl,_,_,Mat.trans u (mp [(950000,3000)] [] [(0,some (.box 37 (.sref 950000 3 0 i.length))),(500,some (.know (globD 0 (.imap gv0)))),(950000,some (E0 i))] hB),[],rN,rfl,by rfl,by rfl,by rfl⟩
 ·apply AWp.cond rfl<;>intro t
  ·have h:=A5 t h;obtain⟨p,h⟩:=B2 h;have hc6_o:=p;simp only [decide_eq_true_eq] at hc6_o;apply rg (c (lb hN 37 _ _ tyS37 (At.here _) (q 3)) rfl (cg (OpJ.loadGD (nm:=500) (.imap gv0) tyS210 (by rfl) (by rfl) (by simp) (ltN hN rfl)) rfl (c (mv hN (q 1)) rfl (cg (OpJ.ilook tyU210 underlying3 keyEq3 tyZD3 (ltN hN rfl) (q 9) (q 10)) rfl (c (mv hN (q 1)) rfl (c (mv hN (q 2)) rfl (c (OpJ.coe (v:=(.st [i6 (ilk gv0 a1),i6 a1,.d (.list 1 (a2.map (eI .u8)))])) (y:=(.st [.int .i64 (ilk gv0 a1),.int .i64 a1,.list 1 (a2.map (eI .u8))])) (Co.st (CoL.cons (Co.d _) (CoL.cons (Co.d _) (CoL.cons (Co.d _) CoL.nil)))) rfl (OpJ.build (places:=[(0,1),(1,1),(2,1)]) ⟨underlying78,fun w=>by kernel_rfl⟩ tyZS78 (Opds.cons (q 11) (Opds.cons (q 12) (Opds.cons (q 13) Opds.nil))) (by kernel_rfl) (r:=(.st [i6 (ilk gv0 a1),i6 a1,.d (.list 1 (a2.map (eI .u8)))])) (by rfl) (ltN hN rfl))) rfl (c (buildSlice underlying37 tyS78 tyZD78 (by rfl) (by decide) (by decide) (Opds.cons (q 14) Opds.nil) (by kernel_rfl) (es:=([.st [.int .i64 (ilk gv0 a1),.int .i64 a1,.list 1 (a2.map (eI .u8))]]:List D)) (by rfl) (by rfl) (by kernel_rfl) (by simp) (ltN hN rfl)) rfl (cg (OpJ.append hB underlying37 tyE78 (nm:=1016) (by decide) (es:=a3.map B6) (ys:=[A3.mk (ilk gv0 a1) a1 a2].map B6) (es':=(a3++[A3.mk (ilk gv0 a1) a1 a2]).map B6) (len:=(a3++[A3.mk (ilk gv0 a1) a1 a2]).length) (by simp) (by simp) (A5t (f:=B6) (fun _=>rfl)) (by rw [List.length_map];exact A0i p (by decide)) (by rw [List.length_map];exact A3g p) (ltN hN rfl) (by simp) (q 8) (q 15)) rfl (cg (sB tyS37 (q 3) (q 16)) rfl cn))))))))));exact s _ h _ _ (mp [(3000,1016)] _ _ hB)
  ·have h:=A6 t h;apply AWp.skip;exact s _ h _ _ (mp [(3000,1)] _ _ hB)
def A4m (i:Int×(List Int)×E5):Option (List Int⊕(Int×(List Int)×E5)):=
 (if (decide (0≤i.1))=true then
 (idx i.2.1 i.1).bind fun _=>
 (idx i.2.1 i.1).bind fun _=>
 some (.inr (w64 (i.1-1),i.2.1.set i.1.toNat (IntKind.u8.wrap i.2.2.fLo),E5.mk i.2.2.fV6 (shrI .u64 i.2.2.fHi 8) (bitI .or .u64 (shrI .u64 i.2.2.fLo 8) (shlI .u64 i.2.2.fHi 56))))
 else
 some (.inl i.2.1))
def A08 (a0:E5):Option (List Int):=
 (X7 a0).bind fun s=>
 (if (!s)=true then
 some ([]:List Int)
 else
 jn (fun i:Int=>
 chk (decide (0≤i)&&decide (i≤i)&&decide (i≤(LIM:Int)))<|
 (loop (A4m) (w64 (i-1),List.replicate i.toNat 0,a0)).bind fun t=>
 some t) (fun p=>
 (if a0.fV6=true then
 p 16
 else
 p 4)))
theorem A4n (a0:E5) (r:(List Int)) (h:A08 a0=some r):AC Tryz.prog 166 [.d (E4 a0)] [] (.d (.list 1 (r.map (eI .u8)))) []:=by
 refine ac2 Tryz.func166 rfl rfl fun B hB hN L => ?_;delta A08 at h;refine sr (SQ tt) ?_;apply seq;obtain⟨H,I,h⟩:=bindS h;refine sr (SQ (fa (cl [] (H4 a0 H I)) tt)) ?_;apply AWp.cond rfl<;>intro C
 ·have h:=A5 C h;refine sr (SQ tt) ?_;apply ret;apply B8;obtain rfl:=oi h;exact rt (Mat.trans (Mat.coeP (Ts:=[(2,.d (.list 1 (([]:List Int).map (eI .u8))))]) (Bs:=[]) (TwT.cons (x:=.nils) (by rfl) (Tw.leaf ⟨_,Co.nils 1,rfl⟩) TwT.nil) TwB.nil) (mp [] [(2,.d (.list 1 (([]:List Int).map (eI .u8))))] [] hB)) [.d (.list 1 (([]:List Int).map (eI .u8)))] (rT rN) rfl
 ·have h:=A6 C h;apply AWp.skip;apply A0;refine sr (SQ tt) ?_;apply seq;refine sr (SQ tt) ?_;refine gh [(1,_),(3,_),(10,_)] [(1001,some _)] hB rfl rfl (by rfl) ?_;refine AWp.cut h (fun s:Int=>([(1,pt 1001),(3,i6 s)]:EL)) (fun s:Int=>([(1001,bd 31 (E4 a0))]:OL)) (fun s h t u A => ?_) (fun O E h => ?_)
  ·apply A0;refine ghost A ?_;obtain⟨J,h⟩:=B2 h;refine sr (SQ (fa J tt)) ?_;apply seq;refine sr (SQ tt) ?_;apply block;obtain⟨p,K,h⟩:=bindS h;refine lg (A4m) (fun i:Int×(List Int)×E5=>([(1,pt 1001),(4,.sref 1012 1 0 i.2.1.length),(5,i6 i.1)]:EL)) (fun i:Int×(List Int)×E5=>([(1001,bd 31 (E4 i.2.2)),(1012,some (.row 5 1 (i.2.1.map (eI .u8))))]:OL)) (fun(p:(List Int)) e t u=>e = .exit 0∧Mat B t u ([(4,.sref 1012 1 0 p.length)]:EL) ([(1012,some (.row 5 1 (p.map (eI .u8))))]:OL)) K (mp [] _ _ hB) (fun i y h => ?_) (fun e t u hR => ?_)
   ·unfold A4m at h;apply seq;refine sr (SQ tt) ?_;apply AWp.cond rfl<;>intro F
    ·have h:=A5 F h;apply AWp.skip;apply A0;apply seq;apply block;obtain⟨_,M,h⟩:=bindS h;obtain⟨_,N,h⟩:=bindS h;refine sr (SQ (fa M (fa N (fa (sv (IntKind.u8.wrap i.2.2.fLo)) tt)))) ?_;refine sr (SQ tt) ?_;refine rg (SQ tt) ?_;apply D7;apply A0;refine rg (SQ tt) ?_;obtain rfl:=oi h;exact⟨rfl,Mat.trans (mp [] [(1,pt 1001),(4,.sref 1012 1 0 i.2.1.length),(5,i6 (w64 (i.1-1)))] [(1001,some (.box 31 (.d (.st [.bool i.2.2.fV6,.int .u64 (shrI .u64 i.2.2.fHi 8),.int .u64 (bitI .or .u64 (shrI .u64 i.2.2.fLo 8) (shlI .u64 i.2.2.fHi 56))])))),(1012,some (.row 5 1 ((i.2.1.set i.1.toNat (IntKind.u8.wrap i.2.2.fLo)).map (eI .u8))))] hB) (Mat.trans (Mat.lenP (Ts:=[(4,.sref 1012 1 0 ((i.2.1.set i.1.toNat (IntKind.u8.wrap i.2.2.fLo)).length))]) (Bs:=[]) (TwT.cons (x:=(.sref 1012 1 0 i.2.1.length)) (by rfl) (Tw.leaf ⟨_,_,_,_,_,rfl,rfl,(by first | rfl | (simp;done) | (simp;omega) | omega)⟩) TwT.nil) TwB.nil) (mp [] _ _ hB))⟩
    ·have h:=A6 F h;apply AWp.exit;apply D6;obtain rfl:=oi h;exact⟨nofun,rfl,mp [] _ _ hB⟩
   ·obtain⟨rfl,A⟩:=hR;apply B9;apply A0;refine ghost A ?_;refine sr (SQ tt) ?_;apply ret;obtain rfl:=oi h;exact rt (Mat.trans (Mat.freezeP (n:=1012) (e:=5) (sz:=1) (es:=p.map (eI .u8)) (Ts:=[(2,.d (.list 1 (p.map (eI .u8))))]) (Bs:=[]) (by rfl) (TwT.cons (x:=(.sref 1012 1 0 p.length)) (by rfl) (FrzL.all (by first | rfl | (simp;done) | (simp;omega) | omega)) TwT.nil) TwB.nil) (mp [] [(2,.d (.list 1 (p.map (eI .u8))))] [] hB)) [.d (.list 1 (p.map (eI .u8)))] (rT rN) rfl
  ·apply AWp.cond rfl<;>intro G
   ·have h:=A5 G h;refine rg (SQ tt) ?_;exact E _ h _ _ (mp [] _ _ hB)
   ·have h:=A6 G h;apply AWp.skip;exact E _ h _ _ (mp [] _ _ hB)
def T7 (a0:(List Int)) (p:Int×(List Int)):Option (List Int⊕(Int×(List Int))):=
 (if (decide (p.1<(a0.length:Int)))=true then
 (idx a0 p.1).bind fun i=>
 chk (decide ((p.2++([IntKind.u8.wrap (shrI .i64 i 24),IntKind.u8.wrap (shrI .i64 i 16),IntKind.u8.wrap (shrI .i64 i 8),IntKind.u8.wrap i]:List Int)).length≤LIM))<|
 some (.inr (w64 (p.1+1),(p.2++([IntKind.u8.wrap (shrI .i64 i 24),IntKind.u8.wrap (shrI .i64 i 16),IntKind.u8.wrap (shrI .i64 i 8),IntKind.u8.wrap i]:List Int))))
 else
 some (.inl p.2))
def R4 (a0:(List Int)):Option (List Int):=
 (loop (T7 a0) (0,([]:List Int))).bind fun i=>
 some i
theorem A2w (a0:(List Int)) (r:(List Int)) (h:R4 a0=some r):AC Tryz.prog 178 [.nils,.d (.list 1 (a0.map (eI .i64)))] [] (.d (.list 1 (r.map (eI .u8)))) []:=by
 refine ac2 Tryz.func178 rfl rfl fun B hB hN L => ?_;delta R4 at h;refine sr (SQ tt) ?_;apply seq;refine sr (SQ tt) ?_;apply block;obtain⟨i,A,h⟩:=bindS h;refine lg (T7 a0) (fun p:Int×(List Int)=>([(0,.sref 3000 1 0 p.2.length),(7,qI_1 a0),(8,i6 (a0.length:Int)),(9,i6 p.1)]:EL)) (fun p:Int×(List Int)=>([(3000,some (.row 5 1 (p.2.map (eI .u8))))]:OL)) (fun(i:(List Int)) e s t=>e = .exit 0∧Mat B s t ([(0,.sref 3000 1 0 i.length)]:EL) ([(3000,some (.row 5 1 (i.map (eI .u8))))]:OL)) A (Mat.trans (Mat.beginP (n:=3000) (e:=5) (sz:=1) (Ts:=[(0,.sref 3000 1 0 0)]) (Bs:=[]) hB (by decide) (by rfl) (by decide) (TwT.cons (x:=.nils) (by rfl) (Tw.leaf ⟨rfl,rfl⟩) TwT.nil) TwB.nil) (mp [] _ _ hB)) (fun p y h => ?_) (fun e s t hR => ?_)
 ·unfold T7 at h;refine sr (SQ tt) ?_;apply seq;apply AWp.cond rfl<;>intro u
  ·have h:=A5 u h;apply AWp.skip;apply A0;apply seq;apply block;obtain⟨_,C,h⟩:=bindS h;refine sr (SQ (fa C tt)) ?_;obtain⟨E,h⟩:=B2 h;refine rg (SQ (fa E tt)) ?_;apply D7;apply A0;refine rg (SQ tt) ?_;obtain rfl:=oi h;exact⟨rfl,mp [(3000,1026)] _ _ hB⟩
  ·have h:=A6 u h;apply AWp.exit;apply D6;obtain rfl:=oi h;exact⟨nofun,rfl,mp [] _ _ hB⟩
 ·obtain⟨rfl,F⟩:=hR;apply B9;apply A0;refine ghost F ?_;refine sr (SQ tt) ?_;apply ret;obtain rfl:=oi h;exact rt (Mat.trans (Mat.freezeP (n:=3000) (e:=5) (sz:=1) (es:=i.map (eI .u8)) (Ts:=[(4,.d (.list 1 (i.map (eI .u8))))]) (Bs:=[]) (by rfl) (TwT.cons (x:=(.sref 3000 1 0 i.length)) (by rfl) (FrzL.all (by first | rfl | (simp;done) | (simp;omega) | omega)) TwT.nil) TwB.nil) (mp [] [(4,.d (.list 1 (i.map (eI .u8))))] [] hB)) [.d (.list 1 (i.map (eI .u8)))] (rT rN) rfl
def I2 (a0:(List B5)) (i:Int×(List Int)):Option (List Int⊕(Int×(List Int))):=
 (if (decide (i.1<(a0.length:Int)))=true then
 (idx a0 i.1).bind fun p=>
 (R3 i.2 ([bitI .or .i64 (shlI .i64 p.fA 16) p.fB]:List Int)).bind fun s=>
 some (.inr (w64 (i.1+1),s))
 else
 some (.inl i.2))
def I3 (a0:(List B5)):Option (List Int):=
 (loop (I2 a0) (0,([]:List Int))).bind fun i=>
 some i
theorem A6t (a0:(List B5)) (r:(List Int)) (h:I3 a0=some r):AC Tryz.prog 179 [.d (.list 2 (a0.map C5))] [] (.d (.list 1 (r.map (eI .u8)))) []:=by
 refine ac2 Tryz.func179 rfl rfl fun B hB hN L => ?_;delta I3 at h;refine sr (SQ tt) ?_;refine sr (SQ tt) ?_;apply seq;refine sr (SQ tt) ?_;apply block;obtain⟨i,E,h⟩:=bindS h;refine lg (I2 a0) (fun p:Int×(List Int)=>([(3,.sref 3003 1 0 p.2.length),(6,C9 a0),(7,i6 (a0.length:Int)),(8,i6 p.1)]:EL)) (fun p:Int×(List Int)=>([(3003,some (.row 5 1 (p.2.map (eI .u8))))]:OL)) (fun(i:(List Int)) e t u=>e = .exit 0∧Mat B t u ([(3,.sref 3003 1 0 i.length)]:EL) ([(3003,some (.row 5 1 (i.map (eI .u8))))]:OL)) E (Mat.trans (Mat.beginP (n:=3003) (e:=5) (sz:=1) (Ts:=[(3,.sref 3003 1 0 0)]) (Bs:=[]) hB (by decide) (by rfl) (by decide) (TwT.cons (x:=.nils) (by rfl) (Tw.leaf ⟨rfl,rfl⟩) TwT.nil) TwB.nil) (mp [] _ _ hB)) (fun p y h => ?_) (fun e t u hR => ?_)
 ·unfold I2 at h;refine sr (SQ tt) ?_;apply seq;apply AWp.cond rfl<;>intro A
  ·have h:=A5 A h;apply AWp.skip;apply A0;apply seq;apply block;obtain⟨C,F,h⟩:=bindS h;refine sr (SQ (fa F tt)) ?_;obtain⟨s,G,h⟩:=bindS h;refine rg (SQ (fa (cl [(0,3003),(900000,100000)] (A2v p.2 ([bitI .or .i64 (shlI .i64 C.fA 16) C.fB]:List Int) s G)) tt)) ?_;apply D7;apply A0;refine ghost (mp [] [(3,.sref 100000 1 0 s.length),(6,C9 a0),(7,i6 (a0.length:Int)),(8,i6 p.1)] [(100000,some (.row 5 1 (s.map (eI .u8))))] hB) ?_;refine rg (SQ tt) ?_;obtain rfl:=oi h;exact⟨rfl,mp [(3003,100000)] _ _ hB⟩
  ·have h:=A6 A h;apply AWp.exit;apply D6;obtain rfl:=oi h;exact⟨nofun,rfl,mp [] _ _ hB⟩
 ·obtain⟨rfl,H⟩:=hR;apply B9;apply A0;refine ghost H ?_;refine sr (SQ tt) ?_;apply ret;obtain rfl:=oi h;exact rt (Mat.trans (Mat.freezeP (n:=3003) (e:=5) (sz:=1) (es:=i.map (eI .u8)) (Ts:=[(2,.d (.list 1 (i.map (eI .u8))))]) (Bs:=[]) (by rfl) (TwT.cons (x:=(.sref 3003 1 0 i.length)) (by rfl) (FrzL.all (by first | rfl | (simp;done) | (simp;omega) | omega)) TwT.nil) TwB.nil) (mp [] [(2,.d (.list 1 (i.map (eI .u8))))] [] hB)) [.d (.list 1 (i.map (eI .u8)))] (rT rN) rfl
def P7 (a0:(List E7)) (i:Int×(List Int)):Option (List Int⊕(Int×(List Int))):=
 (if (decide (i.1<(a0.length:Int)))=true then
 (idx a0 i.1).bind fun p=>
 (R3 i.2 ([p.fA,p.fB,p.fC]:List Int)).bind fun s=>
 some (.inr (w64 (i.1+1),s))
 else
 some (.inl i.2))
def R5 (a0:(List E7)):Option (List Int):=
 (loop (P7 a0) (0,([]:List Int))).bind fun i=>
 some i
theorem A9o (a0:(List E7)) (r:(List Int)) (h:R5 a0=some r):AC Tryz.prog 180 [.d (.list 3 (a0.map E9))] [] (.d (.list 1 (r.map (eI .u8)))) []:=by
 refine AC.of_code2 Tryz.func180 rfl rfl (Nat.le_of_ble_eq_true (by rfl)) fun B hB hN => ?_;delta R5 at h;refine sr (SQ tt) ?_;refine sr (SQ tt) ?_;apply seq;refine sr (SQ tt) ?_;apply block;obtain⟨i,E,h⟩:=bindS h;refine lg (P7 a0) (fun p:Int×(List Int)=>([(3,.sref 3003 1 0 p.2.length),(6,E8 a0),(7,i6 (a0.length:Int)),(8,i6 p.1)]:EL)) (fun p:Int×(List Int)=>([(3003,some (.row 5 1 (p.2.map (eI .u8))))]:OL)) (fun(i:(List Int)) e u A=>e = .exit 0∧Mat B u A ([(3,.sref 3003 1 0 i.length)]:EL) ([(3003,some (.row 5 1 (i.map (eI .u8))))]:OL)) E (Mat.trans (Mat.beginP (n:=3003) (e:=5) (sz:=1) (Ts:=[(3,.sref 3003 1 0 0)]) (Bs:=[]) hB (by decide) (by rfl) (by decide) (TwT.cons (x:=.nils) (by rfl) (Tw.leaf ⟨rfl,rfl⟩) TwT.nil) TwB.nil) (mp [] _ _ hB)) (fun p y h => ?_) (fun e u A hR => ?_)
 ·unfold P7 at h;refine sr (SQ tt) ?_;apply seq;apply AWp.cond rfl<;>intro C
  ·have h:=A5 C h;apply AWp.skip;apply A0;apply seq;apply block;obtain⟨s,F,h⟩:=bindS h;refine sr (SQ (fa F tt)) ?_;obtain⟨t,G,h⟩:=bindS h;refine rg (SQ (fa (cl [(0,3003),(900000,100000)] (A2v p.2 ([s.fA,s.fB,s.fC]:List Int) t G)) tt)) ?_;apply D7;apply A0;refine ghost (mp [] [(3,.sref 100000 1 0 t.length),(6,E8 a0),(7,i6 (a0.length:Int)),(8,i6 p.1)] [(100000,some (.row 5 1 (t.map (eI .u8))))] hB) ?_;refine rg (SQ tt) ?_;obtain rfl:=oi h;exact⟨rfl,mp [(3003,100000)] _ _ hB⟩
  ·have h:=A6 C h;apply AWp.exit;apply D6;obtain rfl:=oi h;exact⟨nofun,rfl,mp [] _ _ hB⟩
 ·obtain⟨rfl,H⟩:=hR;apply B9;apply A0;refine ghost H ?_;refine sr (SQ tt) ?_;apply ret;obtain rfl:=oi h;exact rt (Mat.trans (Mat.freezeP (n:=3003) (e:=5) (sz:=1) (es:=i.map (eI .u8)) (Ts:=[(2,.d (.list 1 (i.map (eI .u8))))]) (Bs:=[]) (by rfl) (TwT.cons (x:=(.sref 3003 1 0 i.length)) (by rfl) (FrzL.all (by first | rfl | (simp;done) | (simp;omega) | omega)) TwT.nil) TwB.nil) (mp [] [(2,.d (.list 1 (i.map (eI .u8))))] [] hB)) [.d (.list 1 (i.map (eI .u8)))] (rT rN) rfl
def A10 (a0:(List Int)):Option (List Int):=chk (decide (a0.length≤LIM))<|
 some a0
theorem A6u (a0:(List Int)) (r:List Int) (h:A10 a0=some r):AC Tryz.prog 181 [.d (.list 1 (a0.map (eI .u8)))] [] (.d (.list 1 (r.map (eI .u8)))) []:=by
 obtain⟨hc,h⟩:=B2 h;obtain rfl:=oi h;exact AC.cloneD cloneOk181 (by rw [List.length_map];exact A0i hc (by decide)) (A5t (f:=(eI .u8)) (fun _=>rfl))
def K5 (a0:A3) (a1:A3):Option (Int):=
 (K4 a0.fType a1.fType).bind fun i=>
 some i
theorem A8m (a0:A3) (a1:A3) (r:Int) (h:K5 a0 a1=some r):AC Tryz.prog 182 [.d (B6 a0),.d (B6 a1)] [] (.d (.int .i64 r)) []:=by
 refine AC.of_code2 Tryz.func182 rfl rfl (Nat.le_of_ble_eq_true (by rfl)) fun B hB hN => ?_;delta K5 at h;refine sr (SQ tt) ?_;obtain⟨i,p,h⟩:=bindS h;refine sr (SQ (fa (cl [] (L6 a0.fType a1.fType i p)) tt)) ?_;apply ret;obtain rfl:=oi h;exact rt (kp [(4,_)] [] hB rfl rfl (by rfl)) [i6 i] (rT rN) rfl
end
end Go.Proofs.YtplbaenjbihekaaGreatDoor
