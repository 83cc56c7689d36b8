/- The statement 'PaceQueuesUpto' holds of every input that is not larger than the statement itself says, and the package variables that it lists are laid by the text: no condition beyond that. -/
import Derived.Test.YtplbaenjbihekaaGreatDoorRows
import Derived.Test.YtplbaenjbihekaaGreatDoorCards
import Derived.Test.YtplbaenjbihekaaGreatDoorTie
import Derived.SevenTiedAt
import Derived.Stop.Joined
import Derived.Test.YtplbaenjbihekaaGreatDoorVcPm
import Derived.Test.YtplbaenjbihekaaGreatDoorVcPu
import Derived.Deep.DeepHandedRow
import Derived.Test.YtplbaenjbihekaaGreatDoorFns
import Derived.Test.YtplbaenjbihekaaGreatDoorPureZA
import Derived.Test.YtplbaenjbihekaaGreatDoorPureZB
import Derived.Test.YtplbaenjbihekaaGreatDoorPureZC
import Derived.Test.YtplbaenjbihekaaGreatDoorPureZD
namespace Go.Proofs.YtplbaenjbihekaaGreatDoor
open Go Go.Vc Go.ChangeShapes Go.WideShapes Go.ChangeAt Go.RowKit
theorem own:ownKnob Tryz.prog.godebug=none:=by kernel_rfl
theorem laid:laidOutB Tryz.prog=true:=by kernel_rfl
def laidL:List (String×DataW Unit):=[("exchangepoint/attribute.flags",Rows.laid_exchangepoint_attribute_flags)]
theorem C0h (os:Os) (args:Array Value):laidMetH Tryz.prog laidL ((World.doorLaid Tryz.prog 54 os).forCall (fun _ _=>0) ⟨#[],args,[]⟩).memory :=
 laidMetH_of_parts3 (fuel:=8) (laidMet_of_run' 8 (by kernel_rfl) (by kernel_rfl)) (by kernel_rfl) (by kernel_rfl)
set_option maxRecDepth 100000 in
theorem glob0 {W:World} (h:laidMetH Tryz.prog laidL W):(globD 0 (.imap gv0)).holds (Zw W) W :=
 B9h (es:=gv0) h List.mem_cons_self (by kernel_rfl) (by kernel_rfl) Tryz.underlying210 Tryz.underlying3 Tryz.underlying3 (by decide)
def knows:List (Nat×Know):=[(500,globD 0 (.imap gv0))]
theorem C36 {H:Type} (d:DataW H):1≤Rows.uptoBulk d:=by
 cases d with
 | lit l=>cases l<;>simp [Rows.uptoBulk]
 | _=>simp [Rows.uptoBulk]
theorem C0i {H:Type} {d:DataW H}:∀ {l:List (DataW H)},d∈l→Rows.uptoBulk d≤Rows.uptoBulkAll l
 | x :: l,h=>by
  simp only [Rows.uptoBulkAll];rcases List.mem_cons.1 h with h | h
  ·rw [h];omega
  ·have:=C0i h;omega
theorem C0j {H:Type}:∀ l:List (DataW H),l.length≤Rows.uptoBulkAll l
 | []=>Nat.zero_le _
 | d :: l=>by
  have h1:=C36 d;have h2:=C0j l;simp only [Rows.uptoBulkAll,List.length_cons];omega
/-- the measure that the statement takes -/
def bulkU:Bulk:=⟨fun _=>Rows.uptoBulk,fun _=>Rows.uptoBulkAll,fun _ _ _ h=>C0i h,fun _ l=>C0j l,fun _ es sp=>by simp only [Rows.uptoBulk];omega,fun _ ps=>by simp only [Rows.uptoBulk];omega⟩
theorem C3j {H:Type} {l:List (DataW H)} (h:Rows.uptoSmall H l=true):bulkU.all H l≤1048576:=of_decide_eq_true h
-- the greatest size of an input: 1048576
theorem cells3:Tryz.prog.cellsOf 3=1:=by kernel_rfl
theorem rd3:RdU bulkU 1048576 Tryz.prog 3 1 false (fun d=>∃ x:Int,(IntKind.i64.min≤x∧x≤IntKind.i64.max)∧d=(eI .i64) x) :=
 (Rd.int Tryz.underlying3 cells3).u
theorem cells4:Tryz.prog.cellsOf 4=1:=by kernel_rfl
theorem rd4:RdU bulkU 1048576 Tryz.prog 4 1 false (fun d=>∃ x:Bool,True∧d=eB x) :=
 (Rd.bool Tryz.underlying4 cells4).u
theorem cells29:Tryz.prog.cellsOf 29=1:=by kernel_rfl
theorem rd29:RdU bulkU 1048576 Tryz.prog 29 1 false (fun d=>∃ x:Int,(IntKind.u64.min≤x∧x≤IntKind.u64.max)∧d=(eI .u64) x) :=
 (Rd.int Tryz.underlying29 cells29).u
def q31 (x:E5):Prop:=(True)∧(IntKind.u64.min≤x.fHi∧x.fHi≤IntKind.u64.max)∧(IntKind.u64.min≤x.fLo∧x.fLo≤IntKind.u64.max)∧True
theorem cells31:Tryz.prog.cellsOf 31=3:=by kernel_rfl
theorem rd31:RdU bulkU 1048576 Tryz.prog 31 3 true (fun d=>∃ x:E5,q31 x∧d=E4 x) :=
 RdU.st (ps:=[(fun d=>∃ x:Bool,True∧d=eB x),(fun d=>∃ x:Int,(IntKind.u64.min≤x∧x≤IntKind.u64.max)∧d=(eI .u64) x),(fun d=>∃ x:Int,(IntKind.u64.min≤x∧x≤IntKind.u64.max)∧d=(eI .u64) x)]) Tryz.underlying31 rfl cells31 (.cons rfl rd4 (.cons rfl rd29 (.cons rfl rd29 .nil))) (fun ds h=>by
  obtain⟨_,ds0,rfl,⟨x0,k0,rfl⟩,h0⟩:=FA.cons h;obtain⟨_,ds1,rfl,⟨x1,k1,rfl⟩,h1⟩:=FA.cons h0;obtain⟨_,ds2,rfl,⟨x2,k2,rfl⟩,h2⟩:=FA.cons h1;obtain rfl:=FA.nil h2;exact⟨⟨x0,x1,x2⟩,⟨k0,k1,k2,trivial⟩,rfl⟩) (fun d ⟨x,k,h⟩=>by
  subst h;obtain⟨k0,k1,k2,_⟩:=k;exact⟨_,rfl,⟨⟨_,k0,rfl⟩,⟨⟨_,k1,rfl⟩,⟨⟨_,k2,rfl⟩,trivial⟩⟩⟩⟩)
def q33 (x:A2):Prop:=(q31 x.fAddr)∧(IntKind.i64.min≤x.fLen∧x.fLen≤IntKind.i64.max)∧True
theorem cells33:Tryz.prog.cellsOf 33=4:=by kernel_rfl
theorem rd33:RdU bulkU 1048576 Tryz.prog 33 4 true (fun d=>∃ x:A2,q33 x∧d=B0 x) :=
 RdU.st (ps:=[(fun d=>∃ x:E5,q31 x∧d=E4 x),(fun d=>∃ x:Int,(IntKind.i64.min≤x∧x≤IntKind.i64.max)∧d=(eI .i64) x)]) Tryz.underlying33 rfl cells33 (.cons rfl rd31 (.cons rfl rd3 .nil)) (fun ds h=>by
  obtain⟨_,ds0,rfl,⟨x0,k0,rfl⟩,h0⟩:=FA.cons h;obtain⟨_,ds1,rfl,⟨x1,k1,rfl⟩,h1⟩:=FA.cons h0;obtain rfl:=FA.nil h1;exact⟨⟨x0,x1⟩,⟨k0,k1,trivial⟩,rfl⟩) (fun d ⟨x,k,h⟩=>by
  subst h;obtain⟨k0,k1,_⟩:=k;exact⟨_,rfl,⟨⟨_,k0,rfl⟩,⟨⟨_,k1,rfl⟩,trivial⟩⟩⟩)
def q27 (x:(List Int)):Prop:=(∀ y∈x,(IntKind.i64.min≤y∧y≤IntKind.i64.max))∧x.length≤maxLen∧x.length≤1048576
theorem cells27:Tryz.prog.cellsOf 27=1:=by kernel_rfl
theorem rd27:RdU bulkU 1048576 Tryz.prog 27 1 false (fun d=>∃ x:(List Int),q27 x∧d=(.list 1 (x.map (eI .i64)))) :=
 RdU.list Tryz.underlying27 cells27 (by decide) rd3
def q75 (x:B4):Prop:=(True)∧(q27 x.fASNs)∧True
theorem cells75:Tryz.prog.cellsOf 75=2:=by kernel_rfl
theorem rd75:RdU bulkU 1048576 Tryz.prog 75 2 true (fun d=>∃ x:B4,q75 x∧d=D2 x) :=
 RdU.st (ps:=[(fun d=>∃ x:Bool,True∧d=eB x),(fun d=>∃ x:(List Int),q27 x∧d=(.list 1 (x.map (eI .i64))))]) Tryz.underlying75 rfl cells75 (.cons rfl rd4 (.cons rfl rd27 .nil)) (fun ds h=>by
  obtain⟨_,ds0,rfl,⟨x0,k0,rfl⟩,h0⟩:=FA.cons h;obtain⟨_,ds1,rfl,⟨x1,k1,rfl⟩,h1⟩:=FA.cons h0;obtain rfl:=FA.nil h1;exact⟨⟨x0,x1⟩,⟨k0,k1,trivial⟩,rfl⟩) (fun d ⟨x,k,h⟩=>by
  subst h;obtain⟨k0,k1,_⟩:=k;exact⟨_,rfl,⟨⟨_,k0,rfl⟩,⟨⟨_,k1,rfl⟩,trivial⟩⟩⟩)
def q34 (x:(List B4)):Prop:=(∀ y∈x,q75 y)∧x.length≤maxLen∧x.length≤1048576
theorem cells34:Tryz.prog.cellsOf 34=1:=by kernel_rfl
theorem rd34:RdU bulkU 1048576 Tryz.prog 34 1 false (fun d=>∃ x:(List B4),q34 x∧d=(.list 2 (x.map D2))) :=
 RdU.list Tryz.underlying34 cells34 (by decide) rd75
def q132 (x:B5):Prop:=(IntKind.i64.min≤x.fA∧x.fA≤IntKind.i64.max)∧(IntKind.i64.min≤x.fB∧x.fB≤IntKind.i64.max)∧True
theorem cells132:Tryz.prog.cellsOf 132=2:=by kernel_rfl
theorem rd132:RdU bulkU 1048576 Tryz.prog 132 2 true (fun d=>∃ x:B5,q132 x∧d=C5 x) :=
 RdU.st (ps:=[(fun d=>∃ x:Int,(IntKind.i64.min≤x∧x≤IntKind.i64.max)∧d=(eI .i64) x),(fun d=>∃ x:Int,(IntKind.i64.min≤x∧x≤IntKind.i64.max)∧d=(eI .i64) x)]) Tryz.underlying132 rfl cells132 (.cons rfl rd3 (.cons rfl rd3 .nil)) (fun ds h=>by
  obtain⟨_,ds0,rfl,⟨x0,k0,rfl⟩,h0⟩:=FA.cons h;obtain⟨_,ds1,rfl,⟨x1,k1,rfl⟩,h1⟩:=FA.cons h0;obtain rfl:=FA.nil h1;exact⟨⟨x0,x1⟩,⟨k0,k1,trivial⟩,rfl⟩) (fun d ⟨x,k,h⟩=>by
  subst h;obtain⟨k0,k1,_⟩:=k;exact⟨_,rfl,⟨⟨_,k0,rfl⟩,⟨⟨_,k1,rfl⟩,trivial⟩⟩⟩)
def q35 (x:(List B5)):Prop:=(∀ y∈x,q132 y)∧x.length≤maxLen∧x.length≤1048576
theorem cells35:Tryz.prog.cellsOf 35=1:=by kernel_rfl
theorem rd35:RdU bulkU 1048576 Tryz.prog 35 1 false (fun d=>∃ x:(List B5),q35 x∧d=(.list 2 (x.map C5))) :=
 RdU.list Tryz.underlying35 cells35 (by decide) rd132
def q134 (x:E7):Prop:=(IntKind.i64.min≤x.fA∧x.fA≤IntKind.i64.max)∧(IntKind.i64.min≤x.fB∧x.fB≤IntKind.i64.max)∧(IntKind.i64.min≤x.fC∧x.fC≤IntKind.i64.max)∧True
theorem cells134:Tryz.prog.cellsOf 134=3:=by kernel_rfl
theorem rd134:RdU bulkU 1048576 Tryz.prog 134 3 true (fun d=>∃ x:E7,q134 x∧d=E9 x) :=
 RdU.st (ps:=[(fun d=>∃ x:Int,(IntKind.i64.min≤x∧x≤IntKind.i64.max)∧d=(eI .i64) x),(fun d=>∃ x:Int,(IntKind.i64.min≤x∧x≤IntKind.i64.max)∧d=(eI .i64) x),(fun d=>∃ x:Int,(IntKind.i64.min≤x∧x≤IntKind.i64.max)∧d=(eI .i64) x)]) Tryz.underlying134 rfl cells134 (.cons rfl rd3 (.cons rfl rd3 (.cons rfl rd3 .nil))) (fun ds h=>by
  obtain⟨_,ds0,rfl,⟨x0,k0,rfl⟩,h0⟩:=FA.cons h;obtain⟨_,ds1,rfl,⟨x1,k1,rfl⟩,h1⟩:=FA.cons h0;obtain⟨_,ds2,rfl,⟨x2,k2,rfl⟩,h2⟩:=FA.cons h1;obtain rfl:=FA.nil h2;exact⟨⟨x0,x1,x2⟩,⟨k0,k1,k2,trivial⟩,rfl⟩) (fun d ⟨x,k,h⟩=>by
  subst h;obtain⟨k0,k1,k2,_⟩:=k;exact⟨_,rfl,⟨⟨_,k0,rfl⟩,⟨⟨_,k1,rfl⟩,⟨⟨_,k2,rfl⟩,trivial⟩⟩⟩⟩)
def q36 (x:(List E7)):Prop:=(∀ y∈x,q134 y)∧x.length≤maxLen∧x.length≤1048576
theorem cells36:Tryz.prog.cellsOf 36=1:=by kernel_rfl
theorem rd36:RdU bulkU 1048576 Tryz.prog 36 1 false (fun d=>∃ x:(List E7),q36 x∧d=(.list 3 (x.map E9))) :=
 RdU.list Tryz.underlying36 cells36 (by decide) rd134
theorem cells5:Tryz.prog.cellsOf 5=1:=by kernel_rfl
theorem rd5:RdU bulkU 1048576 Tryz.prog 5 1 false (fun d=>∃ x:Int,(IntKind.u8.min≤x∧x≤IntKind.u8.max)∧d=(eI .u8) x) :=
 (Rd.int Tryz.underlying5 cells5).u
def q76 (x:(List Int)):Prop:=(∀ y∈x,(IntKind.u8.min≤y∧y≤IntKind.u8.max))∧x.length≤maxLen∧x.length≤1048576
theorem cells76:Tryz.prog.cellsOf 76=1:=by kernel_rfl
theorem rd76:RdU bulkU 1048576 Tryz.prog 76 1 false (fun d=>∃ x:(List Int),q76 x∧d=(.list 1 (x.map (eI .u8)))) :=
 RdU.list Tryz.underlying76 cells76 (by decide) rd5
def q78 (x:A3):Prop:=(IntKind.i64.min≤x.fFlags∧x.fFlags≤IntKind.i64.max)∧(IntKind.i64.min≤x.fType∧x.fType≤IntKind.i64.max)∧(q76 x.fData)∧True
theorem cells78:Tryz.prog.cellsOf 78=3:=by kernel_rfl
theorem rd78:RdU bulkU 1048576 Tryz.prog 78 3 true (fun d=>∃ x:A3,q78 x∧d=B6 x) :=
 RdU.st (ps:=[(fun d=>∃ x:Int,(IntKind.i64.min≤x∧x≤IntKind.i64.max)∧d=(eI .i64) x),(fun d=>∃ x:Int,(IntKind.i64.min≤x∧x≤IntKind.i64.max)∧d=(eI .i64) x),(fun d=>∃ x:(List Int),q76 x∧d=(.list 1 (x.map (eI .u8))))]) Tryz.underlying78 rfl cells78 (.cons rfl rd3 (.cons rfl rd3 (.cons rfl rd76 .nil))) (fun ds h=>by
  obtain⟨_,ds0,rfl,⟨x0,k0,rfl⟩,h0⟩:=FA.cons h;obtain⟨_,ds1,rfl,⟨x1,k1,rfl⟩,h1⟩:=FA.cons h0;obtain⟨_,ds2,rfl,⟨x2,k2,rfl⟩,h2⟩:=FA.cons h1;obtain rfl:=FA.nil h2;exact⟨⟨x0,x1,x2⟩,⟨k0,k1,k2,trivial⟩,rfl⟩) (fun d ⟨x,k,h⟩=>by
  subst h;obtain⟨k0,k1,k2,_⟩:=k;exact⟨_,rfl,⟨⟨_,k0,rfl⟩,⟨⟨_,k1,rfl⟩,⟨⟨_,k2,rfl⟩,trivial⟩⟩⟩⟩)
def q37 (x:(List A3)):Prop:=(∀ y∈x,q78 y)∧x.length≤maxLen∧x.length≤1048576
theorem cells37:Tryz.prog.cellsOf 37=1:=by kernel_rfl
theorem rd37:RdU bulkU 1048576 Tryz.prog 37 1 false (fun d=>∃ x:(List A3),q37 x∧d=(.list 3 (x.map B6))) :=
 RdU.list Tryz.underlying37 cells37 (by decide) rd78
def q39 (x:C2):Prop:=(IntKind.i64.min≤x.fOrigin∧x.fOrigin≤IntKind.i64.max)∧(q34 x.fPath)∧(q31 x.fNext)∧(IntKind.i64.min≤x.fMED∧x.fMED≤IntKind.i64.max)∧(IntKind.i64.min≤x.fPref∧x.fPref≤IntKind.i64.max)∧(IntKind.i64.min≤x.fOTC∧x.fOTC≤IntKind.i64.max)∧(q35 x.fCommunities)∧(q36 x.fLarge)∧(q37 x.fOther)∧True
theorem cells39:Tryz.prog.cellsOf 39=11:=by kernel_rfl
theorem rd39:RdU bulkU 1048576 Tryz.prog 39 11 true (fun d=>∃ x:C2,q39 x∧d=C8 x) :=
 RdU.st (ps:=[(fun d=>∃ x:Int,(IntKind.i64.min≤x∧x≤IntKind.i64.max)∧d=(eI .i64) x),(fun d=>∃ x:(List B4),q34 x∧d=(.list 2 (x.map D2))),(fun d=>∃ x:E5,q31 x∧d=E4 x),(fun d=>∃ x:Int,(IntKind.i64.min≤x∧x≤IntKind.i64.max)∧d=(eI .i64) x),(fun d=>∃ x:Int,(IntKind.i64.min≤x∧x≤IntKind.i64.max)∧d=(eI .i64) x),(fun d=>∃ x:Int,(IntKind.i64.min≤x∧x≤IntKind.i64.max)∧d=(eI .i64) x),(fun d=>∃ x:(List B5),q35 x∧d=(.list 2 (x.map C5))),(fun d=>∃ x:(List E7),q36 x∧d=(.list 3 (x.map E9))),(fun d=>∃ x:(List A3),q37 x∧d=(.list 3 (x.map B6)))]) Tryz.underlying39 rfl cells39 (.cons rfl rd3 (.cons rfl rd34 (.cons rfl rd31 (.cons rfl rd3 (.cons rfl rd3 (.cons rfl rd3 (.cons rfl rd35 (.cons rfl rd36 (.cons rfl rd37 .nil))))))))) (fun ds h=>by
  obtain⟨_,ds0,rfl,⟨x0,k0,rfl⟩,h0⟩:=FA.cons h;obtain⟨_,ds1,rfl,⟨x1,k1,rfl⟩,h1⟩:=FA.cons h0;obtain⟨_,ds2,rfl,⟨x2,k2,rfl⟩,h2⟩:=FA.cons h1;obtain⟨_,ds3,rfl,⟨x3,k3,rfl⟩,h3⟩:=FA.cons h2;obtain⟨_,ds4,rfl,⟨x4,k4,rfl⟩,h4⟩:=FA.cons h3;obtain⟨_,ds5,rfl,⟨x5,k5,rfl⟩,h5⟩:=FA.cons h4;obtain⟨_,ds6,rfl,⟨x6,k6,rfl⟩,h6⟩:=FA.cons h5;obtain⟨_,ds7,rfl,⟨x7,k7,rfl⟩,h7⟩:=FA.cons h6;obtain⟨_,ds8,rfl,⟨x8,k8,rfl⟩,h8⟩:=FA.cons h7;obtain rfl:=FA.nil h8;exact⟨⟨x0,x1,x2,x3,x4,x5,x6,x7,x8⟩,⟨k0,k1,k2,k3,k4,k5,k6,k7,k8,trivial⟩,rfl⟩) (fun d ⟨x,k,h⟩=>by
  subst h;obtain⟨k0,k1,k2,k3,k4,k5,k6,k7,k8,_⟩:=k;exact⟨_,rfl,⟨⟨_,k0,rfl⟩,⟨⟨_,k1,rfl⟩,⟨⟨_,k2,rfl⟩,⟨⟨_,k3,rfl⟩,⟨⟨_,k4,rfl⟩,⟨⟨_,k5,rfl⟩,⟨⟨_,k6,rfl⟩,⟨⟨_,k7,rfl⟩,⟨⟨_,k8,rfl⟩,trivial⟩⟩⟩⟩⟩⟩⟩⟩⟩⟩)
def q41 (x:D5):Prop:=(q33 x.fPrefix)∧(IntKind.i64.min≤x.fFrom∧x.fFrom≤IntKind.i64.max)∧(q39 x.fAttrs)∧True
theorem cells41:Tryz.prog.cellsOf 41=16:=by kernel_rfl
theorem rd41:RdU bulkU 1048576 Tryz.prog 41 16 true (fun d=>∃ x:D5,q41 x∧d=G6 x) :=
 RdU.st (ps:=[(fun d=>∃ x:A2,q33 x∧d=B0 x),(fun d=>∃ x:Int,(IntKind.i64.min≤x∧x≤IntKind.i64.max)∧d=(eI .i64) x),(fun d=>∃ x:C2,q39 x∧d=C8 x)]) Tryz.underlying41 rfl cells41 (.cons rfl rd33 (.cons rfl rd3 (.cons rfl rd39 .nil))) (fun ds h=>by
  obtain⟨_,ds0,rfl,⟨x0,k0,rfl⟩,h0⟩:=FA.cons h;obtain⟨_,ds1,rfl,⟨x1,k1,rfl⟩,h1⟩:=FA.cons h0;obtain⟨_,ds2,rfl,⟨x2,k2,rfl⟩,h2⟩:=FA.cons h1;obtain rfl:=FA.nil h2;exact⟨⟨x0,x1,x2⟩,⟨k0,k1,k2,trivial⟩,rfl⟩) (fun d ⟨x,k,h⟩=>by
  subst h;obtain⟨k0,k1,k2,_⟩:=k;exact⟨_,rfl,⟨⟨_,k0,rfl⟩,⟨⟨_,k1,rfl⟩,⟨⟨_,k2,rfl⟩,trivial⟩⟩⟩⟩)
def q43 (x:A1):Prop:=(IntKind.i64.min≤x.fTo∧x.fTo≤IntKind.i64.max)∧(q33 x.fPrefix)∧(True)∧(q41 x.fRoute)∧True
theorem cells43:Tryz.prog.cellsOf 43=22:=by kernel_rfl
theorem rd43:RdU bulkU 1048576 Tryz.prog 43 22 true (fun d=>∃ x:A1,q43 x∧d=A8 x) :=
 RdU.st (ps:=[(fun d=>∃ x:Int,(IntKind.i64.min≤x∧x≤IntKind.i64.max)∧d=(eI .i64) x),(fun d=>∃ x:A2,q33 x∧d=B0 x),(fun d=>∃ x:Bool,True∧d=eB x),(fun d=>∃ x:D5,q41 x∧d=G6 x)]) Tryz.underlying43 rfl cells43 (.cons rfl rd3 (.cons rfl rd33 (.cons rfl rd4 (.cons rfl rd41 .nil)))) (fun ds h=>by
  obtain⟨_,ds0,rfl,⟨x0,k0,rfl⟩,h0⟩:=FA.cons h;obtain⟨_,ds1,rfl,⟨x1,k1,rfl⟩,h1⟩:=FA.cons h0;obtain⟨_,ds2,rfl,⟨x2,k2,rfl⟩,h2⟩:=FA.cons h1;obtain⟨_,ds3,rfl,⟨x3,k3,rfl⟩,h3⟩:=FA.cons h2;obtain rfl:=FA.nil h3;exact⟨⟨x0,x1,x2,x3⟩,⟨k0,k1,k2,k3,trivial⟩,rfl⟩) (fun d ⟨x,k,h⟩=>by
  subst h;obtain⟨k0,k1,k2,k3,_⟩:=k;exact⟨_,rfl,⟨⟨_,k0,rfl⟩,⟨⟨_,k1,rfl⟩,⟨⟨_,k2,rfl⟩,⟨⟨_,k3,rfl⟩,trivial⟩⟩⟩⟩⟩)
def q22 (x:(List A1)):Prop:=(∀ y∈x,q43 y)∧x.length≤maxLen∧x.length≤1048576
theorem cells22:Tryz.prog.cellsOf 22=1:=by kernel_rfl
theorem rd22:RdU bulkU 1048576 Tryz.prog 22 1 false (fun d=>∃ x:(List A1),q22 x∧d=(.list 22 (x.map A8))) :=
 RdU.list Tryz.underlying22 cells22 (by decide) rd43
def q24 (x:D9):Prop:=(IntKind.i64.min≤x.fLevel∧x.fLevel≤IntKind.i64.max)∧(IntKind.i64.min≤x.fRate∧x.fRate≤IntKind.i64.max)∧(IntKind.i64.min≤x.fBurst∧x.fBurst≤IntKind.i64.max)∧True
theorem cells24:Tryz.prog.cellsOf 24=3:=by kernel_rfl
theorem rd24:RdU bulkU 1048576 Tryz.prog 24 3 true (fun d=>∃ x:D9,q24 x∧d=C1 x) :=
 RdU.st (ps:=[(fun d=>∃ x:Int,(IntKind.i64.min≤x∧x≤IntKind.i64.max)∧d=(eI .i64) x),(fun d=>∃ x:Int,(IntKind.i64.min≤x∧x≤IntKind.i64.max)∧d=(eI .i64) x),(fun d=>∃ x:Int,(IntKind.i64.min≤x∧x≤IntKind.i64.max)∧d=(eI .i64) x)]) Tryz.underlying24 rfl cells24 (.cons rfl rd3 (.cons rfl rd3 (.cons rfl rd3 .nil))) (fun ds h=>by
  obtain⟨_,ds0,rfl,⟨x0,k0,rfl⟩,h0⟩:=FA.cons h;obtain⟨_,ds1,rfl,⟨x1,k1,rfl⟩,h1⟩:=FA.cons h0;obtain⟨_,ds2,rfl,⟨x2,k2,rfl⟩,h2⟩:=FA.cons h1;obtain rfl:=FA.nil h2;exact⟨⟨x0,x1,x2⟩,⟨k0,k1,k2,trivial⟩,rfl⟩) (fun d ⟨x,k,h⟩=>by
  subst h;obtain⟨k0,k1,k2,_⟩:=k;exact⟨_,rfl,⟨⟨_,k0,rfl⟩,⟨⟨_,k1,rfl⟩,⟨⟨_,k2,rfl⟩,trivial⟩⟩⟩⟩)
def q26 (x:C3):Prop:=(q22 x.fPending)∧(q24 x.fBucket)∧True
theorem cells26:Tryz.prog.cellsOf 26=4:=by kernel_rfl
theorem rd26:RdU bulkU 1048576 Tryz.prog 26 4 true (fun d=>∃ x:C3,q26 x∧d=D4 x) :=
 RdU.st (ps:=[(fun d=>∃ x:(List A1),q22 x∧d=(.list 22 (x.map A8))),(fun d=>∃ x:D9,q24 x∧d=C1 x)]) Tryz.underlying26 rfl cells26 (.cons rfl rd22 (.cons rfl rd24 .nil)) (fun ds h=>by
  obtain⟨_,ds0,rfl,⟨x0,k0,rfl⟩,h0⟩:=FA.cons h;obtain⟨_,ds1,rfl,⟨x1,k1,rfl⟩,h1⟩:=FA.cons h0;obtain rfl:=FA.nil h1;exact⟨⟨x0,x1⟩,⟨k0,k1,trivial⟩,rfl⟩) (fun d ⟨x,k,h⟩=>by
  subst h;obtain⟨k0,k1,_⟩:=k;exact⟨_,rfl,⟨⟨_,k0,rfl⟩,⟨⟨_,k1,rfl⟩,trivial⟩⟩⟩)
theorem C37 (xs:List D) (h:FA [(fun d=>∃ x:C3,q26 x∧d=D4 x),(fun d=>∃ x:(List A1),q22 x∧d=(.list 22 (x.map A8))),(fun d=>∃ x:(List Int),q27 x∧d=(.list 1 (x.map (eI .i64)))),(fun d=>∃ x:Int,(IntKind.i64.min≤x∧x≤IntKind.i64.max)∧d=(eI .i64) x),(fun d=>∃ x:Int,(IntKind.i64.min≤x∧x≤IntKind.i64.max)∧d=(eI .i64) x)] xs):AC Tryz.prog 3 (xs.map .d) (knowP knows) (.d (.bool true)) (knowO knows):=by
 obtain⟨_,xs0,rfl,⟨a0,k0,rfl⟩,h0⟩:=FA.cons h;obtain⟨_,xs1,rfl,⟨a1,k1,rfl⟩,h1⟩:=FA.cons h0;obtain⟨_,xs2,rfl,⟨a2,k2,rfl⟩,h2⟩:=FA.cons h1;obtain⟨_,xs3,rfl,⟨a3,k3,rfl⟩,h3⟩:=FA.cons h2;obtain⟨_,xs4,rfl,⟨a4,k4,rfl⟩,h4⟩:=FA.cons h3;obtain rfl:=FA.nil h4;exact A90 a0 a1 a2 a3 a4 true (B83 a0 k0 a1 k1 a2 k2 a3 k3 a4 k4)
theorem read3:Program.readableRec Tryz.prog 3=true∧3<Tryz.prog.types.size:=⟨by kernel_rfl,of_decide_eq_true (by kernel_rfl)⟩
theorem read22:Program.readableRec Tryz.prog 22=true∧22<Tryz.prog.types.size:=⟨by kernel_rfl,of_decide_eq_true (by kernel_rfl)⟩
theorem read26:Program.readableRec Tryz.prog 26=true∧26<Tryz.prog.types.size:=⟨by kernel_rfl,of_decide_eq_true (by kernel_rfl)⟩
theorem read27:Program.readableRec Tryz.prog 27=true∧27<Tryz.prog.types.size:=⟨by kernel_rfl,of_decide_eq_true (by kernel_rfl)⟩
theorem reads:∀ t∈([26,22,27,3,3]:List TypeId),Program.readableRec Tryz.prog t=true∧t<Tryz.prog.types.size:=by
 intro t ht;cases ht with
 | head=>exact read26
 | tail _ ht =>
 cases ht with
 | head=>exact read22
 | tail _ ht =>
 cases ht with
 | head=>exact read27
 | tail _ ht =>
 cases ht with
 | head=>exact read3
 | tail _ ht =>
 cases ht with
 | head=>exact read3
 | tail _ ht =>
 cases ht
set_option maxRecDepth 100000 in
theorem lifted (os:Os) (started:os.Started) (H:Type) (enc:TypeId×Value→H) (F:Stop.Interp) :
  ReturnsInHanded {} Tryz.checked os 3 .any ((Rows.OpenSpec.upto Rows.paceQueuesSpec).preRow enc Tryz.prog Tryz.f3 [] false laidL) (((Rows.OpenSpec.upto Rows.paceQueuesSpec).at F).post enc Tryz.prog Tryz.f3 false true false false):=by
 refine returnsInHanded_of_row (C:=Tryz.checked) (F:=F) own started (by kernel_rfl) Tryz.func3
  ⟨World.doorLaid Tryz.prog 54 os,fun _ _=>0,⟨#[],#[.agg #[.slice none 0 0,.int .i64 0,.int .i64 0,.int .i64 0],.slice none 0 0,.slice none 0 0,.int .i64 0,.int .i64 0],[]⟩,rfl,World.shaped_of_RefB (by kernel_rfl) (by kernel_rfl),rfl,(Input.okWide_of_okWideB (by kernel_rfl)).2,⟨⟨?_,C0h os _⟩,sizedMet_of_sizedB (fuel:=8) (by kernel_rfl)⟩,by simp only [Assume.holds];exact⟨by simp,by simp,by simp,by simp,by simp⟩⟩ ?_
 ·obtain⟨ds,gs,before,h1,h2⟩:=B7h (enc:=enc) (P:=Tryz.prog) (w:=((World.doorLaid Tryz.prog 54 os).forCall (fun _ _=>0) ⟨#[],#[.agg #[.slice none 0 0,.int .i64 0,.int .i64 0,.int .i64 0],.slice none 0 0,.slice none 0 0,.int .i64 0,.int .i64 0],[]⟩).memory) (ts:=[26,22,27,3,3]) (vars:=[]) (apart:=false) (vs:=[.agg #[.slice none 0 0,.int .i64 0,.int .i64 0,.int .i64 0],.slice none 0 0,.slice none 0 0,.int .i64 0,.int .i64 0]) 8 (k:=Rows.uptoSmall H) (by kernel_rfl);exact(OpenSpec.pre_some rfl [] false _ _).2 ⟨ds,gs,before,h1,rfl,h2⟩
 intro W base args ds gs before hval0 hW _ hcnd _ hL _ _;have hk:∀ p∈knows,p.2.holds (Zw W) W:=fun p hp=>by
  cases hp with
  | head=>exact glob0 hL
  | tail _ hp=>cases hp
 exact B7i (P:=Tryz.prog) (ts:=[26,22,27,3,3]) (tb:=4) knows hk hval0 hW rfl rfl (C3j (hcnd _ rfl)) (.cons rd26 (.cons rd22 (.cons rd27 (.cons rd3 (.cons rd3 .nil))))) Tryz.underlying4 (by kernel_rfl) laid reads
  (fun ds hl=>by match ds,hl with | [_,_,_,_,_],_=>rfl) C37
theorem B9k:Rows.PaceQueuesUptoSaid :=
 OpenClaim.holds_of_cond 3 Tryz.f3 rfl rfl rfl rfl rfl rfl rfl ⟨rfl,rfl,rfl,rfl,rfl⟩ rfl rfl rfl rfl rfl (by kernel_rfl) Tryz.func3 (by kernel_rfl)
  (of_decide_eq_true (by kernel_rfl)) (by unfold Func.isWrapper;first | (rw [if_pos (by decide +kernel)];kernel_rfl) | (rw [if_neg (by decide +kernel)];exact⟨rfl,rfl⟩))
  (fun os started H enc _ F=>by rw [OpenClaim.pre_eq_preRow];exact lifted os started H enc F)
theorem holds:Rows.PaceQueuesUptoCardSaid :=
 Claim7.holds_tied_plain_at .later [] [.mapped] true (true,"dc8ec4b95f455f2f2118e4371918e4fdbf8e6c478bb07f33daa0cc64fb0d5ece") false
  B9k (fun _ h=>by cases h) (by kernel_rfl) (fun _ h=>by cases h) paceQueuesUpto_row_tie rfl ⟨rfl,rfl⟩ (by kernel_rfl) rfl
  (fun f fn hf hfn=>by
   obtain rfl:f=3:=Option.some.inj ((show Tryz.prog.funcNamed "exchangepoint/exchangepointlaw31.PaceQueues" = some 3 by kernel_rfl).symm.trans hf) |>.symm;obtain rfl:fn=Tryz.f3:=(Option.some.inj (Tryz.func3.symm.trans hfn)).symm;exact⟨by kernel_rfl,fun j t ht=>by
    rw [Tryz.params3] at ht;have hm:t∈[26,22,27,3,3]:=by simpa using Array.mem_of_getElem? ht
    have hall:([26,22,27,3,3].all fun u => !Tryz.prog.wantsStandIn u)=true:=by kernel_rfl
    exact(show Tryz.prog.wantsStandIn t=false by simpa using List.all_eq_true.1 hall t hm)⟩)
  (by kernel_rfl)
end Go.Proofs.YtplbaenjbihekaaGreatDoor
