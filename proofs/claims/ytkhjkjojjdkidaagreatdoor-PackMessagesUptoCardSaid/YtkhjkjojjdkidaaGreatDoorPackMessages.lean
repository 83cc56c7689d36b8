/- The statement 'PackMessagesUpto' holds of every input that is not larger than the statement itself says, and the package variables that it lists are laid by the text: no condition beyond that. -/
import Derived.Test.YtkhjkjojjdkidaaGreatDoorRows
import Derived.Test.YtkhjkjojjdkidaaGreatDoorCards
import Derived.Test.YtkhjkjojjdkidaaGreatDoorTie
import Derived.SevenTiedAt
import Derived.Stop.Joined
import Derived.Test.YtkhjkjojjdkidaaGreatDoorVcPm
import Derived.Test.YtkhjkjojjdkidaaGreatDoorVcPu
import Derived.Deep.DeepHandedRow
import Derived.Test.YtkhjkjojjdkidaaGreatDoorFns
import Derived.Test.YtkhjkjojjdkidaaGreatDoorPureZA
import Derived.Test.YtkhjkjojjdkidaaGreatDoorPureZB
import Derived.Test.YtkhjkjojjdkidaaGreatDoorPureZC
import Derived.Test.YtkhjkjojjdkidaaGreatDoorPureZD
namespace Go.Proofs.YtkhjkjojjdkidaaGreatDoor
open Go Go.Vc Go.ChangeShapes Go.WideShapes Go.ChangeAt Go.RowKit
theorem own:ownKnob Tryz.prog.godebug=none:=by kernel_rfl
theorem laid:laidOutB Tryz.prog=true:=by kernel_rfl
def laidL:List (String×DataW Unit):=[("exchangepoint/attribute.flags",Rows.laid_exchangepoint_attribute_flags)]
theorem B7a (os:Os) (args:Array Value):laidMetH Tryz.prog laidL ((World.doorLaid Tryz.prog 54 os).forCall (fun _ _=>0) ⟨#[],args,[]⟩).memory :=
 laidMetH_of_parts3 (fuel:=8) (laidMet_of_run' 8 (by kernel_rfl) (by kernel_rfl)) (by kernel_rfl) (by kernel_rfl)
set_option maxRecDepth 100000 in
theorem glob0 {W:World} (h:laidMetH Tryz.prog laidL W):(globD 0 (.imap gv0)).holds (Zw W) W :=
 B6b (es:=gv0) h List.mem_cons_self (by kernel_rfl) (by kernel_rfl) Tryz.underlying164 Tryz.underlying3 Tryz.underlying3 (by decide)
def knows:List (Nat×Know):=[(500,globD 0 (.imap gv0))]
theorem B9r {H:Type} (d:DataW H):1≤Rows.uptoBulk d:=by
 cases d with
 | lit l=>cases l<;>simp [Rows.uptoBulk]
 | _=>simp [Rows.uptoBulk]
theorem B7b {H:Type} {d:DataW H}:∀ {l:List (DataW H)},d∈l→Rows.uptoBulk d≤Rows.uptoBulkAll l
 | x :: l,h=>by
  simp only [Rows.uptoBulkAll]
  rcases List.mem_cons.1 h with h | h
  ·rw [h];omega
  ·have:=B7b h;omega
theorem B7c {H:Type}:∀ l:List (DataW H),l.length≤Rows.uptoBulkAll l
 | []=>Nat.zero_le _
 | d :: l=>by
  have h1:=B9r d
  have h2:=B7c l
  simp only [Rows.uptoBulkAll,List.length_cons];omega
/-- the measure that the statement takes -/
def bulkU:Bulk:=⟨fun _=>Rows.uptoBulk,fun _=>Rows.uptoBulkAll,fun _ _ _ h=>B7b h,fun _ l=>B7c l,fun _ es sp=>by simp only [Rows.uptoBulk];omega,fun _ ps=>by simp only [Rows.uptoBulk];omega⟩
theorem C04 {H:Type} {l:List (DataW H)} (h:Rows.uptoSmall H l=true):bulkU.all H l≤1048576:=of_decide_eq_true h
-- the greatest size of an input: 1048576
theorem cells3:Tryz.prog.cellsOf 3=1:=by kernel_rfl
theorem rd3:RdU bulkU 1048576 Tryz.prog 3 1 false (fun d=>∃ x:Int,(IntKind.i64.min≤x∧x≤IntKind.i64.max)∧d=(eI .i64) x) :=
 (Rd.int Tryz.underlying3 cells3).u
theorem cells4:Tryz.prog.cellsOf 4=1:=by kernel_rfl
theorem rd4:RdU bulkU 1048576 Tryz.prog 4 1 false (fun d=>∃ x:Bool,True∧d=eB x) :=
 (Rd.bool Tryz.underlying4 cells4).u
theorem cells25:Tryz.prog.cellsOf 25=1:=by kernel_rfl
theorem rd25:RdU bulkU 1048576 Tryz.prog 25 1 false (fun d=>∃ x:Int,(IntKind.u64.min≤x∧x≤IntKind.u64.max)∧d=(eI .u64) x) :=
 (Rd.int Tryz.underlying25 cells25).u
def q27 (x:D4):Prop:=(True)∧((IntKind.u64.min≤x.fHi∧x.fHi≤IntKind.u64.max))∧((IntKind.u64.min≤x.fLo∧x.fLo≤IntKind.u64.max))∧True
theorem cells27:Tryz.prog.cellsOf 27=3:=by kernel_rfl
theorem rd27:RdU bulkU 1048576 Tryz.prog 27 3 true (fun d=>∃ x:D4,q27 x∧d=D1 x) :=
 RdU.st (ps:=[(fun d=>∃ x:Bool,True∧d=eB x),(fun d=>∃ x:Int,(IntKind.u64.min≤x∧x≤IntKind.u64.max)∧d=(eI .u64) x),(fun d=>∃ x:Int,(IntKind.u64.min≤x∧x≤IntKind.u64.max)∧d=(eI .u64) x)]) Tryz.underlying27 rfl cells27 (.cons rfl rd4 (.cons rfl rd25 (.cons rfl rd25 .nil))) (fun ds h=>by
  obtain⟨_,ds0,rfl,⟨x0,k0,rfl⟩,h0⟩:=FA.cons h
  obtain⟨_,ds1,rfl,⟨x1,k1,rfl⟩,h1⟩:=FA.cons h0
  obtain⟨_,ds2,rfl,⟨x2,k2,rfl⟩,h2⟩:=FA.cons h1
  obtain rfl:=FA.nil h2
  exact⟨⟨x0,x1,x2⟩,⟨k0,k1,k2,trivial⟩,rfl⟩) (fun d ⟨x,k,h⟩=>by
  subst h
  obtain⟨k0,k1,k2,_⟩:=k
  exact⟨_,rfl,⟨⟨_,k0,rfl⟩,⟨⟨_,k1,rfl⟩,⟨⟨_,k2,rfl⟩,trivial⟩⟩⟩⟩)
def q29 (x:A2):Prop:=(q27 x.fAddr)∧((IntKind.i64.min≤x.fLen∧x.fLen≤IntKind.i64.max))∧True
theorem cells29:Tryz.prog.cellsOf 29=4:=by kernel_rfl
theorem rd29:RdU bulkU 1048576 Tryz.prog 29 4 true (fun d=>∃ x:A2,q29 x∧d=B4 x) :=
 RdU.st (ps:=[(fun d=>∃ x:D4,q27 x∧d=D1 x),(fun d=>∃ x:Int,(IntKind.i64.min≤x∧x≤IntKind.i64.max)∧d=(eI .i64) x)]) Tryz.underlying29 rfl cells29 (.cons rfl rd27 (.cons rfl rd3 .nil)) (fun ds h=>by
  obtain⟨_,ds0,rfl,⟨x0,k0,rfl⟩,h0⟩:=FA.cons h
  obtain⟨_,ds1,rfl,⟨x1,k1,rfl⟩,h1⟩:=FA.cons h0
  obtain rfl:=FA.nil h1
  exact⟨⟨x0,x1⟩,⟨k0,k1,trivial⟩,rfl⟩) (fun d ⟨x,k,h⟩=>by
  subst h
  obtain⟨k0,k1,_⟩:=k
  exact⟨_,rfl,⟨⟨_,k0,rfl⟩,⟨⟨_,k1,rfl⟩,trivial⟩⟩⟩)
def q23 (x:(List Int)):Prop:=(∀ y∈x,(IntKind.i64.min≤y∧y≤IntKind.i64.max))∧x.length≤maxLen∧x.length≤1048576
theorem cells23:Tryz.prog.cellsOf 23=1:=by kernel_rfl
theorem rd23:RdU bulkU 1048576 Tryz.prog 23 1 false (fun d=>∃ x:(List Int),q23 x∧d=(.list 1 (x.map (eI .i64)))) :=
 RdU.list Tryz.underlying23 cells23 (by decide) rd3
def q66 (x:A8):Prop:=(True)∧(q23 x.fASNs)∧True
theorem cells66:Tryz.prog.cellsOf 66=2:=by kernel_rfl
theorem rd66:RdU bulkU 1048576 Tryz.prog 66 2 true (fun d=>∃ x:A8,q66 x∧d=C3 x) :=
 RdU.st (ps:=[(fun d=>∃ x:Bool,True∧d=eB x),(fun d=>∃ x:(List Int),q23 x∧d=(.list 1 (x.map (eI .i64))))]) Tryz.underlying66 rfl cells66 (.cons rfl rd4 (.cons rfl rd23 .nil)) (fun ds h=>by
  obtain⟨_,ds0,rfl,⟨x0,k0,rfl⟩,h0⟩:=FA.cons h
  obtain⟨_,ds1,rfl,⟨x1,k1,rfl⟩,h1⟩:=FA.cons h0
  obtain rfl:=FA.nil h1
  exact⟨⟨x0,x1⟩,⟨k0,k1,trivial⟩,rfl⟩) (fun d ⟨x,k,h⟩=>by
  subst h
  obtain⟨k0,k1,_⟩:=k
  exact⟨_,rfl,⟨⟨_,k0,rfl⟩,⟨⟨_,k1,rfl⟩,trivial⟩⟩⟩)
def q30 (x:(List A8)):Prop:=(∀ y∈x,q66 y)∧x.length≤maxLen∧x.length≤1048576
theorem cells30:Tryz.prog.cellsOf 30=1:=by kernel_rfl
theorem rd30:RdU bulkU 1048576 Tryz.prog 30 1 false (fun d=>∃ x:(List A8),q30 x∧d=(.list 2 (x.map C3))) :=
 RdU.list Tryz.underlying30 cells30 (by decide) rd66
def q98 (x:B0):Prop:=((IntKind.i64.min≤x.fA∧x.fA≤IntKind.i64.max))∧((IntKind.i64.min≤x.fB∧x.fB≤IntKind.i64.max))∧True
theorem cells98:Tryz.prog.cellsOf 98=2:=by kernel_rfl
theorem rd98:RdU bulkU 1048576 Tryz.prog 98 2 true (fun d=>∃ x:B0,q98 x∧d=B6 x) :=
 RdU.st (ps:=[(fun d=>∃ x:Int,(IntKind.i64.min≤x∧x≤IntKind.i64.max)∧d=(eI .i64) x),(fun d=>∃ x:Int,(IntKind.i64.min≤x∧x≤IntKind.i64.max)∧d=(eI .i64) x)]) Tryz.underlying98 rfl cells98 (.cons rfl rd3 (.cons rfl rd3 .nil)) (fun ds h=>by
  obtain⟨_,ds0,rfl,⟨x0,k0,rfl⟩,h0⟩:=FA.cons h
  obtain⟨_,ds1,rfl,⟨x1,k1,rfl⟩,h1⟩:=FA.cons h0
  obtain rfl:=FA.nil h1
  exact⟨⟨x0,x1⟩,⟨k0,k1,trivial⟩,rfl⟩) (fun d ⟨x,k,h⟩=>by
  subst h
  obtain⟨k0,k1,_⟩:=k
  exact⟨_,rfl,⟨⟨_,k0,rfl⟩,⟨⟨_,k1,rfl⟩,trivial⟩⟩⟩)
def q31 (x:(List B0)):Prop:=(∀ y∈x,q98 y)∧x.length≤maxLen∧x.length≤1048576
theorem cells31:Tryz.prog.cellsOf 31=1:=by kernel_rfl
theorem rd31:RdU bulkU 1048576 Tryz.prog 31 1 false (fun d=>∃ x:(List B0),q31 x∧d=(.list 2 (x.map B6))) :=
 RdU.list Tryz.underlying31 cells31 (by decide) rd98
def q100 (x:D5):Prop:=((IntKind.i64.min≤x.fA∧x.fA≤IntKind.i64.max))∧((IntKind.i64.min≤x.fB∧x.fB≤IntKind.i64.max))∧((IntKind.i64.min≤x.fC∧x.fC≤IntKind.i64.max))∧True
theorem cells100:Tryz.prog.cellsOf 100=3:=by kernel_rfl
theorem rd100:RdU bulkU 1048576 Tryz.prog 100 3 true (fun d=>∃ x:D5,q100 x∧d=D8 x) :=
 RdU.st (ps:=[(fun d=>∃ x:Int,(IntKind.i64.min≤x∧x≤IntKind.i64.max)∧d=(eI .i64) x),(fun d=>∃ x:Int,(IntKind.i64.min≤x∧x≤IntKind.i64.max)∧d=(eI .i64) x),(fun d=>∃ x:Int,(IntKind.i64.min≤x∧x≤IntKind.i64.max)∧d=(eI .i64) x)]) Tryz.underlying100 rfl cells100 (.cons rfl rd3 (.cons rfl rd3 (.cons rfl rd3 .nil))) (fun ds h=>by
  obtain⟨_,ds0,rfl,⟨x0,k0,rfl⟩,h0⟩:=FA.cons h
  obtain⟨_,ds1,rfl,⟨x1,k1,rfl⟩,h1⟩:=FA.cons h0
  obtain⟨_,ds2,rfl,⟨x2,k2,rfl⟩,h2⟩:=FA.cons h1
  obtain rfl:=FA.nil h2
  exact⟨⟨x0,x1,x2⟩,⟨k0,k1,k2,trivial⟩,rfl⟩) (fun d ⟨x,k,h⟩=>by
  subst h
  obtain⟨k0,k1,k2,_⟩:=k
  exact⟨_,rfl,⟨⟨_,k0,rfl⟩,⟨⟨_,k1,rfl⟩,⟨⟨_,k2,rfl⟩,trivial⟩⟩⟩⟩)
def q32 (x:(List D5)):Prop:=(∀ y∈x,q100 y)∧x.length≤maxLen∧x.length≤1048576
theorem cells32:Tryz.prog.cellsOf 32=1:=by kernel_rfl
theorem rd32:RdU bulkU 1048576 Tryz.prog 32 1 false (fun d=>∃ x:(List D5),q32 x∧d=(.list 3 (x.map D8))) :=
 RdU.list Tryz.underlying32 cells32 (by decide) rd100
theorem cells5:Tryz.prog.cellsOf 5=1:=by kernel_rfl
theorem rd5:RdU bulkU 1048576 Tryz.prog 5 1 false (fun d=>∃ x:Int,(IntKind.u8.min≤x∧x≤IntKind.u8.max)∧d=(eI .u8) x) :=
 (Rd.int Tryz.underlying5 cells5).u
def q67 (x:(List Int)):Prop:=(∀ y∈x,(IntKind.u8.min≤y∧y≤IntKind.u8.max))∧x.length≤maxLen∧x.length≤1048576
theorem cells67:Tryz.prog.cellsOf 67=1:=by kernel_rfl
theorem rd67:RdU bulkU 1048576 Tryz.prog 67 1 false (fun d=>∃ x:(List Int),q67 x∧d=(.list 1 (x.map (eI .u8)))) :=
 RdU.list Tryz.underlying67 cells67 (by decide) rd5
def q69 (x:A1):Prop:=((IntKind.i64.min≤x.fFlags∧x.fFlags≤IntKind.i64.max))∧((IntKind.i64.min≤x.fType∧x.fType≤IntKind.i64.max))∧(q67 x.fData)∧True
theorem cells69:Tryz.prog.cellsOf 69=3:=by kernel_rfl
theorem rd69:RdU bulkU 1048576 Tryz.prog 69 3 true (fun d=>∃ x:A1,q69 x∧d=A9 x) :=
 RdU.st (ps:=[(fun d=>∃ x:Int,(IntKind.i64.min≤x∧x≤IntKind.i64.max)∧d=(eI .i64) x),(fun d=>∃ x:Int,(IntKind.i64.min≤x∧x≤IntKind.i64.max)∧d=(eI .i64) x),(fun d=>∃ x:(List Int),q67 x∧d=(.list 1 (x.map (eI .u8))))]) Tryz.underlying69 rfl cells69 (.cons rfl rd3 (.cons rfl rd3 (.cons rfl rd67 .nil))) (fun ds h=>by
  obtain⟨_,ds0,rfl,⟨x0,k0,rfl⟩,h0⟩:=FA.cons h
  obtain⟨_,ds1,rfl,⟨x1,k1,rfl⟩,h1⟩:=FA.cons h0
  obtain⟨_,ds2,rfl,⟨x2,k2,rfl⟩,h2⟩:=FA.cons h1
  obtain rfl:=FA.nil h2
  exact⟨⟨x0,x1,x2⟩,⟨k0,k1,k2,trivial⟩,rfl⟩) (fun d ⟨x,k,h⟩=>by
  subst h
  obtain⟨k0,k1,k2,_⟩:=k
  exact⟨_,rfl,⟨⟨_,k0,rfl⟩,⟨⟨_,k1,rfl⟩,⟨⟨_,k2,rfl⟩,trivial⟩⟩⟩⟩)
def q33 (x:(List A1)):Prop:=(∀ y∈x,q69 y)∧x.length≤maxLen∧x.length≤1048576
theorem cells33:Tryz.prog.cellsOf 33=1:=by kernel_rfl
theorem rd33:RdU bulkU 1048576 Tryz.prog 33 1 false (fun d=>∃ x:(List A1),q33 x∧d=(.list 3 (x.map A9))) :=
 RdU.list Tryz.underlying33 cells33 (by decide) rd69
def q35 (x:B2):Prop:=((IntKind.i64.min≤x.fOrigin∧x.fOrigin≤IntKind.i64.max))∧(q30 x.fPath)∧(q27 x.fNext)∧((IntKind.i64.min≤x.fMED∧x.fMED≤IntKind.i64.max))∧((IntKind.i64.min≤x.fPref∧x.fPref≤IntKind.i64.max))∧((IntKind.i64.min≤x.fOTC∧x.fOTC≤IntKind.i64.max))∧(q31 x.fCommunities)∧(q32 x.fLarge)∧(q33 x.fOther)∧True
theorem cells35:Tryz.prog.cellsOf 35=11:=by kernel_rfl
theorem rd35:RdU bulkU 1048576 Tryz.prog 35 11 true (fun d=>∃ x:B2,q35 x∧d=C0 x) :=
 RdU.st (ps:=[(fun d=>∃ x:Int,(IntKind.i64.min≤x∧x≤IntKind.i64.max)∧d=(eI .i64) x),(fun d=>∃ x:(List A8),q30 x∧d=(.list 2 (x.map C3))),(fun d=>∃ x:D4,q27 x∧d=D1 x),(fun d=>∃ x:Int,(IntKind.i64.min≤x∧x≤IntKind.i64.max)∧d=(eI .i64) x),(fun d=>∃ x:Int,(IntKind.i64.min≤x∧x≤IntKind.i64.max)∧d=(eI .i64) x),(fun d=>∃ x:Int,(IntKind.i64.min≤x∧x≤IntKind.i64.max)∧d=(eI .i64) x),(fun d=>∃ x:(List B0),q31 x∧d=(.list 2 (x.map B6))),(fun d=>∃ x:(List D5),q32 x∧d=(.list 3 (x.map D8))),(fun d=>∃ x:(List A1),q33 x∧d=(.list 3 (x.map A9)))]) Tryz.underlying35 rfl cells35 (.cons rfl rd3 (.cons rfl rd30 (.cons rfl rd27 (.cons rfl rd3 (.cons rfl rd3 (.cons rfl rd3 (.cons rfl rd31 (.cons rfl rd32 (.cons rfl rd33 .nil))))))))) (fun ds h=>by
  obtain⟨_,ds0,rfl,⟨x0,k0,rfl⟩,h0⟩:=FA.cons h
  obtain⟨_,ds1,rfl,⟨x1,k1,rfl⟩,h1⟩:=FA.cons h0
  obtain⟨_,ds2,rfl,⟨x2,k2,rfl⟩,h2⟩:=FA.cons h1
  obtain⟨_,ds3,rfl,⟨x3,k3,rfl⟩,h3⟩:=FA.cons h2
  obtain⟨_,ds4,rfl,⟨x4,k4,rfl⟩,h4⟩:=FA.cons h3
  obtain⟨_,ds5,rfl,⟨x5,k5,rfl⟩,h5⟩:=FA.cons h4
  obtain⟨_,ds6,rfl,⟨x6,k6,rfl⟩,h6⟩:=FA.cons h5
  obtain⟨_,ds7,rfl,⟨x7,k7,rfl⟩,h7⟩:=FA.cons h6
  obtain⟨_,ds8,rfl,⟨x8,k8,rfl⟩,h8⟩:=FA.cons h7
  obtain rfl:=FA.nil h8
  exact⟨⟨x0,x1,x2,x3,x4,x5,x6,x7,x8⟩,⟨k0,k1,k2,k3,k4,k5,k6,k7,k8,trivial⟩,rfl⟩) (fun d ⟨x,k,h⟩=>by
  subst h
  obtain⟨k0,k1,k2,k3,k4,k5,k6,k7,k8,_⟩:=k
  exact⟨_,rfl,⟨⟨_,k0,rfl⟩,⟨⟨_,k1,rfl⟩,⟨⟨_,k2,rfl⟩,⟨⟨_,k3,rfl⟩,⟨⟨_,k4,rfl⟩,⟨⟨_,k5,rfl⟩,⟨⟨_,k6,rfl⟩,⟨⟨_,k7,rfl⟩,⟨⟨_,k8,rfl⟩,trivial⟩⟩⟩⟩⟩⟩⟩⟩⟩⟩)
def q37 (x:C7):Prop:=(q29 x.fPrefix)∧((IntKind.i64.min≤x.fFrom∧x.fFrom≤IntKind.i64.max))∧(q35 x.fAttrs)∧True
theorem cells37:Tryz.prog.cellsOf 37=16:=by kernel_rfl
theorem rd37:RdU bulkU 1048576 Tryz.prog 37 16 true (fun d=>∃ x:C7,q37 x∧d=G4 x) :=
 RdU.st (ps:=[(fun d=>∃ x:A2,q29 x∧d=B4 x),(fun d=>∃ x:Int,(IntKind.i64.min≤x∧x≤IntKind.i64.max)∧d=(eI .i64) x),(fun d=>∃ x:B2,q35 x∧d=C0 x)]) Tryz.underlying37 rfl cells37 (.cons rfl rd29 (.cons rfl rd3 (.cons rfl rd35 .nil))) (fun ds h=>by
  obtain⟨_,ds0,rfl,⟨x0,k0,rfl⟩,h0⟩:=FA.cons h
  obtain⟨_,ds1,rfl,⟨x1,k1,rfl⟩,h1⟩:=FA.cons h0
  obtain⟨_,ds2,rfl,⟨x2,k2,rfl⟩,h2⟩:=FA.cons h1
  obtain rfl:=FA.nil h2
  exact⟨⟨x0,x1,x2⟩,⟨k0,k1,k2,trivial⟩,rfl⟩) (fun d ⟨x,k,h⟩=>by
  subst h
  obtain⟨k0,k1,k2,_⟩:=k
  exact⟨_,rfl,⟨⟨_,k0,rfl⟩,⟨⟨_,k1,rfl⟩,⟨⟨_,k2,rfl⟩,trivial⟩⟩⟩⟩)
def q39 (x:A5):Prop:=((IntKind.i64.min≤x.fTo∧x.fTo≤IntKind.i64.max))∧(q29 x.fPrefix)∧(True)∧(q37 x.fRoute)∧True
theorem cells39:Tryz.prog.cellsOf 39=22:=by kernel_rfl
theorem rd39:RdU bulkU 1048576 Tryz.prog 39 22 true (fun d=>∃ x:A5,q39 x∧d=E8 x) :=
 RdU.st (ps:=[(fun d=>∃ x:Int,(IntKind.i64.min≤x∧x≤IntKind.i64.max)∧d=(eI .i64) x),(fun d=>∃ x:A2,q29 x∧d=B4 x),(fun d=>∃ x:Bool,True∧d=eB x),(fun d=>∃ x:C7,q37 x∧d=G4 x)]) Tryz.underlying39 rfl cells39 (.cons rfl rd3 (.cons rfl rd29 (.cons rfl rd4 (.cons rfl rd37 .nil)))) (fun ds h=>by
  obtain⟨_,ds0,rfl,⟨x0,k0,rfl⟩,h0⟩:=FA.cons h
  obtain⟨_,ds1,rfl,⟨x1,k1,rfl⟩,h1⟩:=FA.cons h0
  obtain⟨_,ds2,rfl,⟨x2,k2,rfl⟩,h2⟩:=FA.cons h1
  obtain⟨_,ds3,rfl,⟨x3,k3,rfl⟩,h3⟩:=FA.cons h2
  obtain rfl:=FA.nil h3
  exact⟨⟨x0,x1,x2,x3⟩,⟨k0,k1,k2,k3,trivial⟩,rfl⟩) (fun d ⟨x,k,h⟩=>by
  subst h
  obtain⟨k0,k1,k2,k3,_⟩:=k
  exact⟨_,rfl,⟨⟨_,k0,rfl⟩,⟨⟨_,k1,rfl⟩,⟨⟨_,k2,rfl⟩,⟨⟨_,k3,rfl⟩,trivial⟩⟩⟩⟩⟩)
def q22 (x:(List A5)):Prop:=(∀ y∈x,q39 y)∧x.length≤maxLen∧x.length≤1048576
theorem cells22:Tryz.prog.cellsOf 22=1:=by kernel_rfl
theorem rd22:RdU bulkU 1048576 Tryz.prog 22 1 false (fun d=>∃ x:(List A5),q22 x∧d=(.list 22 (x.map E8))) :=
 RdU.list Tryz.underlying22 cells22 (by decide) rd39
theorem B9s (xs:List D) (h:FA [(fun d=>∃ x:(List A5),q22 x∧d=(.list 22 (x.map E8))),(fun d=>∃ x:(List Int),q23 x∧d=(.list 1 (x.map (eI .i64)))),(fun d=>∃ x:Int,(IntKind.i64.min≤x∧x≤IntKind.i64.max)∧d=(eI .i64) x),(fun d=>∃ x:Int,(IntKind.i64.min≤x∧x≤IntKind.i64.max)∧d=(eI .i64) x)] xs):AC Tryz.prog 3 (xs.map .d) (knowP knows) (.d (.bool true)) (knowO knows):=by
 obtain⟨_,xs0,rfl,⟨a0,k0,rfl⟩,h0⟩:=FA.cons h
 obtain⟨_,xs1,rfl,⟨a1,k1,rfl⟩,h1⟩:=FA.cons h0
 obtain⟨_,xs2,rfl,⟨a2,k2,rfl⟩,h2⟩:=FA.cons h1
 obtain⟨_,xs3,rfl,⟨a3,k3,rfl⟩,h3⟩:=FA.cons h2
 obtain rfl:=FA.nil h3
 exact A5s a0 a1 a2 a3 true (B2s a0 k0 a1 k1 a2 k2 a3 k3)
theorem read3:Program.readableRec Tryz.prog 3=true∧3<Tryz.prog.types.size:=⟨by kernel_rfl,of_decide_eq_true (by kernel_rfl)⟩
theorem read22:Program.readableRec Tryz.prog 22=true∧22<Tryz.prog.types.size:=⟨by kernel_rfl,of_decide_eq_true (by kernel_rfl)⟩
theorem read23:Program.readableRec Tryz.prog 23=true∧23<Tryz.prog.types.size:=⟨by kernel_rfl,of_decide_eq_true (by kernel_rfl)⟩
theorem reads:∀ t∈([22,23,3,3]:List TypeId),Program.readableRec Tryz.prog t=true∧t<Tryz.prog.types.size:=by
 intro t ht
 cases ht with
 | head=>exact read22
 | tail _ ht =>
 cases ht with
 | head=>exact read23
 | tail _ ht =>
 cases ht with
 | head=>exact read3
 | tail _ ht =>
 cases ht with
 | head=>exact read3
 | tail _ ht =>
 cases ht
set_option maxRecDepth 100000 in
theorem lifted (os:Os) (started:os.Started) (H:Type) (enc:TypeId×Value→H) (F:Stop.Interp) :
  ReturnsInHanded {} Tryz.checked os 3 .any ((Rows.OpenSpec.upto Rows.packMessagesSpec).preRow enc Tryz.prog Tryz.f3 [] false laidL) (((Rows.OpenSpec.upto Rows.packMessagesSpec).at F).post enc Tryz.prog Tryz.f3 false true false false):=by
 refine returnsInHanded_of_row (C:=Tryz.checked) (F:=F) own started (by kernel_rfl) Tryz.func3
  ⟨World.doorLaid Tryz.prog 54 os,fun _ _=>0,⟨#[],#[.slice none 0 0,.slice none 0 0,.int .i64 0,.int .i64 0],[]⟩,rfl,World.shaped_of_RefB (by kernel_rfl) (by kernel_rfl),rfl,(Input.okWide_of_okWideB (by kernel_rfl)).2,⟨⟨?_,B7a os _⟩,sizedMet_of_sizedB (fuel:=8) (by kernel_rfl)⟩,by simp only [Assume.holds];exact⟨by simp,by simp,by simp,by simp,by simp⟩⟩ ?_
 ·obtain⟨ds,gs,before,h1,h2⟩:=B4j (enc:=enc) (P:=Tryz.prog) (w:=((World.doorLaid Tryz.prog 54 os).forCall (fun _ _=>0) ⟨#[],#[.slice none 0 0,.slice none 0 0,.int .i64 0,.int .i64 0],[]⟩).memory) (ts:=[22,23,3,3]) (vars:=[]) (apart:=false) (vs:=[.slice none 0 0,.slice none 0 0,.int .i64 0,.int .i64 0]) 8 (k:=Rows.uptoSmall H) (by kernel_rfl)
  exact(OpenSpec.pre_some rfl [] false _ _).2 ⟨ds,gs,before,h1,rfl,h2⟩
 intro W base args ds gs before hval0 hW _ hcnd _ hL _ _
 have hk:∀ p∈knows,p.2.holds (Zw W) W:=fun p hp=>by
  cases hp with
  | head=>exact glob0 hL
  | tail _ hp=>cases hp
 exact B4k (P:=Tryz.prog) (ts:=[22,23,3,3]) (tb:=4) knows hk hval0 hW rfl rfl (C04 (hcnd _ rfl)) (.cons rd22 (.cons rd23 (.cons rd3 (.cons rd3 .nil)))) Tryz.underlying4 (by kernel_rfl) laid reads
  (fun ds hl=>by match ds,hl with | [_,_,_,_],_=>rfl) B9s
theorem B6f:Rows.PackMessagesUptoSaid :=
 OpenClaim.holds_of_cond 3 Tryz.f3 rfl rfl rfl rfl rfl rfl rfl ⟨rfl,rfl,rfl,rfl,rfl⟩ rfl rfl rfl rfl rfl (by kernel_rfl) Tryz.func3 (by kernel_rfl)
  (of_decide_eq_true (by kernel_rfl)) (by unfold Func.isWrapper;first | (rw [if_pos (by decide +kernel)];kernel_rfl) | (rw [if_neg (by decide +kernel)];exact⟨rfl,rfl⟩))
  (fun os started H enc _ F=>by rw [OpenClaim.pre_eq_preRow];exact lifted os started H enc F)
theorem holds:Rows.PackMessagesUptoCardSaid :=
 Claim7.holds_tied_plain_at .later [] [.mapped] true (true,"6cfef4e9f0547fe6924e1048c1267e0f525b8f2e42a2441f3e2f715082584cd1") false
  B6f (fun _ h=>by cases h) (by kernel_rfl) (fun _ h=>by cases h) packMessagesUpto_row_tie rfl ⟨rfl,rfl⟩ (by kernel_rfl) rfl
  (fun f fn hf hfn=>by
   obtain rfl:f=3:=Option.some.inj ((show Tryz.prog.funcNamed "exchangepoint/exchangepointlaw30.PackMessages" = some 3 by kernel_rfl).symm.trans hf) |>.symm
   obtain rfl:fn=Tryz.f3:=(Option.some.inj (Tryz.func3.symm.trans hfn)).symm
   exact⟨by kernel_rfl,fun j t ht=>by
    rw [Tryz.params3] at ht
    have hm:t∈[22,23,3,3]:=by simpa using Array.mem_of_getElem? ht
    have hall:([22,23,3,3].all fun u => !Tryz.prog.wantsStandIn u)=true:=by kernel_rfl
    exact(show Tryz.prog.wantsStandIn t=false by simpa using List.all_eq_true.1 hall t hm)⟩)
  (by kernel_rfl)
end Go.Proofs.YtkhjkjojjdkidaaGreatDoor
