/- Printed by gen.py: the Go functions as plain functions, and that the code does what they say. -/
import Derived.Test.YtkhjkjojjdkidaaGreatDoorChecked
import Derived.Test.YtkhjkjojjdkidaaGreatDoorVcYB
import Derived.Test.YtkhjkjojjdkidaaGreatDoorVcZ
import Derived.Test.YtkhjkjojjdkidaaGreatDoorVcGC
import Derived.KernelRfl
import Derived.Test.YtkhjkjojjdkidaaGreatDoorVcMD
import Derived.Test.YtkhjkjojjdkidaaGreatDoorVcMQ
import Derived.Test.YtkhjkjojjdkidaaGreatDoorVcSG
import Derived.Test.YtkhjkjojjdkidaaGreatDoorFnsA
import Derived.Test.YtkhjkjojjdkidaaGreatDoorExt
import Derived.Test.YtkhjkjojjdkidaaGreatDoorVcPm
import Derived.Test.YtkhjkjojjdkidaaGreatDoorVcRg
import Derived.Test.YtkhjkjojjdkidaaGreatDoorVcSt
import Derived.Test.YtkhjkjojjdkidaaGreatDoorVcMR
namespace Go.Proofs.YtkhjkjojjdkidaaGreatDoor
open Go Go.Vc
open Tryz
open Go.Vc.OpJ (assign alloc lss pickT pickF extract lenD indexD loadD eqlI gtr callVal leq geq loadR nilP indexS buildSlice lenS fieldD neqI pickAnd pickOr)
open Go.Vc.AWp (seq ghost ret block)
set_option maxHeartbeats 4000000
set_option maxRecDepth 100000
noncomputable section
def L6 (a0:C8) (s18:Int×(List A1)):Option ((((List A1)))⊕(Int×(List A1))) :=
 (if (decide (s18.1<(a0.fOther.length:Int)))=true then
 (idx a0.fOther s18.1).bind fun x29 =>
 (A1d x29.fData).bind fun r30 =>
 chk (decide ((s18.2++[(A1.mk x29.fFlags x29.fType r30)]).length≤LIM)) <|
 some (.inr ((w64 (s18.1+1)),(s18.2++[(A1.mk x29.fFlags x29.fType r30)])))
 else
 some (.inl s18.2))
def J0 (a0:C8):Option ((List A1)×Int) :=
 (I2 a0).bind fun r1 =>
 (if (!r1)=true then
 some (([]:List A1),1)
 else
 (H9 (a0.fOrigin != (-1)) 1 ([(IntKind.u8.wrap a0.fOrigin)]:List Int)).bind fun r3 =>
 (N6 a0.fPath).bind fun r4 =>
 (C5 ((a0.fOrigin != (-1)) || (decide (0<(a0.fPath.length:Int)))) 2 r4 r3).bind fun r5 =>
 (S6 a0.fNext).bind fun r6 =>
 (C5 ((!a0.fNext.fV6)&&(!((a0.fNext.fV6==false)&&((a0.fNext.fHi==0)&&((a0.fNext.fLo==0)&&true))))) 3 r6 r5).bind fun r7 =>
 (M3 ([a0.fMED]:List Int)).bind fun r8 =>
 (C5 (a0.fMED != (-1)) 4 r8 r7).bind fun r9 =>
 (M3 ([a0.fPref]:List Int)).bind fun r10 =>
 (C5 (a0.fPref != (-1)) 5 r10 r9).bind fun r11 =>
 (K2 a0.fCommunities).bind fun r12 =>
 (C5 (decide (0<(a0.fCommunities.length:Int))) 8 r12 r11).bind fun r13 =>
 (T6 a0.fLarge).bind fun r14 =>
 (C5 (decide (0<(a0.fLarge.length:Int))) 32 r14 r13).bind fun r15 =>
 (M3 ([a0.fOTC]:List Int)).bind fun r16 =>
 (C5 (a0.fOTC != (-1)) 35 r16 r15).bind fun r17 =>
 (loop (L6 a0) (0,r17)).bind fun p27 =>
 (K3 p27).bind fun r34 =>
 chk (decide (r34.length=p27.length)) <|
 some (r34,0))
theorem A55 (a0:C8) (r:(List A1)×Int) (h:J0 a0=some r):AC Tryz.prog 121 [(.d (B9 a0))] [(500,(.know (globD 0 (.imap gv0))))] (.tup [(.sref 900000 3 0 r.1.length),(.d (.int .i64 r.2))]) [(500,some (.know (globD 0 (.imap gv0)))),(900000,some (.row 69 3 (r.1.map A7)))]:=by
 refine ac2 Tryz.func121 rfl rfl fun B hB hN L => ?_
 delta J0 at h
 refine sr (SQ tt) ?_
 apply seq
 apply seq
 obtain⟨r1,hr1,h⟩:=bindS h
 refine rg (SQ (fa (cl [(500,500)] (A05 a0 r1 hr1)) tt)) ?_
 apply A0
 refine ghost (mp [] [(1,(pt 1001)),(10,(bo (!r1)))] [(500,some (.know (globD 0 (.imap gv0)))),(1001,bd 35 (B9 a0))] hB) ?_
 apply AWp.cond rfl<;>intro hg2
 ·have h:=A4 hg2 h
  refine sr (SQ tt) ?_
  apply ret
  apply B3
  obtain rfl:=oi h
  exact rt (Mat.trans (Mat.beginP (n:=900500) (e:=69) (sz:=3) (Ts:=[(2,(.sref 900500 3 0 0))]) (Bs:=[]) hB (by decide) (by rfl) (by decide) (TwT.cons (x:=.nils) (by rfl) (Tw.leaf ⟨rfl,rfl⟩) TwT.nil) TwB.nil) (Mat.trans (Mat.lenP (Ts:=[(2,(.sref 900500 3 0 (([]:List A1).length)))]) (Bs:=[]) (TwT.cons (x:=(.sref 900500 3 0 0)) (by rfl) (Tw.leaf ⟨_,_,_,_,_,rfl,rfl,(by first | rfl | (simp;done) | (simp;omega) | omega)⟩) TwT.nil) TwB.nil) (mp [(900000,900500)] [(2,(.sref 900000 3 0 (([]:List A1).length))),(3,(i6 1))] [(500,some (.know (globD 0 (.imap gv0)))),(900000,some (C9 ([]:List A1)))] hB))) [(.sref 900000 3 0 (([]:List A1).length)),(i6 1)] (rT (rT rN)) rfl
 ·have h:=A5 hg2 h
  apply AWp.skip
  apply A0
  refine sr (SQ tt) ?_
  apply sr (cg (OpJ.makeF (OpdL.cons (q 4) OpdL.nil) rfl rfl (L rfl)) rfl (c (assign (L rfl) (q 11)) rfl cn))
  apply seq
  obtain⟨r3,hr3,h⟩:=bindS h
  refine rg (SQ (fa (cl [(0,1004),(500,500),(950000,100100)] (A53 (a0.fOrigin != (-1)) 1 ([(IntKind.u8.wrap a0.fOrigin)]:List Int) r3 hr3)) tt)) ?_
  apply A0
  refine ghost (mp [] [(1,(pt 1001)),(4,(pt 1004)),(5,(.func 132 [(pt 1004)]))] [(500,some (.know (globD 0 (.imap gv0)))),(1001,bd 35 (B9 a0)),(1004,some (.box 33 (.sref 100100 3 0 r3.length))),(100100,some (C9 r3))] hB) ?_
  apply seq
  obtain⟨r4,hr4,h⟩:=bindS h
  obtain⟨r5,hr5,h⟩:=bindS h
  refine drS (SQ (fa (cl [] (A69 a0.fPath r4 hr4)) (fa (cl [(0,1004),(1,100100),(500,500),(950000,100300)] (G3 ((a0.fOrigin != (-1)) || (decide (0<(a0.fPath.length:Int)))) 2 r4 r3 r5 hr5)) tt))) ?_
  apply A0
  refine ghost (mp [] [(1,(pt 1001)),(4,(pt 1004)),(5,(.func 132 [(pt 1004)]))] [(500,some (.know (globD 0 (.imap gv0)))),(1001,bd 35 (B9 a0)),(1004,some (.box 33 (.sref 100300 3 0 r5.length))),(100300,some (C9 r5))] hB) ?_
  apply seq
  obtain⟨r6,hr6,h⟩:=bindS h
  obtain⟨r7,hr7,h⟩:=bindS h
  refine drS (SQ (fa (cl [] (A1o a0.fNext r6 hr6)) (fa (cl [(0,1004),(1,100300),(500,500),(950000,100500)] (G3 ((!a0.fNext.fV6)&&(!((a0.fNext.fV6==false)&&((a0.fNext.fHi==0)&&((a0.fNext.fLo==0)&&true))))) 3 r6 r5 r7 hr7)) tt))) ?_
  apply A0
  refine ghost (mp [] [(1,(pt 1001)),(4,(pt 1004)),(5,(.func 132 [(pt 1004)]))] [(500,some (.know (globD 0 (.imap gv0)))),(1001,bd 35 (B9 a0)),(1004,some (.box 33 (.sref 100500 3 0 r7.length))),(100500,some (C9 r7))] hB) ?_
  apply seq
  obtain⟨r8,hr8,h⟩:=bindS h
  obtain⟨r9,hr9,h⟩:=bindS h
  refine drS (SQ (fa (cl [] (A07 ([a0.fMED]:List Int) r8 hr8)) (fa (cl [(0,1004),(1,100500),(500,500),(950000,100700)] (G3 (a0.fMED != (-1)) 4 r8 r7 r9 hr9)) tt))) ?_
  apply A0
  refine ghost (mp [] [(1,(pt 1001)),(4,(pt 1004)),(5,(.func 132 [(pt 1004)]))] [(500,some (.know (globD 0 (.imap gv0)))),(1001,bd 35 (B9 a0)),(1004,some (.box 33 (.sref 100700 3 0 r9.length))),(100700,some (C9 r9))] hB) ?_
  apply seq
  obtain⟨r10,hr10,h⟩:=bindS h
  obtain⟨r11,hr11,h⟩:=bindS h
  refine drS (SQ (fa (cl [] (A07 ([a0.fPref]:List Int) r10 hr10)) (fa (cl [(0,1004),(1,100700),(500,500),(950000,100900)] (G3 (a0.fPref != (-1)) 5 r10 r9 r11 hr11)) tt))) ?_
  apply A0
  refine ghost (mp [] [(1,(pt 1001)),(4,(pt 1004)),(5,(.func 132 [(pt 1004)]))] [(500,some (.know (globD 0 (.imap gv0)))),(1001,bd 35 (B9 a0)),(1004,some (.box 33 (.sref 100900 3 0 r11.length))),(100900,some (C9 r11))] hB) ?_
  apply seq
  obtain⟨r12,hr12,h⟩:=bindS h
  obtain⟨r13,hr13,h⟩:=bindS h
  refine drS (SQ (fa (cl [] (A3j a0.fCommunities r12 hr12)) (fa (cl [(0,1004),(1,100900),(500,500),(950000,101100)] (G3 (decide (0<(a0.fCommunities.length:Int))) 8 r12 r11 r13 hr13)) tt))) ?_
  apply A0
  refine ghost (mp [] [(1,(pt 1001)),(4,(pt 1004)),(5,(.func 132 [(pt 1004)]))] [(500,some (.know (globD 0 (.imap gv0)))),(1001,bd 35 (B9 a0)),(1004,some (.box 33 (.sref 101100 3 0 r13.length))),(101100,some (C9 r13))] hB) ?_
  apply seq
  obtain⟨r14,hr14,h⟩:=bindS h
  obtain⟨r15,hr15,h⟩:=bindS h
  refine drS (SQ (fa (cl [] (A5v a0.fLarge r14 hr14)) (fa (cl [(0,1004),(1,101100),(500,500),(950000,101300)] (G3 (decide (0<(a0.fLarge.length:Int))) 32 r14 r13 r15 hr15)) tt))) ?_
  apply A0
  refine ghost (mp [] [(1,(pt 1001)),(4,(pt 1004)),(5,(.func 132 [(pt 1004)]))] [(500,some (.know (globD 0 (.imap gv0)))),(1001,bd 35 (B9 a0)),(1004,some (.box 33 (.sref 101300 3 0 r15.length))),(101300,some (C9 r15))] hB) ?_
  apply seq
  obtain⟨r16,hr16,h⟩:=bindS h
  obtain⟨r17,hr17,h⟩:=bindS h
  refine drS (SQ (fa (cl [] (A07 ([a0.fOTC]:List Int) r16 hr16)) (fa (cl [(0,1004),(1,101300),(500,500),(950000,101500)] (G3 (a0.fOTC != (-1)) 35 r16 r15 r17 hr17)) tt))) ?_
  apply A0
  refine ghost (mp [] [(1,(pt 1001)),(4,(pt 1004))] [(500,some (.know (globD 0 (.imap gv0)))),(1001,bd 35 (B9 a0)),(1004,some (.box 33 (.sref 101500 3 0 r17.length))),(101500,some (C9 r17))] hB) ?_
  apply seq
  refine sr (SQ tt) ?_
  apply block
  obtain⟨p27,hx33,h⟩:=bindS h
  refine lg (L6 a0) (fun s18:Int×(List A1)=>([(4,(pt 1004)),(96,(B0 a0.fOther)),(97,(i6 (a0.fOther.length:Int))),(98,(i6 s18.1))]:EL)) (fun s18:Int×(List A1)=>([(500,some (.know (globD 0 (.imap gv0)))),(1004,some (.box 33 (.sref 4004 3 0 s18.2.length))),(4004,some (C9 s18.2))]:OL)) (fun(p27:((List A1))) e E' O'=>e = .exit 0∧Mat B E' O' ([(4,(pt 1004))]:EL) ([(500,some (.know (globD 0 (.imap gv0)))),(1004,some (.box 33 (.sref 4004 3 0 p27.length))),(4004,some (C9 p27))]:OL)) hx33 (mp [(4004,101500)] _ _ hB) (fun s18 y h => ?_) (fun e E' O' hR => ?_)
  ·unfold L6 at h
   refine sr (SQ tt) ?_
   apply seq
   apply AWp.cond rfl<;>intro hg28
   ·have h:=A4 hg28 h
    apply AWp.skip
    apply A0
    apply seq
    apply block
    obtain⟨x29,hx29,h⟩:=bindS h
    refine sr (SQ (fa hx29 tt)) ?_
    obtain⟨r30,hr30,h⟩:=bindS h
    refine sr (SQ (fa (cl [] (A3k x29.fData r30 hr30)) tt)) ?_
    obtain⟨hc31,h⟩:=B6 h
    refine rg (SQ (fa hc31 tt)) ?_
    apply D7
    apply A0
    refine rg (SQ tt) ?_
    obtain rfl:=oi h
    exact⟨rfl,(mp [(4004,1109)] _ _ hB)⟩
   ·have h:=A5 hg28 h
    apply AWp.exit
    apply D8
    obtain rfl:=oi h
    exact⟨(fun hc=>by cases hc),rfl,(mp [] _ _ hB)⟩
  ·obtain⟨rfl,hmat⟩:=hR
   apply C3
   apply A0
   refine ghost hmat ?_
   apply seq
   obtain⟨r34,hr34,h⟩:=bindS h
   obtain⟨hc35,h⟩:=B6 h
   have lhc35:=of_decide_eq_true hc35
   have hc35_o:=of_decide_eq_true hc35
   refine rg (SQ (fa (cl [(0,4004)] (R9 p27 r34 hr34)) tt)) ?_
   apply A0
   refine ghost (mp [] [(4,(pt 1004))] [(500,some (.know (globD 0 (.imap gv0)))),(1004,some (.box 33 (.sref 4004 3 0 p27.length))),(4004,some (C9 r34))] hB) ?_
   refine sr (SQ tt) ?_
   apply ret
   obtain rfl:=oi h
   exact rt (Mat.trans (Mat.lenP (Ts:=[(2,(.sref 4004 3 0 r34.length))]) (Bs:=[]) (TwT.cons (x:=(.sref 4004 3 0 p27.length)) (by rfl) (Tw.leaf ⟨_,_,_,_,_,rfl,rfl,(by first | rfl | (simp;done) | (simp;omega) | omega)⟩) TwT.nil) TwB.nil) (mp [(900000,4004)] [(2,(.sref 900000 3 0 r34.length)),(3,(i6 0))] [(500,some (.know (globD 0 (.imap gv0)))),(900000,some (C9 r34))] hB)) [(.sref 900000 3 0 r34.length),(i6 0)] (rT (rT rN)) rfl
def A0r (a0:(List A2)) (a1:Bool) (s1:Int×(List Int)):Option ((((List Int)))⊕(Int×(List Int))) :=
 (if (decide (s1.1<(a0.length:Int)))=true then
 (idx a0 s1.1).bind fun x32 =>
 jn (fun m38:(List Int) =>
 some (.inr ((w64 (s1.1+1)),m38))) (fun j39 =>
 (if (x32.fAddr.fV6==a1)=true then
 chk (decide ((s1.2++([(IntKind.u8.wrap x32.fLen)]:List Int)).length≤LIM)) <|
 (S6 x32.fAddr).bind fun r42 =>
 chk ((decide (0≤(w64 (Int.tdiv (w64 (x32.fLen+7)) 8)))&&decide (0≤(w64 (Int.tdiv (w64 (x32.fLen+7)) 8)).toNat)&&decide ((w64 (Int.tdiv (w64 (x32.fLen+7)) 8)).toNat≤r42.length))) <|
 chk (decide (((s1.2++([(IntKind.u8.wrap x32.fLen)]:List Int))++((r42.take ((w64 (Int.tdiv (w64 (x32.fLen+7)) 8)).toNat)).drop 0)).length≤LIM)) <|
 j39 ((s1.2++([(IntKind.u8.wrap x32.fLen)]:List Int))++((r42.take ((w64 (Int.tdiv (w64 (x32.fLen+7)) 8)).toNat)).drop 0))
 else
 j39 s1.2))
 else
 some (.inl s1.2))
def L7 (a0:(List A2)) (a1:Bool):Option ((List Int)) :=
 (loop (A0r a0 a1) (0,([]:List Int))).bind fun p30 =>
 some p30
theorem A38 (a0:(List A2)) (a1:Bool) (r:(List Int)) (h:L7 a0 a1=some r):AC Tryz.prog 114 [.nils,(.d (.list 4 (a0.map C4))),(.d (.bool a1))] [] (.d (.list 1 (r.map (eI .u8)))) []:=by
 refine ac2 Tryz.func114 rfl rfl fun B hB hN L => ?_
 delta L7 at h
 refine sr (SQ tt) ?_
 apply seq
 refine sr (SQ tt) ?_
 apply block
 obtain⟨p30,hx46,h⟩:=bindS h
 refine lg (A0r a0 a1) (fun s1:Int×(List Int)=>([(0,(.sref 3000 1 0 s1.2.length)),(2,(bo a1)),(9,(E6 a0)),(10,(i6 (a0.length:Int))),(11,(i6 s1.1))]:EL)) (fun s1:Int×(List Int)=>([(3000,some (.row 5 1 (s1.2.map (eI .u8))))]:OL)) (fun(p30:((List Int))) e E' O'=>e = .exit 0∧Mat B E' O' ([(0,(.sref 3000 1 0 p30.length))]:EL) ([(3000,some (.row 5 1 (p30.map (eI .u8))))]:OL)) hx46 (Mat.trans (Mat.beginP (n:=3000) (e:=5) (sz:=1) (Ts:=[(0,(.sref 3000 1 0 0))]) (Bs:=[]) hB (by decide) (by rfl) (by decide) (TwT.cons (x:=.nils) (by rfl) (Tw.leaf ⟨rfl,rfl⟩) TwT.nil) TwB.nil) (mp [] _ _ hB)) (fun s1 y h => ?_) (fun e E' O' hR => ?_)
 ·unfold A0r at h
  refine sr (SQ tt) ?_
  apply seq
  apply AWp.cond rfl<;>intro hg31
  ·have h:=A4 hg31 h
   apply AWp.skip
   apply A0
   apply seq
   apply block
   obtain⟨x32,hx32,h⟩:=bindS h
   refine sr (SQ (fa hx32 tt)) ?_
   refine sr (SQ tt) ?_
   refine gh [(0,_),(2,_),(8,_),(9,_),(10,_),(11,_),(19,_)] [(1008,some _),(3000,some _)] hB rfl rfl (by rfl) ?_
   refine AWp.cut h (fun m38:(List Int)=>([(0,(.sref 3000 1 0 m38.length)),(2,(bo a1)),(9,(E6 a0)),(10,(i6 (a0.length:Int))),(11,(i6 s1.1))]:EL)) (fun m38:(List Int)=>([(3000,some (.row 5 1 (m38.map (eI .u8))))]:OL)) (fun m38 h E' O' hmat => ?_) (fun j39 hjj39 h => ?_)
   ·apply D7
    apply A0
    refine ghost hmat ?_
    refine rg (SQ tt) ?_
    obtain rfl:=oi h
    exact⟨rfl,(mp [] _ _ hB)⟩
   ·apply AWp.cond rfl<;>intro hg40
    ·have h:=A4 hg40 h
     obtain⟨hc41,h⟩:=B6 h
     obtain⟨r42,hr42,h⟩:=bindS h
     obtain⟨hc43,h⟩:=B6 h
     obtain⟨hc44,h⟩:=B6 h
     refine drS (SQ (fa hc41 (fa (cl [] (A1o x32.fAddr r42 hr42)) (fa hc43 (fa hc44 tt))))) ?_
     exact hjj39 _ h _ _ (mp [(3000,1034)] _ _ hB)
    ·have h:=A5 hg40 h
     apply AWp.skip
     exact hjj39 _ h _ _ (mp [] _ _ hB)
  ·have h:=A5 hg31 h
   apply AWp.exit
   apply D8
   obtain rfl:=oi h
   exact⟨(fun hc=>by cases hc),rfl,(mp [] _ _ hB)⟩
 ·obtain⟨rfl,hmat⟩:=hR
  apply C3
  apply A0
  refine ghost hmat ?_
  refine sr (SQ tt) ?_
  apply ret
  obtain rfl:=oi h
  exact rt (Mat.trans (Mat.freezeP (n:=3000) (e:=5) (sz:=1) (es:=p30.map (eI .u8)) (Ts:=[(6,(.d (.list 1 (p30.map (eI .u8)))))]) (Bs:=[]) (by rfl) (TwT.cons (x:=(.sref 3000 1 0 p30.length)) (by rfl) (FrzL.all (by first | rfl | (simp;done) | (simp;omega) | omega)) TwT.nil) TwB.nil) (mp [] [(6,(.d (.list 1 (p30.map (eI .u8)))))] [] hB)) [(.d (.list 1 (p30.map (eI .u8))))] (rT rN) rfl
def U7 (a0:A1) (a1:A1):Option (Int) :=
 (H8 a0.fType a1.fType).bind fun r1 =>
 some r1
theorem A6o (a0:A1) (a1:A1) (r:Int) (h:U7 a0 a1=some r):AC Tryz.prog 124 [(.d (A7 a0)),(.d (A7 a1))] [] (.d (.int .i64 r)) []:=by
 refine AC.of_code2 Tryz.func124 rfl rfl (Nat.le_of_ble_eq_true (by rfl)) fun B hB hN => ?_
 delta U7 at h
 refine sr (SQ tt) ?_
 obtain⟨r1,hr1,h⟩:=bindS h
 refine sr (SQ (fa (cl [] (I9 a0.fType a1.fType r1 hr1)) tt)) ?_
 apply ret
 obtain rfl:=oi h
 exact rt (kp [(4,_)] [] hB rfl rfl (by rfl)) [(i6 r1)] (rT rN) rfl
def H4 (a0:(List A1)):Option (List A1):=sortF a0 fun x y=>U7 x y
theorem V2 (a0:(List A1)) (r:List A1) (h:H4 a0=some r):AC Tryz.prog 123 [(.sref 0 3 0 a0.length),.func 124 []] [(0,(.row 69 3 (a0.map A7)))] (.tup []) [(0,some (.row 69 3 (r.map A7)))] :=
 AC.sortF A7 (fun x y=>U7 x y) a0 r h sortOk123 fnOk124 (fun _=>rfl) rfl rfl (fun x y c hc=>A6o x y c hc)
def S1 (a0:A6):Option ((List A1)) :=
 (J0 a0.fAttrs).bind fun r1 =>
 jn (fun m8:(List A1) =>
 (L7 a0.fWithdraw true).bind fun r10 =>
 jn (fun m15:(List A1) =>
 (H4 m15).bind fun r17 =>
 chk (decide (r17.length=m15.length)) <|
 some ((r17.drop 0).take m15.length)) (fun j16 =>
 (if (decide (0<(r10.length:Int)))=true then
 chk (decide ((([0,2,1]:List Int)++r10).length≤LIM)) <|
 chk (decide ((m8++([(A1.mk 128 15 (([0,2,1]:List Int)++r10))]:List A1)).length≤LIM)) <|
 j16 (m8++([(A1.mk 128 15 (([0,2,1]:List Int)++r10))]:List A1))
 else
 j16 m8))) (fun j9 =>
 (if ((decide (0<(a0.fAnnounce.length:Int)))&&a0.fAttrs.fNext.fV6)=true then
 (S6 a0.fAttrs.fNext).bind fun r23 =>
 chk (decide ((([0,2,1,16]:List Int)++r23).length≤LIM)) <|
 chk (decide (((([0,2,1,16]:List Int)++r23)++([0]:List Int)).length≤LIM)) <|
 (S8 ((([0,2,1,16]:List Int)++r23)++([0]:List Int)) a0.fAnnounce true).bind fun r26 =>
 chk (decide ((r1.1++[(A1.mk 128 14 r26)]).length≤LIM)) <|
 j9 (r1.1++[(A1.mk 128 14 r26)])
 else
 j9 r1.1))
theorem A8o (a0:A6) (r:(List A1)) (h:S1 a0=some r):AC Tryz.prog 113 [(.d (D1 a0))] [(500,(.know (globD 0 (.imap gv0))))] (.d (.list 3 (r.map A7))) [(500,some (.know (globD 0 (.imap gv0))))]:=by
 refine ac2 Tryz.func113 rfl rfl fun B hB hN L => ?_
 delta S1 at h
 refine sr (SQ tt) ?_
 apply seq
 obtain⟨r1,hr1,h⟩:=bindS h
 refine rg (SQ (fa (cl [(500,500),(900000,100000)] (A55 a0.fAttrs r1 hr1)) tt)) ?_
 apply A0
 refine ghost (mp [] [(1,(pt 1001)),(3,(.sref 100000 3 0 r1.1.length))] [(500,some (.know (globD 0 (.imap gv0)))),(1001,bd 61 (D1 a0)),(100000,some (C9 r1.1))] hB) ?_
 apply seq
 refine sr (SQ tt) ?_
 refine gh [(1,_),(3,_),(22,_)] [(500,some _),(1001,some _),(100000,some _)] hB rfl rfl (by rfl) ?_
 refine AWp.cut h (fun m8:(List A1)=>([(1,(pt 1001)),(3,(.sref 3003 3 0 m8.length))]:EL)) (fun m8:(List A1)=>([(500,some (.know (globD 0 (.imap gv0)))),(1001,bd 61 (D1 a0)),(3003,some (C9 m8))]:OL)) (fun m8 h E' O' hmat => ?_) (fun j9 hjj9 h => ?_)
 ·apply A0
  refine ghost hmat ?_
  apply seq
  obtain⟨r10,hr10,h⟩:=bindS h
  refine sr (SQ (fa (cl [] (A38 a0.fWithdraw true r10 hr10)) tt)) ?_
  refine sr (SQ tt) ?_
  refine gh [(3,_),(6,_),(44,_)] [(500,some _),(3003,some _)] hB rfl rfl (by rfl) ?_
  refine AWp.cut h (fun m15:(List A1)=>([(3,(.sref 3003 3 0 m15.length))]:EL)) (fun m15:(List A1)=>([(500,some (.know (globD 0 (.imap gv0)))),(3003,some (C9 m15))]:OL)) (fun m15 h E' O' hmat => ?_) (fun j16 hjj16 h => ?_)
  ·apply A0
   refine ghost hmat ?_
   apply seq
   obtain⟨r17,hr17,h⟩:=bindS h
   obtain⟨hc18,h⟩:=B6 h
   have lhc18:=of_decide_eq_true hc18
   have hc18_o:=of_decide_eq_true hc18
   refine rg (SQ (fa (cl [(0,3003)] (V2 m15 r17 hr17)) tt)) ?_
   apply A0
   refine ghost (mp [] [(3,(.sref 3003 3 0 m15.length))] [(500,some (.know (globD 0 (.imap gv0)))),(3003,some (C9 r17))] hB) ?_
   refine sr (SQ tt) ?_
   apply ret
   obtain rfl:=oi h
   exact rt (Mat.trans (Mat.freezeP (n:=3003) (e:=69) (sz:=3) (es:=r17.map A7) (Ts:=[(2,(B0 ((r17.drop 0).take m15.length)))]) (Bs:=[]) (by rfl) (TwT.cons (x:=(.sref 3003 3 0 m15.length)) (by rfl) (FrzL.cut (fs:=((r17.drop 0).take m15.length).map A7) (by simp only [List.length_map,List.length_append,List.length_take,List.length_drop,List.length_replicate,List.length_set];omega) (by first | rw [List.map_drop,List.map_take] | (simp [List.map_take,List.map_drop];done) | simp [List.take_of_length_le])) TwT.nil) TwB.nil) (mp [] [(2,(B0 ((r17.drop 0).take m15.length)))] [(500,some (.know (globD 0 (.imap gv0))))] hB)) [(B0 ((r17.drop 0).take m15.length))] (rT rN) rfl
  ·apply AWp.cond rfl<;>intro hg19
   ·have h:=A4 hg19 h
    obtain⟨hc20,h⟩:=B6 h
    obtain⟨hc21,h⟩:=B6 h
    apply rg (c (mv hN (q 3)) rfl (cg (OpJ.buildSliceR underlying67 tyS5 tyZD5 (by rfl) (by decide) (by decide) hB (nm:=1046) (by decide) (len:=([0,2,1]:List Int).length) (by rfl) (Opds.cons (Opd.int .u8 (0)) (Opds.cons (Opd.int .u8 (2)) (Opds.cons (Opd.int .u8 (1)) Opds.nil))) (by kernel_rfl) (es:=([0,2,1]:List Int).map (eI .u8)) (by rfl) (by rfl) (by kernel_rfl) (by simp) (L rfl)) rfl (c (mv hN (q 6)) rfl (cg (OpJ.frz (apd hB underlying67 tyE5 1048 (eI .u8) ([0,2,1]:List Int) r10 hc20 (L rfl) (q 46) (q 47)) (by simp)) rfl (c (OpJ.coe (v:=(.st [(i6 128),(i6 15),(.d (.list 1 ((([0,2,1]:List Int)++r10).map (eI .u8))))])) (y:=(.st [(.int .i64 128),(.int .i64 15),(.list 1 ((([0,2,1]:List Int)++r10).map (eI .u8)))])) (Co.st (CoL.cons (Co.d _) (CoL.cons (Co.d _) (CoL.cons (Co.d _) CoL.nil)))) rfl (OpJ.build (places:=[(0,1),(1,1),(2,1)]) ⟨underlying69,fun w=>by kernel_rfl⟩ tyZS69 (Opds.cons (ii 128) (Opds.cons (ii 15) (Opds.cons (q 48) Opds.nil))) (by kernel_rfl) (r:=(.st [(i6 128),(i6 15),(.d (.list 1 ((([0,2,1]:List Int)++r10).map (eI .u8))))])) (by rfl) (L rfl))) rfl (c (buildSlice underlying33 tyS69 tyZD69 (by rfl) (by decide) (by decide) (Opds.cons (q 49) Opds.nil) (by kernel_rfl) (es:=([(.st [(.int .i64 128),(.int .i64 15),(.list 1 ((([0,2,1]:List Int)++r10).map (eI .u8)))])]:List D)) (by rfl) (by rfl) (by kernel_rfl) (by simp) (L rfl)) rfl (cg (apd hB underlying33 tyE69 1051 A7 m8 ([(A1.mk 128 15 (([0,2,1]:List Int)++r10))]:List A1) hc21 (L rfl) (q 45) (q 50)) rfl (c (assign (L rfl) (q 51)) rfl cn))))))))
    exact hjj16 _ h _ _ (mp [(3003,1051)] _ _ hB)
   ·have h:=A5 hg19 h
    apply AWp.skip
    exact hjj16 _ h _ _ (mp [] _ _ hB)
 ·apply AWp.cond rfl<;>intro hg22
  ·have h:=A4 hg22 h
   obtain⟨r23,hr23,h⟩:=bindS h
   obtain⟨hc24,h⟩:=B6 h
   apply sr (cg (OpJ.buildSliceR underlying67 tyS5 tyZD5 (by rfl) (by decide) (by decide) hB (nm:=1023) (by decide) (len:=([0,2,1,16]:List Int).length) (by rfl) (Opds.cons (Opd.int .u8 (0)) (Opds.cons (Opd.int .u8 (2)) (Opds.cons (Opd.int .u8 (1)) (Opds.cons (Opd.int .u8 (16)) Opds.nil)))) (by kernel_rfl) (es:=([0,2,1,16]:List Int).map (eI .u8)) (by rfl) (by rfl) (by kernel_rfl) (by simp) (L rfl)) rfl (c (fo 1001 1 [1] hN underlying61 1 tyS35 (q 1)) rfl (c (fo 1001 3 [1,2] hN underlying35 2 tyS27 (q 24)) rfl (c (lb hN 61 _ _ tyS27 (At.dst1 (by rfl) (by rfl) (ad _) (by first | rfl | omega)) (q 25)) rfl (cg (cf hB fnOk122 (A1o a0.fAttrs.fNext r23 hr23) (L rfl) (OpdL.cons (q 26) OpdL.nil)) rfl (cg (apd hB underlying67 tyE5 1028 (eI .u8) ([0,2,1,16]:List Int) r23 hc24 (L rfl) (q 23) (q 27)) rfl (c (assign (L rfl) (q 28)) rfl cn)))))))
   obtain⟨hc25,h⟩:=B6 h
   obtain⟨r26,hr26,h⟩:=bindS h
   obtain⟨hc27,h⟩:=B6 h
   refine drS (SQ (fa hc25 (fa (cl [(0,1032)] (A4e ((([0,2,1,16]:List Int)++r23)++([0]:List Int)) a0.fAnnounce true r26 hr26)) (fa hc27 tt)))) ?_
   exact hjj9 _ h _ _ (mp [(3003,1038)] _ _ hB)
  ·have h:=A5 hg22 h
   apply AWp.skip
   exact hjj9 _ h _ _ (mp [(3003,100000)] _ _ hB)
def P6 (a0:(List A1)) (s1:Int):Option (((Unit)⊕(Unit))⊕(Int)) :=
 (if (decide (s1<(a0.length:Int)))=true then
 (idx a0 s1).bind fun x29 =>
 jn (fun m34:Bool =>
 (if m34=true then
 some (.inl (.inl ()))
 else
 some (.inr (w64 (s1+1))))) (fun j35 =>
 (G1 x29.fFlags 0 255).bind fun r37 =>
 (if (!r37)=true then
 j35 true
 else
 (G1 x29.fType 0 255).bind fun r39 =>
 j35 ((!r39) || (decide (65535<(x29.fData.length:Int))))))
 else
 some (.inl (.inr ())))
def P7 (a0:(List A1)) (s42:Int×(List Int)):Option (((Unit)⊕((List Int)))⊕(Int×(List Int))) :=
 (if (decide (s42.1<(a0.length:Int)))=true then
 (idx a0 s42.1).bind fun x70 =>
 jn (fun m74:(List Int) =>
 chk (decide ((m74++x70.fData).length≤LIM)) <|
 (if (decide (2048<((m74++x70.fData).length:Int)))=true then
 some (.inl (.inl ()))
 else
 some (.inr ((w64 (s42.1+1)),(m74++x70.fData))))) (fun j75 =>
 (if (decide (255<(x70.fData.length:Int)))=true then
 chk (decide ((s42.2++([(bitI .or .u8 (bitI .and .u8 (IntKind.u8.wrap x70.fFlags) 224) 16),(IntKind.u8.wrap x70.fType),(IntKind.u8.wrap (shrI .i64 (x70.fData.length:Int) 8)),(IntKind.u8.wrap (x70.fData.length:Int))]:List Int)).length≤LIM)) <|
 j75 (s42.2++([(bitI .or .u8 (bitI .and .u8 (IntKind.u8.wrap x70.fFlags) 224) 16),(IntKind.u8.wrap x70.fType),(IntKind.u8.wrap (shrI .i64 (x70.fData.length:Int) 8)),(IntKind.u8.wrap (x70.fData.length:Int))]:List Int))
 else
 chk (decide ((s42.2++([(bitI .and .u8 (IntKind.u8.wrap x70.fFlags) 224),(IntKind.u8.wrap x70.fType),(IntKind.u8.wrap (x70.fData.length:Int))]:List Int)).length≤LIM)) <|
 j75 (s42.2++([(bitI .and .u8 (IntKind.u8.wrap x70.fFlags) 224),(IntKind.u8.wrap x70.fType),(IntKind.u8.wrap (x70.fData.length:Int))]:List Int))))
 else
 some (.inl (.inr s42.2)))
def W4 (a0:(List A1)):Option ((List Int)×Int) :=
 (loop (P6 a0) 0).bind fun x40=>match x40 with
 | (.inl _) =>
  some (([]:List Int),1)
 | (.inr _) =>
  (loop (P7 a0) (0,([]:List Int))).bind fun x81=>match x81 with
  | (.inl _) =>
   some (([]:List Int),3)
  | (.inr p68) =>
   some (p68,0)
theorem A6a (a0:(List A1)) (r:(List Int)×Int) (h:W4 a0=some r):AC Tryz.prog 112 [(.d (.list 3 (a0.map A7)))] [] (.tup [(.d (.list 1 (r.1.map (eI .u8)))),(.d (.int .i64 r.2))]) []:=by
 refine ac2 Tryz.func112 rfl rfl fun B hB hN L => ?_
 delta W4 at h
 refine sr (SQ tt) ?_
 apply seq
 refine sr (SQ tt) ?_
 apply block
 obtain⟨x40,hx41,h⟩:=bindS h
 refine lg (P6 a0) (fun s1:Int=>([(0,(B0 a0)),(11,(B0 a0)),(12,(i6 (a0.length:Int))),(13,(i6 s1))]:EL)) (fun s1:Int=>([]:OL)) (fun(x:(Unit)⊕(Unit)) e E' O'=>match x with | (.inl _p)=>e = .ret∧Mat B E' O' ([(2,.nils),(3,(i6 1))]:EL) ([]:OL) | (.inr _p)=>e = .exit 0∧Mat B E' O' ([(0,(B0 a0))]:EL) ([]:OL)) hx41 (mp [] _ _ hB) (fun s1 y h => ?_) (fun e E' O' hR => ?_)
 ·unfold P6 at h
  refine sr (SQ tt) ?_
  apply seq
  apply AWp.cond rfl<;>intro hg28
  ·have h:=A4 hg28 h
   apply AWp.skip
   apply A0
   apply seq
   apply block
   obtain⟨x29,hx29,h⟩:=bindS h
   refine sr (SQ (fa hx29 tt)) ?_
   apply seq
   refine AWp.cut h (fun m34:Bool=>([(0,(B0 a0)),(11,(B0 a0)),(12,(i6 (a0.length:Int))),(13,(i6 s1)),(32,(bo m34))]:EL)) (fun m34:Bool=>([]:OL)) (fun m34 h E' O' hmat => ?_) (fun j35 hjj35 h => ?_)
   ·apply A0
    refine ghost hmat ?_
    apply AWp.cond rfl<;>intro hg36
    ·have h:=A4 hg36 h
     refine sr (SQ tt) ?_
     apply ret
     apply D4
     apply B3
     obtain rfl:=oi h
     exact⟨(fun hc=>by cases hc),rfl,(mp [] _ _ hB)⟩
    ·have h:=A5 hg36 h
     apply AWp.skip
     apply D7
     apply A0
     refine rg (SQ tt) ?_
     obtain rfl:=oi h
     exact⟨rfl,(mp [] _ _ hB)⟩
   ·obtain⟨r37,hr37,h⟩:=bindS h
    rcases bft (!r37) with hg38 | hg38
    ·have h:=A4 hg38 h
     refine rg (SQ (fa (cl [] (B1 x29.fFlags 0 255 r37 hr37)) (fa hg38 tt))) ?_
     exact hjj35 _ h _ _ (mp [] _ _ hB)
    ·have h:=A5 hg38 h
     obtain⟨r39,hr39,h⟩:=bindS h
     refine rg (SQ (fa (cl [] (B1 x29.fFlags 0 255 r37 hr37)) (fa hg38 (fa (cl [] (B1 x29.fType 0 255 r39 hr39)) tt)))) ?_
     exact hjj35 _ h _ _ (mp [] _ _ hB)
  ·have h:=A5 hg28 h
   apply AWp.exit
   apply D8
   obtain rfl:=oi h
   exact⟨(fun hc=>by cases hc),rfl,(mp [] _ _ hB)⟩
 ·rcases x40 with _ | _
  ·obtain⟨rfl,hmat⟩:=hR
   apply D4
   apply B3
   obtain rfl:=oi h
   exact rt (Mat.trans hmat (Mat.trans (Mat.coeP (Ts:=[(2,(.d (.list 1 (([]:List Int).map (eI .u8)))))]) (Bs:=[]) (TwT.cons (x:=.nils) (by rfl) (Tw.leaf ⟨_,(Co.nils 1),rfl⟩) TwT.nil) TwB.nil) (mp [] [(2,(.d (.list 1 (([]:List Int).map (eI .u8))))),(3,(i6 1))] [] hB))) [(.d (.list 1 (([]:List Int).map (eI .u8)))),(i6 1)] (rT (rT rN)) rfl
  ·obtain⟨rfl,hmat⟩:=hR
   apply C3
   apply A0
   refine ghost hmat ?_
   refine sr (SQ tt) ?_
   apply seq
   refine sr (SQ tt) ?_
   apply block
   obtain⟨x81,hx82,h⟩:=bindS h
   refine lg (P7 a0) (fun s42:Int×(List Int)=>([(6,(.sref 3006 1 0 s42.2.length)),(34,(B0 a0)),(35,(i6 (a0.length:Int))),(36,(i6 s42.1))]:EL)) (fun s42:Int×(List Int)=>([(3006,some (.row 5 1 (s42.2.map (eI .u8))))]:OL)) (fun(x:(Unit)⊕((List Int))) e E' O'=>match x with | (.inl _p)=>e = .ret∧Mat B E' O' ([(2,.nils),(3,(i6 3))]:EL) ([]:OL) | (.inr p68)=>e = .exit 2∧Mat B E' O' ([(6,(.sref 3006 1 0 p68.length))]:EL) ([(3006,some (.row 5 1 (p68.map (eI .u8))))]:OL)) hx82 (Mat.trans (Mat.beginP (n:=3006) (e:=5) (sz:=1) (Ts:=[(6,(.sref 3006 1 0 0))]) (Bs:=[]) hB (by decide) (by rfl) (by decide) (TwT.cons (x:=.nils) (by rfl) (Tw.leaf ⟨rfl,rfl⟩) TwT.nil) TwB.nil) (mp [] _ _ hB)) (fun s42 y h => ?_) (fun e E' O' hR => ?_)
   ·unfold P7 at h
    refine sr (SQ tt) ?_
    apply seq
    apply AWp.cond rfl<;>intro hg69
    ·have h:=A4 hg69 h
     apply AWp.skip
     apply A0
     apply seq
     apply block
     obtain⟨x70,hx70,h⟩:=bindS h
     refine sr (SQ (fa hx70 tt)) ?_
     refine sdS (SQ tt) ?_
     apply seq
     refine sr (SQ tt) ?_
     refine gh [(6,_),(8,_),(9,_),(10,_),(34,_),(35,_),(36,_),(48,_)] [(1008,some _),(3006,some _)] hB rfl rfl (by rfl) ?_
     refine AWp.cut h (fun m74:(List Int)=>([(6,(.sref 3006 1 0 m74.length)),(8,(pt 1008)),(34,(B0 a0)),(35,(i6 (a0.length:Int))),(36,(i6 s42.1))]:EL)) (fun m74:(List Int)=>([(1008,bd 69 (A7 x70)),(3006,some (.row 5 1 (m74.map (eI .u8))))]:OL)) (fun m74 h E' O' hmat => ?_) (fun j75 hjj75 h => ?_)
     ·apply A0
      refine ghost hmat ?_
      obtain⟨hc76,h⟩:=B6 h
      refine sr (SQ (fa hc76 tt)) ?_
      refine sr (SQ tt) ?_
      apply AWp.cond rfl<;>intro hg77
      ·have h:=A4 hg77 h
       refine sr (SQ tt) ?_
       apply ret
       apply D4
       apply B3
       obtain rfl:=oi h
       exact⟨(fun hc=>by cases hc),rfl,(mp [] _ _ hB)⟩
      ·have h:=A5 hg77 h
       apply AWp.skip
       apply D7
       apply A0
       refine rg (SQ tt) ?_
       obtain rfl:=oi h
       exact⟨rfl,(mp [(3006,1074)] _ _ hB)⟩
     ·apply AWp.cond rfl<;>intro hg78
      ·have h:=A4 hg78 h
       obtain⟨hc79,h⟩:=B6 h
       refine rg (SQ (fa hc79 tt)) ?_
       exact hjj75 _ h _ _ (mp [(3006,1061)] _ _ hB)
      ·have h:=A5 hg78 h
       obtain⟨hc80,h⟩:=B6 h
       refine rg (SQ (fa hc80 tt)) ?_
       exact hjj75 _ h _ _ (mp [(3006,1070)] _ _ hB)
    ·have h:=A5 hg69 h
     apply AWp.exit
     apply D8
     obtain rfl:=oi h
     exact⟨(fun hc=>by cases hc),rfl,(mp [] _ _ hB)⟩
   ·rcases x81 with _ | p68
    ·obtain⟨rfl,hmat⟩:=hR
     apply D4
     apply B3
     obtain rfl:=oi h
     exact rt (Mat.trans hmat (Mat.trans (Mat.coeP (Ts:=[(2,(.d (.list 1 (([]:List Int).map (eI .u8)))))]) (Bs:=[]) (TwT.cons (x:=.nils) (by rfl) (Tw.leaf ⟨_,(Co.nils 1),rfl⟩) TwT.nil) TwB.nil) (mp [] [(2,(.d (.list 1 (([]:List Int).map (eI .u8))))),(3,(i6 3))] [] hB))) [(.d (.list 1 (([]:List Int).map (eI .u8)))),(i6 3)] (rT (rT rN)) rfl
    ·obtain⟨rfl,hmat⟩:=hR
     apply C3
     apply A0
     refine ghost hmat ?_
     refine sr (SQ tt) ?_
     apply ret
     obtain rfl:=oi h
     exact rt (Mat.trans (Mat.freezeP (n:=3006) (e:=5) (sz:=1) (es:=p68.map (eI .u8)) (Ts:=[(2,(.d (.list 1 (p68.map (eI .u8)))))]) (Bs:=[]) (by rfl) (TwT.cons (x:=(.sref 3006 1 0 p68.length)) (by rfl) (FrzL.all (by first | rfl | (simp;done) | (simp;omega) | omega)) TwT.nil) TwB.nil) (mp [] [(2,(.d (.list 1 (p68.map (eI .u8))))),(3,(i6 0))] [] hB)) [(.d (.list 1 (p68.map (eI .u8)))),(i6 0)] (rT (rT rN)) rfl
def A2f (a0:Int):Option ((List Int)) :=
 chk (decide (([(IntKind.u8.wrap (shrI .i64 a0 8)),(IntKind.u8.wrap a0)]:List Int).length≤LIM)) <|
 some ([(IntKind.u8.wrap (shrI .i64 a0 8)),(IntKind.u8.wrap a0)]:List Int)
theorem A7n (a0:Int) (r:(List Int)) (h:A2f a0=some r):AC Tryz.prog 115 [.nils,(.d (.int .i64 a0))] [] (.sref 900000 1 0 r.length) [(900000,some (.row 5 1 (r.map (eI .u8))))]:=by
 refine AC.of_code2 Tryz.func115 rfl rfl (Nat.le_of_ble_eq_true (by rfl)) fun B hB hN => ?_
 delta A2f at h
 refine sr (SQ tt) ?_
 obtain⟨hc1,h⟩:=B6 h
 refine sr (SQ (fa hc1 tt)) ?_
 apply ret
 obtain rfl:=oi h
 exact rt (mp [(900000,1012)] [(4,(.sref 900000 1 0 (([(IntKind.u8.wrap (shrI .i64 a0 8)),(IntKind.u8.wrap a0)]:List Int).length)))] [(900000,some (.row 5 1 (([(IntKind.u8.wrap (shrI .i64 a0 8)),(IntKind.u8.wrap a0)]:List Int).map (eI .u8))))] hB) [(.sref 900000 1 0 (([(IntKind.u8.wrap (shrI .i64 a0 8)),(IntKind.u8.wrap a0)]:List Int).length))] (rT rN) rfl
def A2g (a0:(List Int)) (a1:Int):Option ((List Int)) :=
 chk (decide ((a0++([(IntKind.u8.wrap (shrI .i64 a1 8)),(IntKind.u8.wrap a1)]:List Int)).length≤LIM)) <|
 some (a0++([(IntKind.u8.wrap (shrI .i64 a1 8)),(IntKind.u8.wrap a1)]:List Int))
theorem A7o (a0:(List Int)) (a1:Int) (r:(List Int)) (h:A2g a0 a1=some r):AC Tryz.prog 115 [(.sref 0 1 0 a0.length),(.d (.int .i64 a1))] [(0,(.row 5 1 (a0.map (eI .u8))))] (.sref 900000 1 0 r.length) [(0,none),(900000,some (.row 5 1 (r.map (eI .u8))))]:=by
 refine AC.of_code2 Tryz.func115 rfl rfl (Nat.le_of_ble_eq_true (by rfl)) fun B hB hN => ?_
 delta A2g at h
 refine sr (SQ tt) ?_
 obtain⟨hc1,h⟩:=B6 h
 have hc1_o:=hc1
 simp only [decide_eq_true_eq] at hc1_o
 refine sr (SQ (fa hc1 tt)) ?_
 apply ret
 obtain rfl:=oi h
 exact rt (mp [(900000,1012)] [(4,(.sref 900000 1 0 ((a0++([(IntKind.u8.wrap (shrI .i64 a1 8)),(IntKind.u8.wrap a1)]:List Int)).length)))] [(900000,some (.row 5 1 ((a0++([(IntKind.u8.wrap (shrI .i64 a1 8)),(IntKind.u8.wrap a1)]:List Int)).map (eI .u8))))] hB) [(.sref 900000 1 0 ((a0++([(IntKind.u8.wrap (shrI .i64 a1 8)),(IntKind.u8.wrap a1)]:List Int)).length))] (rT rN) rfl
def A1r (a0:A6):Option ((List Int)×Bool) :=
 (S1 a0).bind fun r1 =>
 (W4 r1).bind fun r2 =>
 (L7 a0.fWithdraw false).bind fun r3 =>
 (A2f (r3.length:Int)).bind fun r4 =>
 chk (decide ((r4++r3).length≤LIM)) <|
 (A2g (r4++r3) (r2.1.length:Int)).bind fun r6 =>
 chk (decide ((r6++r2.1).length≤LIM)) <|
 (S8 (r6++r2.1) a0.fAnnounce false).bind fun r8 =>
 some (r8,((r2.2==0)&&(decide ((r8.length:Int)≤4077))))
theorem A8p (a0:A6) (r:(List Int)×Bool) (h:A1r a0=some r):AC Tryz.prog 92 [(.d (D1 a0))] [(500,(.know (globD 0 (.imap gv0))))] (.tup [(.d (.list 1 (r.1.map (eI .u8)))),(.d (.bool r.2))]) [(500,some (.know (globD 0 (.imap gv0))))]:=by
 refine ac2 Tryz.func92 rfl rfl fun B hB hN L => ?_
 delta A1r at h
 refine sr (SQ tt) ?_
 apply seq
 obtain⟨r1,hr1,h⟩:=bindS h
 obtain⟨r2,hr2,h⟩:=bindS h
 refine rg (SQ (fa (cl [(500,500)] (A8o a0 r1 hr1)) (fa (cl [] (A6a r1 r2 hr2)) tt))) ?_
 apply A0
 refine ghost (mp [] [(1,(pt 1001)),(4,(.d (.list 1 (r2.1.map (eI .u8))))),(5,(i6 r2.2))] [(500,some (.know (globD 0 (.imap gv0)))),(1001,bd 61 (D1 a0))] hB) ?_
 obtain⟨r3,hr3,h⟩:=bindS h
 refine sr (SQ (fa (cl [] (A38 a0.fWithdraw false r3 hr3)) tt)) ?_
 apply seq
 obtain⟨r4,hr4,h⟩:=bindS h
 obtain⟨hc5,h⟩:=B6 h
 refine rg (SQ (fa (cl [(900000,100300)] (A7n (r3.length:Int) r4 hr4)) (fa hc5 tt))) ?_
 apply A0
 refine ghost (mp [] [(1,(pt 1001)),(4,(.d (.list 1 (r2.1.map (eI .u8))))),(5,(i6 r2.2)),(7,(.sref 1021 1 0 ((r4++r3).length)))] [(500,some (.know (globD 0 (.imap gv0)))),(1001,bd 61 (D1 a0)),(1021,some (.row 5 1 ((r4++r3).map (eI .u8))))] hB) ?_
 apply seq
 obtain⟨r6,hr6,h⟩:=bindS h
 obtain⟨hc7,h⟩:=B6 h
 refine rg (SQ (fa (cl [(0,1021),(900000,100400)] (A7o (r4++r3) (r2.1.length:Int) r6 hr6)) (fa hc7 tt))) ?_
 apply A0
 refine ghost (mp [] [(1,(pt 1001)),(5,(i6 r2.2)),(7,(.sref 1027 1 0 ((r6++r2.1).length)))] [(500,some (.know (globD 0 (.imap gv0)))),(1001,bd 61 (D1 a0)),(1027,some (.row 5 1 ((r6++r2.1).map (eI .u8))))] hB) ?_
 apply seq
 obtain⟨r8,hr8,h⟩:=bindS h
 refine rg (SQ (fa (cl [(0,1027)] (A4e (r6++r2.1) a0.fAnnounce false r8 hr8)) tt)) ?_
 apply A0
 refine ghost (mp [] [(5,(i6 r2.2)),(7,(.d (.list 1 (r8.map (eI .u8)))))] [(500,some (.know (globD 0 (.imap gv0))))] hB) ?_
 refine sr (SQ tt) ?_
 apply ret
 obtain rfl:=oi h
 exact rt (kp [(2,_),(3,_)] [(500,some _)] hB rfl rfl (by rfl)) [(.d (.list 1 (r8.map (eI .u8)))),(bo ((r2.2==0)&&(decide ((r8.length:Int)≤4077))))] (rT (rT rN)) rfl
def L2 (a0:A6):Option (Bool) :=
 jn (fun m7:Bool =>
 (if m7=true then
 some false
 else
 (A1r a0).bind fun r10 =>
 some r10.2)) (fun j8 =>
 (if ((decide (256<(a0.fWithdraw.length:Int))) || (decide (256<(a0.fAnnounce.length:Int))))=true then
 j8 true
 else
 (H3 a0.fWithdraw).bind fun r12 =>
 (if r12=true then
 j8 true
 else
 (H3 a0.fAnnounce).bind fun r14 =>
 (if r14=true then
 j8 true
 else
 (V9 a0).bind fun r16 =>
 j8 (!r16)))))
theorem A24 (a0:A6) (r:Bool) (h:L2 a0=some r):AC Tryz.prog 52 [(.d (D1 a0))] [(500,(.know (globD 0 (.imap gv0))))] (.d (.bool r)) [(500,some (.know (globD 0 (.imap gv0))))]:=by
 refine ac2 Tryz.func52 rfl rfl fun B hB hN L => ?_
 delta L2 at h
 refine sr (SQ tt) ?_
 refine sr (SQ tt) ?_
 apply seq
 apply seq
 refine AWp.cut h (fun m7:Bool=>([(1,(pt 1001)),(32,(bo m7))]:EL)) (fun m7:Bool=>([(500,some (.know (globD 0 (.imap gv0)))),(1001,bd 61 (D1 a0))]:OL)) (fun m7 h E' O' hmat => ?_) (fun j8 hjj8 h => ?_)
 ·apply A0
  refine ghost hmat ?_
  apply AWp.cond rfl<;>intro hg9
  ·have h:=A4 hg9 h
   refine sr (SQ tt) ?_
   apply ret
   apply B3
   obtain rfl:=oi h
   exact rt (kp [(2,_)] [(500,some _)] hB rfl rfl (by rfl)) [(bo false)] (rT rN) rfl
  ·have h:=A5 hg9 h
   apply AWp.skip
   apply A0
   apply seq
   obtain⟨r10,hr10,h⟩:=bindS h
   refine rg (SQ (fa (cl [(500,500)] (A8p a0 r10 hr10)) tt)) ?_
   apply A0
   refine ghost (mp [] [(5,(bo r10.2))] [(500,some (.know (globD 0 (.imap gv0))))] hB) ?_
   refine sr (SQ tt) ?_
   apply ret
   obtain rfl:=oi h
   exact rt (kp [(2,_)] [(500,some _)] hB rfl rfl (by rfl)) [(bo r10.2)] (rT rN) rfl
 ·rcases bft ((decide (256<(a0.fWithdraw.length:Int))) || (decide (256<(a0.fAnnounce.length:Int)))) with hg11 | hg11
  ·have h:=A4 hg11 h
   refine rg (SQ (fa hg11 tt)) ?_
   exact hjj8 _ h _ _ (mp [] _ _ hB)
  ·have h:=A5 hg11 h
   obtain⟨r12,hr12,h⟩:=bindS h
   rcases bft r12 with hg13 | hg13
   ·have h:=A4 hg13 h
    refine rg (SQ (fa hg11 (fa (cl [] (I8 a0.fWithdraw r12 hr12)) (fa hg13 tt)))) ?_
    exact hjj8 _ h _ _ (mp [] _ _ hB)
   ·have h:=A5 hg13 h
    obtain⟨r14,hr14,h⟩:=bindS h
    rcases bft r14 with hg15 | hg15
    ·have h:=A4 hg15 h
     refine rg (SQ (fa hg11 (fa (cl [] (I8 a0.fWithdraw r12 hr12)) (fa hg13 (fa (cl [] (I8 a0.fAnnounce r14 hr14)) (fa hg15 tt)))))) ?_
     exact hjj8 _ h _ _ (mp [] _ _ hB)
    ·have h:=A5 hg15 h
     obtain⟨r16,hr16,h⟩:=bindS h
     refine rg (SQ (fa hg11 (fa (cl [] (I8 a0.fWithdraw r12 hr12)) (fa hg13 (fa (cl [] (I8 a0.fAnnounce r14 hr14)) (fa hg15 (fa (cl [(500,500)] (A8n a0 r16 hr16)) tt))))))) ?_
     exact hjj8 _ h _ _ (mp [] _ _ hB)
def A2p (a0:B8):Option (Bool) :=
 jn (fun m8:Bool =>
 some m8) (fun j9 =>
 (X6 a0.fPrefix).bind fun r10 =>
 (if r10=true then
 (if (!a0.fHas)=true then
 j9 true
 else
 (if (((a0.fRoute.fPrefix.fAddr.fV6==a0.fPrefix.fAddr.fV6)&&((a0.fRoute.fPrefix.fAddr.fHi==a0.fPrefix.fAddr.fHi)&&((a0.fRoute.fPrefix.fAddr.fLo==a0.fPrefix.fAddr.fLo)&&true)))&&((a0.fRoute.fPrefix.fLen==a0.fPrefix.fLen)&&true))=true then
 (G8 a0.fRoute.fAttrs [a0.fPrefix] true).bind fun r14 =>
 (L2 r14).bind fun r15 =>
 j9 r15
 else
 j9 false))
 else
 j9 false))
theorem A3l (a0:B8) (r:Bool) (h:A2p a0=some r):AC Tryz.prog 28 [(.d (F4 a0))] [(500,(.know (globD 0 (.imap gv0))))] (.d (.bool r)) [(500,some (.know (globD 0 (.imap gv0))))]:=by
 refine ac2 Tryz.func28 rfl rfl fun B hB hN L => ?_
 delta A2p at h
 refine sr (SQ tt) ?_
 apply seq
 refine AWp.cut h (fun m8:Bool=>([(2,(bo m8))]:EL)) (fun m8:Bool=>([(500,some (.know (globD 0 (.imap gv0))))]:OL)) (fun m8 h E' O' hmat => ?_) (fun j9 hjj9 h => ?_)
 ·apply A0
  refine ghost hmat ?_
  apply ret
  obtain rfl:=oi h
  exact rt (kp [(2,_)] [(500,some _)] hB rfl rfl (by rfl)) [(bo m8)] (rT rN) rfl
 ·obtain⟨r10,hr10,h⟩:=bindS h
  rcases bft r10 with hg11 | hg11
  ·have h:=A4 hg11 h
   rcases bft (!a0.fHas) with hg12 | hg12
   ·have h:=A4 hg12 h
    refine rg (SQ (fa (cl [] (T2 a0.fPrefix r10 hr10)) (fa hg11 (fa hg12 tt)))) ?_
    exact hjj9 _ h _ _ (mp [] _ _ hB)
   ·have h:=A5 hg12 h
    rcases bft (((a0.fRoute.fPrefix.fAddr.fV6==a0.fPrefix.fAddr.fV6)&&((a0.fRoute.fPrefix.fAddr.fHi==a0.fPrefix.fAddr.fHi)&&((a0.fRoute.fPrefix.fAddr.fLo==a0.fPrefix.fAddr.fLo)&&true)))&&((a0.fRoute.fPrefix.fLen==a0.fPrefix.fLen)&&true)) with hg13 | hg13
    ·have h:=A4 hg13 h
     obtain⟨r14,hr14,h⟩:=bindS h
     obtain⟨r15,hr15,h⟩:=bindS h
     refine rg (SQ (fa (cl [] (T2 a0.fPrefix r10 hr10)) (fa hg11 (fa hg12 (fa hg13 (fa (cl [] (T4 a0.fRoute.fAttrs [a0.fPrefix] true r14 hr14)) (fa (cl [(500,500)] (A24 r14 r15 hr15)) tt))))))) ?_
     exact hjj9 _ h _ _ (mp [] _ _ hB)
    ·have h:=A5 hg13 h
     refine rg (SQ (fa (cl [] (T2 a0.fPrefix r10 hr10)) (fa hg11 (fa hg12 (fa hg13 tt))))) ?_
     exact hjj9 _ h _ _ (mp [] _ _ hB)
  ·have h:=A5 hg11 h
   refine rg (SQ (fa (cl [] (T2 a0.fPrefix r10 hr10)) (fa hg11 tt))) ?_
   exact hjj9 _ h _ _ (mp [] _ _ hB)
def A0c (a0:D0):Option (Int) :=
 (if a0.fV6=true then
 some 1
 else
 some 0)
theorem A56 (a0:D0) (r:Int) (h:A0c a0=some r):AC Tryz.prog 95 [(.d (D2 a0))] [] (.d (.int .i64 r)) []:=by
 refine AC.of_code2 Tryz.func95 rfl rfl (Nat.le_of_ble_eq_true (by rfl)) fun B hB hN => ?_
 delta A0c at h
 refine sr (SQ tt) ?_
 apply seq
 refine sr (SQ tt) ?_
 apply AWp.cond rfl<;>intro hg1
 ·have h:=A4 hg1 h
  refine sr (SQ tt) ?_
  apply ret
  apply B3
  obtain rfl:=oi h
  exact rt (kp [(2,_)] [] hB rfl rfl (by rfl)) [(i6 1)] (rT rN) rfl
 ·have h:=A5 hg1 h
  apply AWp.skip
  apply A0
  refine sr (SQ tt) ?_
  apply ret
  obtain rfl:=oi h
  exact rt (kp [(2,_)] [] hB rfl rfl (by rfl)) [(i6 0)] (rT rN) rfl
def A39 (a0:Int):Option (Bool) :=
 some (a0 != a0)
theorem A57 (a0:Int) (r:Bool) (h:A39 a0=some r):AC Tryz.prog 116 [(.d (.int .u64 a0))] [] (.d (.bool r)) []:=by
 refine AC.of_code2 Tryz.func116 rfl rfl (Nat.le_of_ble_eq_true (by rfl)) fun B hB hN => ?_
 delta A39 at h
 refine sr (SQ tt) ?_
 refine sr (SQ tt) ?_
 apply ret
 obtain rfl:=oi h
 exact rt (kp [(2,_)] [] hB rfl rfl (by rfl)) [(bo (a0 != a0))] (rT rN) rfl
def Z2 (a0:Int) (a1:Int):Option (Int) :=
 (A39 a0).bind fun r1 =>
 (A39 a1).bind fun r2 =>
 (if r1=true then
 (if r2=true then
 some 0
 else
 some (-1))
 else
 (if r2=true then
 some 1
 else
 (if (decide (a0<a1))=true then
 some (-1)
 else
 (if (decide (a1<a0))=true then
 some 1
 else
 some 0))))
theorem A3z (a0:Int) (a1:Int) (r:Int) (h:Z2 a0 a1=some r):AC Tryz.prog 96 [(.d (.int .u64 a0)),(.d (.int .u64 a1))] [] (.d (.int .i64 r)) []:=by
 refine ac2 Tryz.func96 rfl rfl fun B hB hN L => ?_
 delta Z2 at h
 refine sr (SQ tt) ?_
 obtain⟨r1,hr1,h⟩:=bindS h
 refine sr (SQ (fa (cl [] (A57 a0 r1 hr1)) tt)) ?_
 obtain⟨r2,hr2,h⟩:=bindS h
 refine sr (SQ (fa (cl [] (A57 a1 r2 hr2)) tt)) ?_
 apply seq
 refine sr (SQ tt) ?_
 apply AWp.cond rfl<;>intro hg3
 ·have h:=A4 hg3 h
  apply seq
  refine sr (SQ tt) ?_
  apply AWp.cond rfl<;>intro hg4
  ·have h:=A4 hg4 h
   refine sr (SQ tt) ?_
   apply ret
   apply B3
   apply B3
   obtain rfl:=oi h
   exact rt (kp [(4,_)] [] hB rfl rfl (by rfl)) [(i6 0)] (rT rN) rfl
  ·have h:=A5 hg4 h
   apply AWp.skip
   apply A0
   refine sr (SQ tt) ?_
   apply ret
   apply B3
   obtain rfl:=oi h
   exact rt (kp [(4,_)] [] hB rfl rfl (by rfl)) [(i6 (-1))] (rT rN) rfl
 ·have h:=A5 hg3 h
  apply AWp.skip
  apply A0
  apply seq
  refine sr (SQ tt) ?_
  apply AWp.cond rfl<;>intro hg5
  ·have h:=A4 hg5 h
   refine sr (SQ tt) ?_
   apply ret
   apply B3
   obtain rfl:=oi h
   exact rt (kp [(4,_)] [] hB rfl rfl (by rfl)) [(i6 1)] (rT rN) rfl
  ·have h:=A5 hg5 h
   apply AWp.skip
   apply A0
   apply seq
   refine sr (SQ tt) ?_
   apply AWp.cond rfl<;>intro hg6
   ·have h:=A4 hg6 h
    refine sr (SQ tt) ?_
    apply ret
    apply B3
    obtain rfl:=oi h
    exact rt (kp [(4,_)] [] hB rfl rfl (by rfl)) [(i6 (-1))] (rT rN) rfl
   ·have h:=A5 hg6 h
    apply AWp.skip
    apply A0
    apply seq
    refine sr (SQ tt) ?_
    apply AWp.cond rfl<;>intro hg7
    ·have h:=A4 hg7 h
     refine sr (SQ tt) ?_
     apply ret
     apply B3
     obtain rfl:=oi h
     exact rt (kp [(4,_)] [] hB rfl rfl (by rfl)) [(i6 1)] (rT rN) rfl
    ·have h:=A5 hg7 h
     apply AWp.skip
     apply A0
     refine sr (SQ tt) ?_
     apply ret
     obtain rfl:=oi h
     exact rt (kp [(4,_)] [] hB rfl rfl (by rfl)) [(i6 0)] (rT rN) rfl
def A58 (a0:D0) (a1:D0):Option (Int) :=
 (A0c a0).bind fun r1 =>
 (A0c a1).bind fun r2 =>
 (H8 r1 r2).bind fun r3 =>
 (Z2 a0.fHi a1.fHi).bind fun r4 =>
 (Z2 a0.fLo a1.fLo).bind fun r5 =>
 (A50 ([r3,r4,r5]:List Int)).bind fun r6 =>
 some r6
theorem B1a (a0:D0) (a1:D0) (r:Int) (h:A58 a0 a1=some r):AC Tryz.prog 55 [(.d (D2 a0)),(.d (D2 a1))] [] (.d (.int .i64 r)) []:=by
 refine AC.of_code2 Tryz.func55 rfl rfl (Nat.le_of_ble_eq_true (by rfl)) fun B hB hN => ?_
 delta A58 at h
 refine sr (SQ tt) ?_
 obtain⟨r1,hr1,h⟩:=bindS h
 obtain⟨r2,hr2,h⟩:=bindS h
 obtain⟨r3,hr3,h⟩:=bindS h
 obtain⟨r4,hr4,h⟩:=bindS h
 obtain⟨r5,hr5,h⟩:=bindS h
 obtain⟨r6,hr6,h⟩:=bindS h
 refine sdS (SQ (fa (cl [] (A56 a0 r1 hr1)) (fa (cl [] (A56 a1 r2 hr2)) (fa (cl [] (I9 r1 r2 r3 hr3)) (fa (cl [] (A3z a0.fHi a1.fHi r4 hr4)) (fa (cl [] (A3z a0.fLo a1.fLo r5 hr5)) (fa (cl [] (A5g ([r3,r4,r5]:List Int) r6 hr6)) tt))))))) ?_
 apply ret
 obtain rfl:=oi h
 exact rt (kp [(4,_)] [] hB rfl rfl (by rfl)) [(i6 r6)] (rT rN) rfl
def A2q (a0:A2) (a1:A2):Option (Int) :=
 (A58 a0.fAddr a1.fAddr).bind fun r1 =>
 (H8 a0.fLen a1.fLen).bind fun r2 =>
 (A50 ([r1,r2]:List Int)).bind fun r3 =>
 some r3
theorem A9g (a0:A2) (a1:A2) (r:Int) (h:A2q a0 a1=some r):AC Tryz.prog 29 [(.d (C4 a0)),(.d (C4 a1))] [] (.d (.int .i64 r)) []:=by
 refine AC.of_code2 Tryz.func29 rfl rfl (Nat.le_of_ble_eq_true (by rfl)) fun B hB hN => ?_
 delta A2q at h
 refine sr (SQ tt) ?_
 obtain⟨r1,hr1,h⟩:=bindS h
 obtain⟨r2,hr2,h⟩:=bindS h
 obtain⟨r3,hr3,h⟩:=bindS h
 refine sdS (SQ (fa (cl [] (B1a a0.fAddr a1.fAddr r1 hr1)) (fa (cl [] (I9 a0.fLen a1.fLen r2 hr2)) (fa (cl [] (A5g ([r1,r2]:List Int) r3 hr3)) tt)))) ?_
 apply ret
 obtain rfl:=oi h
 exact rt (kp [(4,_)] [] hB rfl rfl (by rfl)) [(i6 r3)] (rT rN) rfl
def O8 (a0:(List Int)) (a1:(List Int)) (s2:Int):Option (((Unit)⊕(Unit))⊕(Int)) :=
 (if (decide (s2<(a0.length:Int)))=true then
 (idx a0 s2).bind fun x14 =>
 (idx a1 s2).bind fun x15 =>
 (if (x14 != x15)=true then
 some (.inl (.inl ()))
 else
 some (.inr (w64 (s2+1))))
 else
 some (.inl (.inr ())))
def A0s (a0:(List Int)) (a1:(List Int)):Option (Bool) :=
 (if ((a0.length:Int) != (a1.length:Int))=true then
 some false
 else
 (loop (O8 a0 a1) 0).bind fun x17=>match x17 with
 | (.inl _) =>
  some false
 | (.inr _) =>
  some true)
theorem A7p (a0:(List Int)) (a1:(List Int)) (r:Bool) (h:A0s a0 a1=some r):AC Tryz.prog 58 [(.d (.list 1 (a0.map (eI .i64)))),(.d (.list 1 (a1.map (eI .i64))))] [] (.d (.bool r)) []:=by
 refine ac2 Tryz.func58 rfl rfl fun B hB hN L => ?_
 delta A0s at h
 refine sr (SQ tt) ?_
 apply seq
 refine sr (SQ tt) ?_
 apply AWp.cond rfl<;>intro hg1
 ·have h:=A4 hg1 h
  refine sr (SQ tt) ?_
  apply ret
  apply B3
  obtain rfl:=oi h
  exact rt (kp [(4,_)] [] hB rfl rfl (by rfl)) [(bo false)] (rT rN) rfl
 ·have h:=A5 hg1 h
  apply AWp.skip
  apply A0
  apply seq
  refine sr (SQ tt) ?_
  apply block
  obtain⟨x17,hx18,h⟩:=bindS h
  refine lg (O8 a0 a1) (fun s2:Int=>([(0,(qI_1 a0)),(1,(qI_1 a1)),(12,(i6 (a0.length:Int))),(13,(i6 s2))]:EL)) (fun s2:Int=>([]:OL)) (fun(x:(Unit)⊕(Unit)) e E' O'=>match x with | (.inl _p)=>e = .ret∧Mat B E' O' ([(4,(bo false))]:EL) ([]:OL) | (.inr _p)=>e = .exit 0∧Mat B E' O' ([]:EL) ([]:OL)) hx18 (mp [] _ _ hB) (fun s2 y h => ?_) (fun e E' O' hR => ?_)
  ·unfold O8 at h
   refine sr (SQ tt) ?_
   apply seq
   apply AWp.cond rfl<;>intro hg13
   ·have h:=A4 hg13 h
    apply AWp.skip
    apply A0
    apply seq
    apply block
    refine sr (SQ tt) ?_
    obtain⟨_,hx14,h⟩:=bindS h
    obtain⟨_,hx15,h⟩:=bindS h
    refine sdS (SQ (fa hx14 (fa hx15 tt))) ?_
    apply AWp.cond rfl<;>intro hg16
    ·have h:=A4 hg16 h
     refine sr (SQ tt) ?_
     apply ret
     apply D4
     apply B3
     obtain rfl:=oi h
     exact⟨(fun hc=>by cases hc),rfl,(mp [] _ _ hB)⟩
    ·have h:=A5 hg16 h
     apply AWp.skip
     apply D7
     apply A0
     refine rg (SQ tt) ?_
     obtain rfl:=oi h
     exact⟨rfl,(mp [] _ _ hB)⟩
   ·have h:=A5 hg13 h
    apply AWp.exit
    apply D8
    obtain rfl:=oi h
    exact⟨(fun hc=>by cases hc),rfl,(mp [] _ _ hB)⟩
  ·rcases x17 with _ | _
   ·obtain⟨rfl,hmat⟩:=hR
    apply D4
    apply B3
    obtain rfl:=oi h
    exact rt (Mat.trans hmat (mp [] [(4,(bo false))] [] hB)) [(bo false)] (rT rN) rfl
   ·obtain⟨rfl,hmat⟩:=hR
    apply C3
    apply A0
    refine ghost hmat ?_
    refine sr (SQ tt) ?_
    apply ret
    obtain rfl:=oi h
    exact rt (kp [(4,_)] [] hB rfl rfl (by rfl)) [(bo true)] (rT rN) rfl
def Z3 (a0:B2) (a1:B2):Option (Bool) :=
 jn (fun m3:Bool =>
 some m3) (fun j4 =>
 (if (a0.fSet==a1.fSet)=true then
 (A0s a0.fASNs a1.fASNs).bind fun r6 =>
 j4 r6
 else
 j4 false))
theorem A6p (a0:B2) (a1:B2) (r:Bool) (h:Z3 a0 a1=some r):AC Tryz.prog 57 [(.d (C7 a0)),(.d (C7 a1))] [] (.d (.bool r)) []:=by
 refine ac2 Tryz.func57 rfl rfl fun B hB hN L => ?_
 delta Z3 at h
 refine sr (SQ tt) ?_
 apply seq
 refine AWp.cut h (fun m3:Bool=>([(4,(bo m3))]:EL)) (fun m3:Bool=>([]:OL)) (fun m3 h E' O' hmat => ?_) (fun j4 hjj4 h => ?_)
 ·apply A0
  refine ghost hmat ?_
  apply ret
  obtain rfl:=oi h
  exact rt (kp [(4,_)] [] hB rfl rfl (by rfl)) [(bo m3)] (rT rN) rfl
 ·rcases bft (a0.fSet==a1.fSet) with hg5 | hg5
  ·have h:=A4 hg5 h
   obtain⟨r6,hr6,h⟩:=bindS h
   refine rg (SQ (fa hg5 (fa (cl [] (A7p a0.fASNs a1.fASNs r6 hr6)) tt))) ?_
   exact hjj4 _ h _ _ (mp [] _ _ hB)
  ·have h:=A5 hg5 h
   refine rg (SQ (fa hg5 tt)) ?_
   exact hjj4 _ h _ _ (mp [] _ _ hB)
def J6 (a0:(List B2)) (a1:(List B2)) (s2:Int):Option (((Unit)⊕(Unit))⊕(Int)) :=
 (if (decide (s2<(a0.length:Int)))=true then
 (idx a0 s2).bind fun x16 =>
 (idx a1 s2).bind fun x17 =>
 (Z3 x16 x17).bind fun r18 =>
 (if (!r18)=true then
 some (.inl (.inl ()))
 else
 some (.inr (w64 (s2+1))))
 else
 some (.inl (.inr ())))
def R1 (a0:(List B2)) (a1:(List B2)):Option (Bool) :=
 (if ((a0.length:Int) != (a1.length:Int))=true then
 some false
 else
 (loop (J6 a0 a1) 0).bind fun x20=>match x20 with
 | (.inl _) =>
  some false
 | (.inr _) =>
  some true)
theorem Q6 (a0:(List B2)) (a1:(List B2)) (r:Bool) (h:R1 a0 a1=some r):AC Tryz.prog 61 [(.d (.list 2 (a0.map C7))),(.d (.list 2 (a1.map C7))),(.func 57 [])] [] (.d (.bool r)) []:=by
 refine ac2 Tryz.func61 rfl rfl fun B hB hN L => ?_
 delta R1 at h
 refine sr (SQ tt) ?_
 apply seq
 refine sr (SQ tt) ?_
 apply AWp.cond rfl<;>intro hg1
 ·have h:=A4 hg1 h
  refine sr (SQ tt) ?_
  apply ret
  apply B3
  obtain rfl:=oi h
  exact rt (kp [(6,_)] [] hB rfl rfl (by rfl)) [(bo false)] (rT rN) rfl
 ·have h:=A5 hg1 h
  apply AWp.skip
  apply A0
  apply seq
  refine sr (SQ tt) ?_
  apply block
  obtain⟨x20,hx21,h⟩:=bindS h
  refine lg (J6 a0 a1) (fun s2:Int=>([(1,(B5 a1)),(2,(.func 57 [])),(15,(B5 a0)),(16,(i6 (a0.length:Int))),(17,(i6 s2))]:EL)) (fun s2:Int=>([]:OL)) (fun(x:(Unit)⊕(Unit)) e E' O'=>match x with | (.inl _p)=>e = .ret∧Mat B E' O' ([(6,(bo false))]:EL) ([]:OL) | (.inr _p)=>e = .exit 0∧Mat B E' O' ([]:EL) ([]:OL)) hx21 (mp [] _ _ hB) (fun s2 y h => ?_) (fun e E' O' hR => ?_)
  ·unfold J6 at h
   refine sr (SQ tt) ?_
   apply seq
   apply AWp.cond rfl<;>intro hg15
   ·have h:=A4 hg15 h
    apply AWp.skip
    apply A0
    apply seq
    apply block
    obtain⟨x16,hx16,h⟩:=bindS h
    refine sr (SQ (fa hx16 tt)) ?_
    obtain⟨x17,hx17,h⟩:=bindS h
    refine sr (SQ (fa hx17 tt)) ?_
    obtain⟨r18,hr18,h⟩:=bindS h
    refine sr (SQ (fa (cl [] (A6p x16 x17 r18 hr18)) tt)) ?_
    apply AWp.cond rfl<;>intro hg19
    ·have h:=A4 hg19 h
     refine sr (SQ tt) ?_
     apply ret
     apply D4
     apply B3
     obtain rfl:=oi h
     exact⟨(fun hc=>by cases hc),rfl,(mp [] _ _ hB)⟩
    ·have h:=A5 hg19 h
     apply AWp.skip
     apply D7
     apply A0
     refine rg (SQ tt) ?_
     obtain rfl:=oi h
     exact⟨rfl,(mp [] _ _ hB)⟩
   ·have h:=A5 hg15 h
    apply AWp.exit
    apply D8
    obtain rfl:=oi h
    exact⟨(fun hc=>by cases hc),rfl,(mp [] _ _ hB)⟩
  ·rcases x20 with _ | _
   ·obtain⟨rfl,hmat⟩:=hR
    apply D4
    apply B3
    obtain rfl:=oi h
    exact rt (Mat.trans hmat (mp [] [(6,(bo false))] [] hB)) [(bo false)] (rT rN) rfl
   ·obtain⟨rfl,hmat⟩:=hR
    apply C3
    apply A0
    refine ghost hmat ?_
    refine sr (SQ tt) ?_
    apply ret
    obtain rfl:=oi h
    exact rt (kp [(6,_)] [] hB rfl rfl (by rfl)) [(bo true)] (rT rN) rfl
def V0 (a0:(List A9)) (a1:(List A9)) (s2:Int):Option (((Unit)⊕(Unit))⊕(Int)) :=
 (if (decide (s2<(a0.length:Int)))=true then
 (idx a0 s2).bind fun x14 =>
 (idx a1 s2).bind fun x15 =>
 (if (!((x14.fA==x15.fA)&&((x14.fB==x15.fB)&&true)))=true then
 some (.inl (.inl ()))
 else
 some (.inr (w64 (s2+1))))
 else
 some (.inl (.inr ())))
def W5 (a0:(List A9)) (a1:(List A9)):Option (Bool) :=
 (if ((a0.length:Int) != (a1.length:Int))=true then
 some false
 else
 (loop (V0 a0 a1) 0).bind fun x17=>match x17 with
 | (.inl _) =>
  some false
 | (.inr _) =>
  some true)
theorem A0t (a0:(List A9)) (a1:(List A9)) (r:Bool) (h:W5 a0 a1=some r):AC Tryz.prog 62 [(.d (.list 2 (a0.map C0))),(.d (.list 2 (a1.map C0)))] [] (.d (.bool r)) []:=by
 refine ac2 Tryz.func62 rfl rfl fun B hB hN L => ?_
 delta W5 at h
 refine sr (SQ tt) ?_
 apply seq
 refine sr (SQ tt) ?_
 apply AWp.cond rfl<;>intro hg1
 ·have h:=A4 hg1 h
  refine sr (SQ tt) ?_
  apply ret
  apply B3
  obtain rfl:=oi h
  exact rt (kp [(4,_)] [] hB rfl rfl (by rfl)) [(bo false)] (rT rN) rfl
 ·have h:=A5 hg1 h
  apply AWp.skip
  apply A0
  apply seq
  refine sr (SQ tt) ?_
  apply block
  obtain⟨x17,hx18,h⟩:=bindS h
  refine lg (V0 a0 a1) (fun s2:Int=>([(0,(B4 a0)),(1,(B4 a1)),(12,(i6 (a0.length:Int))),(13,(i6 s2))]:EL)) (fun s2:Int=>([]:OL)) (fun(x:(Unit)⊕(Unit)) e E' O'=>match x with | (.inl _p)=>e = .ret∧Mat B E' O' ([(4,(bo false))]:EL) ([]:OL) | (.inr _p)=>e = .exit 0∧Mat B E' O' ([]:EL) ([]:OL)) hx18 (mp [] _ _ hB) (fun s2 y h => ?_) (fun e E' O' hR => ?_)
  ·unfold V0 at h
   refine sr (SQ tt) ?_
   apply seq
   apply AWp.cond rfl<;>intro hg13
   ·have h:=A4 hg13 h
    apply AWp.skip
    apply A0
    apply seq
    apply block
    refine sr (SQ tt) ?_
    obtain⟨_,hx14,h⟩:=bindS h
    obtain⟨_,hx15,h⟩:=bindS h
    refine sdS (SQ (fa hx14 (fa hx15 tt))) ?_
    apply AWp.cond rfl<;>intro hg16
    ·have h:=A4 hg16 h
     refine sr (SQ tt) ?_
     apply ret
     apply D4
     apply B3
     obtain rfl:=oi h
     exact⟨(fun hc=>by cases hc),rfl,(mp [] _ _ hB)⟩
    ·have h:=A5 hg16 h
     apply AWp.skip
     apply D7
     apply A0
     refine rg (SQ tt) ?_
     obtain rfl:=oi h
     exact⟨rfl,(mp [] _ _ hB)⟩
   ·have h:=A5 hg13 h
    apply AWp.exit
    apply D8
    obtain rfl:=oi h
    exact⟨(fun hc=>by cases hc),rfl,(mp [] _ _ hB)⟩
  ·rcases x17 with _ | _
   ·obtain⟨rfl,hmat⟩:=hR
    apply D4
    apply B3
    obtain rfl:=oi h
    exact rt (Mat.trans hmat (mp [] [(4,(bo false))] [] hB)) [(bo false)] (rT rN) rfl
   ·obtain⟨rfl,hmat⟩:=hR
    apply C3
    apply A0
    refine ghost hmat ?_
    refine sr (SQ tt) ?_
    apply ret
    obtain rfl:=oi h
    exact rt (kp [(4,_)] [] hB rfl rfl (by rfl)) [(bo true)] (rT rN) rfl
def V1 (a0:(List E0)) (a1:(List E0)) (s2:Int):Option (((Unit)⊕(Unit))⊕(Int)) :=
 (if (decide (s2<(a0.length:Int)))=true then
 (idx a0 s2).bind fun x14 =>
 (idx a1 s2).bind fun x15 =>
 (if (!((x14.fA==x15.fA)&&((x14.fB==x15.fB)&&((x14.fC==x15.fC)&&true))))=true then
 some (.inl (.inl ()))
 else
 some (.inr (w64 (s2+1))))
 else
 some (.inl (.inr ())))
def W6 (a0:(List E0)) (a1:(List E0)):Option (Bool) :=
 (if ((a0.length:Int) != (a1.length:Int))=true then
 some false
 else
 (loop (V1 a0 a1) 0).bind fun x17=>match x17 with
 | (.inl _) =>
  some false
 | (.inr _) =>
  some true)
theorem A3a (a0:(List E0)) (a1:(List E0)) (r:Bool) (h:W6 a0 a1=some r):AC Tryz.prog 63 [(.d (.list 3 (a0.map D9))),(.d (.list 3 (a1.map D9)))] [] (.d (.bool r)) []:=by
 refine ac2 Tryz.func63 rfl rfl fun B hB hN L => ?_
 delta W6 at h
 refine sr (SQ tt) ?_
 apply seq
 refine sr (SQ tt) ?_
 apply AWp.cond rfl<;>intro hg1
 ·have h:=A4 hg1 h
  refine sr (SQ tt) ?_
  apply ret
  apply B3
  obtain rfl:=oi h
  exact rt (kp [(4,_)] [] hB rfl rfl (by rfl)) [(bo false)] (rT rN) rfl
 ·have h:=A5 hg1 h
  apply AWp.skip
  apply A0
  apply seq
  refine sr (SQ tt) ?_
  apply block
  obtain⟨x17,hx18,h⟩:=bindS h
  refine lg (V1 a0 a1) (fun s2:Int=>([(0,(D3 a0)),(1,(D3 a1)),(12,(i6 (a0.length:Int))),(13,(i6 s2))]:EL)) (fun s2:Int=>([]:OL)) (fun(x:(Unit)⊕(Unit)) e E' O'=>match x with | (.inl _p)=>e = .ret∧Mat B E' O' ([(4,(bo false))]:EL) ([]:OL) | (.inr _p)=>e = .exit 0∧Mat B E' O' ([]:EL) ([]:OL)) hx18 (mp [] _ _ hB) (fun s2 y h => ?_) (fun e E' O' hR => ?_)
  ·unfold V1 at h
   refine sr (SQ tt) ?_
   apply seq
   apply AWp.cond rfl<;>intro hg13
   ·have h:=A4 hg13 h
    apply AWp.skip
    apply A0
    apply seq
    apply block
    refine sr (SQ tt) ?_
    obtain⟨_,hx14,h⟩:=bindS h
    obtain⟨_,hx15,h⟩:=bindS h
    refine sdS (SQ (fa hx14 (fa hx15 tt))) ?_
    apply AWp.cond rfl<;>intro hg16
    ·have h:=A4 hg16 h
     refine sr (SQ tt) ?_
     apply ret
     apply D4
     apply B3
     obtain rfl:=oi h
     exact⟨(fun hc=>by cases hc),rfl,(mp [] _ _ hB)⟩
    ·have h:=A5 hg16 h
     apply AWp.skip
     apply D7
     apply A0
     refine rg (SQ tt) ?_
     obtain rfl:=oi h
     exact⟨rfl,(mp [] _ _ hB)⟩
   ·have h:=A5 hg13 h
    apply AWp.exit
    apply D8
    obtain rfl:=oi h
    exact⟨(fun hc=>by cases hc),rfl,(mp [] _ _ hB)⟩
  ·rcases x17 with _ | _
   ·obtain⟨rfl,hmat⟩:=hR
    apply D4
    apply B3
    obtain rfl:=oi h
    exact rt (Mat.trans hmat (mp [] [(4,(bo false))] [] hB)) [(bo false)] (rT rN) rfl
   ·obtain⟨rfl,hmat⟩:=hR
    apply C3
    apply A0
    refine ghost hmat ?_
    refine sr (SQ tt) ?_
    apply ret
    obtain rfl:=oi h
    exact rt (kp [(4,_)] [] hB rfl rfl (by rfl)) [(bo true)] (rT rN) rfl
def A0u (a0:(List Int)) (a1:(List Int)) (s2:Int):Option (((Unit)⊕(Unit))⊕(Int)) :=
 (if (decide (s2<(a0.length:Int)))=true then
 (idx a0 s2).bind fun x14 =>
 (idx a1 s2).bind fun x15 =>
 (if (x14 != x15)=true then
 some (.inl (.inl ()))
 else
 some (.inr (w64 (s2+1))))
 else
 some (.inl (.inr ())))
def A2r (a0:(List Int)) (a1:(List Int)):Option (Bool) :=
 (if ((a0.length:Int) != (a1.length:Int))=true then
 some false
 else
 (loop (A0u a0 a1) 0).bind fun x17=>match x17 with
 | (.inl _) =>
  some false
 | (.inr _) =>
  some true)
theorem A6b (a0:(List Int)) (a1:(List Int)) (r:Bool) (h:A2r a0 a1=some r):AC Tryz.prog 60 [(.d (.list 1 (a0.map (eI .u8)))),(.d (.list 1 (a1.map (eI .u8))))] [] (.d (.bool r)) []:=by
 refine ac2 Tryz.func60 rfl rfl fun B hB hN L => ?_
 delta A2r at h
 refine sr (SQ tt) ?_
 apply seq
 refine sr (SQ tt) ?_
 apply AWp.cond rfl<;>intro hg1
 ·have h:=A4 hg1 h
  refine sr (SQ tt) ?_
  apply ret
  apply B3
  obtain rfl:=oi h
  exact rt (kp [(4,_)] [] hB rfl rfl (by rfl)) [(bo false)] (rT rN) rfl
 ·have h:=A5 hg1 h
  apply AWp.skip
  apply A0
  apply seq
  refine sr (SQ tt) ?_
  apply block
  obtain⟨x17,hx18,h⟩:=bindS h
  refine lg (A0u a0 a1) (fun s2:Int=>([(0,(.d (.list 1 (a0.map (eI .u8))))),(1,(.d (.list 1 (a1.map (eI .u8))))),(12,(i6 (a0.length:Int))),(13,(i6 s2))]:EL)) (fun s2:Int=>([]:OL)) (fun(x:(Unit)⊕(Unit)) e E' O'=>match x with | (.inl _p)=>e = .ret∧Mat B E' O' ([(4,(bo false))]:EL) ([]:OL) | (.inr _p)=>e = .exit 0∧Mat B E' O' ([]:EL) ([]:OL)) hx18 (mp [] _ _ hB) (fun s2 y h => ?_) (fun e E' O' hR => ?_)
  ·unfold A0u at h
   refine sr (SQ tt) ?_
   apply seq
   apply AWp.cond rfl<;>intro hg13
   ·have h:=A4 hg13 h
    apply AWp.skip
    apply A0
    apply seq
    apply block
    refine sr (SQ tt) ?_
    obtain⟨_,hx14,h⟩:=bindS h
    obtain⟨_,hx15,h⟩:=bindS h
    refine sdS (SQ (fa hx14 (fa hx15 tt))) ?_
    apply AWp.cond rfl<;>intro hg16
    ·have h:=A4 hg16 h
     refine sr (SQ tt) ?_
     apply ret
     apply D4
     apply B3
     obtain rfl:=oi h
     exact⟨(fun hc=>by cases hc),rfl,(mp [] _ _ hB)⟩
    ·have h:=A5 hg16 h
     apply AWp.skip
     apply D7
     apply A0
     refine rg (SQ tt) ?_
     obtain rfl:=oi h
     exact⟨rfl,(mp [] _ _ hB)⟩
   ·have h:=A5 hg13 h
    apply AWp.exit
    apply D8
    obtain rfl:=oi h
    exact⟨(fun hc=>by cases hc),rfl,(mp [] _ _ hB)⟩
  ·rcases x17 with _ | _
   ·obtain⟨rfl,hmat⟩:=hR
    apply D4
    apply B3
    obtain rfl:=oi h
    exact rt (Mat.trans hmat (mp [] [(4,(bo false))] [] hB)) [(bo false)] (rT rN) rfl
   ·obtain⟨rfl,hmat⟩:=hR
    apply C3
    apply A0
    refine ghost hmat ?_
    refine sr (SQ tt) ?_
    apply ret
    obtain rfl:=oi h
    exact rt (kp [(4,_)] [] hB rfl rfl (by rfl)) [(bo true)] (rT rN) rfl
def A3m (a0:A1) (a1:A1):Option (Bool) :=
 jn (fun m3:Bool =>
 some m3) (fun j4 =>
 (if ((a0.fFlags==a1.fFlags)&&(a0.fType==a1.fType))=true then
 (A2r a0.fData a1.fData).bind fun r6 =>
 j4 r6
 else
 j4 false))
theorem A6q (a0:A1) (a1:A1) (r:Bool) (h:A3m a0 a1=some r):AC Tryz.prog 59 [(.d (A7 a0)),(.d (A7 a1))] [] (.d (.bool r)) []:=by
 refine ac2 Tryz.func59 rfl rfl fun B hB hN L => ?_
 delta A3m at h
 refine sr (SQ tt) ?_
 apply seq
 refine AWp.cut h (fun m3:Bool=>([(4,(bo m3))]:EL)) (fun m3:Bool=>([]:OL)) (fun m3 h E' O' hmat => ?_) (fun j4 hjj4 h => ?_)
 ·apply A0
  refine ghost hmat ?_
  apply ret
  obtain rfl:=oi h
  exact rt (kp [(4,_)] [] hB rfl rfl (by rfl)) [(bo m3)] (rT rN) rfl
 ·rcases bft ((a0.fFlags==a1.fFlags)&&(a0.fType==a1.fType)) with hg5 | hg5
  ·have h:=A4 hg5 h
   obtain⟨r6,hr6,h⟩:=bindS h
   refine rg (SQ (fa hg5 (fa (cl [] (A6b a0.fData a1.fData r6 hr6)) tt))) ?_
   exact hjj4 _ h _ _ (mp [] _ _ hB)
  ·have h:=A5 hg5 h
   refine rg (SQ (fa hg5 tt)) ?_
   exact hjj4 _ h _ _ (mp [] _ _ hB)
def O5 (a0:(List A1)) (a1:(List A1)) (s2:Int):Option (((Unit)⊕(Unit))⊕(Int)) :=
 (if (decide (s2<(a0.length:Int)))=true then
 (idx a0 s2).bind fun x16 =>
 (idx a1 s2).bind fun x17 =>
 (A3m x16 x17).bind fun r18 =>
 (if (!r18)=true then
 some (.inl (.inl ()))
 else
 some (.inr (w64 (s2+1))))
 else
 some (.inl (.inr ())))
def N8 (a0:(List A1)) (a1:(List A1)):Option (Bool) :=
 (if ((a0.length:Int) != (a1.length:Int))=true then
 some false
 else
 (loop (O5 a0 a1) 0).bind fun x20=>match x20 with
 | (.inl _) =>
  some false
 | (.inr _) =>
  some true)
theorem A4k (a0:(List A1)) (a1:(List A1)) (r:Bool) (h:N8 a0 a1=some r):AC Tryz.prog 64 [(.d (.list 3 (a0.map A7))),(.d (.list 3 (a1.map A7))),(.func 59 [])] [] (.d (.bool r)) []:=by
 refine ac2 Tryz.func64 rfl rfl fun B hB hN L => ?_
 delta N8 at h
 refine sr (SQ tt) ?_
 apply seq
 refine sr (SQ tt) ?_
 apply AWp.cond rfl<;>intro hg1
 ·have h:=A4 hg1 h
  refine sr (SQ tt) ?_
  apply ret
  apply B3
  obtain rfl:=oi h
  exact rt (kp [(6,_)] [] hB rfl rfl (by rfl)) [(bo false)] (rT rN) rfl
 ·have h:=A5 hg1 h
  apply AWp.skip
  apply A0
  apply seq
  refine sr (SQ tt) ?_
  apply block
  obtain⟨x20,hx21,h⟩:=bindS h
  refine lg (O5 a0 a1) (fun s2:Int=>([(1,(B0 a1)),(2,(.func 59 [])),(15,(B0 a0)),(16,(i6 (a0.length:Int))),(17,(i6 s2))]:EL)) (fun s2:Int=>([]:OL)) (fun(x:(Unit)⊕(Unit)) e E' O'=>match x with | (.inl _p)=>e = .ret∧Mat B E' O' ([(6,(bo false))]:EL) ([]:OL) | (.inr _p)=>e = .exit 0∧Mat B E' O' ([]:EL) ([]:OL)) hx21 (mp [] _ _ hB) (fun s2 y h => ?_) (fun e E' O' hR => ?_)
  ·unfold O5 at h
   refine sr (SQ tt) ?_
   apply seq
   apply AWp.cond rfl<;>intro hg15
   ·have h:=A4 hg15 h
    apply AWp.skip
    apply A0
    apply seq
    apply block
    obtain⟨x16,hx16,h⟩:=bindS h
    refine sr (SQ (fa hx16 tt)) ?_
    obtain⟨x17,hx17,h⟩:=bindS h
    refine sr (SQ (fa hx17 tt)) ?_
    obtain⟨r18,hr18,h⟩:=bindS h
    refine sr (SQ (fa (cl [] (A6q x16 x17 r18 hr18)) tt)) ?_
    apply AWp.cond rfl<;>intro hg19
    ·have h:=A4 hg19 h
     refine sr (SQ tt) ?_
     apply ret
     apply D4
     apply B3
     obtain rfl:=oi h
     exact⟨(fun hc=>by cases hc),rfl,(mp [] _ _ hB)⟩
    ·have h:=A5 hg19 h
     apply AWp.skip
     apply D7
     apply A0
     refine rg (SQ tt) ?_
     obtain rfl:=oi h
     exact⟨rfl,(mp [] _ _ hB)⟩
   ·have h:=A5 hg15 h
    apply AWp.exit
    apply D8
    obtain rfl:=oi h
    exact⟨(fun hc=>by cases hc),rfl,(mp [] _ _ hB)⟩
  ·rcases x20 with _ | _
   ·obtain⟨rfl,hmat⟩:=hR
    apply D4
    apply B3
    obtain rfl:=oi h
    exact rt (Mat.trans hmat (mp [] [(6,(bo false))] [] hB)) [(bo false)] (rT rN) rfl
   ·obtain⟨rfl,hmat⟩:=hR
    apply C3
    apply A0
    refine ghost hmat ?_
    refine sr (SQ tt) ?_
    apply ret
    obtain rfl:=oi h
    exact rt (kp [(6,_)] [] hB rfl rfl (by rfl)) [(bo true)] (rT rN) rfl
def A0d (a0:C8) (a1:C8):Option (Bool) :=
 jn (fun m9:Bool =>
 some m9) (fun j10 =>
 (if (((((a0.fOrigin==a1.fOrigin)&&((a0.fNext.fV6==a1.fNext.fV6)&&((a0.fNext.fHi==a1.fNext.fHi)&&((a0.fNext.fLo==a1.fNext.fLo)&&true))))&&(a0.fMED==a1.fMED))&&(a0.fPref==a1.fPref))&&(a0.fOTC==a1.fOTC))=true then
 (R1 a0.fPath a1.fPath).bind fun r12 =>
 (if r12=true then
 (W5 a0.fCommunities a1.fCommunities).bind fun r14 =>
 (if r14=true then
 (W6 a0.fLarge a1.fLarge).bind fun r16 =>
 (if r16=true then
 (N8 a0.fOther a1.fOther).bind fun r18 =>
 j10 r18
 else
 j10 false)
 else
 j10 false)
 else
 j10 false)
 else
 j10 false))
theorem A8q (a0:C8) (a1:C8) (r:Bool) (h:A0d a0 a1=some r):AC Tryz.prog 32 [(.d (B9 a0)),(.d (B9 a1))] [] (.d (.bool r)) []:=by
 refine ac2 Tryz.func32 rfl rfl fun B hB hN L => ?_
 delta A0d at h
 refine sr (SQ tt) ?_
 refine sr (SQ tt) ?_
 refine sr (SQ tt) ?_
 apply seq
 refine AWp.cut h (fun m9:Bool=>([(4,(bo m9))]:EL)) (fun m9:Bool=>([]:OL)) (fun m9 h E' O' hmat => ?_) (fun j10 hjj10 h => ?_)
 ·apply A0
  refine ghost hmat ?_
  apply ret
  obtain rfl:=oi h
  exact rt (kp [(4,_)] [] hB rfl rfl (by rfl)) [(bo m9)] (rT rN) rfl
 ·rcases bft (((((a0.fOrigin==a1.fOrigin)&&((a0.fNext.fV6==a1.fNext.fV6)&&((a0.fNext.fHi==a1.fNext.fHi)&&((a0.fNext.fLo==a1.fNext.fLo)&&true))))&&(a0.fMED==a1.fMED))&&(a0.fPref==a1.fPref))&&(a0.fOTC==a1.fOTC)) with hg11 | hg11
  ·have h:=A4 hg11 h
   obtain⟨r12,hr12,h⟩:=bindS h
   rcases bft r12 with hg13 | hg13
   ·have h:=A4 hg13 h
    obtain⟨r14,hr14,h⟩:=bindS h
    rcases bft r14 with hg15 | hg15
    ·have h:=A4 hg15 h
     obtain⟨r16,hr16,h⟩:=bindS h
     rcases bft r16 with hg17 | hg17
     ·have h:=A4 hg17 h
      obtain⟨r18,hr18,h⟩:=bindS h
      refine rg (SQ (fa hg11 (fa (cl [] (Q6 a0.fPath a1.fPath r12 hr12)) (fa hg13 (fa (cl [] (A0t a0.fCommunities a1.fCommunities r14 hr14)) (fa hg15 (fa (cl [] (A3a a0.fLarge a1.fLarge r16 hr16)) (fa hg17 (fa (cl [] (A4k a0.fOther a1.fOther r18 hr18)) tt))))))))) ?_
      exact hjj10 _ h _ _ (mp [] _ _ hB)
     ·have h:=A5 hg17 h
      refine rg (SQ (fa hg11 (fa (cl [] (Q6 a0.fPath a1.fPath r12 hr12)) (fa hg13 (fa (cl [] (A0t a0.fCommunities a1.fCommunities r14 hr14)) (fa hg15 (fa (cl [] (A3a a0.fLarge a1.fLarge r16 hr16)) (fa hg17 tt)))))))) ?_
      exact hjj10 _ h _ _ (mp [] _ _ hB)
    ·have h:=A5 hg15 h
     refine rg (SQ (fa hg11 (fa (cl [] (Q6 a0.fPath a1.fPath r12 hr12)) (fa hg13 (fa (cl [] (A0t a0.fCommunities a1.fCommunities r14 hr14)) (fa hg15 tt)))))) ?_
     exact hjj10 _ h _ _ (mp [] _ _ hB)
   ·have h:=A5 hg13 h
    refine rg (SQ (fa hg11 (fa (cl [] (Q6 a0.fPath a1.fPath r12 hr12)) (fa hg13 tt)))) ?_
    exact hjj10 _ h _ _ (mp [] _ _ hB)
  ·have h:=A5 hg11 h
   refine rg (SQ (fa hg11 tt)) ?_
   exact hjj10 _ h _ _ (mp [] _ _ hB)
def Z4 (a0:C2) (a1:B8):Option (Bool) :=
 (A0d a0.fattrs a1.fRoute.fAttrs).bind fun r1 =>
 some r1
theorem A6r (a0:C2) (a1:B8) (r:Bool) (h:Z4 a0 a1=some r):AC Tryz.prog 31 [(.d (D5 a0)),(.dptr (F4 a1))] [] (.d (.bool r)) []:=by
 refine AC.of_code2 Tryz.func31 rfl rfl (Nat.le_of_ble_eq_true (by rfl)) fun B hB hN => ?_
 delta Z4 at h
 refine sr (SQ tt) ?_
 obtain⟨r1,hr1,h⟩:=bindS h
 refine sr (SQ (fa (cl [] (A8q a0.fattrs a1.fRoute.fAttrs r1 hr1)) tt)) ?_
 apply ret
 obtain rfl:=oi h
 exact rt (kp [(3,_)] [] hB rfl rfl (by rfl)) [(bo r1)] (rT rN) rfl
def K4 (a0:(List C2)) (a1:B8) (s1:Int):Option (((Int)⊕(Unit))⊕(Int)) :=
 (if (decide (s1<(a0.length:Int)))=true then
 (idx a0 s1).bind fun x13 =>
 (Z4 x13 a1).bind fun r14 =>
 (if r14=true then
 some (.inl (.inl s1))
 else
 some (.inr (w64 (s1+1))))
 else
 some (.inl (.inr ())))
def N9 (a0:(List C2)) (a1:B8):Option (Int) :=
 (loop (K4 a0 a1) 0).bind fun x16=>match x16 with
 | (.inl p10) =>
  some p10
 | (.inr _) =>
  some (-1)
theorem A4l (a0:(List C2)) (a1:B8) (r:Int) (h:N9 a0 a1=some r):AC Tryz.prog 30 [(.d (.list 12 (a0.map D5))),(.func 31 [(.dptr (F4 a1))])] [] (.d (.int .i64 r)) []:=by
 refine AC.of_code2 Tryz.func30 rfl rfl (Nat.le_of_ble_eq_true (by rfl)) fun B hB hN => ?_
 delta N9 at h
 refine sr (SQ tt) ?_
 apply seq
 refine sr (SQ tt) ?_
 apply block
 obtain⟨x16,hx17,h⟩:=bindS h
 refine lg (K4 a0 a1) (fun s1:Int=>([(0,(.d (.list 12 (a0.map D5)))),(1,(.func 31 [(.dptr (F4 a1))])),(7,(i6 (a0.length:Int))),(8,(i6 s1))]:EL)) (fun s1:Int=>([]:OL)) (fun(x:(Int)⊕(Unit)) e E' O'=>match x with | (.inl p10)=>e = .ret∧Mat B E' O' ([(4,(i6 p10))]:EL) ([]:OL) | (.inr _p)=>e = .exit 0∧Mat B E' O' ([]:EL) ([]:OL)) hx17 (mp [] _ _ hB) (fun s1 y h => ?_) (fun e E' O' hR => ?_)
 ·unfold K4 at h
  refine sr (SQ tt) ?_
  apply seq
  apply AWp.cond rfl<;>intro hg12
  ·have h:=A4 hg12 h
   apply AWp.skip
   apply A0
   apply seq
   apply block
   refine sr (SQ tt) ?_
   obtain⟨x13,hx13,h⟩:=bindS h
   obtain⟨r14,hr14,h⟩:=bindS h
   refine sr (SQ (fa hx13 (fa (cl [] (A6r x13 a1 r14 hr14)) tt))) ?_
   apply AWp.cond rfl<;>intro hg15
   ·have h:=A4 hg15 h
    refine sr (SQ tt) ?_
    apply ret
    apply D4
    apply B3
    obtain rfl:=oi h
    exact⟨(fun hc=>by cases hc),rfl,(mp [] _ _ hB)⟩
   ·have h:=A5 hg15 h
    apply AWp.skip
    apply D7
    apply A0
    refine rg (SQ tt) ?_
    obtain rfl:=oi h
    exact⟨rfl,(mp [] _ _ hB)⟩
  ·have h:=A5 hg12 h
   apply AWp.exit
   apply D8
   obtain rfl:=oi h
   exact⟨(fun hc=>by cases hc),rfl,(mp [] _ _ hB)⟩
 ·rcases x16 with p10 | _
  ·obtain⟨rfl,hmat⟩:=hR
   apply D4
   apply B3
   obtain rfl:=oi h
   exact rt (Mat.trans hmat (mp [] [(4,(i6 p10))] [] hB)) [(i6 p10)] (rT rN) rfl
  ·obtain⟨rfl,hmat⟩:=hR
   apply C3
   apply A0
   refine ghost hmat ?_
   refine sr (SQ tt) ?_
   apply ret
   obtain rfl:=oi h
   exact rt (kp [(4,_)] [] hB rfl rfl (by rfl)) [(i6 (-1))] (rT rN) rfl
def A0v (a0:C2) (a1:Bool) (s1:Int×(List A6)) (s88:Int):Option (((Int))⊕(Int)) :=
 jn (fun m116:Bool =>
 (if m116=true then
 some (.inr (w64 (s88+1)))
 else
 some (.inl s88))) (fun j117 =>
 (if (decide (s88<(a0.fprefixes.length:Int)))=true then
 chk ((decide (0≤s1.1)&&decide (0≤(w64 (s88+1)))&&decide (s1.1.toNat≤(w64 (s88+1)).toNat)&&decide ((w64 (s88+1)).toNat≤a0.fprefixes.length))) <|
 (G8 a0.fattrs ((a0.fprefixes.take ((w64 (s88+1)).toNat)).drop s1.1.toNat) a1).bind fun r121 =>
 (L2 r121).bind fun r122 =>
 j117 r122
 else
 j117 false))
def A0w (a0:C2) (a1:Bool) (s1:Int×(List A6)):Option ((((List A6)))⊕(Int×(List A6))) :=
 (if (decide (s1.1<(a0.fprefixes.length:Int)))=true then
 (loop (A0v a0 a1 s1) (w64 (s1.1+1))).bind fun p111 =>
 chk ((decide (0≤s1.1)&&decide (0≤p111)&&decide (s1.1.toNat≤p111.toNat)&&decide (p111.toNat≤a0.fprefixes.length))) <|
 (G8 a0.fattrs ((a0.fprefixes.take p111.toNat).drop s1.1.toNat) a1).bind fun r126 =>
 chk (decide ((s1.2++[r126]).length≤LIM)) <|
 some (.inr (p111,(s1.2++[r126])))
 else
 some (.inl s1.2))
def P8 (a0:C2) (a1:Bool):Option ((List A6)) :=
 (loop (A0w a0 a1) (0,([]:List A6))).bind fun p86 =>
 some p86
theorem A8r (a0:C2) (a1:Bool) (r:(List A6)) (h:P8 a0 a1=some r):AC Tryz.prog 33 [(.d (D5 a0)),(.d (.bool a1))] [(500,(.know (globD 0 (.imap gv0))))] (.d (.list 13 (r.map D1))) [(500,some (.know (globD 0 (.imap gv0))))]:=by
 refine ac2 Tryz.func33 rfl rfl fun B hB hN L => ?_
 delta P8 at h
 refine sr (SQ tt) ?_
 refine sr (SQ tt) ?_
 apply seq
 refine sr (SQ tt) ?_
 apply block
 obtain⟨p86,hx129,h⟩:=bindS h
 refine lg (A0w a0 a1) (fun s1:Int×(List A6)=>([(1,(bo a1)),(2,(pt 1002)),(5,(.sref 3005 13 0 s1.2.length)),(6,(i6 s1.1))]:EL)) (fun s1:Int×(List A6)=>([(500,some (.know (globD 0 (.imap gv0)))),(1002,bd 79 (D5 a0)),(3005,some (C6 s1.2))]:OL)) (fun(p86:((List A6))) e E' O'=>e = .exit 0∧Mat B E' O' ([(5,(.sref 3005 13 0 p86.length))]:EL) ([(500,some (.know (globD 0 (.imap gv0)))),(3005,some (C6 p86))]:OL)) hx129 (Mat.trans (Mat.beginP (n:=3005) (e:=61) (sz:=13) (Ts:=[(5,(.sref 3005 13 0 0))]) (Bs:=[]) hB (by decide) (by rfl) (by decide) (TwT.cons (x:=.nils) (by rfl) (Tw.leaf ⟨rfl,rfl⟩) TwT.nil) TwB.nil) (mp [] _ _ hB)) (fun s1 y h => ?_) (fun e E' O' hR => ?_)
 ·unfold A0w at h
  apply seq
  refine sr (SQ tt) ?_
  apply AWp.cond rfl<;>intro hg87
  ·have h:=A4 hg87 h
   apply AWp.skip
   apply A0
   apply block
   refine sr (SQ tt) ?_
   apply seq
   apply block
   obtain⟨p111,hx124,h⟩:=bindS h
   refine lg (A0v a0 a1 s1) (fun s88:Int=>([(1,(bo a1)),(2,(pt 1002)),(5,(.sref 3005 13 0 s1.2.length)),(6,(i6 s1.1)),(7,(i6 s88))]:EL)) (fun s88:Int=>([(500,some (.know (globD 0 (.imap gv0)))),(1002,bd 79 (D5 a0)),(3005,some (C6 s1.2))]:OL)) (fun(p111:(Int)) e E' O'=>e = .exit 2∧Mat B E' O' ([(1,(bo a1)),(2,(pt 1002)),(5,(.sref 3005 13 0 s1.2.length)),(6,(i6 s1.1)),(7,(i6 p111))]:EL) ([(500,some (.know (globD 0 (.imap gv0)))),(1002,bd 79 (D5 a0)),(3005,some (C6 s1.2))]:OL)) hx124 (mp [] _ _ hB) (fun s88 y h => ?_) (fun e E' O' hR => ?_)
   ·unfold A0v at h
    apply seq
    apply seq
    refine AWp.cut h (fun m116:Bool=>([(1,(bo a1)),(2,(pt 1002)),(5,(.sref 3005 13 0 s1.2.length)),(6,(i6 s1.1)),(7,(i6 s88)),(32,(bo m116))]:EL)) (fun m116:Bool=>([(500,some (.know (globD 0 (.imap gv0)))),(1002,bd 79 (D5 a0)),(3005,some (C6 s1.2))]:OL)) (fun m116 h E' O' hmat => ?_) (fun j117 hjj117 h => ?_)
    ·apply A0
     refine ghost hmat ?_
     apply AWp.cond rfl<;>intro hg118
     ·have h:=A4 hg118 h
      apply AWp.skip
      apply A0
      apply block
      refine rg (SQ tt) ?_
      apply D7
      obtain rfl:=oi h
      exact⟨rfl,(mp [] _ _ hB)⟩
     ·have h:=A5 hg118 h
      apply AWp.exit
      apply D8
      obtain rfl:=oi h
      exact⟨(fun hc=>by cases hc),rfl,(mp [] _ _ hB)⟩
    ·rcases bft (decide (s88<(a0.fprefixes.length:Int))) with hg119 | hg119
     ·have h:=A4 hg119 h
      obtain⟨hc120,h⟩:=B6 h
      obtain⟨r121,hr121,h⟩:=bindS h
      obtain⟨r122,hr122,h⟩:=bindS h
      refine drS (SQ (fa hg119 (fa hc120 (fa (cl [] (T4 a0.fattrs ((a0.fprefixes.take ((w64 (s88+1)).toNat)).drop s1.1.toNat) a1 r121 hr121)) (fa (cl [(500,500)] (A24 r121 r122 hr122)) tt))))) ?_
      exact hjj117 _ h _ _ (mp [] _ _ hB)
     ·have h:=A5 hg119 h
      refine drS (SQ (fa hg119 tt)) ?_
      exact hjj117 _ h _ _ (mp [] _ _ hB)
   ·obtain⟨rfl,hmat⟩:=hR
    apply C3
    apply A0
    refine ghost hmat ?_
    obtain⟨hc125,h⟩:=B6 h
    obtain⟨r126,hr126,h⟩:=bindS h
    obtain⟨hc127,h⟩:=B6 h
    refine sdS (SQ (fa hc125 (fa (cl [] (T4 a0.fattrs ((a0.fprefixes.take p111.toNat).drop s1.1.toNat) a1 r126 hr126)) (fa hc127 tt)))) ?_
    refine rg (SQ tt) ?_
    apply D7
    obtain rfl:=oi h
    exact⟨rfl,(mp [(3005,1046)] _ _ hB)⟩
  ·have h:=A5 hg87 h
   apply AWp.exit
   apply D8
   obtain rfl:=oi h
   exact⟨(fun hc=>by cases hc),rfl,(mp [] _ _ hB)⟩
 ·obtain⟨rfl,hmat⟩:=hR
  apply C3
  apply A0
  refine ghost hmat ?_
  refine sr (SQ tt) ?_
  apply ret
  obtain rfl:=oi h
  exact rt (Mat.trans (Mat.freezeP (n:=3005) (e:=61) (sz:=13) (es:=p86.map D1) (Ts:=[(4,(E4 p86))]) (Bs:=[]) (by rfl) (TwT.cons (x:=(.sref 3005 13 0 p86.length)) (by rfl) (FrzL.all (by first | rfl | (simp;done) | (simp;omega) | omega)) TwT.nil) TwB.nil) (mp [] [(4,(E4 p86))] [(500,some (.know (globD 0 (.imap gv0))))] hB)) [(E4 p86)] (rT rN) rfl
def A1e (a0:C2) (a1:Bool) (s1:Int×(List A6)) (s88:Int):Option (((Int))⊕(Int)) :=
 jn (fun m116:Bool =>
 (if m116=true then
 some (.inr (w64 (s88+1)))
 else
 some (.inl s88))) (fun j117 =>
 (if (decide (s88<(a0.fprefixes.length:Int)))=true then
 chk ((decide (0≤s1.1)&&decide (0≤(w64 (s88+1)))&&decide (s1.1.toNat≤(w64 (s88+1)).toNat)&&decide ((w64 (s88+1)).toNat≤a0.fprefixes.length))) <|
 (G8 a0.fattrs ((a0.fprefixes.take ((w64 (s88+1)).toNat)).drop s1.1.toNat) a1).bind fun r121 =>
 (L2 r121).bind fun r122 =>
 j117 r122
 else
 j117 false))
def A1f (a0:C2) (a1:Bool) (s1:Int×(List A6)):Option ((((List A6)))⊕(Int×(List A6))) :=
 (if (decide (s1.1<(a0.fprefixes.length:Int)))=true then
 (loop (A1e a0 a1 s1) (w64 (s1.1+1))).bind fun p111 =>
 chk ((decide (0≤s1.1)&&decide (0≤p111)&&decide (s1.1.toNat≤p111.toNat)&&decide (p111.toNat≤a0.fprefixes.length))) <|
 (G8 a0.fattrs ((a0.fprefixes.take p111.toNat).drop s1.1.toNat) a1).bind fun r126 =>
 chk (decide ((s1.2++[r126]).length≤LIM)) <|
 some (.inr (p111,(s1.2++[r126])))
 else
 some (.inl s1.2))
def Z5 (a0:C2) (a1:Bool):Option ((List A6)) :=
 (loop (A1f a0 a1) (0,([]:List A6))).bind fun p86 =>
 some p86
theorem A6s (a0:C2) (a1:Bool) (r:(List A6)) (h:Z5 a0 a1=some r):AC Tryz.prog 33 [(.d (D5 a0)),(.d (.bool a1))] [(500,(.know (globD 0 (.imap gv0))))] (.sref 900000 13 0 r.length) [(500,some (.know (globD 0 (.imap gv0)))),(900000,some (.row 61 13 (r.map D1)))]:=by
 refine ac2 Tryz.func33 rfl rfl fun B hB hN L => ?_
 delta Z5 at h
 refine sr (SQ tt) ?_
 refine sr (SQ tt) ?_
 apply seq
 refine sr (SQ tt) ?_
 apply block
 obtain⟨p86,hx129,h⟩:=bindS h
 refine lg (A1f a0 a1) (fun s1:Int×(List A6)=>([(1,(bo a1)),(2,(pt 1002)),(5,(.sref 3005 13 0 s1.2.length)),(6,(i6 s1.1))]:EL)) (fun s1:Int×(List A6)=>([(500,some (.know (globD 0 (.imap gv0)))),(1002,bd 79 (D5 a0)),(3005,some (C6 s1.2))]:OL)) (fun(p86:((List A6))) e E' O'=>e = .exit 0∧Mat B E' O' ([(5,(.sref 3005 13 0 p86.length))]:EL) ([(500,some (.know (globD 0 (.imap gv0)))),(3005,some (C6 p86))]:OL)) hx129 (Mat.trans (Mat.beginP (n:=3005) (e:=61) (sz:=13) (Ts:=[(5,(.sref 3005 13 0 0))]) (Bs:=[]) hB (by decide) (by rfl) (by decide) (TwT.cons (x:=.nils) (by rfl) (Tw.leaf ⟨rfl,rfl⟩) TwT.nil) TwB.nil) (mp [] _ _ hB)) (fun s1 y h => ?_) (fun e E' O' hR => ?_)
 ·unfold A1f at h
  apply seq
  refine sr (SQ tt) ?_
  apply AWp.cond rfl<;>intro hg87
  ·have h:=A4 hg87 h
   apply AWp.skip
   apply A0
   apply block
   refine sr (SQ tt) ?_
   apply seq
   apply block
   obtain⟨p111,hx124,h⟩:=bindS h
   refine lg (A1e a0 a1 s1) (fun s88:Int=>([(1,(bo a1)),(2,(pt 1002)),(5,(.sref 3005 13 0 s1.2.length)),(6,(i6 s1.1)),(7,(i6 s88))]:EL)) (fun s88:Int=>([(500,some (.know (globD 0 (.imap gv0)))),(1002,bd 79 (D5 a0)),(3005,some (C6 s1.2))]:OL)) (fun(p111:(Int)) e E' O'=>e = .exit 2∧Mat B E' O' ([(1,(bo a1)),(2,(pt 1002)),(5,(.sref 3005 13 0 s1.2.length)),(6,(i6 s1.1)),(7,(i6 p111))]:EL) ([(500,some (.know (globD 0 (.imap gv0)))),(1002,bd 79 (D5 a0)),(3005,some (C6 s1.2))]:OL)) hx124 (mp [] _ _ hB) (fun s88 y h => ?_) (fun e E' O' hR => ?_)
   ·unfold A1e at h
    apply seq
    apply seq
    refine AWp.cut h (fun m116:Bool=>([(1,(bo a1)),(2,(pt 1002)),(5,(.sref 3005 13 0 s1.2.length)),(6,(i6 s1.1)),(7,(i6 s88)),(32,(bo m116))]:EL)) (fun m116:Bool=>([(500,some (.know (globD 0 (.imap gv0)))),(1002,bd 79 (D5 a0)),(3005,some (C6 s1.2))]:OL)) (fun m116 h E' O' hmat => ?_) (fun j117 hjj117 h => ?_)
    ·apply A0
     refine ghost hmat ?_
     apply AWp.cond rfl<;>intro hg118
     ·have h:=A4 hg118 h
      apply AWp.skip
      apply A0
      apply block
      refine rg (SQ tt) ?_
      apply D7
      obtain rfl:=oi h
      exact⟨rfl,(mp [] _ _ hB)⟩
     ·have h:=A5 hg118 h
      apply AWp.exit
      apply D8
      obtain rfl:=oi h
      exact⟨(fun hc=>by cases hc),rfl,(mp [] _ _ hB)⟩
    ·rcases bft (decide (s88<(a0.fprefixes.length:Int))) with hg119 | hg119
     ·have h:=A4 hg119 h
      obtain⟨hc120,h⟩:=B6 h
      obtain⟨r121,hr121,h⟩:=bindS h
      obtain⟨r122,hr122,h⟩:=bindS h
      refine drS (SQ (fa hg119 (fa hc120 (fa (cl [] (T4 a0.fattrs ((a0.fprefixes.take ((w64 (s88+1)).toNat)).drop s1.1.toNat) a1 r121 hr121)) (fa (cl [(500,500)] (A24 r121 r122 hr122)) tt))))) ?_
      exact hjj117 _ h _ _ (mp [] _ _ hB)
     ·have h:=A5 hg119 h
      refine drS (SQ (fa hg119 tt)) ?_
      exact hjj117 _ h _ _ (mp [] _ _ hB)
   ·obtain⟨rfl,hmat⟩:=hR
    apply C3
    apply A0
    refine ghost hmat ?_
    obtain⟨hc125,h⟩:=B6 h
    obtain⟨r126,hr126,h⟩:=bindS h
    obtain⟨hc127,h⟩:=B6 h
    refine sdS (SQ (fa hc125 (fa (cl [] (T4 a0.fattrs ((a0.fprefixes.take p111.toNat).drop s1.1.toNat) a1 r126 hr126)) (fa hc127 tt)))) ?_
    refine rg (SQ tt) ?_
    apply D7
    obtain rfl:=oi h
    exact⟨rfl,(mp [(3005,1046)] _ _ hB)⟩
  ·have h:=A5 hg87 h
   apply AWp.exit
   apply D8
   obtain rfl:=oi h
   exact⟨(fun hc=>by cases hc),rfl,(mp [] _ _ hB)⟩
 ·obtain⟨rfl,hmat⟩:=hR
  apply C3
  apply A0
  refine ghost hmat ?_
  refine sr (SQ tt) ?_
  apply ret
  obtain rfl:=oi h
  exact rt (mp [(900000,3005)] [(4,(.sref 900000 13 0 p86.length))] [(500,some (.know (globD 0 (.imap gv0)))),(900000,some (C6 p86))] hB) [(.sref 900000 13 0 p86.length)] (rT rN) rfl
def Y2 (a0:(List B8)) (s1:Int×(List C2)×(List A2)):Option (((Unit)⊕((List C2)×(List A2)))⊕(Int×(List C2)×(List A2))) :=
 (if (decide (s1.1<(a0.length:Int)))=true then
 jn (fun m152:(List C2)×(List A2) =>
 some (.inr ((w64 (s1.1+1)),m152.1,m152.2))) (fun j153 =>
 (idx a0 s1.1).bind fun x154 =>
 jn (fun m161:Bool =>
 (if m161=true then
 some (.inl (.inl ()))
 else
 (if (!x154.fHas)=true then
 chk (decide ((s1.2.2++[x154.fPrefix]).length≤LIM)) <|
 j153 (s1.2.1,(s1.2.2++[x154.fPrefix]))
 else
 (N9 s1.2.1 x154).bind fun r166 =>
 jn (fun m169:Int×(List C2) =>
 (idx m169.2 m169.1).bind fun _ =>
 (idx m169.2 m169.1).bind fun x172 =>
 chk (decide ((x172.fprefixes++[x154.fPrefix]).length≤LIM)) <|
 (idx m169.2 m169.1).bind fun _ =>
 (idx m169.2 m169.1).bind fun x175 =>
 j153 ((m169.2.set m169.1.toNat (C2.mk x175.fattrs (x172.fprefixes++[x154.fPrefix]))),s1.2.2)) (fun j170 =>
 (if (decide (r166<0))=true then
 chk (decide ((s1.2.1++([(C2.mk x154.fRoute.fAttrs ([]:List A2))]:List C2)).length≤LIM)) <|
 j170 ((s1.2.1.length:Int),(s1.2.1++([(C2.mk x154.fRoute.fAttrs ([]:List A2))]:List C2)))
 else
 j170 (r166,s1.2.1)))))) (fun j162 =>
 (A2p x154).bind fun r178 =>
 (if (!r178)=true then
 j162 true
 else
 (if (decide (0<s1.1))=true then
 (idx a0 (w64 (s1.1-1))).bind fun x181 =>
 (A2q x181.fPrefix x154.fPrefix).bind fun r182 =>
 j162 (decide (0≤r182))
 else
 j162 false))))
 else
 some (.inl (.inr (s1.2.1,s1.2.2))))
def A0x (p121:(List C2)×(List A2)) (s186:Int×(List A6)):Option ((((List A6)))⊕(Int×(List A6))) :=
 (if (decide (s186.1<(p121.1.length:Int)))=true then
 (idx p121.1 s186.1).bind fun x198 =>
 (P8 x198 true).bind fun r199 =>
 chk (decide ((s186.2++r199).length≤LIM)) <|
 some (.inr ((w64 (s186.1+1)),(s186.2++r199)))
 else
 some (.inl s186.2))
def A1g (a0:(List B8)):Option ((List A6)×Int) :=
 (loop (Y2 a0) (0,([]:List C2),([]:List A2))).bind fun x183=>match x183 with
 | (.inl _) =>
  some (([]:List A6),1)
 | (.inr p121) =>
  (Z5 (C2.mk (C8.mk 0 ([]:List B2) (D0.mk false 0 0) 0 0 0 ([]:List A9) ([]:List E0) ([]:List A1)) p121.2) false).bind fun r185 =>
  (loop (A0x p121) (0,r185)).bind fun p196 =>
  some (p196,0)
theorem A6c (a0:(List B8)) (r:(List A6)×Int) (h:A1g a0=some r):AC Tryz.prog 12 [(.d (.list 22 (a0.map F4)))] [(500,(.know (globD 0 (.imap gv0))))] (.tup [(.d (.list 13 (r.1.map D1))),(.d (.int .i64 r.2))]) [(500,some (.know (globD 0 (.imap gv0))))]:=by
 refine ac2 Tryz.func12 rfl rfl fun B hB hN L => ?_
 delta A1g at h
 refine sr (SQ tt) ?_
 refine sr (SQ tt) ?_
 refine sr (SQ tt) ?_
 apply seq
 refine sr (SQ tt) ?_
 apply block
 obtain⟨x183,hx184,h⟩:=bindS h
 refine lg (Y2 a0) (fun s1:Int×(List C2)×(List A2)=>([(0,(C1 a0)),(4,(pt 1004)),(5,(.sref 3005 12 0 s1.2.1.length)),(12,(C1 a0)),(13,(i6 (a0.length:Int))),(14,(i6 s1.1))]:EL)) (fun s1:Int×(List C2)×(List A2)=>([(500,some (.know (globD 0 (.imap gv0)))),(1004,some (.box 79 (.st [(.st [(i6 0),.nils,(.d (.st [(.bool false),(.int .u64 0),(.int .u64 0)])),(i6 0),(i6 0),(i6 0),.nils,.nils,.nils]),(.sref 13041 4 0 s1.2.2.length)]))),(3005,some (.reg (nrow 79 12 1 29 4 (s1.2.1.map D5) none))),(13041,some (I1 s1.2.2))]:OL)) (fun(x:(Unit)⊕((List C2)×(List A2))) e E' O'=>match x with | (.inl _p)=>e = .ret∧Mat B E' O' ([(2,.nils),(3,(i6 1))]:EL) ([(500,some (.know (globD 0 (.imap gv0))))]:OL) | (.inr p121)=>e = .exit 0∧Mat B E' O' ([(4,(pt 1004)),(5,(.sref 3005 12 0 p121.1.length))]:EL) ([(500,some (.know (globD 0 (.imap gv0)))),(1004,some (.box 79 (.st [(.st [(i6 0),.nils,(.d (.st [(.bool false),(.int .u64 0),(.int .u64 0)])),(i6 0),(i6 0),(i6 0),.nils,.nils,.nils]),(.sref 13041 4 0 p121.2.length)]))),(3005,some (.reg (nrow 79 12 1 29 4 (p121.1.map D5) none))),(13041,some (I1 p121.2))]:OL)) hx184 (Mat.trans (Mat.beginG (n:=3005) (e:=79) (sz:=12) (j:=1) (e2:=29) (sz2:=4) (Ts:=[(5,(.sref 3005 12 0 0))]) (Bs:=[]) hB (by decide) (by decide) (by rfl) (by decide) (TwT.cons (x:=.nils) (by rfl) (Tw.leaf ⟨rfl,rfl⟩) TwT.nil) TwB.nil) (Mat.trans (Mat.beginP (n:=13041) (e:=29) (sz:=4) (Ts:=[]) (Bs:=[(1004,some (.box 79 (.st [(.st [(i6 0),.nils,(.d (.st [(.bool false),(.int .u64 0),(.int .u64 0)])),(i6 0),(i6 0),(i6 0),.nils,.nils,.nils]),(.sref 13041 4 0 0)])))]) hB (by decide) (by rfl) (by decide) TwT.nil (TwB.cons (x:=(.st [(.st [(i6 0),.nils,(.d (.st [(.bool false),(.int .u64 0),(.int .u64 0)])),(i6 0),(i6 0),(i6 0),.nils,.nils,.nils]),.nils])) (by rfl) (Tw.st (TwL.cons (Tw.same _) (TwL.cons (Tw.leaf ⟨rfl,rfl⟩) TwL.nil))) TwB.nil)) (mp [] _ _ hB))) (fun s1 y h => ?_) (fun e E' O' hR => ?_)
 ·unfold Y2 at h
  refine sr (SQ tt) ?_
  apply seq
  apply AWp.cond rfl<;>intro hg122
  ·have h:=A4 hg122 h
   apply AWp.skip
   apply A0
   apply seq
   refine AWp.cut h (fun m152:(List C2)×(List A2)=>([(0,(C1 a0)),(4,(pt 1004)),(5,(.sref 3005 12 0 m152.1.length)),(12,(C1 a0)),(13,(i6 (a0.length:Int))),(14,(i6 s1.1))]:EL)) (fun m152:(List C2)×(List A2)=>([(500,some (.know (globD 0 (.imap gv0)))),(1004,some (.box 79 (.st [(.st [(i6 0),.nils,(.d (.st [(.bool false),(.int .u64 0),(.int .u64 0)])),(i6 0),(i6 0),(i6 0),.nils,.nils,.nils]),(.sref 13041 4 0 m152.2.length)]))),(3005,some (.reg (nrow 79 12 1 29 4 (m152.1.map D5) none))),(13041,some (I1 m152.2))]:OL)) (fun m152 h E' O' hmat => ?_) (fun j153 hjj153 h => ?_)
   ·apply A0
    refine ghost hmat ?_
    refine rg (SQ tt) ?_
    obtain rfl:=oi h
    exact⟨rfl,(mp [] _ _ hB)⟩
   ·apply block
    obtain⟨x154,hx154,h⟩:=bindS h
    refine sr (SQ (fa hx154 tt)) ?_
    apply seq
    apply seq
    refine AWp.cut h (fun m161:Bool=>([(0,(C1 a0)),(4,(pt 1004)),(5,(.sref 3005 12 0 s1.2.1.length)),(7,(pt 1007)),(12,(C1 a0)),(13,(i6 (a0.length:Int))),(14,(i6 s1.1)),(37,(bo m161))]:EL)) (fun m161:Bool=>([(500,some (.know (globD 0 (.imap gv0)))),(1004,some (.box 79 (.st [(.st [(i6 0),.nils,(.d (.st [(.bool false),(.int .u64 0),(.int .u64 0)])),(i6 0),(i6 0),(i6 0),.nils,.nils,.nils]),(.sref 13041 4 0 s1.2.2.length)]))),(1007,bd 39 (F4 x154)),(3005,some (.reg (nrow 79 12 1 29 4 (s1.2.1.map D5) none))),(13041,some (I1 s1.2.2))]:OL)) (fun m161 h E' O' hmat => ?_) (fun j162 hjj162 h => ?_)
    ·apply A0
     refine ghost hmat ?_
     apply AWp.cond rfl<;>intro hg163
     ·have h:=A4 hg163 h
      refine sr (SQ tt) ?_
      apply ret
      apply B3
      apply D4
      apply B3
      obtain rfl:=oi h
      exact⟨(fun hc=>by cases hc),rfl,(mp [] _ _ hB)⟩
     ·have h:=A5 hg163 h
      apply AWp.skip
      apply A0
      apply seq
      refine sr (SQ tt) ?_
      apply AWp.cond rfl<;>intro hg164
      ·have h:=A4 hg164 h
       obtain⟨hc165,h⟩:=B6 h
       refine sr (SQ (fa hc165 tt)) ?_
       refine gh [(0,_),(4,_),(5,_),(12,_),(13,_),(14,_)] [(500,some _),(1004,some _),(1046,some _),(3005,some _)] hB rfl rfl (by rfl) ?_
       apply AWp.exit
       apply D8
       apply C3
       exact hjj153 _ h _ _ (mp [(13041,1046)] _ _ hB)
      ·have h:=A5 hg164 h
       apply AWp.skip
       apply A0
       obtain⟨r166,hr166,h⟩:=bindS h
       apply sr (c (mv hN (q 5)) rfl (cg (OpJ.makeF (OpdL.cons (q 7) OpdL.nil) rfl rfl (L rfl)) rfl (cg (OpJ.peek [(3005,(.reg (nrow 79 12 1 29 4 (s1.2.1.map D5) none))),(1007,(.box 39 (.d (F4 x154))))] fnOk30 (A4l s1.2.1 x154 r166 hr166) rfl (L rfl) (by kernel_rfl) (OpdL.cons (q 48) (OpdL.cons (q 49) OpdL.nil)) (PkL.cons (Pk.reg (List.Mem.head _) (by simp)) (PkL.cons (Pk.fn (PkL.cons (Pk.box (List.Mem.tail _ (List.Mem.head _)) (Co.d _)) PkL.nil)) PkL.nil))) rfl (c (assign (L rfl) (q 50)) rfl cn))))
       apply seq
       refine sr (SQ tt) ?_
       refine gh [(0,_),(4,_),(5,_),(7,_),(8,_),(12,_),(13,_),(14,_),(52,_)] [(500,some _),(1004,some _),(1007,some _),(3005,some _),(13041,some _)] hB rfl rfl (by rfl) ?_
       refine AWp.cut h (fun m169:Int×(List C2)=>([(0,(C1 a0)),(4,(pt 1004)),(5,(.sref 3005 12 0 m169.2.length)),(7,(pt 1007)),(8,(i6 m169.1)),(12,(C1 a0)),(13,(i6 (a0.length:Int))),(14,(i6 s1.1))]:EL)) (fun m169:Int×(List C2)=>([(500,some (.know (globD 0 (.imap gv0)))),(1004,some (.box 79 (.st [(.st [(i6 0),.nils,(.d (.st [(.bool false),(.int .u64 0),(.int .u64 0)])),(i6 0),(i6 0),(i6 0),.nils,.nils,.nils]),(.sref 13041 4 0 s1.2.2.length)]))),(1007,bd 39 (F4 x154)),(3005,some (.reg (nrow 79 12 1 29 4 (m169.2.map D5) none))),(13041,some (I1 s1.2.2))]:OL)) (fun m169 h E' O' hmat => ?_) (fun j170 hjj170 h => ?_)
       ·apply A0
        refine ghost hmat ?_
        obtain⟨_,hx171,h⟩:=bindS h
        obtain⟨x172,hx172,h⟩:=bindS h
        obtain⟨hc173,h⟩:=B6 h
        obtain⟨_,hx174,h⟩:=bindS h
        obtain⟨x175,hx175,h⟩:=bindS h
        apply dr (c (mv hN (q 5)) rfl (c (mv hN (q 8)) rfl (c (mv hN (q 5)) rfl (c (mv hN (q 8)) rfl (c (OpJ.val (v':=(.ptr 3005 (m169.1.toNat*12) [m169.1.toNat])) (by simp) (indexS underlying80 tyS79 (E9 hx171).1 (by have:=B08 hx171;first | (simpa using this) | ((try simp only [List.length_map] at this);(try simp only [List.length_map]);omega)) (L rfl) (q 64) (q 65))) rfl (c (ov (.ptr 3005 ((m169.1.toNat*12)+11) [m169.1.toNat,1]) (fp hN underlying79 11 tyS59 _ (q 66))) rfl (cg (OpJ.takeG hB (m:=1068) (e:=79) (sz:=12) (j:=1) (e2:=29) (sz2:=4) (len:=x172.fprefixes.length) (es:=m169.2.map D5) (pre:=([(B9 x172.fattrs)]:List D)) (inner:=x172.fprefixes.map C4) (post:=([]:List D)) tyS59 (by decide) (Q3 D5 (E9 hx172).2) (by rfl) (o:=11) (by rfl) (by rfl) (by simp) (L rfl) (q 67)) rfl (c (fo 1007 1 [1] hN underlying39 1 tyS29 (q 7)) rfl (c (la hN 39 tyS29 (q 69)) rfl (c (buildSlice underlying59 tyS29 tyZD29 (by rfl) (by decide) (by decide) (Opds.cons (q 70) Opds.nil) (by kernel_rfl) (es:=([(C4 x154.fPrefix)]:List D)) (by rfl) (by rfl) (by kernel_rfl) (by simp) (L rfl)) rfl (cg (apd hB underlying59 tyE29 1072 C4 x172.fprefixes [x154.fPrefix] hc173 (L rfl) (q 68) (q 71)) rfl (c (OpJ.val (v':=(.ptr 3005 (m169.1.toNat*12) [m169.1.toNat])) (by simp) (indexS underlying80 tyS79 (E9 hx174).1 (by have:=B08 hx174;first | (simpa using this) | ((try simp only [List.length_map] at this);(try simp only [List.length_map]);omega)) (L rfl) (q 62) (q 63))) rfl (c (ov (.ptr 3005 ((m169.1.toNat*12)+11) [m169.1.toNat,1]) (fp hN underlying79 11 tyS59 _ (q 73))) rfl (cg (OpJ.putG (e:=79) (sz:=12) (j:=1) (e2:=29) (sz2:=4) (es:=m169.2.map D5) (es':=(m169.2.set m169.1.toNat (C2.mk x175.fattrs (x172.fprefixes++[x154.fPrefix]))).map D5) (pre:=([(B9 x175.fattrs)]:List D)) (inner0:=x175.fprefixes.map C4) (inner:=(x172.fprefixes++[x154.fPrefix]).map C4) (post:=([]:List D)) tyS59 (Q3 D5 (E9 hx175).2) (A7y _ _ _ _) (by rfl) (o:=11) (by rfl) (by rfl) (by simp) (q 74) (q 72)) rfl cn)))))))))))))) (by kernel_rfl) (by kernel_rfl)
        apply D7
        exact hjj153 _ h _ _ (Mat.trans (mp [] [(0,(C1 a0)),(4,(pt 1004)),(5,(.sref 3005 12 0 m169.2.length)),(12,(C1 a0)),(13,(i6 (a0.length:Int))),(14,(i6 s1.1))] [(500,some (.know (globD 0 (.imap gv0)))),(1004,some (.box 79 (.st [(.st [(i6 0),.nils,(.d (.st [(.bool false),(.int .u64 0),(.int .u64 0)])),(i6 0),(i6 0),(i6 0),.nils,.nils,.nils]),(.sref 13041 4 0 s1.2.2.length)]))),(3005,some (.reg (nrow 79 12 1 29 4 ((m169.2.set m169.1.toNat (C2.mk x175.fattrs (x172.fprefixes++[x154.fPrefix]))).map D5) none))),(13041,some (I1 s1.2.2))] hB) (Mat.trans (Mat.lenP (Ts:=[(5,(.sref 3005 12 0 ((m169.2.set m169.1.toNat (C2.mk x175.fattrs (x172.fprefixes++[x154.fPrefix]))).length)))]) (Bs:=[]) (TwT.cons (x:=(.sref 3005 12 0 m169.2.length)) (by rfl) (Tw.leaf ⟨_,_,_,_,_,rfl,rfl,(by first | rfl | (simp;done) | (simp;omega) | omega)⟩) TwT.nil) TwB.nil) (mp [] _ _ hB)))
       ·apply AWp.cond rfl<;>intro hg176
        ·have h:=A4 hg176 h
         refine sr (SQ tt) ?_
         obtain⟨hc177,h⟩:=B6 h
         apply rg (c (mv hN (q 5)) rfl (c (fo 1007 6 [3] hN underlying39 6 tyS37 (q 7)) rfl (c (fo 1007 11 [3,2] hN underlying37 5 tyS35 (q 56)) rfl (c (lb hN 39 _ _ tyS35 (At.dst1 (by rfl) (by rfl) (ad _) (by first | rfl | omega)) (q 57)) rfl (c (OpJ.build (places:=[(0,11),(11,1)]) ⟨underlying79,fun w=>by kernel_rfl⟩ tyZS79 (Opds.cons (q 58) Opds.nil) (by kernel_rfl) (r:=(.st [(.d (B9 x154.fRoute.fAttrs)),.nils])) (by rfl) (L rfl)) rfl (cg (OpJ.buildSliceG (e:=79) (sz:=12) (j:=1) (e2:=29) (sz2:=4) (z:=(.st [(.st [(.int .i64 0),(.list 2 (([]:List B2).map C7)),(.st [(.bool false),(.int .u64 0),(.int .u64 0)]),(.int .i64 0),(.int .i64 0),(.int .i64 0),(.list 2 (([]:List A9).map C0)),(.list 3 (([]:List E0).map D9)),(.list 3 (([]:List A1).map A7))]),(.list 4 (([]:List A2).map C4))])) underlying80 tyS79 tyZD79 (by rfl) (by decide) (by decide) (by decide) hB (nm:=1060) (by decide) (pre:=([(B9 x154.fRoute.fAttrs)]:List D)) (post:=([]:List D)) (q 59) (by kernel_rfl) (es:=([(C2.mk x154.fRoute.fAttrs ([]:List A2))]:List C2).map D5) (by rfl) (by rfl) (by kernel_rfl) (L rfl)) rfl (cg (OpJ.appendG hB underlying80 tyE79 (nm:=1061) (by decide) (j:=1) (e2:=29) (sz2:=4) (es:=s1.2.1.map D5) (ys:=([(C2.mk x154.fRoute.fAttrs ([]:List A2))]:List C2).map D5) (es':=(s1.2.1++([(C2.mk x154.fRoute.fAttrs ([]:List A2))]:List C2)).map D5) (len:=(s1.2.1++([(C2.mk x154.fRoute.fAttrs ([]:List A2))]:List C2)).length) (by rfl) (by simp) (by simp) (by simp) (by rw [List.length_map];exact Y8 hc177 (by decide)) (by rw [List.length_map];exact A2c hc177) (L rfl) (by simp) (by simp) (q 55) (q 60)) rfl (c (assign (L rfl) (q 61)) rfl cn))))))))
         exact hjj170 _ h _ _ (mp [(3005,1061)] _ _ hB)
        ·have h:=A5 hg176 h
         apply AWp.skip
         exact hjj170 _ h _ _ (mp [] _ _ hB)
    ·obtain⟨r178,hr178,h⟩:=bindS h
     rcases bft (!r178) with hg179 | hg179
     ·have h:=A4 hg179 h
      refine drS (SQ (fa (cl [(500,500)] (A3l x154 r178 hr178)) (fa hg179 tt))) ?_
      exact hjj162 _ h _ _ (mp [] _ _ hB)
     ·have h:=A5 hg179 h
      rcases bft (decide (0<s1.1)) with hg180 | hg180
      ·have h:=A4 hg180 h
       obtain⟨x181,hx181,h⟩:=bindS h
       obtain⟨r182,hr182,h⟩:=bindS h
       refine drS (SQ (fa (cl [(500,500)] (A3l x154 r178 hr178)) (fa hg179 (fa hg180 (fa hx181 (fa (cl [] (A9g x181.fPrefix x154.fPrefix r182 hr182)) tt)))))) ?_
       exact hjj162 _ h _ _ (mp [] _ _ hB)
      ·have h:=A5 hg180 h
       refine drS (SQ (fa (cl [(500,500)] (A3l x154 r178 hr178)) (fa hg179 (fa hg180 tt)))) ?_
       exact hjj162 _ h _ _ (mp [] _ _ hB)
  ·have h:=A5 hg122 h
   apply AWp.exit
   apply D8
   obtain rfl:=oi h
   exact⟨(fun hc=>by cases hc),rfl,(mp [] _ _ hB)⟩
 ·rcases x183 with _ | p121
  ·obtain⟨rfl,hmat⟩:=hR
   apply D4
   apply B3
   obtain rfl:=oi h
   exact rt (Mat.trans hmat (Mat.trans (Mat.coeP (Ts:=[(2,(E4 ([]:List A6)))]) (Bs:=[]) (TwT.cons (x:=.nils) (by rfl) (Tw.leaf ⟨_,(Co.nils 13),rfl⟩) TwT.nil) TwB.nil) (mp [] [(2,(E4 ([]:List A6))),(3,(i6 1))] [(500,some (.know (globD 0 (.imap gv0))))] hB))) [(E4 ([]:List A6)),(i6 1)] (rT (rT rN)) rfl
  ·obtain⟨rfl,hmat⟩:=hR
   apply C3
   apply A0
   refine ghost hmat ?_
   apply seq
   refine ghost (Mat.freezeP (n:=13041) (e:=29) (sz:=4) (es:=p121.2.map C4) (Ts:=[]) (Bs:=[(1004,some (.box 79 (.st [(.st [(i6 0),.nils,(.d (.st [(.bool false),(.int .u64 0),(.int .u64 0)])),(i6 0),(i6 0),(i6 0),.nils,.nils,.nils]),(E6 p121.2)])))]) (by rfl) TwT.nil (TwB.cons (x:=(.st [(.st [(i6 0),.nils,(.d (.st [(.bool false),(.int .u64 0),(.int .u64 0)])),(i6 0),(i6 0),(i6 0),.nils,.nils,.nils]),(.sref 13041 4 0 p121.2.length)])) (by rfl) (Tw.st (TwL.cons (Tw.same _) (TwL.cons (FrzL.all (by first | rfl | (simp;done) | (simp;omega) | omega)) TwL.nil))) TwB.nil)) ?_
   obtain⟨r185,hr185,h⟩:=bindS h
   refine rg (SQ (fa (cl [(500,500),(900000,100300)] (A6s (C2.mk (C8.mk 0 ([]:List B2) (D0.mk false 0 0) 0 0 0 ([]:List A9) ([]:List E0) ([]:List A1)) p121.2) false r185 hr185)) tt)) ?_
   apply A0
   refine ghost (mp [] [(5,(.sref 3005 12 0 p121.1.length)),(9,(.sref 100300 13 0 r185.length))] [(500,some (.know (globD 0 (.imap gv0)))),(3005,some (.reg (nrow 79 12 1 29 4 (p121.1.map D5) none))),(100300,some (C6 r185))] hB) ?_
   apply seq
   refine sr (SQ tt) ?_
   apply block
   obtain⟨p196,hx202,h⟩:=bindS h
   refine lg (A0x p121) (fun s186:Int×(List A6)=>([(9,(.sref 3009 13 0 s186.2.length)),(78,(.d (.list 12 (p121.1.map D5)))),(79,(i6 (p121.1.length:Int))),(80,(i6 s186.1))]:EL)) (fun s186:Int×(List A6)=>([(500,some (.know (globD 0 (.imap gv0)))),(3009,some (C6 s186.2))]:OL)) (fun(p196:((List A6))) e E' O'=>e = .exit 2∧Mat B E' O' ([(9,(.sref 3009 13 0 p196.length))]:EL) ([(500,some (.know (globD 0 (.imap gv0)))),(3009,some (C6 p196))]:OL)) hx202 (Mat.trans (Mat.freezeG (n:=3005) (e:=79) (sz:=12) (j:=1) (e2:=29) (sz2:=4) (es:=p121.1.map D5) (Ts:=[(78,(.d (.list 12 (p121.1.map D5))))]) (Bs:=[]) (by rfl) (TwT.cons (x:=(.sref 3005 12 0 p121.1.length)) (by rfl) (FrzL.all (by first | rfl | (simp;done) | (simp;omega) | omega)) TwT.nil) TwB.nil) (mp [(3009,100300)] _ _ hB)) (fun s186 y h => ?_) (fun e E' O' hR => ?_)
   ·unfold A0x at h
    refine sr (SQ tt) ?_
    apply seq
    apply AWp.cond rfl<;>intro hg197
    ·have h:=A4 hg197 h
     apply AWp.skip
     apply A0
     apply seq
     apply block
     obtain⟨x198,hx198,h⟩:=bindS h
     refine sr (SQ (fa hx198 tt)) ?_
     obtain⟨r199,hr199,h⟩:=bindS h
     obtain⟨hc200,h⟩:=B6 h
     refine rg (SQ (fa (cl [(500,500)] (A8r x198 true r199 hr199)) (fa hc200 tt))) ?_
     apply D7
     apply A0
     refine ghost (mp [] [(9,(.sref 1087 13 0 ((s186.2++r199).length))),(78,(.d (.list 12 (p121.1.map D5)))),(79,(i6 (p121.1.length:Int))),(80,(i6 s186.1))] [(500,some (.know (globD 0 (.imap gv0)))),(1087,some (C6 (s186.2++r199)))] hB) ?_
     refine rg (SQ tt) ?_
     obtain rfl:=oi h
     exact⟨rfl,(mp [(3009,1087)] _ _ hB)⟩
    ·have h:=A5 hg197 h
     apply AWp.exit
     apply D8
     obtain rfl:=oi h
     exact⟨(fun hc=>by cases hc),rfl,(mp [] _ _ hB)⟩
   ·obtain⟨rfl,hmat⟩:=hR
    apply C3
    apply A0
    refine ghost hmat ?_
    refine sr (SQ tt) ?_
    apply ret
    obtain rfl:=oi h
    exact rt (Mat.trans (Mat.freezeP (n:=3009) (e:=61) (sz:=13) (es:=p196.map D1) (Ts:=[(2,(E4 p196))]) (Bs:=[]) (by rfl) (TwT.cons (x:=(.sref 3009 13 0 p196.length)) (by rfl) (FrzL.all (by first | rfl | (simp;done) | (simp;omega) | omega)) TwT.nil) TwB.nil) (mp [] [(2,(E4 p196)),(3,(i6 0))] [(500,some (.know (globD 0 (.imap gv0))))] hB)) [(E4 p196),(i6 0)] (rT (rT rN)) rfl
def A0y (a0:(List B2)):Option (Int×Bool) :=
 jn (fun m5:Bool =>
 (if m5=true then
 some (0,false)
 else
 (idx a0 0).bind fun x8 =>
 (idx x8.fASNs 0).bind fun x9 =>
 some (x9,true))) (fun j6 =>
 (if ((a0.length:Int)==0)=true then
 j6 true
 else
 (P3 a0).bind fun r11 =>
 (if (!r11)=true then
 j6 true
 else
 (idx a0 0).bind fun x13 =>
 j6 x13.fSet)))
theorem A7q (a0:(List B2)) (r:Int×Bool) (h:A0y a0=some r):AC Tryz.prog 39 [(.d (.list 2 (a0.map C7)))] [] (.tup [(.d (.int .i64 r.1)),(.d (.bool r.2))]) []:=by
 refine ac2 Tryz.func39 rfl rfl fun B hB hN L => ?_
 delta A0y at h
 refine sr (SQ tt) ?_
 apply seq
 apply seq
 refine AWp.cut h (fun m5:Bool=>([(0,(B5 a0)),(17,(bo m5))]:EL)) (fun m5:Bool=>([]:OL)) (fun m5 h E' O' hmat => ?_) (fun j6 hjj6 h => ?_)
 ·apply A0
  refine ghost hmat ?_
  apply AWp.cond rfl<;>intro hg7
  ·have h:=A4 hg7 h
   refine sr (SQ tt) ?_
   apply ret
   apply B3
   obtain rfl:=oi h
   exact rt (kp [(2,_),(3,_)] [] hB rfl rfl (by rfl)) [(i6 0),(bo false)] (rT (rT rN)) rfl
  ·have h:=A5 hg7 h
   apply AWp.skip
   apply A0
   obtain⟨_,hx8,h⟩:=bindS h
   obtain⟨x9,hx9,h⟩:=bindS h
   refine sr (SQ (fa hx8 (fa hx9 tt))) ?_
   apply ret
   obtain rfl:=oi h
   exact rt (kp [(2,_),(3,_)] [] hB rfl rfl (by rfl)) [(i6 x9),(bo true)] (rT (rT rN)) rfl
 ·rcases bft ((a0.length:Int)==0) with hg10 | hg10
  ·have h:=A4 hg10 h
   refine rg (SQ (fa hg10 tt)) ?_
   exact hjj6 _ h _ _ (mp [] _ _ hB)
  ·have h:=A5 hg10 h
   obtain⟨r11,hr11,h⟩:=bindS h
   rcases bft (!r11) with hg12 | hg12
   ·have h:=A4 hg12 h
    refine rg (SQ (fa hg10 (fa (cl [] (F5 a0 r11 hr11)) (fa hg12 tt)))) ?_
    exact hjj6 _ h _ _ (mp [] _ _ hB)
   ·have h:=A5 hg12 h
    obtain⟨_,hx13,h⟩:=bindS h
    refine rg (SQ (fa hg10 (fa (cl [] (F5 a0 r11 hr11)) (fa hg12 (fa hx13 tt))))) ?_
    exact hjj6 _ h _ _ (mp [] _ _ hB)
def R2 (a1:Int) (x72:A6) (s73:Int×(List B8)):Option ((((List B8)))⊕(Int×(List B8))) :=
 (if (decide (s73.1<(x72.fWithdraw.length:Int)))=true then
 (idx x72.fWithdraw s73.1).bind fun x82 =>
 chk (decide ((s73.2++([(B8.mk a1 x82 false (V7.mk (A2.mk (D0.mk false 0 0) 0) 0 (C8.mk 0 ([]:List B2) (D0.mk false 0 0) 0 0 0 ([]:List A9) ([]:List E0) ([]:List A1))))]:List B8)).length≤LIM)) <|
 some (.inr ((w64 (s73.1+1)),(s73.2++([(B8.mk a1 x82 false (V7.mk (A2.mk (D0.mk false 0 0) 0) 0 (C8.mk 0 ([]:List B2) (D0.mk false 0 0) 0 0 0 ([]:List A9) ([]:List E0) ([]:List A1))))]:List B8))))
 else
 some (.inl s73.2))
def A0z (a1:Int) (x72:A6) (r86:Int×Bool) (s87:Int×(List B8)):Option ((((List B8)))⊕(Int×(List B8))) :=
 (if (decide (s87.1<(x72.fAnnounce.length:Int)))=true then
 (idx x72.fAnnounce s87.1).bind fun x98 =>
 (A0b x72.fAttrs).bind fun r99 =>
 chk (decide ((s87.2++[(B8.mk a1 x98 true (V7.mk x98 r86.1 r99))]).length≤LIM)) <|
 some (.inr ((w64 (s87.1+1)),(s87.2++[(B8.mk a1 x98 true (V7.mk x98 r86.1 r99))])))
 else
 some (.inl s87.2))
def W7 (a0:(List A6)) (a1:Int) (s1:Int×(List B8)):Option ((((List B8)))⊕(Int×(List B8))) :=
 (if (decide (s1.1<(a0.length:Int)))=true then
 (idx a0 s1.1).bind fun x72 =>
 (loop (R2 a1 x72) (0,s1.2)).bind fun p80 =>
 (A0y x72.fAttrs.fPath).bind fun r86 =>
 (loop (A0z a1 x72 r86) (0,p80)).bind fun p96 =>
 some (.inr ((w64 (s1.1+1)),p96))
 else
 some (.inl s1.2))
def A1s (a0:(List A6)) (a1:Int):Option ((List B8)) :=
 (loop (W7 a0 a1) (0,([]:List B8))).bind fun p70 =>
 some p70
theorem A8s (a0:(List A6)) (a1:Int) (r:(List B8)) (h:A1s a0 a1=some r):AC Tryz.prog 16 [(.d (.list 13 (a0.map D1))),(.d (.int .i64 a1))] [] (.d (.list 22 (r.map F4))) []:=by
 refine ac2 Tryz.func16 rfl rfl fun B hB hN L => ?_
 delta A1s at h
 refine sr (SQ tt) ?_
 refine sr (SQ tt) ?_
 apply seq
 refine sr (SQ tt) ?_
 apply block
 obtain⟨p70,hx104,h⟩:=bindS h
 refine lg (W7 a0 a1) (fun s1:Int×(List B8)=>([(1,(i6 a1)),(5,(.sref 3005 22 0 s1.2.length)),(14,(E4 a0)),(15,(i6 (a0.length:Int))),(16,(i6 s1.1))]:EL)) (fun s1:Int×(List B8)=>([(3005,some (G0 s1.2))]:OL)) (fun(p70:((List B8))) e E' O'=>e = .exit 0∧Mat B E' O' ([(5,(.sref 3005 22 0 p70.length))]:EL) ([(3005,some (G0 p70))]:OL)) hx104 (Mat.trans (Mat.beginP (n:=3005) (e:=39) (sz:=22) (Ts:=[(5,(.sref 3005 22 0 0))]) (Bs:=[]) hB (by decide) (by rfl) (by decide) (TwT.cons (x:=.nils) (by rfl) (Tw.leaf ⟨rfl,rfl⟩) TwT.nil) TwB.nil) (mp [] _ _ hB)) (fun s1 y h => ?_) (fun e E' O' hR => ?_)
 ·unfold W7 at h
  refine sr (SQ tt) ?_
  apply seq
  apply AWp.cond rfl<;>intro hg71
  ·have h:=A4 hg71 h
   apply AWp.skip
   apply A0
   apply seq
   apply block
   obtain⟨x72,hx72,h⟩:=bindS h
   refine sr (SQ (fa hx72 tt)) ?_
   apply seq
   refine sr (SQ tt) ?_
   apply block
   obtain⟨p80,hx85,h⟩:=bindS h
   refine lg (R2 a1 x72) (fun s73:Int×(List B8)=>([(1,(i6 a1)),(5,(.sref 3005 22 0 s73.2.length)),(7,(pt 1007)),(14,(E4 a0)),(15,(i6 (a0.length:Int))),(16,(i6 s1.1)),(21,(E6 x72.fWithdraw)),(22,(i6 (x72.fWithdraw.length:Int))),(23,(i6 s73.1))]:EL)) (fun s73:Int×(List B8)=>([(1007,bd 61 (D1 x72)),(3005,some (G0 s73.2))]:OL)) (fun(p80:((List B8))) e E' O'=>e = .exit 2∧Mat B E' O' ([(1,(i6 a1)),(5,(.sref 3005 22 0 p80.length)),(7,(pt 1007)),(14,(E4 a0)),(15,(i6 (a0.length:Int))),(16,(i6 s1.1))]:EL) ([(1007,bd 61 (D1 x72)),(3005,some (G0 p80))]:OL)) hx85 (mp [] _ _ hB) (fun s73 y h => ?_) (fun e E' O' hR => ?_)
   ·unfold R2 at h
    refine sr (SQ tt) ?_
    apply seq
    apply AWp.cond rfl<;>intro hg81
    ·have h:=A4 hg81 h
     apply AWp.skip
     apply A0
     apply seq
     apply block
     obtain⟨_,hx82,h⟩:=bindS h
     refine sr (SQ (fa hx82 tt)) ?_
     obtain⟨hc83,h⟩:=B6 h
     refine rg (SQ (fa hc83 tt)) ?_
     apply D7
     apply A0
     refine rg (SQ tt) ?_
     obtain rfl:=oi h
     exact⟨rfl,(mp [(3005,1032)] _ _ hB)⟩
    ·have h:=A5 hg81 h
     apply AWp.exit
     apply D8
     obtain rfl:=oi h
     exact⟨(fun hc=>by cases hc),rfl,(mp [] _ _ hB)⟩
   ·obtain⟨rfl,hmat⟩:=hR
    apply C3
    apply A0
    refine ghost hmat ?_
    obtain⟨r86,hr86,h⟩:=bindS h
    refine sr (SQ (fa (cl [] (A7q x72.fAttrs.fPath r86 hr86)) tt)) ?_
    refine sr (SQ tt) ?_
    apply block
    obtain⟨p96,hx102,h⟩:=bindS h
    refine lg (A0z a1 x72 r86) (fun s87:Int×(List B8)=>([(1,(i6 a1)),(5,(.sref 3005 22 0 s87.2.length)),(7,(pt 1007)),(10,(i6 r86.1)),(14,(E4 a0)),(15,(i6 (a0.length:Int))),(16,(i6 s1.1)),(42,(E6 x72.fAnnounce)),(43,(i6 (x72.fAnnounce.length:Int))),(44,(i6 s87.1))]:EL)) (fun s87:Int×(List B8)=>([(1007,bd 61 (D1 x72)),(3005,some (G0 s87.2))]:OL)) (fun(p96:((List B8))) e E' O'=>e = .exit 4∧Mat B E' O' ([(1,(i6 a1)),(5,(.sref 3005 22 0 p96.length)),(14,(E4 a0)),(15,(i6 (a0.length:Int))),(16,(i6 s1.1))]:EL) ([(3005,some (G0 p96))]:OL)) hx102 (mp [] _ _ hB) (fun s87 y h => ?_) (fun e E' O' hR => ?_)
    ·unfold A0z at h
     refine sr (SQ tt) ?_
     apply seq
     apply AWp.cond rfl<;>intro hg97
     ·have h:=A4 hg97 h
      apply AWp.skip
      apply A0
      apply seq
      apply block
      obtain⟨_,hx98,h⟩:=bindS h
      refine sr (SQ (fa hx98 tt)) ?_
      obtain⟨r99,hr99,h⟩:=bindS h
      obtain⟨hc100,h⟩:=B6 h
      refine drS (SQ (fa (cl [] (A4z x72.fAttrs r99 hr99)) (fa hc100 tt))) ?_
      apply D7
      apply A0
      refine rg (SQ tt) ?_
      obtain rfl:=oi h
      exact⟨rfl,(mp [(3005,1059)] _ _ hB)⟩
     ·have h:=A5 hg97 h
      apply AWp.exit
      apply D8
      obtain rfl:=oi h
      exact⟨(fun hc=>by cases hc),rfl,(mp [] _ _ hB)⟩
    ·obtain⟨rfl,hmat⟩:=hR
     apply C3
     apply D7
     apply A0
     refine ghost hmat ?_
     refine rg (SQ tt) ?_
     obtain rfl:=oi h
     exact⟨rfl,(mp [] _ _ hB)⟩
  ·have h:=A5 hg71 h
   apply AWp.exit
   apply D8
   obtain rfl:=oi h
   exact⟨(fun hc=>by cases hc),rfl,(mp [] _ _ hB)⟩
 ·obtain⟨rfl,hmat⟩:=hR
  apply C3
  apply A0
  refine ghost hmat ?_
  refine sr (SQ tt) ?_
  apply ret
  obtain rfl:=oi h
  exact rt (Mat.trans (Mat.freezeP (n:=3005) (e:=39) (sz:=22) (es:=p70.map F4) (Ts:=[(4,(C1 p70))]) (Bs:=[]) (by rfl) (TwT.cons (x:=(.sref 3005 22 0 p70.length)) (by rfl) (FrzL.all (by first | rfl | (simp;done) | (simp;omega) | omega)) TwT.nil) TwB.nil) (mp [] [(4,(C1 p70))] [] hB)) [(C1 p70)] (rT rN) rfl
def A10:Option (Bool) :=
 (A1g ([(B8.mk 0 (A2.mk (D0.mk false 0 167772160) 8) false (V7.mk (A2.mk (D0.mk false 0 0) 0) 0 (C8.mk 0 ([]:List B2) (D0.mk false 0 0) 0 0 0 ([]:List A9) ([]:List E0) ([]:List A1)))),(B8.mk 0 (A2.mk (D0.mk false 0 184549376) 8) false (V7.mk (A2.mk (D0.mk false 0 0) 0) 0 (C8.mk 0 ([]:List B2) (D0.mk false 0 0) 0 0 0 ([]:List A9) ([]:List E0) ([]:List A1))))]:List B8)).bind fun r1 =>
 (A1s r1.1 7).bind fun r2 =>
 jn (fun m9:Bool =>
 some m9) (fun j10 =>
 (if (((r1.2==0)&&((r1.1.length:Int)==1))&&((r2.length:Int)==2))=true then
 (idx r2 1).bind fun x12 =>
 (if (x12.fTo==7)=true then
 (idx r2 1).bind fun x14 =>
 (if (((x14.fPrefix.fAddr.fV6==false)&&((x14.fPrefix.fAddr.fHi==0)&&((x14.fPrefix.fAddr.fLo==184549376)&&true)))&&((x14.fPrefix.fLen==8)&&true))=true then
 (idx r2 1).bind fun x16 =>
 j10 (!x16.fHas)
 else
 j10 false)
 else
 j10 false)
 else
 j10 false))
theorem A7r (r:Bool) (h:A10=some r):AC Tryz.prog 7 [] [(500,(.know (globD 0 (.imap gv0))))] (.d (.bool r)) [(500,some (.know (globD 0 (.imap gv0))))]:=by
 refine ac2 Tryz.func7 rfl rfl fun B hB hN L => ?_
 delta A10 at h
 refine sr (SQ tt) ?_
 refine sr (SQ tt) ?_
 apply seq
 obtain⟨r1,hr1,h⟩:=bindS h
 refine rg (SQ (fa (cl [(500,500)] (A6c ([(B8.mk 0 (A2.mk (D0.mk false 0 167772160) 8) false (V7.mk (A2.mk (D0.mk false 0 0) 0) 0 (C8.mk 0 ([]:List B2) (D0.mk false 0 0) 0 0 0 ([]:List A9) ([]:List E0) ([]:List A1)))),(B8.mk 0 (A2.mk (D0.mk false 0 184549376) 8) false (V7.mk (A2.mk (D0.mk false 0 0) 0) 0 (C8.mk 0 ([]:List B2) (D0.mk false 0 0) 0 0 0 ([]:List A9) ([]:List E0) ([]:List A1))))]:List B8) r1 hr1)) tt)) ?_
 apply A0
 refine ghost (mp [] [(2,(pt 1002)),(3,(E4 r1.1)),(4,(i6 r1.2))] [(500,some (.know (globD 0 (.imap gv0)))),(1002,bd 29 (.st [(.st [(.bool false),(.int .u64 0),(.int .u64 184549376)]),(.int .i64 8)]))] hB) ?_
 obtain⟨r2,hr2,h⟩:=bindS h
 refine sr (SQ (fa (cl [] (A8s r1.1 7 r2 hr2)) tt)) ?_
 apply seq
 refine AWp.cut h (fun m9:Bool=>([(0,(bo m9))]:EL)) (fun m9:Bool=>([(500,some (.know (globD 0 (.imap gv0))))]:OL)) (fun m9 h E' O' hmat => ?_) (fun j10 hjj10 h => ?_)
 ·apply A0
  refine ghost hmat ?_
  apply ret
  obtain rfl:=oi h
  exact rt (kp [(0,_)] [(500,some _)] hB rfl rfl (by rfl)) [(bo m9)] (rT rN) rfl
 ·rcases bft (((r1.2==0)&&((r1.1.length:Int)==1))&&((r2.length:Int)==2)) with hg11 | hg11
  ·have h:=A4 hg11 h
   obtain⟨x12,hx12,h⟩:=bindS h
   rcases bft (x12.fTo==7) with hg13 | hg13
   ·have h:=A4 hg13 h
    obtain⟨x14,hx14,h⟩:=bindS h
    rcases bft (((x14.fPrefix.fAddr.fV6==false)&&((x14.fPrefix.fAddr.fHi==0)&&((x14.fPrefix.fAddr.fLo==184549376)&&true)))&&((x14.fPrefix.fLen==8)&&true)) with hg15 | hg15
    ·have h:=A4 hg15 h
     obtain⟨_,hx16,h⟩:=bindS h
     refine drS (SQ (fa hg11 (fa hx12 (fa hg13 (fa hx14 (fa hg15 (fa hx16 tt))))))) ?_
     exact hjj10 _ h _ _ (mp [] _ _ hB)
    ·have h:=A5 hg15 h
     refine drS (SQ (fa hg11 (fa hx12 (fa hg13 (fa hx14 (fa hg15 tt)))))) ?_
     exact hjj10 _ h _ _ (mp [] _ _ hB)
   ·have h:=A5 hg13 h
    refine drS (SQ (fa hg11 (fa hx12 (fa hg13 tt)))) ?_
    exact hjj10 _ h _ _ (mp [] _ _ hB)
  ·have h:=A5 hg11 h
   refine drS (SQ (fa hg11 tt)) ?_
   exact hjj10 _ h _ _ (mp [] _ _ hB)
def K5 (a0:(List Int)):Option (B7) :=
 some (B7.mk a0 0)
theorem A3n (a0:(List Int)) (r:B7) (h:K5 a0=some r):AC Tryz.prog 9 [(.d (.list 1 (a0.map (eI .i64))))] [] (pt 1005) [(1005,bd 71 (E5 r))]:=by
 refine AC.of_code2 Tryz.func9 rfl rfl (Nat.le_of_ble_eq_true (by rfl)) fun B hB hN => ?_
 delta K5 at h
 refine sr (SQ tt) ?_
 refine sr (SQ tt) ?_
 apply ret
 obtain rfl:=oi h
 exact rt (kp [(2,_)] [(1005,some _)] hB rfl rfl (by rfl)) [(pt 1005)] (rT rN) rfl
def G7 (a0:Int) (a1:Int):Option (Int) :=
 chk (decide (a1≠0)) <|
 jn (fun m3:Int =>
 some m3) (fun j4 =>
 (if (decide ((Int.tmod a0 a1)<0))=true then
 j4 (w64 ((Int.tmod a0 a1)+a1))
 else
 j4 (Int.tmod a0 a1)))
theorem Z6 (a0:Int) (a1:Int) (r:Int) (h:G7 a0 a1=some r):AC Tryz.prog 11 [(.d (.int .i64 a0)),(.d (.int .i64 a1))] [] (.d (.int .i64 r)) []:=by
 refine AC.of_code2 Tryz.func11 rfl rfl (Nat.le_of_ble_eq_true (by rfl)) fun B hB hN => ?_
 delta G7 at h
 refine sr (SQ tt) ?_
 obtain⟨hc1,h⟩:=B6 h
 refine sr (SQ (fa hc1 tt)) ?_
 apply seq
 refine sr (SQ tt) ?_
 refine gh [(1,_),(5,_),(10,_)] [] hB rfl rfl (by rfl) ?_
 refine AWp.cut h (fun m3:Int=>([(5,(i6 m3))]:EL)) (fun m3:Int=>([]:OL)) (fun m3 h E' O' hmat => ?_) (fun j4 hjj4 h => ?_)
 ·apply A0
  refine ghost hmat ?_
  refine sr (SQ tt) ?_
  apply ret
  obtain rfl:=oi h
  exact rt (kp [(4,_)] [] hB rfl rfl (by rfl)) [(i6 m3)] (rT rN) rfl
 ·apply AWp.cond rfl<;>intro hg5
  ·have h:=A4 hg5 h
   refine rg (SQ tt) ?_
   exact hjj4 _ h _ _ (mp [] _ _ hB)
  ·have h:=A5 hg5 h
   apply AWp.skip
   exact hjj4 _ h _ _ (mp [] _ _ hB)
def F7 (a0:B7) (a1:Int):Option (Int×B7) :=
 (if (decide ((a0.fL.length:Int)≤a0.fAt))=true then
 some (0,a0)
 else
 (idx a0.fL (w64 ((w64 (a0.fAt+1))-1))).bind fun x2 =>
 (G7 x2 a1).bind fun r3 =>
 some (r3,(B7.mk a0.fL (w64 (a0.fAt+1)))))
theorem R3 (a0:B7) (a1:Int) (r:Int×B7) (h:F7 a0 a1=some r):AC Tryz.prog 24 [(pt 0),(.d (.int .i64 a1))] [(0,(.box 71 (.d (E5 a0))))] (.d (.int .i64 r.1)) [(0,bd 71 (E5 r.2))]:=by
 refine ac2 Tryz.func24 rfl rfl fun B hB hN L => ?_
 delta F7 at h
 refine sr (SQ tt) ?_
 apply seq
 refine sdS (SQ tt) ?_
 apply AWp.cond rfl<;>intro hg1
 ·have h:=A4 hg1 h
  refine sr (SQ tt) ?_
  apply ret
  apply B3
  obtain rfl:=oi h
  exact rt (kp [(4,_)] [(0,some _)] hB rfl rfl (by rfl)) [(i6 0)] (rT rN) rfl
 ·have h:=A5 hg1 h
  apply AWp.skip
  apply A0
  refine sr (SQ tt) ?_
  obtain⟨x2,hx2,h⟩:=bindS h
  obtain⟨r3,hr3,h⟩:=bindS h
  refine sdS (SQ (fa hx2 (fa (cl [] (Z6 x2 a1 r3 hr3)) tt))) ?_
  apply ret
  obtain rfl:=oi h
  exact rt (kp [(4,_)] [(0,some _)] hB rfl rfl (by rfl)) [(i6 r3)] (rT rN) rfl
def Y3:Option (C8) :=
 some (C8.mk (-1) ([]:List B2) (D0.mk false 0 0) (-1) (-1) (-1) ([]:List A9) ([]:List E0) ([]:List A1))
theorem A25 (r:C8) (h:Y3=some r):AC Tryz.prog 25 [] [] (.d (B9 r)) []:=by
 refine AC.of_code2 Tryz.func25 rfl rfl (Nat.le_of_ble_eq_true (by rfl)) fun B hB hN => ?_
 delta Y3 at h
 refine sr (SQ tt) ?_
 refine sr (SQ tt) ?_
 apply ret
 obtain rfl:=oi h
 exact rt (Mat.trans (Mat.coeP (Ts:=[]) (Bs:=[(1000,bd 35 (.st [(.int .i64 (-1)),(.list 2 (([]:List B2).map C7)),(.st [(.bool false),(.int .u64 0),(.int .u64 0)]),(.int .i64 (-1)),(.int .i64 (-1)),(.int .i64 (-1)),(.list 2 (([]:List A9).map C0)),(.list 3 (([]:List E0).map D9)),(.list 3 (([]:List A1).map A7))]))]) TwT.nil (TwB.cons (x:=(.st [(i6 (-1)),.nils,(.d (.st [(.bool false),(.int .u64 0),(.int .u64 0)])),(i6 (-1)),(i6 (-1)),(i6 (-1)),.nils,.nils,.nils])) (by rfl) (Tw.leaf ⟨_,(Co.st (CoL.cons (Co.d _) (CoL.cons (Co.nils 2) (CoL.cons (Co.d _) (CoL.cons (Co.d _) (CoL.cons (Co.d _) (CoL.cons (Co.d _) (CoL.cons (Co.nils 2) (CoL.cons (Co.nils 3) (CoL.cons (Co.nils 3) CoL.nil)))))))))),rfl⟩) TwB.nil)) (mp [] [(0,(pt 1000))] [(1000,bd 35 (.st [(.int .i64 (-1)),(.list 2 (([]:List B2).map C7)),(.st [(.bool false),(.int .u64 0),(.int .u64 0)]),(.int .i64 (-1)),(.int .i64 (-1)),(.int .i64 (-1)),(.list 2 (([]:List A9).map C0)),(.list 3 (([]:List E0).map D9)),(.list 3 (([]:List A1).map A7))]))] hB)) [(.d (.st [(.int .i64 (-1)),(.list 2 (([]:List B2).map C7)),(.st [(.bool false),(.int .u64 0),(.int .u64 0)]),(.int .i64 (-1)),(.int .i64 (-1)),(.int .i64 (-1)),(.list 2 (([]:List A9).map C0)),(.list 3 (([]:List E0).map D9)),(.list 3 (([]:List A1).map A7))]))] (Res.cell (c:=(.d (.st [(.int .i64 (-1)),(.list 2 (([]:List B2).map C7)),(.st [(.bool false),(.int .u64 0),(.int .u64 0)]),(.int .i64 (-1)),(.int .i64 (-1)),(.int .i64 (-1)),(.list 2 (([]:List A9).map C0)),(.list 3 (([]:List E0).map D9)),(.list 3 (([]:List A1).map A7))]))) (by rfl) (by rfl) tyS35 (by rfl) (by rfl) (by rfl) rN) rfl
def A2s (a0:D0) (a1:D0):Option (Int) :=
 (if ((a0.fV6==a1.fV6)&&((a0.fHi==a1.fHi)&&((a0.fLo==a1.fLo)&&true)))=true then
 some 0
 else
 (if (a0.fV6 != a1.fV6)=true then
 (if a1.fV6=true then
 some (-1)
 else
 some 1)
 else
 jn (fun m5:Bool =>
 (if m5=true then
 some (-1)
 else
 some 1)) (fun j6 =>
 (if (decide (a0.fHi<a1.fHi))=true then
 j6 true
 else
 j6 ((a0.fHi==a1.fHi)&&(decide (a0.fLo<a1.fLo)))))))
theorem A9h (a0:D0) (a1:D0) (r:Int) (h:A2s a0 a1=some r):AC Tryz.prog 65 [(.d (D2 a0)),(.d (D2 a1))] [] (.d (.int .i64 r)) []:=by
 refine ac2 Tryz.func65 rfl rfl fun B hB hN L => ?_
 delta A2s at h
 refine sr (SQ tt) ?_
 apply seq
 apply block
 refine sr (SQ tt) ?_
 apply AWp.cond rfl<;>intro hg1
 ·have h:=A4 hg1 h
  refine sr (SQ tt) ?_
  apply ret
  apply D4
  apply B3
  obtain rfl:=oi h
  exact rt (kp [(4,_)] [] hB rfl rfl (by rfl)) [(i6 0)] (rT rN) rfl
 ·have h:=A5 hg1 h
  refine sr (SQ tt) ?_
  apply AWp.cond rfl<;>intro hg2
  ·have h:=A4 hg2 h
   apply seq
   refine sr (SQ tt) ?_
   apply AWp.cond rfl<;>intro hg3
   ·have h:=A4 hg3 h
    refine sr (SQ tt) ?_
    apply ret
    apply B3
    apply D4
    apply B3
    obtain rfl:=oi h
    exact rt (kp [(4,_)] [] hB rfl rfl (by rfl)) [(i6 (-1))] (rT rN) rfl
   ·have h:=A5 hg3 h
    apply AWp.skip
    apply A0
    refine sr (SQ tt) ?_
    apply ret
    apply D4
    apply B3
    obtain rfl:=oi h
    exact rt (kp [(4,_)] [] hB rfl rfl (by rfl)) [(i6 1)] (rT rN) rfl
  ·have h:=A5 hg2 h
   apply seq
   refine AWp.cut h (fun m5:Bool=>([(17,(bo m5))]:EL)) (fun m5:Bool=>([]:OL)) (fun m5 h E' O' hmat => ?_) (fun j6 hjj6 h => ?_)
   ·apply A0
    refine ghost hmat ?_
    apply AWp.cond rfl<;>intro hg7
    ·have h:=A4 hg7 h
     refine sr (SQ tt) ?_
     apply ret
     apply D4
     apply B3
     obtain rfl:=oi h
     exact rt (kp [(4,_)] [] hB rfl rfl (by rfl)) [(i6 (-1))] (rT rN) rfl
    ·have h:=A5 hg7 h
     apply AWp.skip
     apply D7
     apply A0
     refine sr (SQ tt) ?_
     apply ret
     obtain rfl:=oi h
     exact rt (kp [(4,_)] [] hB rfl rfl (by rfl)) [(i6 1)] (rT rN) rfl
   ·rcases bft (decide (a0.fHi<a1.fHi)) with hg8 | hg8
    ·have h:=A4 hg8 h
     refine rg (SQ (fa hg8 tt)) ?_
     exact hjj6 _ h _ _ (mp [] _ _ hB)
    ·have h:=A5 hg8 h
     refine rg (SQ (fa hg8 tt)) ?_
     exact hjj6 _ h _ _ (mp [] _ _ hB)
def A2t (a0:A2) (a1:A2):Option (Int) :=
 (A2s a0.fAddr a1.fAddr).bind fun r1 =>
 (if (r1 != 0)=true then
 some r1
 else
 (if (decide (a0.fLen<a1.fLen))=true then
 some (-1)
 else
 (if (decide (a1.fLen<a0.fLen))=true then
 some 1
 else
 some 0)))
theorem A9i (a0:A2) (a1:A2) (r:Int) (h:A2t a0 a1=some r):AC Tryz.prog 35 [(.d (C4 a0)),(.d (C4 a1))] [] (.d (.int .i64 r)) []:=by
 refine ac2 Tryz.func35 rfl rfl fun B hB hN L => ?_
 delta A2t at h
 refine sr (SQ tt) ?_
 apply seq
 obtain⟨r1,hr1,h⟩:=bindS h
 refine sr (SQ (fa (cl [] (A9h a0.fAddr a1.fAddr r1 hr1)) tt)) ?_
 refine sr (SQ tt) ?_
 apply AWp.cond rfl<;>intro hg2
 ·have h:=A4 hg2 h
  refine sr (SQ tt) ?_
  apply ret
  apply B3
  obtain rfl:=oi h
  exact rt (kp [(4,_)] [] hB rfl rfl (by rfl)) [(i6 r1)] (rT rN) rfl
 ·have h:=A5 hg2 h
  apply AWp.skip
  apply A0
  apply seq
  apply block
  refine sr (SQ tt) ?_
  apply AWp.cond rfl<;>intro hg3
  ·have h:=A4 hg3 h
   refine sr (SQ tt) ?_
   apply ret
   apply D4
   apply B3
   obtain rfl:=oi h
   exact rt (kp [(4,_)] [] hB rfl rfl (by rfl)) [(i6 (-1))] (rT rN) rfl
  ·have h:=A5 hg3 h
   refine sr (SQ tt) ?_
   apply AWp.cond rfl<;>intro hg4
   ·have h:=A4 hg4 h
    refine sr (SQ tt) ?_
    apply ret
    apply D4
    apply B3
    obtain rfl:=oi h
    exact rt (kp [(4,_)] [] hB rfl rfl (by rfl)) [(i6 1)] (rT rN) rfl
   ·have h:=A5 hg4 h
    apply AWp.skip
    apply D7
    apply A0
    refine sr (SQ tt) ?_
    apply ret
    obtain rfl:=oi h
    exact rt (kp [(4,_)] [] hB rfl rfl (by rfl)) [(i6 0)] (rT rN) rfl
def K8 (a0:(List Int)) (a1:(List Int)) (s2:Int):Option (((Unit)⊕(Unit))⊕(Int)) :=
 (if (decide (s2<(a0.length:Int)))=true then
 (idx a0 s2).bind fun x14 =>
 (idx a1 s2).bind fun x15 =>
 (if (x14 != x15)=true then
 some (.inl (.inl ()))
 else
 some (.inr (w64 (s2+1))))
 else
 some (.inl (.inr ())))
def T8 (a0:(List Int)) (a1:(List Int)):Option (Bool) :=
 (if ((a0.length:Int) != (a1.length:Int))=true then
 some false
 else
 (loop (K8 a0 a1) 0).bind fun x17=>match x17 with
 | (.inl _) =>
  some false
 | (.inr _) =>
  some true)
theorem A5w (a0:(List Int)) (a1:(List Int)) (r:Bool) (h:T8 a0 a1=some r):AC Tryz.prog 47 [(.d (.list 1 (a0.map (eI .i64)))),(.d (.list 1 (a1.map (eI .i64))))] [] (.d (.bool r)) []:=by
 refine ac2 Tryz.func47 rfl rfl fun B hB hN L => ?_
 delta T8 at h
 refine sr (SQ tt) ?_
 apply seq
 refine sr (SQ tt) ?_
 apply AWp.cond rfl<;>intro hg1
 ·have h:=A4 hg1 h
  refine sr (SQ tt) ?_
  apply ret
  apply B3
  obtain rfl:=oi h
  exact rt (kp [(4,_)] [] hB rfl rfl (by rfl)) [(bo false)] (rT rN) rfl
 ·have h:=A5 hg1 h
  apply AWp.skip
  apply A0
  apply seq
  refine sr (SQ tt) ?_
  apply block
  obtain⟨x17,hx18,h⟩:=bindS h
  refine lg (K8 a0 a1) (fun s2:Int=>([(0,(qI_1 a0)),(1,(qI_1 a1)),(12,(i6 (a0.length:Int))),(13,(i6 s2))]:EL)) (fun s2:Int=>([]:OL)) (fun(x:(Unit)⊕(Unit)) e E' O'=>match x with | (.inl _p)=>e = .ret∧Mat B E' O' ([(4,(bo false))]:EL) ([]:OL) | (.inr _p)=>e = .exit 0∧Mat B E' O' ([]:EL) ([]:OL)) hx18 (mp [] _ _ hB) (fun s2 y h => ?_) (fun e E' O' hR => ?_)
  ·unfold K8 at h
   refine sr (SQ tt) ?_
   apply seq
   apply AWp.cond rfl<;>intro hg13
   ·have h:=A4 hg13 h
    apply AWp.skip
    apply A0
    apply seq
    apply block
    refine sr (SQ tt) ?_
    obtain⟨_,hx14,h⟩:=bindS h
    obtain⟨_,hx15,h⟩:=bindS h
    refine sdS (SQ (fa hx14 (fa hx15 tt))) ?_
    apply AWp.cond rfl<;>intro hg16
    ·have h:=A4 hg16 h
     refine sr (SQ tt) ?_
     apply ret
     apply D4
     apply B3
     obtain rfl:=oi h
     exact⟨(fun hc=>by cases hc),rfl,(mp [] _ _ hB)⟩
    ·have h:=A5 hg16 h
     apply AWp.skip
     apply D7
     apply A0
     refine rg (SQ tt) ?_
     obtain rfl:=oi h
     exact⟨rfl,(mp [] _ _ hB)⟩
   ·have h:=A5 hg13 h
    apply AWp.exit
    apply D8
    obtain rfl:=oi h
    exact⟨(fun hc=>by cases hc),rfl,(mp [] _ _ hB)⟩
  ·rcases x17 with _ | _
   ·obtain⟨rfl,hmat⟩:=hR
    apply D4
    apply B3
    obtain rfl:=oi h
    exact rt (Mat.trans hmat (mp [] [(4,(bo false))] [] hB)) [(bo false)] (rT rN) rfl
   ·obtain⟨rfl,hmat⟩:=hR
    apply C3
    apply A0
    refine ghost hmat ?_
    refine sr (SQ tt) ?_
    apply ret
    obtain rfl:=oi h
    exact rt (kp [(4,_)] [] hB rfl rfl (by rfl)) [(bo true)] (rT rN) rfl
end
end Go.Proofs.YtkhjkjojjdkidaaGreatDoor
