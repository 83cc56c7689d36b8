/- Printed by gen.py: the Go functions as plain functions, and that the code does what they say. -/
import Derived.Test.YtkhjkjojjdkidaaGreatDoorChecked
import Derived.Test.YtkhjkjojjdkidaaGreatDoorVcYB
import Derived.Test.YtkhjkjojjdkidaaGreatDoorVcZ
import Derived.Test.YtkhjkjojjdkidaaGreatDoorVcGC
import Derived.KernelRfl
import Derived.Test.YtkhjkjojjdkidaaGreatDoorVcMD
import Derived.Test.YtkhjkjojjdkidaaGreatDoorVcMQ
import Derived.Test.YtkhjkjojjdkidaaGreatDoorVcSG
import Derived.Test.YtkhjkjojjdkidaaGreatDoorFnsA
import Derived.Test.YtkhjkjojjdkidaaGreatDoorExt
import Derived.Test.YtkhjkjojjdkidaaGreatDoorVcPm
import Derived.Test.YtkhjkjojjdkidaaGreatDoorVcRg
import Derived.Test.YtkhjkjojjdkidaaGreatDoorVcSt
import Derived.Test.YtkhjkjojjdkidaaGreatDoorVcMR
import Derived.Test.YtkhjkjojjdkidaaGreatDoorVcMI
namespace Go.Proofs.YtkhjkjojjdkidaaGreatDoor
open Go Go.Vc
open Tryz
open Go.Vc.OpJ (assign alloc lss pickT pickF extract lenD indexD loadD eqlI gtr callVal leq geq loadR nilP indexS buildSlice lenS fieldD neqI pickAnd pickOr)
set_option maxHeartbeats 4000000
set_option maxRecDepth 100000
noncomputable section
def U6 (a0:(List E6)) (s1:Int×(List Int)):Option ((((List Int)))⊕(Int×(List Int))) :=
 (if (decide (s1.1<(a0.length:Int)))=true then
 (idx a0 s1.1).bind fun x10 =>
 (N7 s1.2 ([x10.fA,x10.fB,x10.fC]:List Int)).bind fun r11 =>
 some (.inr ((w64 (s1.1+1)),r11))
 else
 some (.inl s1.2))
def V6 (a0:(List E6)):Option ((List Int)) :=
 (loop (U6 a0) (0,([]:List Int))).bind fun p8 =>
 some p8
theorem A6f (a0:(List E6)) (r:(List Int)) (h:V6 a0=some r):AC Tryz.prog 136 [(.d (.list 3 (a0.map D9)))] [] (.d (.list 1 (r.map (eI .u8)))) []:=by
 refine AC.of_code2 Tryz.func136 rfl rfl (Nat.le_of_ble_eq_true (by rfl)) fun B hB hN => ?_
 delta V6 at h
 refine sr (SQ tt) ?_
 refine sr (SQ tt) ?_
 apply AWp.seq
 refine sr (SQ tt) ?_
 apply AWp.block
 obtain⟨p8,hx13,h⟩:=bindS h
 refine lg (U6 a0) (fun s1:Int×(List Int)=>([(3,(.sref 3003 1 0 s1.2.length)),(6,(D8 a0)),(7,(i6 (a0.length:Int))),(8,(i6 s1.1))]:EL)) (fun s1:Int×(List Int)=>([(3003,some (.row 5 1 (s1.2.map (eI .u8))))]:OL)) (fun(p8:((List Int))) e E' O'=>e = .exit 0∧Mat B E' O' ([(3,(.sref 3003 1 0 p8.length))]:EL) ([(3003,some (.row 5 1 (p8.map (eI .u8))))]:OL)) hx13 (Mat.trans (Mat.beginP (n:=3003) (e:=5) (sz:=1) (Ts:=[(3,(.sref 3003 1 0 0))]) (Bs:=[]) hB (by decide) (by rfl) (by decide) (TwT.cons (x:=.nils) (by rfl) (Tw.leaf ⟨rfl,rfl⟩) TwT.nil) TwB.nil) (mp [] _ _ hB)) (fun s1 y h => ?_) (fun e E' O' hR => ?_)
 ·unfold U6 at h
  refine sr (SQ tt) ?_
  apply AWp.seq
  apply AWp.cond rfl<;>intro hg9
  ·have h:=A3 hg9 h
   apply AWp.skip
   apply A0
   apply AWp.seq
   apply AWp.block
   obtain⟨x10,hx10,h⟩:=bindS h
   refine sr (SQ (fa hx10 tt)) ?_
   obtain⟨r11,hr11,h⟩:=bindS h
   refine rg (SQ (fa (cl [(0,3003),(900000,100000)] (A0r s1.2 ([x10.fA,x10.fB,x10.fC]:List Int) r11 hr11)) tt)) ?_
   apply E4
   apply A0
   refine AWp.ghost (mp [] [(3,(.sref 100000 1 0 r11.length)),(6,(D8 a0)),(7,(i6 (a0.length:Int))),(8,(i6 s1.1))] [(100000,some (.row 5 1 (r11.map (eI .u8))))] hB) ?_
   refine rg (SQ tt) ?_
   obtain rfl:=oi h
   exact⟨rfl,(mp [(3003,100000)] _ _ hB)⟩
  ·have h:=A4 hg9 h
   apply AWp.exit
   apply E5
   obtain rfl:=oi h
   exact⟨(fun hc=>by cases hc),rfl,(mp [] _ _ hB)⟩
 ·obtain⟨rfl,hmat⟩:=hR
  apply C2
  apply A0
  refine AWp.ghost hmat ?_
  refine sr (SQ tt) ?_
  apply AWp.ret
  obtain rfl:=oi h
  exact rt (Mat.trans (Mat.freezeP (n:=3003) (e:=5) (sz:=1) (es:=p8.map (eI .u8)) (Ts:=[(2,(.d (.list 1 (p8.map (eI .u8)))))]) (Bs:=[]) (by rfl) (TwT.cons (x:=(.sref 3003 1 0 p8.length)) (by rfl) (FrzL.all (by first | rfl | (simp;done) | (simp;omega) | omega)) TwT.nil) TwB.nil) (mp [] [(2,(.d (.list 1 (p8.map (eI .u8)))))] [] hB)) [(.d (.list 1 (p8.map (eI .u8))))] (Res.tmp (by rfl) (by rfl) Res.nil) rfl
def A1x (a0:(List Int)):Option (List Int):=chk (decide (a0.length≤LIM)) <|
 some a0
theorem A45 (a0:(List Int)) (r:List Int) (h:A1x a0=some r):AC Tryz.prog 137 [(.d (.list 1 (a0.map (eI .u8))))] [] (.d (.list 1 (r.map (eI .u8)))) []:=by
 obtain⟨hc,h⟩:=B6 h
 obtain rfl:=oi h
 exact AC.cloneD cloneOk137 (by rw [List.length_map];exact V1 hc (by decide)) (A37 (f:=(eI .u8)) (fun _=>rfl))
def I8 (a0:A1) (a1:A1):Option (Int) :=
 (I6 a0.fType a1.fType).bind fun r1 =>
 some r1
theorem A5h (a0:A1) (a1:A1) (r:Int) (h:I8 a0 a1=some r):AC Tryz.prog 138 [(.d (A8 a0)),(.d (A8 a1))] [] (.d (.int .i64 r)) []:=by
 refine AC.of_code2 Tryz.func138 rfl rfl (Nat.le_of_ble_eq_true (by rfl)) fun B hB hN => ?_
 delta I8 at h
 refine sr (SQ tt) ?_
 obtain⟨r1,hr1,h⟩:=bindS h
 refine sr (SQ (fa (cl [] (K3 a0.fType a1.fType r1 hr1)) tt)) ?_
 apply AWp.ret
 obtain rfl:=oi h
 exact rt (kp [(4,_)] [] hB rfl rfl (by rfl)) [(i6 r1)] (Res.tmp (by rfl) (by rfl) Res.nil) rfl
def L2 (a0:(List A1)):Option (List A1):=sortF a0 fun x y=>I8 x y
theorem T7 (a0:(List A1)) (r:List A1) (h:L2 a0=some r):AC Tryz.prog 123 [(.sref 0 3 0 a0.length),.func 138 []] [(0,(.row 69 3 (a0.map A8)))] (.tup []) [(0,some (.row 69 3 (r.map A8)))] :=
 AC.sortF A8 (fun x y=>I8 x y) a0 r h sortOk123 fnOk138 (fun _=>rfl) rfl rfl (fun x y c hc=>A5h x y c hc)
def V7 (a1:(List A2)) (a2:Bool) (s1:Int×(List Int)):Option ((((List Int)))⊕(Int×(List Int))) :=
 (if (decide (s1.1<(a1.length:Int)))=true then
 (idx a1 s1.1).bind fun x32 =>
 jn (fun m38:(List Int) =>
 some (.inr ((w64 (s1.1+1)),m38))) (fun j39 =>
 (if (x32.fAddr.fV6==a2)=true then
 chk (decide ((s1.2++([(IntKind.u8.wrap x32.fLen)]:List Int)).length≤LIM)) <|
 (U5 x32.fAddr).bind fun r42 =>
 chk ((decide (0≤(w64 (Int.tdiv (w64 (x32.fLen+7)) 8)))&&decide (0≤(w64 (Int.tdiv (w64 (x32.fLen+7)) 8)).toNat)&&decide ((w64 (Int.tdiv (w64 (x32.fLen+7)) 8)).toNat≤r42.length))) <|
 chk (decide (((s1.2++([(IntKind.u8.wrap x32.fLen)]:List Int))++((r42.take ((w64 (Int.tdiv (w64 (x32.fLen+7)) 8)).toNat)).drop 0)).length≤LIM)) <|
 j39 ((s1.2++([(IntKind.u8.wrap x32.fLen)]:List Int))++((r42.take ((w64 (Int.tdiv (w64 (x32.fLen+7)) 8)).toNat)).drop 0))
 else
 j39 s1.2))
 else
 some (.inl s1.2))
def U7 (a0:(List Int)) (a1:(List A2)) (a2:Bool):Option ((List Int)) :=
 (loop (V7 a1 a2) (0,a0)).bind fun p30 =>
 some p30
theorem A4w (a0:(List Int)) (a1:(List A2)) (a2:Bool) (r:(List Int)) (h:U7 a0 a1 a2=some r):AC Tryz.prog 114 [(.sref 0 1 0 a0.length),(.d (.list 4 (a1.map A7))),(.d (.bool a2))] [(0,(.row 5 1 (a0.map (eI .u8))))] (.d (.list 1 (r.map (eI .u8)))) [(0,none)]:=by
 refine ac2 Tryz.func114 rfl rfl fun B hB hN L => ?_
 delta U7 at h
 refine sr (SQ tt) ?_
 apply AWp.seq
 refine sr (SQ tt) ?_
 apply AWp.block
 obtain⟨p30,hx46,h⟩:=bindS h
 refine lg (V7 a1 a2) (fun s1:Int×(List Int)=>([(0,(.sref 3000 1 0 s1.2.length)),(2,(bo a2)),(9,(D6 a1)),(10,(i6 (a1.length:Int))),(11,(i6 s1.1))]:EL)) (fun s1:Int×(List Int)=>([(3000,some (.row 5 1 (s1.2.map (eI .u8))))]:OL)) (fun(p30:((List Int))) e E' O'=>e = .exit 0∧Mat B E' O' ([(0,(.sref 3000 1 0 p30.length))]:EL) ([(3000,some (.row 5 1 (p30.map (eI .u8))))]:OL)) hx46 (mp [(3000,0)] _ _ hB) (fun s1 y h => ?_) (fun e E' O' hR => ?_)
 ·unfold V7 at h
  refine sr (SQ tt) ?_
  apply AWp.seq
  apply AWp.cond rfl<;>intro hg31
  ·have h:=A3 hg31 h
   apply AWp.skip
   apply A0
   apply AWp.seq
   apply AWp.block
   obtain⟨x32,hx32,h⟩:=bindS h
   refine sr (SQ (fa hx32 tt)) ?_
   refine sr (SQ tt) ?_
   refine gh [(0,_),(2,_),(8,_),(9,_),(10,_),(11,_),(19,_)] [(1008,some _),(3000,some _)] hB rfl rfl (by rfl) ?_
   refine AWp.cut h (fun m38:(List Int)=>([(0,(.sref 3000 1 0 m38.length)),(2,(bo a2)),(9,(D6 a1)),(10,(i6 (a1.length:Int))),(11,(i6 s1.1))]:EL)) (fun m38:(List Int)=>([(3000,some (.row 5 1 (m38.map (eI .u8))))]:OL)) (fun m38 h E' O' hmat => ?_) (fun j39 hjj39 h => ?_)
   ·apply E4
    apply A0
    refine AWp.ghost hmat ?_
    refine rg (SQ tt) ?_
    obtain rfl:=oi h
    exact⟨rfl,(mp [] _ _ hB)⟩
   ·apply AWp.cond rfl<;>intro hg40
    ·have h:=A3 hg40 h
     obtain⟨hc41,h⟩:=B6 h
     have hc41_o:=hc41
     simp only [decide_eq_true_eq] at hc41_o
     obtain⟨r42,hr42,h⟩:=bindS h
     obtain⟨hc43,h⟩:=B6 h
     have hc43_o:=hc43
     simp only [Bool.and_eq_true,decide_eq_true_eq] at hc43_o
     obtain⟨hc44,h⟩:=B6 h
     have hc44_o:=hc44
     simp only [decide_eq_true_eq] at hc44_o
     apply dr (c (mv hN (q 0)) rfl (c (fo 1008 3 [1] hN underlying29 3 tyS3 (q 8)) rfl (c (la hN 29 tyS3 (q 21)) rfl (c (OpJ.conv underlying3 underlying5 (L rfl) (q 22)) rfl (c (buildSlice underlying67 tyS5 tyZD5 (by rfl) (by decide) (by decide) (Opds.cons (q 23) Opds.nil) (by kernel_rfl) (es:=([(.int .u8 (IntKind.u8.wrap x32.fLen))]:List D)) (by rfl) (by rfl) (by kernel_rfl) (by simp) (L rfl)) rfl (cg (apd hB underlying67 tyE5 1025 (eI .u8) s1.2 ([(IntKind.u8.wrap x32.fLen)]:List Int) hc41 (L rfl) (q 20) (q 24)) rfl (c (fo 1008 0 [0] hN underlying29 0 tyS27 (q 8)) rfl (c (la hN 29 tyS27 (q 26)) rfl (cg (cf hB fnOk122 (A28 x32.fAddr r42 hr42) (L rfl) (OpdL.cons (q 27) OpdL.nil)) rfl (c (fo 1008 3 [1] hN underlying29 3 tyS3 (q 8)) rfl (c (la hN 29 tyS3 (q 29)) rfl (c (add6 (L rfl) (q 30) (ii 7)) rfl (c (quo6 (L rfl) (q 31) (ii 8) (by decide)) rfl (c (OpJ.cutD underlying67 tyS5 (es':=((r42.take ((w64 (Int.tdiv (w64 (x32.fLen+7)) 8)).toNat)).drop 0).map (eI .u8)) (l:=0) (h:=(w64 (Int.tdiv (w64 (x32.fLen+7)) 8)).toNat) (.inl ⟨rfl,rfl,rfl⟩) (.inr ⟨_,_,_,rfl,(ot 32 (i6 (w64 (Int.tdiv (w64 (x32.fLen+7)) 8)))),(of_decide_eq_true (F9 (F9 hc43))),rfl⟩) (of_decide_eq_true (J2 (F9 hc43))) (by first | (simp;done) | simpa using (of_decide_eq_true (J2 hc43))) (by first | rw [List.map_drop,List.map_take] | (simp [List.map_take,List.map_drop];done) | simp [List.take_of_length_le]) (L rfl) (q 28)) rfl (cg (apd hB underlying67 tyE5 1034 (eI .u8) (s1.2++([(IntKind.u8.wrap x32.fLen)]:List Int)) ((r42.take ((w64 (Int.tdiv (w64 (x32.fLen+7)) 8)).toNat)).drop 0) hc44 (L rfl) (q 25) (q 33)) rfl (c (assign (L rfl) (q 34)) rfl cn)))))))))))))))) (by kernel_rfl) (by kernel_rfl)
     exact hjj39 _ h _ _ (mp [(3000,1034)] _ _ hB)
    ·have h:=A4 hg40 h
     apply AWp.skip
     exact hjj39 _ h _ _ (mp [] _ _ hB)
  ·have h:=A4 hg31 h
   apply AWp.exit
   apply E5
   obtain rfl:=oi h
   exact⟨(fun hc=>by cases hc),rfl,(mp [] _ _ hB)⟩
 ·obtain⟨rfl,hmat⟩:=hR
  apply C2
  apply A0
  refine AWp.ghost hmat ?_
  refine sr (SQ tt) ?_
  apply AWp.ret
  obtain rfl:=oi h
  exact rt (Mat.trans (Mat.freezeP (n:=3000) (e:=5) (sz:=1) (es:=p30.map (eI .u8)) (Ts:=[(6,(.d (.list 1 (p30.map (eI .u8)))))]) (Bs:=[]) (by rfl) (TwT.cons (x:=(.sref 3000 1 0 p30.length)) (by rfl) (FrzL.all (by first | rfl | (simp;done) | (simp;omega) | omega)) TwT.nil) TwB.nil) (mp [] [(6,(.d (.list 1 (p30.map (eI .u8)))))] [] hB)) [(.d (.list 1 (p30.map (eI .u8))))] (Res.tmp (by rfl) (by rfl) Res.nil) rfl
def M9 (a0:C6) (s18:Int×(List A1)):Option ((((List A1)))⊕(Int×(List A1))) :=
 (if (decide (s18.1<(a0.fOther.length:Int)))=true then
 (idx a0.fOther s18.1).bind fun x29 =>
 (A1x x29.fData).bind fun r30 =>
 chk (decide ((s18.2++[(A1.mk x29.fFlags x29.fType r30)]).length≤LIM)) <|
 some (.inr ((w64 (s18.1+1)),(s18.2++[(A1.mk x29.fFlags x29.fType r30)])))
 else
 some (.inl s18.2))
def K4 (a0:C6):Option ((List A1)×Int) :=
 (J0 a0).bind fun r1 =>
 (if (!r1)=true then
 some (([]:List A1),1)
 else
 (I7 (a0.fOrigin != (-1)) 1 ([(IntKind.u8.wrap a0.fOrigin)]:List Int)).bind fun r3 =>
 (P7 a0.fPath).bind fun r4 =>
 (C9 ((a0.fOrigin != (-1)) || (decide (0<(a0.fPath.length:Int)))) 2 r4 r3).bind fun r5 =>
 (U5 a0.fNext).bind fun r6 =>
 (C9 ((!a0.fNext.fV6)&&(!((a0.fNext.fV6==false)&&((a0.fNext.fHi==0)&&((a0.fNext.fLo==0)&&true))))) 3 r6 r5).bind fun r7 =>
 (N8 ([a0.fMED]:List Int)).bind fun r8 =>
 (C9 (a0.fMED != (-1)) 4 r8 r7).bind fun r9 =>
 (N8 ([a0.fPref]:List Int)).bind fun r10 =>
 (C9 (a0.fPref != (-1)) 5 r10 r9).bind fun r11 =>
 (L1 a0.fCommunities).bind fun r12 =>
 (C9 (decide (0<(a0.fCommunities.length:Int))) 8 r12 r11).bind fun r13 =>
 (V6 a0.fLarge).bind fun r14 =>
 (C9 (decide (0<(a0.fLarge.length:Int))) 32 r14 r13).bind fun r15 =>
 (N8 ([a0.fOTC]:List Int)).bind fun r16 =>
 (C9 (a0.fOTC != (-1)) 35 r16 r15).bind fun r17 =>
 (loop (M9 a0) (0,r17)).bind fun p27 =>
 (L2 p27).bind fun r34 =>
 chk (decide (r34.length=p27.length)) <|
 some (r34,0))
theorem A5i (a0:C6) (r:(List A1)×Int) (h:K4 a0=some r):AC Tryz.prog 121 [(.d (B1 a0))] [(500,(.know (globD 0 (.imap gv0))))] (.tup [(.sref 900000 3 0 r.1.length),(.d (.int .i64 r.2))]) [(500,some (.know (globD 0 (.imap gv0)))),(900000,some (.row 69 3 (r.1.map A8)))]:=by
 refine ac2 Tryz.func121 rfl rfl fun B hB hN L => ?_
 delta K4 at h
 refine sr (SQ tt) ?_
 apply AWp.seq
 apply AWp.seq
 obtain⟨r1,hr1,h⟩:=bindS h
 refine rg (SQ (fa (cl [(500,500)] (A0q a0 r1 hr1)) tt)) ?_
 apply A0
 refine AWp.ghost (mp [] [(1,(pt 1001)),(10,(bo (!r1)))] [(500,some (.know (globD 0 (.imap gv0)))),(1001,bd 35 (B1 a0))] hB) ?_
 apply AWp.cond rfl<;>intro hg2
 ·have h:=A3 hg2 h
  refine sr (SQ tt) ?_
  apply AWp.ret
  apply B5
  obtain rfl:=oi h
  exact rt (Mat.trans (Mat.beginP (n:=900500) (e:=69) (sz:=3) (Ts:=[(2,(.sref 900500 3 0 0))]) (Bs:=[]) hB (by decide) (by rfl) (by decide) (TwT.cons (x:=.nils) (by rfl) (Tw.leaf ⟨rfl,rfl⟩) TwT.nil) TwB.nil) (Mat.trans (Mat.lenP (Ts:=[(2,(.sref 900500 3 0 (([]:List A1).length)))]) (Bs:=[]) (TwT.cons (x:=(.sref 900500 3 0 0)) (by rfl) (Tw.leaf ⟨_,_,_,_,_,rfl,rfl,(by first | rfl | (simp;done) | (simp;omega) | omega)⟩) TwT.nil) TwB.nil) (mp [(900000,900500)] [(2,(.sref 900000 3 0 (([]:List A1).length))),(3,(i6 1))] [(500,some (.know (globD 0 (.imap gv0)))),(900000,some (D4 ([]:List A1)))] hB))) [(.sref 900000 3 0 (([]:List A1).length)),(i6 1)] (Res.tmp (by rfl) (by rfl) (Res.tmp (by rfl) (by rfl) Res.nil)) rfl
 ·have h:=A4 hg2 h
  apply AWp.skip
  apply A0
  refine sr (SQ tt) ?_
  apply sr (cg (OpJ.makeF (OpdL.cons (q 4) OpdL.nil) rfl rfl (L rfl)) rfl (c (assign (L rfl) (q 11)) rfl cn))
  apply AWp.seq
  obtain⟨r3,hr3,h⟩:=bindS h
  refine rg (SQ (fa (cl [(0,1004),(500,500),(950000,100100)] (A5g (a0.fOrigin != (-1)) 1 ([(IntKind.u8.wrap a0.fOrigin)]:List Int) r3 hr3)) tt)) ?_
  apply A0
  refine AWp.ghost (mp [] [(1,(pt 1001)),(4,(pt 1004)),(5,(.func 132 [(pt 1004)]))] [(500,some (.know (globD 0 (.imap gv0)))),(1001,bd 35 (B1 a0)),(1004,some (.box 33 (.sref 100100 3 0 r3.length))),(100100,some (D4 r3))] hB) ?_
  apply AWp.seq
  obtain⟨r4,hr4,h⟩:=bindS h
  obtain⟨r5,hr5,h⟩:=bindS h
  refine drS (SQ (fa (cl [] (A6z a0.fPath r4 hr4)) (fa (cl [(0,1004),(1,100100),(500,500),(950000,100300)] (H4 ((a0.fOrigin != (-1)) || (decide (0<(a0.fPath.length:Int)))) 2 r4 r3 r5 hr5)) tt))) ?_
  apply A0
  refine AWp.ghost (mp [] [(1,(pt 1001)),(4,(pt 1004)),(5,(.func 132 [(pt 1004)]))] [(500,some (.know (globD 0 (.imap gv0)))),(1001,bd 35 (B1 a0)),(1004,some (.box 33 (.sref 100300 3 0 r5.length))),(100300,some (D4 r5))] hB) ?_
  apply AWp.seq
  obtain⟨r6,hr6,h⟩:=bindS h
  obtain⟨r7,hr7,h⟩:=bindS h
  refine AWp.draws (by kernel_rfl) (oc (mv hN (ot 5 (.func 132 [(pt 1004)])))
   (oc (ov (.ptr 1001 2 [2]) (fp hN underlying35 2 tyS27 (.box 35 (.d (B1 a0))) (ot 1 (pt 1001))))
   (oc (ov (.ptr 1001 2 [2,0]) (fp hN underlying27 0 tyS4 (.box 35 (.d (B1 a0))) (ot 36 (.ptr 1001 2 [2]))))
   (oc (lb hN 35 (.d (B1 a0)) (bo a0.fNext.fV6) tyS4 (At.dst1 (f:=(C1 a0.fNext)) (by rfl) (by rfl) (ad (.bool a0.fNext.fV6)) (by first | rfl | omega)) (ot 37 (.ptr 1001 2 [2,0])))
   (oc (OpJ.not (L rfl) (ot 38 (bo a0.fNext.fV6)))
   (oc (mv hN (ot 39 (bo (!a0.fNext.fV6))))
   (oc (op hN 40 (.ptr 1001 2 [2]) (ov (.ptr 1001 2 [2]) (fp hN underlying35 2 tyS27 (.box 35 (.d (B1 a0))) (ot 1 (pt 1001)))) (OptL.keep rfl OptL.nil) (GuardV.plain _))
   (oc (op hN 40 (.d (C1 a0.fNext)) (lb hN 35 (.d (B1 a0)) (.d (C1 a0.fNext)) tyS27 (ad (C1 a0.fNext)) (ot 41 (.ptr 1001 2 [2]))) (OptL.opt OptL.nil) (GuardV.plain _))
   (oc (op hN 40 (.d (.st [(.bool false),(.int .u64 0),(.int .u64 0)])) (OpJ.coe (v:=(.st [(bo false),(.d (.int .u64 0)),(.d (.int .u64 0))])) (y:=(.st [(.bool false),(.int .u64 0),(.int .u64 0)])) (Co.st (CoL.cons (Co.d _) (CoL.cons (Co.d _) (CoL.cons (Co.d _) CoL.nil)))) rfl (OpJ.build (places:=[(0,1),(1,1),(2,1)]) ⟨underlying27,fun w=>by kernel_rfl⟩ tyZS27 Opds.nil (by kernel_rfl) (r:=(.st [(bo false),(.d (.int .u64 0)),(.d (.int .u64 0))])) (by rfl) (L rfl))) OptL.nil (GuardV.plain _))
   (oc (op hN 40 (bo (!((a0.fNext.fV6==false)&&((a0.fNext.fHi==0)&&((a0.fNext.fLo==0)&&true))))) (OpJ.neqD (h:=2) (FitE.st underlying27 rfl held27 (FitF.cons (x:=(.bool a0.fNext.fV6)) (y:=(.bool false)) (by decide) rfl tyS4 ⟨rfl,rfl⟩ ⟨rfl,rfl⟩ (FitE.bool (h:=0) a0.fNext.fV6 false underlying4) (FitF.cons (x:=(.int .u64 a0.fNext.fHi)) (y:=(.int .u64 0)) (by decide) rfl tyS25 ⟨rfl,rfl⟩ ⟨rfl,rfl⟩ (FitE.int (h:=0) a0.fNext.fHi 0 underlying25) (FitF.cons (x:=(.int .u64 a0.fNext.fLo)) (y:=(.int .u64 0)) (by decide) rfl tyS25 ⟨rfl,rfl⟩ ⟨rfl,rfl⟩ (FitE.int (h:=0) a0.fNext.fLo 0 underlying25) FitF.nil)))) eqg27 ⟨rfl,rfl⟩ (by rfl) (L rfl) (ot 42 (.d (C1 a0.fNext))) (ot 43 (.d (.st [(.bool false),(.int .u64 0),(.int .u64 0)])))) (OptL.opt (OptL.opt OptL.nil)) (GuardV.plain _))
   (oc (pickAnd rfl (L rfl) (ot 40 (bo (!a0.fNext.fV6))) (ot 44 (.opt ((!a0.fNext.fV6)==true) (bo (!((a0.fNext.fV6==false)&&((a0.fNext.fHi==0)&&((a0.fNext.fLo==0)&&true))))))))
   (oc (ov (.ptr 1001 2 [2]) (fp hN underlying35 2 tyS27 (.box 35 (.d (B1 a0))) (ot 1 (pt 1001))))
   (oc (lb hN 35 (.d (B1 a0)) (.d (C1 a0.fNext)) tyS27 (ad (C1 a0.fNext)) (ot 46 (.ptr 1001 2 [2])))
   (oc (cf hB fnOk122 (A28 a0.fNext r6 hr6) (L rfl) (OpdL.cons (ot 47 (.d (C1 a0.fNext))) OpdL.nil))
   (oc (callVal (args:=[(bo ((!a0.fNext.fV6)&&(!((a0.fNext.fV6==false)&&((a0.fNext.fHi==0)&&((a0.fNext.fLo==0)&&true)))))),(i6 3),(.d (.list 1 (r6.map (eI .u8))))]) (caps:=[(pt 0)]) hB fnOk132 [(0,1004),(1,100300),(500,500),(950000,100500)] (H4 ((!a0.fNext.fV6)&&(!((a0.fNext.fV6==false)&&((a0.fNext.fHi==0)&&((a0.fNext.fLo==0)&&true))))) 3 r6 r5 r7 hr7) (by kernel_rfl) (L rfl) (by kernel_rfl) (by kernel_rfl) (OpdL.cons (ot 45 (bo ((!a0.fNext.fV6)&&(!((a0.fNext.fV6==false)&&((a0.fNext.fHi==0)&&((a0.fNext.fLo==0)&&true))))))) (OpdL.cons (ii 3) (OpdL.cons (ot 48 (.d (.list 1 (r6.map (eI .u8))))) OpdL.nil))))
   (OpJs.nil)))))))))))))))) (by kernel_rfl) (by rfl) (by rfl) ?_
  apply A0
  refine AWp.ghost (mp [] [(1,(pt 1001)),(4,(pt 1004)),(5,(.func 132 [(pt 1004)]))] [(500,some (.know (globD 0 (.imap gv0)))),(1001,bd 35 (B1 a0)),(1004,some (.box 33 (.sref 100500 3 0 r7.length))),(100500,some (D4 r7))] hB) ?_
  apply AWp.seq
  obtain⟨r8,hr8,h⟩:=bindS h
  obtain⟨r9,hr9,h⟩:=bindS h
  refine drS (SQ (fa (cl [] (A0s ([a0.fMED]:List Int) r8 hr8)) (fa (cl [(0,1004),(1,100500),(500,500),(950000,100700)] (H4 (a0.fMED != (-1)) 4 r8 r7 r9 hr9)) tt))) ?_
  apply A0
  refine AWp.ghost (mp [] [(1,(pt 1001)),(4,(pt 1004)),(5,(.func 132 [(pt 1004)]))] [(500,some (.know (globD 0 (.imap gv0)))),(1001,bd 35 (B1 a0)),(1004,some (.box 33 (.sref 100700 3 0 r9.length))),(100700,some (D4 r9))] hB) ?_
  apply AWp.seq
  obtain⟨r10,hr10,h⟩:=bindS h
  obtain⟨r11,hr11,h⟩:=bindS h
  refine drS (SQ (fa (cl [] (A0s ([a0.fPref]:List Int) r10 hr10)) (fa (cl [(0,1004),(1,100700),(500,500),(950000,100900)] (H4 (a0.fPref != (-1)) 5 r10 r9 r11 hr11)) tt))) ?_
  apply A0
  refine AWp.ghost (mp [] [(1,(pt 1001)),(4,(pt 1004)),(5,(.func 132 [(pt 1004)]))] [(500,some (.know (globD 0 (.imap gv0)))),(1001,bd 35 (B1 a0)),(1004,some (.box 33 (.sref 100900 3 0 r11.length))),(100900,some (D4 r11))] hB) ?_
  apply AWp.seq
  obtain⟨r12,hr12,h⟩:=bindS h
  obtain⟨r13,hr13,h⟩:=bindS h
  refine drS (SQ (fa (cl [] (A44 a0.fCommunities r12 hr12)) (fa (cl [(0,1004),(1,100900),(500,500),(950000,101100)] (H4 (decide (0<(a0.fCommunities.length:Int))) 8 r12 r11 r13 hr13)) tt))) ?_
  apply A0
  refine AWp.ghost (mp [] [(1,(pt 1001)),(4,(pt 1004)),(5,(.func 132 [(pt 1004)]))] [(500,some (.know (globD 0 (.imap gv0)))),(1001,bd 35 (B1 a0)),(1004,some (.box 33 (.sref 101100 3 0 r13.length))),(101100,some (D4 r13))] hB) ?_
  apply AWp.seq
  obtain⟨r14,hr14,h⟩:=bindS h
  obtain⟨r15,hr15,h⟩:=bindS h
  refine drS (SQ (fa (cl [] (A6f a0.fLarge r14 hr14)) (fa (cl [(0,1004),(1,101100),(500,500),(950000,101300)] (H4 (decide (0<(a0.fLarge.length:Int))) 32 r14 r13 r15 hr15)) tt))) ?_
  apply A0
  refine AWp.ghost (mp [] [(1,(pt 1001)),(4,(pt 1004)),(5,(.func 132 [(pt 1004)]))] [(500,some (.know (globD 0 (.imap gv0)))),(1001,bd 35 (B1 a0)),(1004,some (.box 33 (.sref 101300 3 0 r15.length))),(101300,some (D4 r15))] hB) ?_
  apply AWp.seq
  obtain⟨r16,hr16,h⟩:=bindS h
  obtain⟨r17,hr17,h⟩:=bindS h
  refine drS (SQ (fa (cl [] (A0s ([a0.fOTC]:List Int) r16 hr16)) (fa (cl [(0,1004),(1,101300),(500,500),(950000,101500)] (H4 (a0.fOTC != (-1)) 35 r16 r15 r17 hr17)) tt))) ?_
  apply A0
  refine AWp.ghost (mp [] [(1,(pt 1001)),(4,(pt 1004))] [(500,some (.know (globD 0 (.imap gv0)))),(1001,bd 35 (B1 a0)),(1004,some (.box 33 (.sref 101500 3 0 r17.length))),(101500,some (D4 r17))] hB) ?_
  apply AWp.seq
  refine sr (SQ tt) ?_
  apply AWp.block
  obtain⟨p27,hx33,h⟩:=bindS h
  refine lg (M9 a0) (fun s18:Int×(List A1)=>([(4,(pt 1004)),(96,(B7 a0.fOther)),(97,(i6 (a0.fOther.length:Int))),(98,(i6 s18.1))]:EL)) (fun s18:Int×(List A1)=>([(500,some (.know (globD 0 (.imap gv0)))),(1004,some (.box 33 (.sref 4004 3 0 s18.2.length))),(4004,some (D4 s18.2))]:OL)) (fun(p27:((List A1))) e E' O'=>e = .exit 0∧Mat B E' O' ([(4,(pt 1004))]:EL) ([(500,some (.know (globD 0 (.imap gv0)))),(1004,some (.box 33 (.sref 4004 3 0 p27.length))),(4004,some (D4 p27))]:OL)) hx33 (mp [(4004,101500)] _ _ hB) (fun s18 y h => ?_) (fun e E' O' hR => ?_)
  ·unfold M9 at h
   refine sr (SQ tt) ?_
   apply AWp.seq
   apply AWp.cond rfl<;>intro hg28
   ·have h:=A3 hg28 h
    apply AWp.skip
    apply A0
    apply AWp.seq
    apply AWp.block
    obtain⟨x29,hx29,h⟩:=bindS h
    refine sr (SQ (fa hx29 tt)) ?_
    obtain⟨r30,hr30,h⟩:=bindS h
    refine sr (SQ (fa (cl [] (A45 x29.fData r30 hr30)) tt)) ?_
    obtain⟨hc31,h⟩:=B6 h
    refine rg (SQ (fa hc31 tt)) ?_
    apply E4
    apply A0
    refine rg (SQ tt) ?_
    obtain rfl:=oi h
    exact⟨rfl,(mp [(4004,1109)] _ _ hB)⟩
   ·have h:=A4 hg28 h
    apply AWp.exit
    apply E5
    obtain rfl:=oi h
    exact⟨(fun hc=>by cases hc),rfl,(mp [] _ _ hB)⟩
  ·obtain⟨rfl,hmat⟩:=hR
   apply C2
   apply A0
   refine AWp.ghost hmat ?_
   apply AWp.seq
   obtain⟨r34,hr34,h⟩:=bindS h
   obtain⟨hc35,h⟩:=B6 h
   have lhc35:=of_decide_eq_true hc35
   have hc35_o:=of_decide_eq_true hc35
   refine rg (SQ (fa (cl [(0,4004)] (T7 p27 r34 hr34)) tt)) ?_
   apply A0
   refine AWp.ghost (mp [] [(4,(pt 1004))] [(500,some (.know (globD 0 (.imap gv0)))),(1004,some (.box 33 (.sref 4004 3 0 p27.length))),(4004,some (D4 r34))] hB) ?_
   refine sr (SQ tt) ?_
   apply AWp.ret
   obtain rfl:=oi h
   exact rt (Mat.trans (Mat.lenP (Ts:=[(2,(.sref 4004 3 0 r34.length))]) (Bs:=[]) (TwT.cons (x:=(.sref 4004 3 0 p27.length)) (by rfl) (Tw.leaf ⟨_,_,_,_,_,rfl,rfl,(by first | rfl | (simp;done) | (simp;omega) | omega)⟩) TwT.nil) TwB.nil) (mp [(900000,4004)] [(2,(.sref 900000 3 0 r34.length)),(3,(i6 0))] [(500,some (.know (globD 0 (.imap gv0)))),(900000,some (D4 r34))] hB)) [(.sref 900000 3 0 r34.length),(i6 0)] (Res.tmp (by rfl) (by rfl) (Res.tmp (by rfl) (by rfl) Res.nil)) rfl
def A1c (a0:(List A2)) (a1:Bool) (s1:Int×(List Int)):Option ((((List Int)))⊕(Int×(List Int))) :=
 (if (decide (s1.1<(a0.length:Int)))=true then
 (idx a0 s1.1).bind fun x32 =>
 jn (fun m38:(List Int) =>
 some (.inr ((w64 (s1.1+1)),m38))) (fun j39 =>
 (if (x32.fAddr.fV6==a1)=true then
 chk (decide ((s1.2++([(IntKind.u8.wrap x32.fLen)]:List Int)).length≤LIM)) <|
 (U5 x32.fAddr).bind fun r42 =>
 chk ((decide (0≤(w64 (Int.tdiv (w64 (x32.fLen+7)) 8)))&&decide (0≤(w64 (Int.tdiv (w64 (x32.fLen+7)) 8)).toNat)&&decide ((w64 (Int.tdiv (w64 (x32.fLen+7)) 8)).toNat≤r42.length))) <|
 chk (decide (((s1.2++([(IntKind.u8.wrap x32.fLen)]:List Int))++((r42.take ((w64 (Int.tdiv (w64 (x32.fLen+7)) 8)).toNat)).drop 0)).length≤LIM)) <|
 j39 ((s1.2++([(IntKind.u8.wrap x32.fLen)]:List Int))++((r42.take ((w64 (Int.tdiv (w64 (x32.fLen+7)) 8)).toNat)).drop 0))
 else
 j39 s1.2))
 else
 some (.inl s1.2))
def N0 (a0:(List A2)) (a1:Bool):Option ((List Int)) :=
 (loop (A1c a0 a1) (0,([]:List Int))).bind fun p30 =>
 some p30
theorem A3w (a0:(List A2)) (a1:Bool) (r:(List Int)) (h:N0 a0 a1=some r):AC Tryz.prog 114 [.nils,(.d (.list 4 (a0.map A7))),(.d (.bool a1))] [] (.d (.list 1 (r.map (eI .u8)))) []:=by
 refine ac2 Tryz.func114 rfl rfl fun B hB hN L => ?_
 delta N0 at h
 refine sr (SQ tt) ?_
 apply AWp.seq
 refine sr (SQ tt) ?_
 apply AWp.block
 obtain⟨p30,hx46,h⟩:=bindS h
 refine lg (A1c a0 a1) (fun s1:Int×(List Int)=>([(0,(.sref 3000 1 0 s1.2.length)),(2,(bo a1)),(9,(D6 a0)),(10,(i6 (a0.length:Int))),(11,(i6 s1.1))]:EL)) (fun s1:Int×(List Int)=>([(3000,some (.row 5 1 (s1.2.map (eI .u8))))]:OL)) (fun(p30:((List Int))) e E' O'=>e = .exit 0∧Mat B E' O' ([(0,(.sref 3000 1 0 p30.length))]:EL) ([(3000,some (.row 5 1 (p30.map (eI .u8))))]:OL)) hx46 (Mat.trans (Mat.beginP (n:=3000) (e:=5) (sz:=1) (Ts:=[(0,(.sref 3000 1 0 0))]) (Bs:=[]) hB (by decide) (by rfl) (by decide) (TwT.cons (x:=.nils) (by rfl) (Tw.leaf ⟨rfl,rfl⟩) TwT.nil) TwB.nil) (mp [] _ _ hB)) (fun s1 y h => ?_) (fun e E' O' hR => ?_)
 ·unfold A1c at h
  refine sr (SQ tt) ?_
  apply AWp.seq
  apply AWp.cond rfl<;>intro hg31
  ·have h:=A3 hg31 h
   apply AWp.skip
   apply A0
   apply AWp.seq
   apply AWp.block
   obtain⟨x32,hx32,h⟩:=bindS h
   refine sr (SQ (fa hx32 tt)) ?_
   refine sr (SQ tt) ?_
   refine gh [(0,_),(2,_),(8,_),(9,_),(10,_),(11,_),(19,_)] [(1008,some _),(3000,some _)] hB rfl rfl (by rfl) ?_
   refine AWp.cut h (fun m38:(List Int)=>([(0,(.sref 3000 1 0 m38.length)),(2,(bo a1)),(9,(D6 a0)),(10,(i6 (a0.length:Int))),(11,(i6 s1.1))]:EL)) (fun m38:(List Int)=>([(3000,some (.row 5 1 (m38.map (eI .u8))))]:OL)) (fun m38 h E' O' hmat => ?_) (fun j39 hjj39 h => ?_)
   ·apply E4
    apply A0
    refine AWp.ghost hmat ?_
    refine rg (SQ tt) ?_
    obtain rfl:=oi h
    exact⟨rfl,(mp [] _ _ hB)⟩
   ·apply AWp.cond rfl<;>intro hg40
    ·have h:=A3 hg40 h
     obtain⟨hc41,h⟩:=B6 h
     obtain⟨r42,hr42,h⟩:=bindS h
     obtain⟨hc43,h⟩:=B6 h
     obtain⟨hc44,h⟩:=B6 h
     apply dr (c (mv hN (q 0)) rfl (c (fo 1008 3 [1] hN underlying29 3 tyS3 (q 8)) rfl (c (la hN 29 tyS3 (q 21)) rfl (c (OpJ.conv underlying3 underlying5 (L rfl) (q 22)) rfl (c (buildSlice underlying67 tyS5 tyZD5 (by rfl) (by decide) (by decide) (Opds.cons (q 23) Opds.nil) (by kernel_rfl) (es:=([(.int .u8 (IntKind.u8.wrap x32.fLen))]:List D)) (by rfl) (by rfl) (by kernel_rfl) (by simp) (L rfl)) rfl (cg (apd hB underlying67 tyE5 1025 (eI .u8) s1.2 ([(IntKind.u8.wrap x32.fLen)]:List Int) hc41 (L rfl) (q 20) (q 24)) rfl (c (fo 1008 0 [0] hN underlying29 0 tyS27 (q 8)) rfl (c (la hN 29 tyS27 (q 26)) rfl (cg (cf hB fnOk122 (A28 x32.fAddr r42 hr42) (L rfl) (OpdL.cons (q 27) OpdL.nil)) rfl (c (fo 1008 3 [1] hN underlying29 3 tyS3 (q 8)) rfl (c (la hN 29 tyS3 (q 29)) rfl (c (add6 (L rfl) (q 30) (ii 7)) rfl (c (quo6 (L rfl) (q 31) (ii 8) (by decide)) rfl (c (OpJ.cutD underlying67 tyS5 (es':=((r42.take ((w64 (Int.tdiv (w64 (x32.fLen+7)) 8)).toNat)).drop 0).map (eI .u8)) (l:=0) (h:=(w64 (Int.tdiv (w64 (x32.fLen+7)) 8)).toNat) (.inl ⟨rfl,rfl,rfl⟩) (.inr ⟨_,_,_,rfl,(ot 32 (i6 (w64 (Int.tdiv (w64 (x32.fLen+7)) 8)))),(of_decide_eq_true (F9 (F9 hc43))),rfl⟩) (of_decide_eq_true (J2 (F9 hc43))) (by first | (simp;done) | simpa using (of_decide_eq_true (J2 hc43))) (by first | rw [List.map_drop,List.map_take] | (simp [List.map_take,List.map_drop];done) | simp [List.take_of_length_le]) (L rfl) (q 28)) rfl (cg (apd hB underlying67 tyE5 1034 (eI .u8) (s1.2++([(IntKind.u8.wrap x32.fLen)]:List Int)) ((r42.take ((w64 (Int.tdiv (w64 (x32.fLen+7)) 8)).toNat)).drop 0) hc44 (L rfl) (q 25) (q 33)) rfl (c (assign (L rfl) (q 34)) rfl cn)))))))))))))))) (by kernel_rfl) (by kernel_rfl)
     exact hjj39 _ h _ _ (mp [(3000,1034)] _ _ hB)
    ·have h:=A4 hg40 h
     apply AWp.skip
     exact hjj39 _ h _ _ (mp [] _ _ hB)
  ·have h:=A4 hg31 h
   apply AWp.exit
   apply E5
   obtain rfl:=oi h
   exact⟨(fun hc=>by cases hc),rfl,(mp [] _ _ hB)⟩
 ·obtain⟨rfl,hmat⟩:=hR
  apply C2
  apply A0
  refine AWp.ghost hmat ?_
  refine sr (SQ tt) ?_
  apply AWp.ret
  obtain rfl:=oi h
  exact rt (Mat.trans (Mat.freezeP (n:=3000) (e:=5) (sz:=1) (es:=p30.map (eI .u8)) (Ts:=[(6,(.d (.list 1 (p30.map (eI .u8)))))]) (Bs:=[]) (by rfl) (TwT.cons (x:=(.sref 3000 1 0 p30.length)) (by rfl) (FrzL.all (by first | rfl | (simp;done) | (simp;omega) | omega)) TwT.nil) TwB.nil) (mp [] [(6,(.d (.list 1 (p30.map (eI .u8)))))] [] hB)) [(.d (.list 1 (p30.map (eI .u8))))] (Res.tmp (by rfl) (by rfl) Res.nil) rfl
def X0 (a0:A1) (a1:A1):Option (Int) :=
 (I6 a0.fType a1.fType).bind fun r1 =>
 some r1
theorem A7g (a0:A1) (a1:A1) (r:Int) (h:X0 a0 a1=some r):AC Tryz.prog 124 [(.d (A8 a0)),(.d (A8 a1))] [] (.d (.int .i64 r)) []:=by
 refine AC.of_code2 Tryz.func124 rfl rfl (Nat.le_of_ble_eq_true (by rfl)) fun B hB hN => ?_
 delta X0 at h
 refine sr (SQ tt) ?_
 obtain⟨r1,hr1,h⟩:=bindS h
 refine sr (SQ (fa (cl [] (K3 a0.fType a1.fType r1 hr1)) tt)) ?_
 apply AWp.ret
 obtain rfl:=oi h
 exact rt (kp [(4,_)] [] hB rfl rfl (by rfl)) [(i6 r1)] (Res.tmp (by rfl) (by rfl) Res.nil) rfl
def I2 (a0:(List A1)):Option (List A1):=sortF a0 fun x y=>X0 x y
theorem X4 (a0:(List A1)) (r:List A1) (h:I2 a0=some r):AC Tryz.prog 123 [(.sref 0 3 0 a0.length),.func 124 []] [(0,(.row 69 3 (a0.map A8)))] (.tup []) [(0,some (.row 69 3 (r.map A8)))] :=
 AC.sortF A8 (fun x y=>X0 x y) a0 r h sortOk123 fnOk124 (fun _=>rfl) rfl rfl (fun x y c hc=>A7g x y c hc)
def T9 (a0:D2):Option ((List A1)) :=
 (K4 a0.fAttrs).bind fun r1 =>
 jn (fun m8:(List A1) =>
 (N0 a0.fWithdraw true).bind fun r10 =>
 jn (fun m15:(List A1) =>
 (I2 m15).bind fun r17 =>
 chk (decide (r17.length=m15.length)) <|
 some ((r17.drop 0).take m15.length)) (fun j16 =>
 (if (decide (0<(r10.length:Int)))=true then
 chk (decide ((([0,2,1]:List Int)++r10).length≤LIM)) <|
 chk (decide ((m8++([(A1.mk 128 15 (([0,2,1]:List Int)++r10))]:List A1)).length≤LIM)) <|
 j16 (m8++([(A1.mk 128 15 (([0,2,1]:List Int)++r10))]:List A1))
 else
 j16 m8))) (fun j9 =>
 (if ((decide (0<(a0.fAnnounce.length:Int)))&&a0.fAttrs.fNext.fV6)=true then
 (U5 a0.fAttrs.fNext).bind fun r23 =>
 chk (decide ((([0,2,1,16]:List Int)++r23).length≤LIM)) <|
 chk (decide (((([0,2,1,16]:List Int)++r23)++([0]:List Int)).length≤LIM)) <|
 (U7 ((([0,2,1,16]:List Int)++r23)++([0]:List Int)) a0.fAnnounce true).bind fun r26 =>
 chk (decide ((r1.1++[(A1.mk 128 14 r26)]).length≤LIM)) <|
 j9 (r1.1++[(A1.mk 128 14 r26)])
 else
 j9 r1.1))
theorem A9j (a0:D2) (r:(List A1)) (h:T9 a0=some r):AC Tryz.prog 113 [(.d (C4 a0))] [(500,(.know (globD 0 (.imap gv0))))] (.d (.list 3 (r.map A8))) [(500,some (.know (globD 0 (.imap gv0))))]:=by
 refine ac2 Tryz.func113 rfl rfl fun B hB hN L => ?_
 delta T9 at h
 refine sr (SQ tt) ?_
 apply AWp.seq
 obtain⟨r1,hr1,h⟩:=bindS h
 refine rg (SQ (fa (cl [(500,500),(900000,100000)] (A5i a0.fAttrs r1 hr1)) tt)) ?_
 apply A0
 refine AWp.ghost (mp [] [(1,(pt 1001)),(3,(.sref 100000 3 0 r1.1.length))] [(500,some (.know (globD 0 (.imap gv0)))),(1001,bd 61 (C4 a0)),(100000,some (D4 r1.1))] hB) ?_
 apply AWp.seq
 refine sr (SQ tt) ?_
 refine gh [(1,_),(3,_),(22,_)] [(500,some _),(1001,some _),(100000,some _)] hB rfl rfl (by rfl) ?_
 refine AWp.cut h (fun m8:(List A1)=>([(1,(pt 1001)),(3,(.sref 3003 3 0 m8.length))]:EL)) (fun m8:(List A1)=>([(500,some (.know (globD 0 (.imap gv0)))),(1001,bd 61 (C4 a0)),(3003,some (D4 m8))]:OL)) (fun m8 h E' O' hmat => ?_) (fun j9 hjj9 h => ?_)
 ·apply A0
  refine AWp.ghost hmat ?_
  apply AWp.seq
  obtain⟨r10,hr10,h⟩:=bindS h
  refine sr (SQ (fa (cl [] (A3w a0.fWithdraw true r10 hr10)) tt)) ?_
  refine sr (SQ tt) ?_
  refine gh [(3,_),(6,_),(44,_)] [(500,some _),(3003,some _)] hB rfl rfl (by rfl) ?_
  refine AWp.cut h (fun m15:(List A1)=>([(3,(.sref 3003 3 0 m15.length))]:EL)) (fun m15:(List A1)=>([(500,some (.know (globD 0 (.imap gv0)))),(3003,some (D4 m15))]:OL)) (fun m15 h E' O' hmat => ?_) (fun j16 hjj16 h => ?_)
  ·apply A0
   refine AWp.ghost hmat ?_
   apply AWp.seq
   obtain⟨r17,hr17,h⟩:=bindS h
   obtain⟨hc18,h⟩:=B6 h
   have lhc18:=of_decide_eq_true hc18
   have hc18_o:=of_decide_eq_true hc18
   refine rg (SQ (fa (cl [(0,3003)] (X4 m15 r17 hr17)) tt)) ?_
   apply A0
   refine AWp.ghost (mp [] [(3,(.sref 3003 3 0 m15.length))] [(500,some (.know (globD 0 (.imap gv0)))),(3003,some (D4 r17))] hB) ?_
   refine sr (SQ tt) ?_
   apply AWp.ret
   obtain rfl:=oi h
   exact rt (Mat.trans (Mat.freezeP (n:=3003) (e:=69) (sz:=3) (es:=r17.map A8) (Ts:=[(2,(B7 ((r17.drop 0).take m15.length)))]) (Bs:=[]) (by rfl) (TwT.cons (x:=(.sref 3003 3 0 m15.length)) (by rfl) (FrzL.cut (fs:=((r17.drop 0).take m15.length).map A8) (by simp only [List.length_map,List.length_append,List.length_take,List.length_drop,List.length_replicate,List.length_set];omega) (by first | rw [List.map_drop,List.map_take] | (simp [List.map_take,List.map_drop];done) | simp [List.take_of_length_le])) TwT.nil) TwB.nil) (mp [] [(2,(B7 ((r17.drop 0).take m15.length)))] [(500,some (.know (globD 0 (.imap gv0))))] hB)) [(B7 ((r17.drop 0).take m15.length))] (Res.tmp (by rfl) (by rfl) Res.nil) rfl
  ·apply AWp.cond rfl<;>intro hg19
   ·have h:=A3 hg19 h
    obtain⟨hc20,h⟩:=B6 h
    obtain⟨hc21,h⟩:=B6 h
    apply rg (c (mv hN (q 3)) rfl (cg (OpJ.buildSliceR underlying67 tyS5 tyZD5 (by rfl) (by decide) (by decide) hB (nm:=1046) (by decide) (len:=([0,2,1]:List Int).length) (by rfl) (Opds.cons (Opd.int .u8 (0)) (Opds.cons (Opd.int .u8 (2)) (Opds.cons (Opd.int .u8 (1)) Opds.nil))) (by kernel_rfl) (es:=([0,2,1]:List Int).map (eI .u8)) (by rfl) (by rfl) (by kernel_rfl) (by simp) (L rfl)) rfl (c (mv hN (q 6)) rfl (cg (OpJ.frz (apd hB underlying67 tyE5 1048 (eI .u8) ([0,2,1]:List Int) r10 hc20 (L rfl) (q 46) (q 47)) (by simp)) rfl (c (OpJ.coe (v:=(.st [(i6 128),(i6 15),(.d (.list 1 ((([0,2,1]:List Int)++r10).map (eI .u8))))])) (y:=(.st [(.int .i64 128),(.int .i64 15),(.list 1 ((([0,2,1]:List Int)++r10).map (eI .u8)))])) (Co.st (CoL.cons (Co.d _) (CoL.cons (Co.d _) (CoL.cons (Co.d _) CoL.nil)))) rfl (OpJ.build (places:=[(0,1),(1,1),(2,1)]) ⟨underlying69,fun w=>by kernel_rfl⟩ tyZS69 (Opds.cons (ii 128) (Opds.cons (ii 15) (Opds.cons (q 48) Opds.nil))) (by kernel_rfl) (r:=(.st [(i6 128),(i6 15),(.d (.list 1 ((([0,2,1]:List Int)++r10).map (eI .u8))))])) (by rfl) (L rfl))) rfl (c (buildSlice underlying33 tyS69 tyZD69 (by rfl) (by decide) (by decide) (Opds.cons (q 49) Opds.nil) (by kernel_rfl) (es:=([(.st [(.int .i64 128),(.int .i64 15),(.list 1 ((([0,2,1]:List Int)++r10).map (eI .u8)))])]:List D)) (by rfl) (by rfl) (by kernel_rfl) (by simp) (L rfl)) rfl (cg (apd hB underlying33 tyE69 1051 A8 m8 ([(A1.mk 128 15 (([0,2,1]:List Int)++r10))]:List A1) hc21 (L rfl) (q 45) (q 50)) rfl (c (assign (L rfl) (q 51)) rfl cn))))))))
    exact hjj16 _ h _ _ (mp [(3003,1051)] _ _ hB)
   ·have h:=A4 hg19 h
    apply AWp.skip
    exact hjj16 _ h _ _ (mp [] _ _ hB)
 ·apply AWp.cond rfl<;>intro hg22
  ·have h:=A3 hg22 h
   obtain⟨r23,hr23,h⟩:=bindS h
   obtain⟨hc24,h⟩:=B6 h
   apply sr (cg (OpJ.buildSliceR underlying67 tyS5 tyZD5 (by rfl) (by decide) (by decide) hB (nm:=1023) (by decide) (len:=([0,2,1,16]:List Int).length) (by rfl) (Opds.cons (Opd.int .u8 (0)) (Opds.cons (Opd.int .u8 (2)) (Opds.cons (Opd.int .u8 (1)) (Opds.cons (Opd.int .u8 (16)) Opds.nil)))) (by kernel_rfl) (es:=([0,2,1,16]:List Int).map (eI .u8)) (by rfl) (by rfl) (by kernel_rfl) (by simp) (L rfl)) rfl (c (fo 1001 1 [1] hN underlying61 1 tyS35 (q 1)) rfl (c (fo 1001 3 [1,2] hN underlying35 2 tyS27 (q 24)) rfl (c (lb hN 61 _ _ tyS27 (At.dst1 (by rfl) (by rfl) (ad _) (by first | rfl | omega)) (q 25)) rfl (cg (cf hB fnOk122 (A28 a0.fAttrs.fNext r23 hr23) (L rfl) (OpdL.cons (q 26) OpdL.nil)) rfl (cg (apd hB underlying67 tyE5 1028 (eI .u8) ([0,2,1,16]:List Int) r23 hc24 (L rfl) (q 23) (q 27)) rfl (c (assign (L rfl) (q 28)) rfl cn)))))))
   obtain⟨hc25,h⟩:=B6 h
   obtain⟨r26,hr26,h⟩:=bindS h
   obtain⟨hc27,h⟩:=B6 h
   refine drS (SQ (fa hc25 (fa (cl [(0,1032)] (A4w ((([0,2,1,16]:List Int)++r23)++([0]:List Int)) a0.fAnnounce true r26 hr26)) (fa hc27 tt)))) ?_
   exact hjj9 _ h _ _ (mp [(3003,1038)] _ _ hB)
  ·have h:=A4 hg22 h
   apply AWp.skip
   exact hjj9 _ h _ _ (mp [(3003,100000)] _ _ hB)
def R8 (a0:(List A1)) (s1:Int):Option (((Unit)⊕(Unit))⊕(Int)) :=
 (if (decide (s1<(a0.length:Int)))=true then
 (idx a0 s1).bind fun x29 =>
 jn (fun m34:Bool =>
 (if m34=true then
 some (.inl (.inl ()))
 else
 some (.inr (w64 (s1+1))))) (fun j35 =>
 (G8 x29.fFlags 0 255).bind fun r37 =>
 (if (!r37)=true then
 j35 true
 else
 (G8 x29.fType 0 255).bind fun r39 =>
 j35 ((!r39) || (decide (65535<(x29.fData.length:Int))))))
 else
 some (.inl (.inr ())))
def R9 (a0:(List A1)) (s42:Int×(List Int)):Option (((Unit)⊕((List Int)))⊕(Int×(List Int))) :=
 (if (decide (s42.1<(a0.length:Int)))=true then
 (idx a0 s42.1).bind fun x70 =>
 jn (fun m74:(List Int) =>
 chk (decide ((m74++x70.fData).length≤LIM)) <|
 (if (decide (2048<((m74++x70.fData).length:Int)))=true then
 some (.inl (.inl ()))
 else
 some (.inr ((w64 (s42.1+1)),(m74++x70.fData))))) (fun j75 =>
 (if (decide (255<(x70.fData.length:Int)))=true then
 chk (decide ((s42.2++([(bitI .or .u8 (bitI .and .u8 (IntKind.u8.wrap x70.fFlags) 224) 16),(IntKind.u8.wrap x70.fType),(IntKind.u8.wrap (shrI .i64 (x70.fData.length:Int) 8)),(IntKind.u8.wrap (x70.fData.length:Int))]:List Int)).length≤LIM)) <|
 j75 (s42.2++([(bitI .or .u8 (bitI .and .u8 (IntKind.u8.wrap x70.fFlags) 224) 16),(IntKind.u8.wrap x70.fType),(IntKind.u8.wrap (shrI .i64 (x70.fData.length:Int) 8)),(IntKind.u8.wrap (x70.fData.length:Int))]:List Int))
 else
 chk (decide ((s42.2++([(bitI .and .u8 (IntKind.u8.wrap x70.fFlags) 224),(IntKind.u8.wrap x70.fType),(IntKind.u8.wrap (x70.fData.length:Int))]:List Int)).length≤LIM)) <|
 j75 (s42.2++([(bitI .and .u8 (IntKind.u8.wrap x70.fFlags) 224),(IntKind.u8.wrap x70.fType),(IntKind.u8.wrap (x70.fData.length:Int))]:List Int))))
 else
 some (.inl (.inr s42.2)))
def Y3 (a0:(List A1)):Option ((List Int)×Int) :=
 (loop (R8 a0) 0).bind fun x40=>match x40 with
 | (.inl _) =>
  some (([]:List Int),1)
 | (.inr _) =>
  (loop (R9 a0) (0,([]:List Int))).bind fun x81=>match x81 with
  | (.inl _) =>
   some (([]:List Int),3)
  | (.inr p68) =>
   some (p68,0)
theorem A70 (a0:(List A1)) (r:(List Int)×Int) (h:Y3 a0=some r):AC Tryz.prog 112 [(.d (.list 3 (a0.map A8)))] [] (.tup [(.d (.list 1 (r.1.map (eI .u8)))),(.d (.int .i64 r.2))]) []:=by
 refine ac2 Tryz.func112 rfl rfl fun B hB hN L => ?_
 delta Y3 at h
 refine sr (SQ tt) ?_
 apply AWp.seq
 refine sr (SQ tt) ?_
 apply AWp.block
 obtain⟨x40,hx41,h⟩:=bindS h
 refine lg (R8 a0) (fun s1:Int=>([(0,(B7 a0)),(11,(B7 a0)),(12,(i6 (a0.length:Int))),(13,(i6 s1))]:EL)) (fun s1:Int=>([]:OL)) (fun(x:(Unit)⊕(Unit)) e E' O'=>match x with | (.inl _p)=>e = .ret∧Mat B E' O' ([(2,.nils),(3,(i6 1))]:EL) ([]:OL) | (.inr _p)=>e = .exit 0∧Mat B E' O' ([(0,(B7 a0))]:EL) ([]:OL)) hx41 (mp [] _ _ hB) (fun s1 y h => ?_) (fun e E' O' hR => ?_)
 ·unfold R8 at h
  refine sr (SQ tt) ?_
  apply AWp.seq
  apply AWp.cond rfl<;>intro hg28
  ·have h:=A3 hg28 h
   apply AWp.skip
   apply A0
   apply AWp.seq
   apply AWp.block
   obtain⟨x29,hx29,h⟩:=bindS h
   refine sr (SQ (fa hx29 tt)) ?_
   apply AWp.seq
   refine AWp.cut h (fun m34:Bool=>([(0,(B7 a0)),(11,(B7 a0)),(12,(i6 (a0.length:Int))),(13,(i6 s1)),(32,(bo m34))]:EL)) (fun m34:Bool=>([]:OL)) (fun m34 h E' O' hmat => ?_) (fun j35 hjj35 h => ?_)
   ·apply A0
    refine AWp.ghost hmat ?_
    apply AWp.cond rfl<;>intro hg36
    ·have h:=A3 hg36 h
     refine sr (SQ tt) ?_
     apply AWp.ret
     apply D5
     apply B5
     obtain rfl:=oi h
     exact⟨(fun hc=>by cases hc),rfl,(mp [] _ _ hB)⟩
    ·have h:=A4 hg36 h
     apply AWp.skip
     apply E4
     apply A0
     refine rg (SQ tt) ?_
     obtain rfl:=oi h
     exact⟨rfl,(mp [] _ _ hB)⟩
   ·obtain⟨r37,hr37,h⟩:=bindS h
    rcases bft (!r37) with hg38 | hg38
    ·have h:=A3 hg38 h
     refine rg (SQ (fa (cl [] (B8 x29.fFlags 0 255 r37 hr37)) (fa hg38 tt))) ?_
     exact hjj35 _ h _ _ (mp [] _ _ hB)
    ·have h:=A4 hg38 h
     obtain⟨r39,hr39,h⟩:=bindS h
     refine rg (SQ (fa (cl [] (B8 x29.fFlags 0 255 r37 hr37)) (fa hg38 (fa (cl [] (B8 x29.fType 0 255 r39 hr39)) tt)))) ?_
     exact hjj35 _ h _ _ (mp [] _ _ hB)
  ·have h:=A4 hg28 h
   apply AWp.exit
   apply E5
   obtain rfl:=oi h
   exact⟨(fun hc=>by cases hc),rfl,(mp [] _ _ hB)⟩
 ·rcases x40 with _ | _
  ·obtain⟨rfl,hmat⟩:=hR
   apply D5
   apply B5
   obtain rfl:=oi h
   exact rt (Mat.trans hmat (Mat.trans (Mat.coeP (Ts:=[(2,(.d (.list 1 (([]:List Int).map (eI .u8)))))]) (Bs:=[]) (TwT.cons (x:=.nils) (by rfl) (Tw.leaf ⟨_,(Co.nils 1),rfl⟩) TwT.nil) TwB.nil) (mp [] [(2,(.d (.list 1 (([]:List Int).map (eI .u8))))),(3,(i6 1))] [] hB))) [(.d (.list 1 (([]:List Int).map (eI .u8)))),(i6 1)] (Res.tmp (by rfl) (by rfl) (Res.tmp (by rfl) (by rfl) Res.nil)) rfl
  ·obtain⟨rfl,hmat⟩:=hR
   apply C2
   apply A0
   refine AWp.ghost hmat ?_
   refine sr (SQ tt) ?_
   apply AWp.seq
   refine sr (SQ tt) ?_
   apply AWp.block
   obtain⟨x81,hx82,h⟩:=bindS h
   refine lg (R9 a0) (fun s42:Int×(List Int)=>([(6,(.sref 3006 1 0 s42.2.length)),(34,(B7 a0)),(35,(i6 (a0.length:Int))),(36,(i6 s42.1))]:EL)) (fun s42:Int×(List Int)=>([(3006,some (.row 5 1 (s42.2.map (eI .u8))))]:OL)) (fun(x:(Unit)⊕((List Int))) e E' O'=>match x with | (.inl _p)=>e = .ret∧Mat B E' O' ([(2,.nils),(3,(i6 3))]:EL) ([]:OL) | (.inr p68)=>e = .exit 2∧Mat B E' O' ([(6,(.sref 3006 1 0 p68.length))]:EL) ([(3006,some (.row 5 1 (p68.map (eI .u8))))]:OL)) hx82 (Mat.trans (Mat.beginP (n:=3006) (e:=5) (sz:=1) (Ts:=[(6,(.sref 3006 1 0 0))]) (Bs:=[]) hB (by decide) (by rfl) (by decide) (TwT.cons (x:=.nils) (by rfl) (Tw.leaf ⟨rfl,rfl⟩) TwT.nil) TwB.nil) (mp [] _ _ hB)) (fun s42 y h => ?_) (fun e E' O' hR => ?_)
   ·unfold R9 at h
    refine sr (SQ tt) ?_
    apply AWp.seq
    apply AWp.cond rfl<;>intro hg69
    ·have h:=A3 hg69 h
     apply AWp.skip
     apply A0
     apply AWp.seq
     apply AWp.block
     obtain⟨x70,hx70,h⟩:=bindS h
     refine sr (SQ (fa hx70 tt)) ?_
     refine sdS (SQ tt) ?_
     apply AWp.seq
     refine sr (SQ tt) ?_
     refine gh [(6,_),(8,_),(9,_),(10,_),(34,_),(35,_),(36,_),(48,_)] [(1008,some _),(3006,some _)] hB rfl rfl (by rfl) ?_
     refine AWp.cut h (fun m74:(List Int)=>([(6,(.sref 3006 1 0 m74.length)),(8,(pt 1008)),(34,(B7 a0)),(35,(i6 (a0.length:Int))),(36,(i6 s42.1))]:EL)) (fun m74:(List Int)=>([(1008,bd 69 (A8 x70)),(3006,some (.row 5 1 (m74.map (eI .u8))))]:OL)) (fun m74 h E' O' hmat => ?_) (fun j75 hjj75 h => ?_)
     ·apply A0
      refine AWp.ghost hmat ?_
      obtain⟨hc76,h⟩:=B6 h
      refine sr (SQ (fa hc76 tt)) ?_
      refine sr (SQ tt) ?_
      apply AWp.cond rfl<;>intro hg77
      ·have h:=A3 hg77 h
       refine sr (SQ tt) ?_
       apply AWp.ret
       apply D5
       apply B5
       obtain rfl:=oi h
       exact⟨(fun hc=>by cases hc),rfl,(mp [] _ _ hB)⟩
      ·have h:=A4 hg77 h
       apply AWp.skip
       apply E4
       apply A0
       refine rg (SQ tt) ?_
       obtain rfl:=oi h
       exact⟨rfl,(mp [(3006,1074)] _ _ hB)⟩
     ·apply AWp.cond rfl<;>intro hg78
      ·have h:=A3 hg78 h
       obtain⟨hc79,h⟩:=B6 h
       refine rg (SQ (fa hc79 tt)) ?_
       exact hjj75 _ h _ _ (mp [(3006,1061)] _ _ hB)
      ·have h:=A4 hg78 h
       obtain⟨hc80,h⟩:=B6 h
       refine rg (SQ (fa hc80 tt)) ?_
       exact hjj75 _ h _ _ (mp [(3006,1070)] _ _ hB)
    ·have h:=A4 hg69 h
     apply AWp.exit
     apply E5
     obtain rfl:=oi h
     exact⟨(fun hc=>by cases hc),rfl,(mp [] _ _ hB)⟩
   ·rcases x81 with _ | p68
    ·obtain⟨rfl,hmat⟩:=hR
     apply D5
     apply B5
     obtain rfl:=oi h
     exact rt (Mat.trans hmat (Mat.trans (Mat.coeP (Ts:=[(2,(.d (.list 1 (([]:List Int).map (eI .u8)))))]) (Bs:=[]) (TwT.cons (x:=.nils) (by rfl) (Tw.leaf ⟨_,(Co.nils 1),rfl⟩) TwT.nil) TwB.nil) (mp [] [(2,(.d (.list 1 (([]:List Int).map (eI .u8))))),(3,(i6 3))] [] hB))) [(.d (.list 1 (([]:List Int).map (eI .u8)))),(i6 3)] (Res.tmp (by rfl) (by rfl) (Res.tmp (by rfl) (by rfl) Res.nil)) rfl
    ·obtain⟨rfl,hmat⟩:=hR
     apply C2
     apply A0
     refine AWp.ghost hmat ?_
     refine sr (SQ tt) ?_
     apply AWp.ret
     obtain rfl:=oi h
     exact rt (Mat.trans (Mat.freezeP (n:=3006) (e:=5) (sz:=1) (es:=p68.map (eI .u8)) (Ts:=[(2,(.d (.list 1 (p68.map (eI .u8)))))]) (Bs:=[]) (by rfl) (TwT.cons (x:=(.sref 3006 1 0 p68.length)) (by rfl) (FrzL.all (by first | rfl | (simp;done) | (simp;omega) | omega)) TwT.nil) TwB.nil) (mp [] [(2,(.d (.list 1 (p68.map (eI .u8))))),(3,(i6 0))] [] hB)) [(.d (.list 1 (p68.map (eI .u8)))),(i6 0)] (Res.tmp (by rfl) (by rfl) (Res.tmp (by rfl) (by rfl) Res.nil)) rfl
def A2y (a0:Int):Option ((List Int)) :=
 chk (decide (([(IntKind.u8.wrap (shrI .i64 a0 8)),(IntKind.u8.wrap a0)]:List Int).length≤LIM)) <|
 some ([(IntKind.u8.wrap (shrI .i64 a0 8)),(IntKind.u8.wrap a0)]:List Int)
theorem A8k (a0:Int) (r:(List Int)) (h:A2y a0=some r):AC Tryz.prog 115 [.nils,(.d (.int .i64 a0))] [] (.sref 900000 1 0 r.length) [(900000,some (.row 5 1 (r.map (eI .u8))))]:=by
 refine AC.of_code2 Tryz.func115 rfl rfl (Nat.le_of_ble_eq_true (by rfl)) fun B hB hN => ?_
 delta A2y at h
 refine sr (SQ tt) ?_
 obtain⟨hc1,h⟩:=B6 h
 refine sr (SQ (fa hc1 tt)) ?_
 apply AWp.ret
 obtain rfl:=oi h
 exact rt (mp [(900000,1012)] [(4,(.sref 900000 1 0 (([(IntKind.u8.wrap (shrI .i64 a0 8)),(IntKind.u8.wrap a0)]:List Int).length)))] [(900000,some (.row 5 1 (([(IntKind.u8.wrap (shrI .i64 a0 8)),(IntKind.u8.wrap a0)]:List Int).map (eI .u8))))] hB) [(.sref 900000 1 0 (([(IntKind.u8.wrap (shrI .i64 a0 8)),(IntKind.u8.wrap a0)]:List Int).length))] (Res.tmp (by rfl) (by rfl) Res.nil) rfl
def A2z (a0:(List Int)) (a1:Int):Option ((List Int)) :=
 chk (decide ((a0++([(IntKind.u8.wrap (shrI .i64 a1 8)),(IntKind.u8.wrap a1)]:List Int)).length≤LIM)) <|
 some (a0++([(IntKind.u8.wrap (shrI .i64 a1 8)),(IntKind.u8.wrap a1)]:List Int))
theorem A8l (a0:(List Int)) (a1:Int) (r:(List Int)) (h:A2z a0 a1=some r):AC Tryz.prog 115 [(.sref 0 1 0 a0.length),(.d (.int .i64 a1))] [(0,(.row 5 1 (a0.map (eI .u8))))] (.sref 900000 1 0 r.length) [(0,none),(900000,some (.row 5 1 (r.map (eI .u8))))]:=by
 refine AC.of_code2 Tryz.func115 rfl rfl (Nat.le_of_ble_eq_true (by rfl)) fun B hB hN => ?_
 delta A2z at h
 refine sr (SQ tt) ?_
 obtain⟨hc1,h⟩:=B6 h
 have hc1_o:=hc1
 simp only [decide_eq_true_eq] at hc1_o
 refine sr (SQ (fa hc1 tt)) ?_
 apply AWp.ret
 obtain rfl:=oi h
 exact rt (mp [(900000,1012)] [(4,(.sref 900000 1 0 ((a0++([(IntKind.u8.wrap (shrI .i64 a1 8)),(IntKind.u8.wrap a1)]:List Int)).length)))] [(900000,some (.row 5 1 ((a0++([(IntKind.u8.wrap (shrI .i64 a1 8)),(IntKind.u8.wrap a1)]:List Int)).map (eI .u8))))] hB) [(.sref 900000 1 0 ((a0++([(IntKind.u8.wrap (shrI .i64 a1 8)),(IntKind.u8.wrap a1)]:List Int)).length))] (Res.tmp (by rfl) (by rfl) Res.nil) rfl
def A2d (a0:D2):Option ((List Int)×Bool) :=
 (T9 a0).bind fun r1 =>
 (Y3 r1).bind fun r2 =>
 (N0 a0.fWithdraw false).bind fun r3 =>
 (A2y (r3.length:Int)).bind fun r4 =>
 chk (decide ((r4++r3).length≤LIM)) <|
 (A2z (r4++r3) (r2.1.length:Int)).bind fun r6 =>
 chk (decide ((r6++r2.1).length≤LIM)) <|
 (U7 (r6++r2.1) a0.fAnnounce false).bind fun r8 =>
 some (r8,((r2.2==0)&&(decide ((r8.length:Int)≤4077))))
theorem A9k (a0:D2) (r:(List Int)×Bool) (h:A2d a0=some r):AC Tryz.prog 92 [(.d (C4 a0))] [(500,(.know (globD 0 (.imap gv0))))] (.tup [(.d (.list 1 (r.1.map (eI .u8)))),(.d (.bool r.2))]) [(500,some (.know (globD 0 (.imap gv0))))]:=by
 refine ac2 Tryz.func92 rfl rfl fun B hB hN L => ?_
 delta A2d at h
 refine sr (SQ tt) ?_
 apply AWp.seq
 obtain⟨r1,hr1,h⟩:=bindS h
 obtain⟨r2,hr2,h⟩:=bindS h
 refine rg (SQ (fa (cl [(500,500)] (A9j a0 r1 hr1)) (fa (cl [] (A70 r1 r2 hr2)) tt))) ?_
 apply A0
 refine AWp.ghost (mp [] [(1,(pt 1001)),(4,(.d (.list 1 (r2.1.map (eI .u8))))),(5,(i6 r2.2))] [(500,some (.know (globD 0 (.imap gv0)))),(1001,bd 61 (C4 a0))] hB) ?_
 obtain⟨r3,hr3,h⟩:=bindS h
 refine sr (SQ (fa (cl [] (A3w a0.fWithdraw false r3 hr3)) tt)) ?_
 apply AWp.seq
 obtain⟨r4,hr4,h⟩:=bindS h
 obtain⟨hc5,h⟩:=B6 h
 refine rg (SQ (fa (cl [(900000,100300)] (A8k (r3.length:Int) r4 hr4)) (fa hc5 tt))) ?_
 apply A0
 refine AWp.ghost (mp [] [(1,(pt 1001)),(4,(.d (.list 1 (r2.1.map (eI .u8))))),(5,(i6 r2.2)),(7,(.sref 1021 1 0 ((r4++r3).length)))] [(500,some (.know (globD 0 (.imap gv0)))),(1001,bd 61 (C4 a0)),(1021,some (.row 5 1 ((r4++r3).map (eI .u8))))] hB) ?_
 apply AWp.seq
 obtain⟨r6,hr6,h⟩:=bindS h
 obtain⟨hc7,h⟩:=B6 h
 refine rg (SQ (fa (cl [(0,1021),(900000,100400)] (A8l (r4++r3) (r2.1.length:Int) r6 hr6)) (fa hc7 tt))) ?_
 apply A0
 refine AWp.ghost (mp [] [(1,(pt 1001)),(5,(i6 r2.2)),(7,(.sref 1027 1 0 ((r6++r2.1).length)))] [(500,some (.know (globD 0 (.imap gv0)))),(1001,bd 61 (C4 a0)),(1027,some (.row 5 1 ((r6++r2.1).map (eI .u8))))] hB) ?_
 apply AWp.seq
 obtain⟨r8,hr8,h⟩:=bindS h
 refine rg (SQ (fa (cl [(0,1027)] (A4w (r6++r2.1) a0.fAnnounce false r8 hr8)) tt)) ?_
 apply A0
 refine AWp.ghost (mp [] [(5,(i6 r2.2)),(7,(.d (.list 1 (r8.map (eI .u8)))))] [(500,some (.know (globD 0 (.imap gv0))))] hB) ?_
 refine sr (SQ tt) ?_
 apply AWp.ret
 obtain rfl:=oi h
 exact rt (kp [(2,_),(3,_)] [(500,some _)] hB rfl rfl (by rfl)) [(.d (.list 1 (r8.map (eI .u8)))),(bo ((r2.2==0)&&(decide ((r8.length:Int)≤4077))))] (Res.tmp (by rfl) (by rfl) (Res.tmp (by rfl) (by rfl) Res.nil)) rfl
def M4 (a0:D2):Option (Bool) :=
 jn (fun m7:Bool =>
 (if m7=true then
 some false
 else
 (A2d a0).bind fun r10 =>
 some r10.2)) (fun j8 =>
 (if ((decide (256<(a0.fWithdraw.length:Int))) || (decide (256<(a0.fAnnounce.length:Int))))=true then
 j8 true
 else
 (I1 a0.fWithdraw).bind fun r12 =>
 (if r12=true then
 j8 true
 else
 (I1 a0.fAnnounce).bind fun r14 =>
 (if r14=true then
 j8 true
 else
 (Y2 a0).bind fun r16 =>
 j8 (!r16)))))
theorem A2o (a0:D2) (r:Bool) (h:M4 a0=some r):AC Tryz.prog 52 [(.d (C4 a0))] [(500,(.know (globD 0 (.imap gv0))))] (.d (.bool r)) [(500,some (.know (globD 0 (.imap gv0))))]:=by
 refine ac2 Tryz.func52 rfl rfl fun B hB hN L => ?_
 delta M4 at h
 refine sr (SQ tt) ?_
 refine sr (SQ tt) ?_
 apply AWp.seq
 apply AWp.seq
 refine AWp.cut h (fun m7:Bool=>([(1,(pt 1001)),(32,(bo m7))]:EL)) (fun m7:Bool=>([(500,some (.know (globD 0 (.imap gv0)))),(1001,bd 61 (C4 a0))]:OL)) (fun m7 h E' O' hmat => ?_) (fun j8 hjj8 h => ?_)
 ·apply A0
  refine AWp.ghost hmat ?_
  apply AWp.cond rfl<;>intro hg9
  ·have h:=A3 hg9 h
   refine sr (SQ tt) ?_
   apply AWp.ret
   apply B5
   obtain rfl:=oi h
   exact rt (kp [(2,_)] [(500,some _)] hB rfl rfl (by rfl)) [(bo false)] (Res.tmp (by rfl) (by rfl) Res.nil) rfl
  ·have h:=A4 hg9 h
   apply AWp.skip
   apply A0
   apply AWp.seq
   obtain⟨r10,hr10,h⟩:=bindS h
   refine rg (SQ (fa (cl [(500,500)] (A9k a0 r10 hr10)) tt)) ?_
   apply A0
   refine AWp.ghost (mp [] [(5,(bo r10.2))] [(500,some (.know (globD 0 (.imap gv0))))] hB) ?_
   refine sr (SQ tt) ?_
   apply AWp.ret
   obtain rfl:=oi h
   exact rt (kp [(2,_)] [(500,some _)] hB rfl rfl (by rfl)) [(bo r10.2)] (Res.tmp (by rfl) (by rfl) Res.nil) rfl
 ·rcases bft ((decide (256<(a0.fWithdraw.length:Int))) || (decide (256<(a0.fAnnounce.length:Int)))) with hg11 | hg11
  ·have h:=A3 hg11 h
   refine rg (SQ (fa hg11 tt)) ?_
   exact hjj8 _ h _ _ (mp [] _ _ hB)
  ·have h:=A4 hg11 h
   obtain⟨r12,hr12,h⟩:=bindS h
   rcases bft r12 with hg13 | hg13
   ·have h:=A3 hg13 h
    refine rg (SQ (fa hg11 (fa (cl [] (K2 a0.fWithdraw r12 hr12)) (fa hg13 tt)))) ?_
    exact hjj8 _ h _ _ (mp [] _ _ hB)
   ·have h:=A4 hg13 h
    obtain⟨r14,hr14,h⟩:=bindS h
    rcases bft r14 with hg15 | hg15
    ·have h:=A3 hg15 h
     refine rg (SQ (fa hg11 (fa (cl [] (K2 a0.fWithdraw r12 hr12)) (fa hg13 (fa (cl [] (K2 a0.fAnnounce r14 hr14)) (fa hg15 tt)))))) ?_
     exact hjj8 _ h _ _ (mp [] _ _ hB)
    ·have h:=A4 hg15 h
     obtain⟨r16,hr16,h⟩:=bindS h
     refine rg (SQ (fa hg11 (fa (cl [] (K2 a0.fWithdraw r12 hr12)) (fa hg13 (fa (cl [] (K2 a0.fAnnounce r14 hr14)) (fa hg15 (fa (cl [(500,500)] (A9i a0 r16 hr16)) tt))))))) ?_
     exact hjj8 _ h _ _ (mp [] _ _ hB)
def A3c (a0:A6):Option (Bool) :=
 jn (fun m8:Bool =>
 some m8) (fun j9 =>
 (Z7 a0.fPrefix).bind fun r10 =>
 (if r10=true then
 (if (!a0.fHas)=true then
 j9 true
 else
 (if (((a0.fRoute.fPrefix.fAddr.fV6==a0.fPrefix.fAddr.fV6)&&((a0.fRoute.fPrefix.fAddr.fHi==a0.fPrefix.fAddr.fHi)&&((a0.fRoute.fPrefix.fAddr.fLo==a0.fPrefix.fAddr.fLo)&&true)))&&((a0.fRoute.fPrefix.fLen==a0.fPrefix.fLen)&&true))=true then
 (H7 a0.fRoute.fAttrs [a0.fPrefix] true).bind fun r14 =>
 (M4 r14).bind fun r15 =>
 j9 r15
 else
 j9 false))
 else
 j9 false))
theorem A46 (a0:A6) (r:Bool) (h:A3c a0=some r):AC Tryz.prog 28 [(.d (E7 a0))] [(500,(.know (globD 0 (.imap gv0))))] (.d (.bool r)) [(500,some (.know (globD 0 (.imap gv0))))]:=by
 refine ac2 Tryz.func28 rfl rfl fun B hB hN L => ?_
 delta A3c at h
 refine sr (SQ tt) ?_
 apply AWp.seq
 refine AWp.cut h (fun m8:Bool=>([(2,(bo m8))]:EL)) (fun m8:Bool=>([(500,some (.know (globD 0 (.imap gv0))))]:OL)) (fun m8 h E' O' hmat => ?_) (fun j9 hjj9 h => ?_)
 ·apply A0
  refine AWp.ghost hmat ?_
  apply AWp.ret
  obtain rfl:=oi h
  exact rt (kp [(2,_)] [(500,some _)] hB rfl rfl (by rfl)) [(bo m8)] (Res.tmp (by rfl) (by rfl) Res.nil) rfl
 ·obtain⟨r10,hr10,h⟩:=bindS h
  rcases bft r10 with hg11 | hg11
  ·have h:=A3 hg11 h
   rcases bft (!a0.fHas) with hg12 | hg12
   ·have h:=A3 hg12 h
    refine rg (SQ (fa (cl [] (V2 a0.fPrefix r10 hr10)) (fa hg11 (fa hg12 tt)))) ?_
    exact hjj9 _ h _ _ (mp [] _ _ hB)
   ·have h:=A4 hg12 h
    rcases bft (((a0.fRoute.fPrefix.fAddr.fV6==a0.fPrefix.fAddr.fV6)&&((a0.fRoute.fPrefix.fAddr.fHi==a0.fPrefix.fAddr.fHi)&&((a0.fRoute.fPrefix.fAddr.fLo==a0.fPrefix.fAddr.fLo)&&true)))&&((a0.fRoute.fPrefix.fLen==a0.fPrefix.fLen)&&true)) with hg13 | hg13
    ·have h:=A3 hg13 h
     obtain⟨r14,hr14,h⟩:=bindS h
     obtain⟨r15,hr15,h⟩:=bindS h
     refine AWp.region (oc (ov (.ptr 1001 1 [1]) (fp hN underlying39 1 tyS29 (.box 39 (.d (E7 a0))) (ot 1 (pt 1001))))
      (oc (lb hN 39 (.d (E7 a0)) (.d (A7 a0.fPrefix)) tyS29 (ad (A7 a0.fPrefix)) (ot 3 (.ptr 1001 1 [1])))
      (oc (cf hB fnOk51 (V2 a0.fPrefix r10 hr10) (L rfl) (OpdL.cons (ot 4 (.d (A7 a0.fPrefix))) OpdL.nil))
      (oc (OpJ.val (v':=.d (.bool true)) (by rw [hg11]<;>rfl) (mv hN (ot 5 (bo r10))))
      (oc (gd 6 (ov (.ptr 1001 5 [2]) (fp hN underlying39 5 tyS4 (.box 39 (.d (E7 a0))) (ot 1 (pt 1001)))))
      (oc (gd 6 (lb hN 39 (.d (E7 a0)) (bo a0.fHas) tyS4 (ad (.bool a0.fHas)) (ot 7 (.ptr 1001 5 [2]))))
      (oc (gd 6 (OpJ.not (L rfl) (ot 8 (bo a0.fHas))))
      (oc (gd 6 (OpJ.val (v':=.d (.bool false)) (by rw [hg12]<;>rfl) (mv hN (ot 9 (bo (!a0.fHas))))))
      (oc (gd 10 (ov (.ptr 1001 6 [3]) (fp hN underlying39 6 tyS37 (.box 39 (.d (E7 a0))) (ot 1 (pt 1001)))))
      (oc (gd 10 (ov (.ptr 1001 6 [3,0]) (fp hN underlying37 0 tyS29 (.box 39 (.d (E7 a0))) (ot 11 (.ptr 1001 6 [3])))))
      (oc (gd 10 (lb hN 39 (.d (E7 a0)) (.d (A7 a0.fRoute.fPrefix)) tyS29 (At.dst1 (f:=(G5 a0.fRoute)) (by rfl) (by rfl) (ad (A7 a0.fRoute.fPrefix)) (by first | rfl | omega)) (ot 12 (.ptr 1001 6 [3,0]))))
      (oc (gd 10 (ov (.ptr 1001 1 [1]) (fp hN underlying39 1 tyS29 (.box 39 (.d (E7 a0))) (ot 1 (pt 1001)))))
      (oc (gd 10 (lb hN 39 (.d (E7 a0)) (.d (A7 a0.fPrefix)) tyS29 (ad (A7 a0.fPrefix)) (ot 14 (.ptr 1001 1 [1]))))
      (oc (gd 10 (OpJ.eqlD (h:=3) (FitE.st underlying29 rfl held29 (FitF.cons (x:=(C1 a0.fRoute.fPrefix.fAddr)) (y:=(C1 a0.fPrefix.fAddr)) (by decide) rfl tyS27 ⟨rfl,rfl⟩ ⟨rfl,rfl⟩ (FitE.st underlying27 rfl held27 (FitF.cons (x:=(.bool a0.fRoute.fPrefix.fAddr.fV6)) (y:=(.bool a0.fPrefix.fAddr.fV6)) (by decide) rfl tyS4 ⟨rfl,rfl⟩ ⟨rfl,rfl⟩ (FitE.bool (h:=0) a0.fRoute.fPrefix.fAddr.fV6 a0.fPrefix.fAddr.fV6 underlying4) (FitF.cons (x:=(.int .u64 a0.fRoute.fPrefix.fAddr.fHi)) (y:=(.int .u64 a0.fPrefix.fAddr.fHi)) (by decide) rfl tyS25 ⟨rfl,rfl⟩ ⟨rfl,rfl⟩ (FitE.int (h:=0) a0.fRoute.fPrefix.fAddr.fHi a0.fPrefix.fAddr.fHi underlying25) (FitF.cons (x:=(.int .u64 a0.fRoute.fPrefix.fAddr.fLo)) (y:=(.int .u64 a0.fPrefix.fAddr.fLo)) (by decide) rfl tyS25 ⟨rfl,rfl⟩ ⟨rfl,rfl⟩ (FitE.int (h:=0) a0.fRoute.fPrefix.fAddr.fLo a0.fPrefix.fAddr.fLo underlying25) FitF.nil)))) (FitF.cons (x:=(.int .i64 a0.fRoute.fPrefix.fLen)) (y:=(.int .i64 a0.fPrefix.fLen)) (by decide) rfl tyS3 ⟨rfl,rfl⟩ ⟨rfl,rfl⟩ (FitE.int (h:=1) a0.fRoute.fPrefix.fLen a0.fPrefix.fLen underlying3) FitF.nil))) eqg29 ⟨rfl,rfl⟩ (by rfl) (L rfl) (ot 13 (.d (A7 a0.fRoute.fPrefix))) (ot 15 (.d (A7 a0.fPrefix)))))
      (oc (gd 10 (OpJ.val (v':=.d (.bool true)) (by rw [hg13]<;>rfl) (mv hN (ot 16 (bo (((a0.fRoute.fPrefix.fAddr.fV6==a0.fPrefix.fAddr.fV6)&&((a0.fRoute.fPrefix.fAddr.fHi==a0.fPrefix.fAddr.fHi)&&((a0.fRoute.fPrefix.fAddr.fLo==a0.fPrefix.fAddr.fLo)&&true)))&&((a0.fRoute.fPrefix.fLen==a0.fPrefix.fLen)&&true)))))))
      (oc (gd 17 (ov (.ptr 1001 6 [3]) (fp hN underlying39 6 tyS37 (.box 39 (.d (E7 a0))) (ot 1 (pt 1001)))))
      (oc (gd 17 (ov (.ptr 1001 11 [3,2]) (fp hN underlying37 5 tyS35 (.box 39 (.d (E7 a0))) (ot 18 (.ptr 1001 6 [3])))))
      (oc (gd 17 (lb hN 39 (.d (E7 a0)) (.d (B1 a0.fRoute.fAttrs)) tyS35 (At.dst1 (f:=(G5 a0.fRoute)) (by rfl) (by rfl) (ad (B1 a0.fRoute.fAttrs)) (by first | rfl | omega)) (ot 19 (.ptr 1001 11 [3,2]))))
      (oc (gd 17 (ov (.ptr 1001 1 [1]) (fp hN underlying39 1 tyS29 (.box 39 (.d (E7 a0))) (ot 1 (pt 1001)))))
      (oc (gd 17 (lb hN 39 (.d (E7 a0)) (.d (A7 a0.fPrefix)) tyS29 (ad (A7 a0.fPrefix)) (ot 21 (.ptr 1001 1 [1]))))
      (oc (gd 17 (buildSlice underlying59 tyS29 tyZD29 (by rfl) (by decide) (by decide) (Opds.cons (ot 22 (.d (A7 a0.fPrefix))) Opds.nil) (by kernel_rfl) (es:=([(A7 a0.fPrefix)]:List D)) (by rfl) (by rfl) (by kernel_rfl) (by simp) (L rfl)))
      (oc (gd 17 (cf hB fnOk53 (V4 a0.fRoute.fAttrs [a0.fPrefix] true r14 hr14) (L rfl) (OpdL.cons (ot 20 (.d (B1 a0.fRoute.fAttrs))) (OpdL.cons (ot 23 (D6 [a0.fPrefix])) (OpdL.cons (Opd.bool true) OpdL.nil)))))
      (oc (gd 17 (OpJ.callFn hB fnOk52 (A2o r14 r15 hr15) [(500,500)] (by kernel_rfl) (L rfl) (by kernel_rfl) (OpdL.cons (ot 24 (.d (C4 r14))) OpdL.nil)))
      (oc (gd 10 (pickT (L rfl) (ot 17 (bo true)) (ot 25 (bo r15))))
      (oc (gd 6 (pickF (L rfl) (ot 10 (bo false)) (ot 26 (bo r15))))
      (oc (pickT (L rfl) (ot 6 (bo true)) (ot 27 (bo r15)))
      (oc (assign (L rfl) (ot 28 (bo r15)))
      (OpJs.nil)))))))))))))))))))))))))))) (by rfl) (by rfl) ?_
     exact hjj9 _ h _ _ (mp [] _ _ hB)
    ·have h:=A4 hg13 h
     apply rg (c (fo 1001 1 [1] hN underlying39 1 tyS29 (q 1)) rfl (c (la hN 39 tyS29 (q 3)) rfl (cg (cf hB fnOk51 (V2 a0.fPrefix r10 hr10) (L rfl) (OpdL.cons (q 4) OpdL.nil)) rfl (c (OpJ.val (v':=.d (.bool true)) (by rw [hg11]<;>rfl) (mv hN (q 5))) rfl (c (gd 6 (fo 1001 5 [2] hN underlying39 5 tyS4 (q 1))) rfl (c (gd 6 (la hN 39 tyS4 (q 7))) rfl (c (gd 6 (OpJ.not (L rfl) (q 8))) rfl (c (gd 6 (OpJ.val (v':=.d (.bool false)) (by rw [hg12]<;>rfl) (mv hN (q 9)))) rfl (c (gd 10 (fo 1001 6 [3] hN underlying39 6 tyS37 (q 1))) rfl (c (gd 10 (fo 1001 6 [3,0] hN underlying37 0 tyS29 (q 11))) rfl (c (gd 10 (lb hN 39 _ _ tyS29 (At.dst1 (by rfl) (by rfl) (ad _) (by first | rfl | omega)) (q 12))) rfl (c (gd 10 (fo 1001 1 [1] hN underlying39 1 tyS29 (q 1))) rfl (c (gd 10 (la hN 39 tyS29 (q 14))) rfl (c (gd 10 (OpJ.eqlD (h:=3) (FitE.st underlying29 rfl held29 (FitF.cons (x:=(C1 a0.fRoute.fPrefix.fAddr)) (y:=(C1 a0.fPrefix.fAddr)) (by decide) rfl tyS27 ⟨rfl,rfl⟩ ⟨rfl,rfl⟩ (FitE.st underlying27 rfl held27 (FitF.cons (x:=(.bool a0.fRoute.fPrefix.fAddr.fV6)) (y:=(.bool a0.fPrefix.fAddr.fV6)) (by decide) rfl tyS4 ⟨rfl,rfl⟩ ⟨rfl,rfl⟩ (FitE.bool (h:=0) a0.fRoute.fPrefix.fAddr.fV6 a0.fPrefix.fAddr.fV6 underlying4) (FitF.cons (x:=(.int .u64 a0.fRoute.fPrefix.fAddr.fHi)) (y:=(.int .u64 a0.fPrefix.fAddr.fHi)) (by decide) rfl tyS25 ⟨rfl,rfl⟩ ⟨rfl,rfl⟩ (FitE.int (h:=0) a0.fRoute.fPrefix.fAddr.fHi a0.fPrefix.fAddr.fHi underlying25) (FitF.cons (x:=(.int .u64 a0.fRoute.fPrefix.fAddr.fLo)) (y:=(.int .u64 a0.fPrefix.fAddr.fLo)) (by decide) rfl tyS25 ⟨rfl,rfl⟩ ⟨rfl,rfl⟩ (FitE.int (h:=0) a0.fRoute.fPrefix.fAddr.fLo a0.fPrefix.fAddr.fLo underlying25) FitF.nil)))) (FitF.cons (x:=(.int .i64 a0.fRoute.fPrefix.fLen)) (y:=(.int .i64 a0.fPrefix.fLen)) (by decide) rfl tyS3 ⟨rfl,rfl⟩ ⟨rfl,rfl⟩ (FitE.int (h:=1) a0.fRoute.fPrefix.fLen a0.fPrefix.fLen underlying3) FitF.nil))) eqg29 ⟨rfl,rfl⟩ (by rfl) (L rfl) (q 13) (q 15))) rfl (c (gd 10 (OpJ.val (v':=.d (.bool false)) (by rw [hg13]<;>rfl) (mv hN (q 16)))) rfl (ks 17 (L rfl) (ks 17 (L rfl) (ks 17 (L rfl) (ks 17 (L rfl) (ks 17 (L rfl) (ks 17 (L rfl) (ks 17 (L rfl) (ks 17 (L rfl) (c (gd 10 (pickF (L rfl) (q 17) (Opd.bool false))) rfl (c (gd 6 (pickF (L rfl) (q 10) (q 26))) rfl (c (pickT (L rfl) (q 6) (q 27)) rfl (c (assign (L rfl) (q 28)) rfl cn)))))))))))))))))))))))))))
     exact hjj9 _ h _ _ (mp [] _ _ hB)
  ·have h:=A4 hg11 h
   refine rg (SQ (fa (cl [] (V2 a0.fPrefix r10 hr10)) (fa hg11 tt))) ?_
   exact hjj9 _ h _ _ (mp [] _ _ hB)
def A0v (a0:C7):Option (Int) :=
 (if a0.fV6=true then
 some 1
 else
 some 0)
theorem A5j (a0:C7) (r:Int) (h:A0v a0=some r):AC Tryz.prog 95 [(.d (C1 a0))] [] (.d (.int .i64 r)) []:=by
 refine AC.of_code2 Tryz.func95 rfl rfl (Nat.le_of_ble_eq_true (by rfl)) fun B hB hN => ?_
 delta A0v at h
 refine sr (SQ tt) ?_
 apply AWp.seq
 refine sr (SQ tt) ?_
 apply AWp.cond rfl<;>intro hg1
 ·have h:=A3 hg1 h
  refine sr (SQ tt) ?_
  apply AWp.ret
  apply B5
  obtain rfl:=oi h
  exact rt (kp [(2,_)] [] hB rfl rfl (by rfl)) [(i6 1)] (Res.tmp (by rfl) (by rfl) Res.nil) rfl
 ·have h:=A4 hg1 h
  apply AWp.skip
  apply A0
  refine sr (SQ tt) ?_
  apply AWp.ret
  obtain rfl:=oi h
  exact rt (kp [(2,_)] [] hB rfl rfl (by rfl)) [(i6 0)] (Res.tmp (by rfl) (by rfl) Res.nil) rfl
def A3x (a0:Int):Option (Bool) :=
 some (a0 != a0)
theorem A5k (a0:Int) (r:Bool) (h:A3x a0=some r):AC Tryz.prog 116 [(.d (.int .u64 a0))] [] (.d (.bool r)) []:=by
 refine AC.of_code2 Tryz.func116 rfl rfl (Nat.le_of_ble_eq_true (by rfl)) fun B hB hN => ?_
 delta A3x at h
 refine sr (SQ tt) ?_
 refine sr (SQ tt) ?_
 apply AWp.ret
 obtain rfl:=oi h
 exact rt (kp [(2,_)] [] hB rfl rfl (by rfl)) [(bo (a0 != a0))] (Res.tmp (by rfl) (by rfl) Res.nil) rfl
def A08 (a0:Int) (a1:Int):Option (Int) :=
 (A3x a0).bind fun r1 =>
 (A3x a1).bind fun r2 =>
 (if r1=true then
 (if r2=true then
 some 0
 else
 some (-1))
 else
 (if r2=true then
 some 1
 else
 (if (decide (a0<a1))=true then
 some (-1)
 else
 (if (decide (a1<a0))=true then
 some 1
 else
 some 0))))
theorem A4j (a0:Int) (a1:Int) (r:Int) (h:A08 a0 a1=some r):AC Tryz.prog 96 [(.d (.int .u64 a0)),(.d (.int .u64 a1))] [] (.d (.int .i64 r)) []:=by
 refine ac2 Tryz.func96 rfl rfl fun B hB hN L => ?_
 delta A08 at h
 refine sr (SQ tt) ?_
 obtain⟨r1,hr1,h⟩:=bindS h
 refine sr (SQ (fa (cl [] (A5k a0 r1 hr1)) tt)) ?_
 obtain⟨r2,hr2,h⟩:=bindS h
 refine sr (SQ (fa (cl [] (A5k a1 r2 hr2)) tt)) ?_
 apply AWp.seq
 refine sr (SQ tt) ?_
 apply AWp.cond rfl<;>intro hg3
 ·have h:=A3 hg3 h
  apply AWp.seq
  refine sr (SQ tt) ?_
  apply AWp.cond rfl<;>intro hg4
  ·have h:=A3 hg4 h
   refine sr (SQ tt) ?_
   apply AWp.ret
   apply B5
   apply B5
   obtain rfl:=oi h
   exact rt (kp [(4,_)] [] hB rfl rfl (by rfl)) [(i6 0)] (Res.tmp (by rfl) (by rfl) Res.nil) rfl
  ·have h:=A4 hg4 h
   apply AWp.skip
   apply A0
   refine sr (SQ tt) ?_
   apply AWp.ret
   apply B5
   obtain rfl:=oi h
   exact rt (kp [(4,_)] [] hB rfl rfl (by rfl)) [(i6 (-1))] (Res.tmp (by rfl) (by rfl) Res.nil) rfl
 ·have h:=A4 hg3 h
  apply AWp.skip
  apply A0
  apply AWp.seq
  refine sr (SQ tt) ?_
  apply AWp.cond rfl<;>intro hg5
  ·have h:=A3 hg5 h
   refine sr (SQ tt) ?_
   apply AWp.ret
   apply B5
   obtain rfl:=oi h
   exact rt (kp [(4,_)] [] hB rfl rfl (by rfl)) [(i6 1)] (Res.tmp (by rfl) (by rfl) Res.nil) rfl
  ·have h:=A4 hg5 h
   apply AWp.skip
   apply A0
   apply AWp.seq
   refine sr (SQ tt) ?_
   apply AWp.cond rfl<;>intro hg6
   ·have h:=A3 hg6 h
    refine sr (SQ tt) ?_
    apply AWp.ret
    apply B5
    obtain rfl:=oi h
    exact rt (kp [(4,_)] [] hB rfl rfl (by rfl)) [(i6 (-1))] (Res.tmp (by rfl) (by rfl) Res.nil) rfl
   ·have h:=A4 hg6 h
    apply AWp.skip
    apply A0
    apply AWp.seq
    refine sr (SQ tt) ?_
    apply AWp.cond rfl<;>intro hg7
    ·have h:=A3 hg7 h
     refine sr (SQ tt) ?_
     apply AWp.ret
     apply B5
     obtain rfl:=oi h
     exact rt (kp [(4,_)] [] hB rfl rfl (by rfl)) [(i6 1)] (Res.tmp (by rfl) (by rfl) Res.nil) rfl
    ·have h:=A4 hg7 h
     apply AWp.skip
     apply A0
     refine sr (SQ tt) ?_
     apply AWp.ret
     obtain rfl:=oi h
     exact rt (kp [(4,_)] [] hB rfl rfl (by rfl)) [(i6 0)] (Res.tmp (by rfl) (by rfl) Res.nil) rfl
def A5l (a0:C7) (a1:C7):Option (Int) :=
 (A0v a0).bind fun r1 =>
 (A0v a1).bind fun r2 =>
 (I6 r1 r2).bind fun r3 =>
 (A08 a0.fHi a1.fHi).bind fun r4 =>
 (A08 a0.fLo a1.fLo).bind fun r5 =>
 (A5d ([r3,r4,r5]:List Int)).bind fun r6 =>
 some r6
theorem B2n (a0:C7) (a1:C7) (r:Int) (h:A5l a0 a1=some r):AC Tryz.prog 55 [(.d (C1 a0)),(.d (C1 a1))] [] (.d (.int .i64 r)) []:=by
 refine AC.of_code2 Tryz.func55 rfl rfl (Nat.le_of_ble_eq_true (by rfl)) fun B hB hN => ?_
 delta A5l at h
 refine sr (SQ tt) ?_
 obtain⟨r1,hr1,h⟩:=bindS h
 obtain⟨r2,hr2,h⟩:=bindS h
 obtain⟨r3,hr3,h⟩:=bindS h
 obtain⟨r4,hr4,h⟩:=bindS h
 obtain⟨r5,hr5,h⟩:=bindS h
 obtain⟨r6,hr6,h⟩:=bindS h
 refine sdS (SQ (fa (cl [] (A5j a0 r1 hr1)) (fa (cl [] (A5j a1 r2 hr2)) (fa (cl [] (K3 r1 r2 r3 hr3)) (fa (cl [] (A4j a0.fHi a1.fHi r4 hr4)) (fa (cl [] (A4j a0.fLo a1.fLo r5 hr5)) (fa (cl [] (A5v ([r3,r4,r5]:List Int) r6 hr6)) tt))))))) ?_
 apply AWp.ret
 obtain rfl:=oi h
 exact rt (kp [(4,_)] [] hB rfl rfl (by rfl)) [(i6 r6)] (Res.tmp (by rfl) (by rfl) Res.nil) rfl
def A3d (a0:A2) (a1:A2):Option (Int) :=
 (A5l a0.fAddr a1.fAddr).bind fun r1 =>
 (I6 a0.fLen a1.fLen).bind fun r2 =>
 (A5d ([r1,r2]:List Int)).bind fun r3 =>
 some r3
theorem B0g (a0:A2) (a1:A2) (r:Int) (h:A3d a0 a1=some r):AC Tryz.prog 29 [(.d (A7 a0)),(.d (A7 a1))] [] (.d (.int .i64 r)) []:=by
 refine AC.of_code2 Tryz.func29 rfl rfl (Nat.le_of_ble_eq_true (by rfl)) fun B hB hN => ?_
 delta A3d at h
 refine sr (SQ tt) ?_
 obtain⟨r1,hr1,h⟩:=bindS h
 obtain⟨r2,hr2,h⟩:=bindS h
 obtain⟨r3,hr3,h⟩:=bindS h
 refine sdS (SQ (fa (cl [] (B2n a0.fAddr a1.fAddr r1 hr1)) (fa (cl [] (K3 a0.fLen a1.fLen r2 hr2)) (fa (cl [] (A5v ([r1,r2]:List Int) r3 hr3)) tt)))) ?_
 apply AWp.ret
 obtain rfl:=oi h
 exact rt (kp [(4,_)] [] hB rfl rfl (by rfl)) [(i6 r3)] (Res.tmp (by rfl) (by rfl) Res.nil) rfl
def Q9 (a0:(List Int)) (a1:(List Int)) (s2:Int):Option (((Unit)⊕(Unit))⊕(Int)) :=
 (if (decide (s2<(a0.length:Int)))=true then
 (idx a0 s2).bind fun x14 =>
 (idx a1 s2).bind fun x15 =>
 (if (x14 != x15)=true then
 some (.inl (.inl ()))
 else
 some (.inr (w64 (s2+1))))
 else
 some (.inl (.inr ())))
def A1d (a0:(List Int)) (a1:(List Int)):Option (Bool) :=
 (if ((a0.length:Int) != (a1.length:Int))=true then
 some false
 else
 (loop (Q9 a0 a1) 0).bind fun x17=>match x17 with
 | (.inl _) =>
  some false
 | (.inr _) =>
  some true)
theorem A8m (a0:(List Int)) (a1:(List Int)) (r:Bool) (h:A1d a0 a1=some r):AC Tryz.prog 58 [(.d (.list 1 (a0.map (eI .i64)))),(.d (.list 1 (a1.map (eI .i64))))] [] (.d (.bool r)) []:=by
 refine ac2 Tryz.func58 rfl rfl fun B hB hN L => ?_
 delta A1d at h
 refine sr (SQ tt) ?_
 apply AWp.seq
 refine sr (SQ tt) ?_
 apply AWp.cond rfl<;>intro hg1
 ·have h:=A3 hg1 h
  refine sr (SQ tt) ?_
  apply AWp.ret
  apply B5
  obtain rfl:=oi h
  exact rt (kp [(4,_)] [] hB rfl rfl (by rfl)) [(bo false)] (Res.tmp (by rfl) (by rfl) Res.nil) rfl
 ·have h:=A4 hg1 h
  apply AWp.skip
  apply A0
  apply AWp.seq
  refine sr (SQ tt) ?_
  apply AWp.block
  obtain⟨x17,hx18,h⟩:=bindS h
  refine lg (Q9 a0 a1) (fun s2:Int=>([(0,(qI_1 a0)),(1,(qI_1 a1)),(12,(i6 (a0.length:Int))),(13,(i6 s2))]:EL)) (fun s2:Int=>([]:OL)) (fun(x:(Unit)⊕(Unit)) e E' O'=>match x with | (.inl _p)=>e = .ret∧Mat B E' O' ([(4,(bo false))]:EL) ([]:OL) | (.inr _p)=>e = .exit 0∧Mat B E' O' ([]:EL) ([]:OL)) hx18 (mp [] _ _ hB) (fun s2 y h => ?_) (fun e E' O' hR => ?_)
  ·unfold Q9 at h
   refine sr (SQ tt) ?_
   apply AWp.seq
   apply AWp.cond rfl<;>intro hg13
   ·have h:=A3 hg13 h
    apply AWp.skip
    apply A0
    apply AWp.seq
    apply AWp.block
    refine sr (SQ tt) ?_
    obtain⟨_,hx14,h⟩:=bindS h
    obtain⟨_,hx15,h⟩:=bindS h
    refine sdS (SQ (fa hx14 (fa hx15 tt))) ?_
    apply AWp.cond rfl<;>intro hg16
    ·have h:=A3 hg16 h
     refine sr (SQ tt) ?_
     apply AWp.ret
     apply D5
     apply B5
     obtain rfl:=oi h
     exact⟨(fun hc=>by cases hc),rfl,(mp [] _ _ hB)⟩
    ·have h:=A4 hg16 h
     apply AWp.skip
     apply E4
     apply A0
     refine rg (SQ tt) ?_
     obtain rfl:=oi h
     exact⟨rfl,(mp [] _ _ hB)⟩
   ·have h:=A4 hg13 h
    apply AWp.exit
    apply E5
    obtain rfl:=oi h
    exact⟨(fun hc=>by cases hc),rfl,(mp [] _ _ hB)⟩
  ·rcases x17 with _ | _
   ·obtain⟨rfl,hmat⟩:=hR
    apply D5
    apply B5
    obtain rfl:=oi h
    exact rt (Mat.trans hmat (mp [] [(4,(bo false))] [] hB)) [(bo false)] (Res.tmp (by rfl) (by rfl) Res.nil) rfl
   ·obtain⟨rfl,hmat⟩:=hR
    apply C2
    apply A0
    refine AWp.ghost hmat ?_
    refine sr (SQ tt) ?_
    apply AWp.ret
    obtain rfl:=oi h
    exact rt (kp [(4,_)] [] hB rfl rfl (by rfl)) [(bo true)] (Res.tmp (by rfl) (by rfl) Res.nil) rfl
def A09 (a0:B0) (a1:B0):Option (Bool) :=
 jn (fun m3:Bool =>
 some m3) (fun j4 =>
 (if (a0.fSet==a1.fSet)=true then
 (A1d a0.fASNs a1.fASNs).bind fun r6 =>
 j4 r6
 else
 j4 false))
theorem A7h (a0:B0) (a1:B0) (r:Bool) (h:A09 a0 a1=some r):AC Tryz.prog 57 [(.d (C3 a0)),(.d (C3 a1))] [] (.d (.bool r)) []:=by
 refine ac2 Tryz.func57 rfl rfl fun B hB hN L => ?_
 delta A09 at h
 refine sr (SQ tt) ?_
 apply AWp.seq
 refine AWp.cut h (fun m3:Bool=>([(4,(bo m3))]:EL)) (fun m3:Bool=>([]:OL)) (fun m3 h E' O' hmat => ?_) (fun j4 hjj4 h => ?_)
 ·apply A0
  refine AWp.ghost hmat ?_
  apply AWp.ret
  obtain rfl:=oi h
  exact rt (kp [(4,_)] [] hB rfl rfl (by rfl)) [(bo m3)] (Res.tmp (by rfl) (by rfl) Res.nil) rfl
 ·rcases bft (a0.fSet==a1.fSet) with hg5 | hg5
  ·have h:=A3 hg5 h
   obtain⟨r6,hr6,h⟩:=bindS h
   refine rg (SQ (fa hg5 (fa (cl [] (A8m a0.fASNs a1.fASNs r6 hr6)) tt))) ?_
   exact hjj4 _ h _ _ (mp [] _ _ hB)
  ·have h:=A4 hg5 h
   refine rg (SQ (fa hg5 tt)) ?_
   exact hjj4 _ h _ _ (mp [] _ _ hB)
def K8 (a0:(List B0)) (a1:(List B0)) (s2:Int):Option (((Unit)⊕(Unit))⊕(Int)) :=
 (if (decide (s2<(a0.length:Int)))=true then
 (idx a0 s2).bind fun x16 =>
 (idx a1 s2).bind fun x17 =>
 (A09 x16 x17).bind fun r18 =>
 (if (!r18)=true then
 some (.inl (.inl ()))
 else
 some (.inr (w64 (s2+1))))
 else
 some (.inl (.inr ())))
def T2 (a0:(List B0)) (a1:(List B0)):Option (Bool) :=
 (if ((a0.length:Int) != (a1.length:Int))=true then
 some false
 else
 (loop (K8 a0 a1) 0).bind fun x20=>match x20 with
 | (.inl _) =>
  some false
 | (.inr _) =>
  some true)
theorem S8 (a0:(List B0)) (a1:(List B0)) (r:Bool) (h:T2 a0 a1=some r):AC Tryz.prog 61 [(.d (.list 2 (a0.map C3))),(.d (.list 2 (a1.map C3))),(.func 57 [])] [] (.d (.bool r)) []:=by
 refine ac2 Tryz.func61 rfl rfl fun B hB hN L => ?_
 delta T2 at h
 refine sr (SQ tt) ?_
 apply AWp.seq
 refine sr (SQ tt) ?_
 apply AWp.cond rfl<;>intro hg1
 ·have h:=A3 hg1 h
  refine sr (SQ tt) ?_
  apply AWp.ret
  apply B5
  obtain rfl:=oi h
  exact rt (kp [(6,_)] [] hB rfl rfl (by rfl)) [(bo false)] (Res.tmp (by rfl) (by rfl) Res.nil) rfl
 ·have h:=A4 hg1 h
  apply AWp.skip
  apply A0
  apply AWp.seq
  refine sr (SQ tt) ?_
  apply AWp.block
  obtain⟨x20,hx21,h⟩:=bindS h
  refine lg (K8 a0 a1) (fun s2:Int=>([(1,(C0 a1)),(2,(.func 57 [])),(15,(C0 a0)),(16,(i6 (a0.length:Int))),(17,(i6 s2))]:EL)) (fun s2:Int=>([]:OL)) (fun(x:(Unit)⊕(Unit)) e E' O'=>match x with | (.inl _p)=>e = .ret∧Mat B E' O' ([(6,(bo false))]:EL) ([]:OL) | (.inr _p)=>e = .exit 0∧Mat B E' O' ([]:EL) ([]:OL)) hx21 (mp [] _ _ hB) (fun s2 y h => ?_) (fun e E' O' hR => ?_)
  ·unfold K8 at h
   refine sr (SQ tt) ?_
   apply AWp.seq
   apply AWp.cond rfl<;>intro hg15
   ·have h:=A3 hg15 h
    apply AWp.skip
    apply A0
    apply AWp.seq
    apply AWp.block
    obtain⟨x16,hx16,h⟩:=bindS h
    refine sr (SQ (fa hx16 tt)) ?_
    obtain⟨x17,hx17,h⟩:=bindS h
    refine sr (SQ (fa hx17 tt)) ?_
    obtain⟨r18,hr18,h⟩:=bindS h
    refine sr (SQ (fa (cl [] (A7h x16 x17 r18 hr18)) tt)) ?_
    apply AWp.cond rfl<;>intro hg19
    ·have h:=A3 hg19 h
     refine sr (SQ tt) ?_
     apply AWp.ret
     apply D5
     apply B5
     obtain rfl:=oi h
     exact⟨(fun hc=>by cases hc),rfl,(mp [] _ _ hB)⟩
    ·have h:=A4 hg19 h
     apply AWp.skip
     apply E4
     apply A0
     refine rg (SQ tt) ?_
     obtain rfl:=oi h
     exact⟨rfl,(mp [] _ _ hB)⟩
   ·have h:=A4 hg15 h
    apply AWp.exit
    apply E5
    obtain rfl:=oi h
    exact⟨(fun hc=>by cases hc),rfl,(mp [] _ _ hB)⟩
  ·rcases x20 with _ | _
   ·obtain⟨rfl,hmat⟩:=hR
    apply D5
    apply B5
    obtain rfl:=oi h
    exact rt (Mat.trans hmat (mp [] [(6,(bo false))] [] hB)) [(bo false)] (Res.tmp (by rfl) (by rfl) Res.nil) rfl
   ·obtain⟨rfl,hmat⟩:=hR
    apply C2
    apply A0
    refine AWp.ghost hmat ?_
    refine sr (SQ tt) ?_
    apply AWp.ret
    obtain rfl:=oi h
    exact rt (kp [(6,_)] [] hB rfl rfl (by rfl)) [(bo true)] (Res.tmp (by rfl) (by rfl) Res.nil) rfl
def X2 (a0:(List B3)) (a1:(List B3)) (s2:Int):Option (((Unit)⊕(Unit))⊕(Int)) :=
 (if (decide (s2<(a0.length:Int)))=true then
 (idx a0 s2).bind fun x14 =>
 (idx a1 s2).bind fun x15 =>
 (if (!((x14.fA==x15.fA)&&((x14.fB==x15.fB)&&true)))=true then
 some (.inl (.inl ()))
 else
 some (.inr (w64 (s2+1))))
 else
 some (.inl (.inr ())))
def Y4 (a0:(List B3)) (a1:(List B3)):Option (Bool) :=
 (if ((a0.length:Int) != (a1.length:Int))=true then
 some false
 else
 (loop (X2 a0 a1) 0).bind fun x17=>match x17 with
 | (.inl _) =>
  some false
 | (.inr _) =>
  some true)
theorem A1e (a0:(List B3)) (a1:(List B3)) (r:Bool) (h:Y4 a0 a1=some r):AC Tryz.prog 62 [(.d (.list 2 (a0.map B4))),(.d (.list 2 (a1.map B4)))] [] (.d (.bool r)) []:=by
 refine ac2 Tryz.func62 rfl rfl fun B hB hN L => ?_
 delta Y4 at h
 refine sr (SQ tt) ?_
 apply AWp.seq
 refine sr (SQ tt) ?_
 apply AWp.cond rfl<;>intro hg1
 ·have h:=A3 hg1 h
  refine sr (SQ tt) ?_
  apply AWp.ret
  apply B5
  obtain rfl:=oi h
  exact rt (kp [(4,_)] [] hB rfl rfl (by rfl)) [(bo false)] (Res.tmp (by rfl) (by rfl) Res.nil) rfl
 ·have h:=A4 hg1 h
  apply AWp.skip
  apply A0
  apply AWp.seq
  refine sr (SQ tt) ?_
  apply AWp.block
  obtain⟨x17,hx18,h⟩:=bindS h
  refine lg (X2 a0 a1) (fun s2:Int=>([(0,(B9 a0)),(1,(B9 a1)),(12,(i6 (a0.length:Int))),(13,(i6 s2))]:EL)) (fun s2:Int=>([]:OL)) (fun(x:(Unit)⊕(Unit)) e E' O'=>match x with | (.inl _p)=>e = .ret∧Mat B E' O' ([(4,(bo false))]:EL) ([]:OL) | (.inr _p)=>e = .exit 0∧Mat B E' O' ([]:EL) ([]:OL)) hx18 (mp [] _ _ hB) (fun s2 y h => ?_) (fun e E' O' hR => ?_)
  ·unfold X2 at h
   refine sr (SQ tt) ?_
   apply AWp.seq
   apply AWp.cond rfl<;>intro hg13
   ·have h:=A3 hg13 h
    apply AWp.skip
    apply A0
    apply AWp.seq
    apply AWp.block
    refine sr (SQ tt) ?_
    obtain⟨x14,hx14,h⟩:=bindS h
    obtain⟨x15,hx15,h⟩:=bindS h
    apply sd (c (mv hN (q 0)) rfl (c (mv hN (q 5)) rfl (c (indexD underlying31 tyS98 (D7 hx14).1 (H2 B4 (D7 hx14).2) (L rfl) (q 16) (q 17)) rfl (c (loadD tyS98 (by rfl) (by rfl) (L rfl) (q 18)) rfl (c (mv hN (q 1)) rfl (c (mv hN (q 5)) rfl (c (indexD underlying31 tyS98 (D7 hx15).1 (H2 B4 (D7 hx15).2) (L rfl) (q 20) (q 21)) rfl (c (loadD tyS98 (by rfl) (by rfl) (L rfl) (q 22)) rfl (c (OpJ.neqD (h:=2) (FitE.st underlying98 rfl held98 (FitF.cons (x:=(.int .i64 x14.fA)) (y:=(.int .i64 x15.fA)) (by decide) rfl tyS3 ⟨rfl,rfl⟩ ⟨rfl,rfl⟩ (FitE.int (h:=0) x14.fA x15.fA underlying3) (FitF.cons (x:=(.int .i64 x14.fB)) (y:=(.int .i64 x15.fB)) (by decide) rfl tyS3 ⟨rfl,rfl⟩ ⟨rfl,rfl⟩ (FitE.int (h:=0) x14.fB x15.fB underlying3) FitF.nil))) eqg98 ⟨rfl,rfl⟩ (by rfl) (L rfl) (q 19) (q 23)) rfl cn))))))))) (by kernel_rfl) (by kernel_rfl)
    apply AWp.cond rfl<;>intro hg16
    ·have h:=A3 hg16 h
     refine sr (SQ tt) ?_
     apply AWp.ret
     apply D5
     apply B5
     obtain rfl:=oi h
     exact⟨(fun hc=>by cases hc),rfl,(mp [] _ _ hB)⟩
    ·have h:=A4 hg16 h
     apply AWp.skip
     apply E4
     apply A0
     refine rg (SQ tt) ?_
     obtain rfl:=oi h
     exact⟨rfl,(mp [] _ _ hB)⟩
   ·have h:=A4 hg13 h
    apply AWp.exit
    apply E5
    obtain rfl:=oi h
    exact⟨(fun hc=>by cases hc),rfl,(mp [] _ _ hB)⟩
  ·rcases x17 with _ | _
   ·obtain⟨rfl,hmat⟩:=hR
    apply D5
    apply B5
    obtain rfl:=oi h
    exact rt (Mat.trans hmat (mp [] [(4,(bo false))] [] hB)) [(bo false)] (Res.tmp (by rfl) (by rfl) Res.nil) rfl
   ·obtain⟨rfl,hmat⟩:=hR
    apply C2
    apply A0
    refine AWp.ghost hmat ?_
    refine sr (SQ tt) ?_
    apply AWp.ret
    obtain rfl:=oi h
    exact rt (kp [(4,_)] [] hB rfl rfl (by rfl)) [(bo true)] (Res.tmp (by rfl) (by rfl) Res.nil) rfl
def X3 (a0:(List E6)) (a1:(List E6)) (s2:Int):Option (((Unit)⊕(Unit))⊕(Int)) :=
 (if (decide (s2<(a0.length:Int)))=true then
 (idx a0 s2).bind fun x14 =>
 (idx a1 s2).bind fun x15 =>
 (if (!((x14.fA==x15.fA)&&((x14.fB==x15.fB)&&((x14.fC==x15.fC)&&true))))=true then
 some (.inl (.inl ()))
 else
 some (.inr (w64 (s2+1))))
 else
 some (.inl (.inr ())))
def Y5 (a0:(List E6)) (a1:(List E6)):Option (Bool) :=
 (if ((a0.length:Int) != (a1.length:Int))=true then
 some false
 else
 (loop (X3 a0 a1) 0).bind fun x17=>match x17 with
 | (.inl _) =>
  some false
 | (.inr _) =>
  some true)
theorem A3y (a0:(List E6)) (a1:(List E6)) (r:Bool) (h:Y5 a0 a1=some r):AC Tryz.prog 63 [(.d (.list 3 (a0.map D9))),(.d (.list 3 (a1.map D9)))] [] (.d (.bool r)) []:=by
 refine ac2 Tryz.func63 rfl rfl fun B hB hN L => ?_
 delta Y5 at h
 refine sr (SQ tt) ?_
 apply AWp.seq
 refine sr (SQ tt) ?_
 apply AWp.cond rfl<;>intro hg1
 ·have h:=A3 hg1 h
  refine sr (SQ tt) ?_
  apply AWp.ret
  apply B5
  obtain rfl:=oi h
  exact rt (kp [(4,_)] [] hB rfl rfl (by rfl)) [(bo false)] (Res.tmp (by rfl) (by rfl) Res.nil) rfl
 ·have h:=A4 hg1 h
  apply AWp.skip
  apply A0
  apply AWp.seq
  refine sr (SQ tt) ?_
  apply AWp.block
  obtain⟨x17,hx18,h⟩:=bindS h
  refine lg (X3 a0 a1) (fun s2:Int=>([(0,(D8 a0)),(1,(D8 a1)),(12,(i6 (a0.length:Int))),(13,(i6 s2))]:EL)) (fun s2:Int=>([]:OL)) (fun(x:(Unit)⊕(Unit)) e E' O'=>match x with | (.inl _p)=>e = .ret∧Mat B E' O' ([(4,(bo false))]:EL) ([]:OL) | (.inr _p)=>e = .exit 0∧Mat B E' O' ([]:EL) ([]:OL)) hx18 (mp [] _ _ hB) (fun s2 y h => ?_) (fun e E' O' hR => ?_)
  ·unfold X3 at h
   refine sr (SQ tt) ?_
   apply AWp.seq
   apply AWp.cond rfl<;>intro hg13
   ·have h:=A3 hg13 h
    apply AWp.skip
    apply A0
    apply AWp.seq
    apply AWp.block
    refine sr (SQ tt) ?_
    obtain⟨x14,hx14,h⟩:=bindS h
    obtain⟨x15,hx15,h⟩:=bindS h
    apply sd (c (mv hN (q 0)) rfl (c (mv hN (q 5)) rfl (c (indexD underlying32 tyS100 (D7 hx14).1 (H2 D9 (D7 hx14).2) (L rfl) (q 16) (q 17)) rfl (c (loadD tyS100 (by rfl) (by rfl) (L rfl) (q 18)) rfl (c (mv hN (q 1)) rfl (c (mv hN (q 5)) rfl (c (indexD underlying32 tyS100 (D7 hx15).1 (H2 D9 (D7 hx15).2) (L rfl) (q 20) (q 21)) rfl (c (loadD tyS100 (by rfl) (by rfl) (L rfl) (q 22)) rfl (c (OpJ.neqD (h:=2) (FitE.st underlying100 rfl held100 (FitF.cons (x:=(.int .i64 x14.fA)) (y:=(.int .i64 x15.fA)) (by decide) rfl tyS3 ⟨rfl,rfl⟩ ⟨rfl,rfl⟩ (FitE.int (h:=0) x14.fA x15.fA underlying3) (FitF.cons (x:=(.int .i64 x14.fB)) (y:=(.int .i64 x15.fB)) (by decide) rfl tyS3 ⟨rfl,rfl⟩ ⟨rfl,rfl⟩ (FitE.int (h:=0) x14.fB x15.fB underlying3) (FitF.cons (x:=(.int .i64 x14.fC)) (y:=(.int .i64 x15.fC)) (by decide) rfl tyS3 ⟨rfl,rfl⟩ ⟨rfl,rfl⟩ (FitE.int (h:=0) x14.fC x15.fC underlying3) FitF.nil)))) eqg100 ⟨rfl,rfl⟩ (by rfl) (L rfl) (q 19) (q 23)) rfl cn))))))))) (by kernel_rfl) (by kernel_rfl)
    apply AWp.cond rfl<;>intro hg16
    ·have h:=A3 hg16 h
     refine sr (SQ tt) ?_
     apply AWp.ret
     apply D5
     apply B5
     obtain rfl:=oi h
     exact⟨(fun hc=>by cases hc),rfl,(mp [] _ _ hB)⟩
    ·have h:=A4 hg16 h
     apply AWp.skip
     apply E4
     apply A0
     refine rg (SQ tt) ?_
     obtain rfl:=oi h
     exact⟨rfl,(mp [] _ _ hB)⟩
   ·have h:=A4 hg13 h
    apply AWp.exit
    apply E5
    obtain rfl:=oi h
    exact⟨(fun hc=>by cases hc),rfl,(mp [] _ _ hB)⟩
  ·rcases x17 with _ | _
   ·obtain⟨rfl,hmat⟩:=hR
    apply D5
    apply B5
    obtain rfl:=oi h
    exact rt (Mat.trans hmat (mp [] [(4,(bo false))] [] hB)) [(bo false)] (Res.tmp (by rfl) (by rfl) Res.nil) rfl
   ·obtain⟨rfl,hmat⟩:=hR
    apply C2
    apply A0
    refine AWp.ghost hmat ?_
    refine sr (SQ tt) ?_
    apply AWp.ret
    obtain rfl:=oi h
    exact rt (kp [(4,_)] [] hB rfl rfl (by rfl)) [(bo true)] (Res.tmp (by rfl) (by rfl) Res.nil) rfl
def A1f (a0:(List Int)) (a1:(List Int)) (s2:Int):Option (((Unit)⊕(Unit))⊕(Int)) :=
 (if (decide (s2<(a0.length:Int)))=true then
 (idx a0 s2).bind fun x14 =>
 (idx a1 s2).bind fun x15 =>
 (if (x14 != x15)=true then
 some (.inl (.inl ()))
 else
 some (.inr (w64 (s2+1))))
 else
 some (.inl (.inr ())))
def A3e (a0:(List Int)) (a1:(List Int)):Option (Bool) :=
 (if ((a0.length:Int) != (a1.length:Int))=true then
 some false
 else
 (loop (A1f a0 a1) 0).bind fun x17=>match x17 with
 | (.inl _) =>
  some false
 | (.inr _) =>
  some true)
theorem A71 (a0:(List Int)) (a1:(List Int)) (r:Bool) (h:A3e a0 a1=some r):AC Tryz.prog 60 [(.d (.list 1 (a0.map (eI .u8)))),(.d (.list 1 (a1.map (eI .u8))))] [] (.d (.bool r)) []:=by
 refine ac2 Tryz.func60 rfl rfl fun B hB hN L => ?_
 delta A3e at h
 refine sr (SQ tt) ?_
 apply AWp.seq
 refine sr (SQ tt) ?_
 apply AWp.cond rfl<;>intro hg1
 ·have h:=A3 hg1 h
  refine sr (SQ tt) ?_
  apply AWp.ret
  apply B5
  obtain rfl:=oi h
  exact rt (kp [(4,_)] [] hB rfl rfl (by rfl)) [(bo false)] (Res.tmp (by rfl) (by rfl) Res.nil) rfl
 ·have h:=A4 hg1 h
  apply AWp.skip
  apply A0
  apply AWp.seq
  refine sr (SQ tt) ?_
  apply AWp.block
  obtain⟨x17,hx18,h⟩:=bindS h
  refine lg (A1f a0 a1) (fun s2:Int=>([(0,(.d (.list 1 (a0.map (eI .u8))))),(1,(.d (.list 1 (a1.map (eI .u8))))),(12,(i6 (a0.length:Int))),(13,(i6 s2))]:EL)) (fun s2:Int=>([]:OL)) (fun(x:(Unit)⊕(Unit)) e E' O'=>match x with | (.inl _p)=>e = .ret∧Mat B E' O' ([(4,(bo false))]:EL) ([]:OL) | (.inr _p)=>e = .exit 0∧Mat B E' O' ([]:EL) ([]:OL)) hx18 (mp [] _ _ hB) (fun s2 y h => ?_) (fun e E' O' hR => ?_)
  ·unfold A1f at h
   refine sr (SQ tt) ?_
   apply AWp.seq
   apply AWp.cond rfl<;>intro hg13
   ·have h:=A3 hg13 h
    apply AWp.skip
    apply A0
    apply AWp.seq
    apply AWp.block
    refine sr (SQ tt) ?_
    obtain⟨_,hx14,h⟩:=bindS h
    obtain⟨_,hx15,h⟩:=bindS h
    refine sdS (SQ (fa hx14 (fa hx15 tt))) ?_
    apply AWp.cond rfl<;>intro hg16
    ·have h:=A3 hg16 h
     refine sr (SQ tt) ?_
     apply AWp.ret
     apply D5
     apply B5
     obtain rfl:=oi h
     exact⟨(fun hc=>by cases hc),rfl,(mp [] _ _ hB)⟩
    ·have h:=A4 hg16 h
     apply AWp.skip
     apply E4
     apply A0
     refine rg (SQ tt) ?_
     obtain rfl:=oi h
     exact⟨rfl,(mp [] _ _ hB)⟩
   ·have h:=A4 hg13 h
    apply AWp.exit
    apply E5
    obtain rfl:=oi h
    exact⟨(fun hc=>by cases hc),rfl,(mp [] _ _ hB)⟩
  ·rcases x17 with _ | _
   ·obtain⟨rfl,hmat⟩:=hR
    apply D5
    apply B5
    obtain rfl:=oi h
    exact rt (Mat.trans hmat (mp [] [(4,(bo false))] [] hB)) [(bo false)] (Res.tmp (by rfl) (by rfl) Res.nil) rfl
   ·obtain⟨rfl,hmat⟩:=hR
    apply C2
    apply A0
    refine AWp.ghost hmat ?_
    refine sr (SQ tt) ?_
    apply AWp.ret
    obtain rfl:=oi h
    exact rt (kp [(4,_)] [] hB rfl rfl (by rfl)) [(bo true)] (Res.tmp (by rfl) (by rfl) Res.nil) rfl
def A47 (a0:A1) (a1:A1):Option (Bool) :=
 jn (fun m3:Bool =>
 some m3) (fun j4 =>
 (if ((a0.fFlags==a1.fFlags)&&(a0.fType==a1.fType))=true then
 (A3e a0.fData a1.fData).bind fun r6 =>
 j4 r6
 else
 j4 false))
theorem A7i (a0:A1) (a1:A1) (r:Bool) (h:A47 a0 a1=some r):AC Tryz.prog 59 [(.d (A8 a0)),(.d (A8 a1))] [] (.d (.bool r)) []:=by
 refine ac2 Tryz.func59 rfl rfl fun B hB hN L => ?_
 delta A47 at h
 refine sr (SQ tt) ?_
 apply AWp.seq
 refine AWp.cut h (fun m3:Bool=>([(4,(bo m3))]:EL)) (fun m3:Bool=>([]:OL)) (fun m3 h E' O' hmat => ?_) (fun j4 hjj4 h => ?_)
 ·apply A0
  refine AWp.ghost hmat ?_
  apply AWp.ret
  obtain rfl:=oi h
  exact rt (kp [(4,_)] [] hB rfl rfl (by rfl)) [(bo m3)] (Res.tmp (by rfl) (by rfl) Res.nil) rfl
 ·rcases bft ((a0.fFlags==a1.fFlags)&&(a0.fType==a1.fType)) with hg5 | hg5
  ·have h:=A3 hg5 h
   obtain⟨r6,hr6,h⟩:=bindS h
   refine rg (SQ (fa hg5 (fa (cl [] (A71 a0.fData a1.fData r6 hr6)) tt))) ?_
   exact hjj4 _ h _ _ (mp [] _ _ hB)
  ·have h:=A4 hg5 h
   refine rg (SQ (fa hg5 tt)) ?_
   exact hjj4 _ h _ _ (mp [] _ _ hB)
def Q5 (a0:(List A1)) (a1:(List A1)) (s2:Int):Option (((Unit)⊕(Unit))⊕(Int)) :=
 (if (decide (s2<(a0.length:Int)))=true then
 (idx a0 s2).bind fun x16 =>
 (idx a1 s2).bind fun x17 =>
 (A47 x16 x17).bind fun r18 =>
 (if (!r18)=true then
 some (.inl (.inl ()))
 else
 some (.inr (w64 (s2+1))))
 else
 some (.inl (.inr ())))
def P9 (a0:(List A1)) (a1:(List A1)):Option (Bool) :=
 (if ((a0.length:Int) != (a1.length:Int))=true then
 some false
 else
 (loop (Q5 a0 a1) 0).bind fun x20=>match x20 with
 | (.inl _) =>
  some false
 | (.inr _) =>
  some true)
theorem A51 (a0:(List A1)) (a1:(List A1)) (r:Bool) (h:P9 a0 a1=some r):AC Tryz.prog 64 [(.d (.list 3 (a0.map A8))),(.d (.list 3 (a1.map A8))),(.func 59 [])] [] (.d (.bool r)) []:=by
 refine ac2 Tryz.func64 rfl rfl fun B hB hN L => ?_
 delta P9 at h
 refine sr (SQ tt) ?_
 apply AWp.seq
 refine sr (SQ tt) ?_
 apply AWp.cond rfl<;>intro hg1
 ·have h:=A3 hg1 h
  refine sr (SQ tt) ?_
  apply AWp.ret
  apply B5
  obtain rfl:=oi h
  exact rt (kp [(6,_)] [] hB rfl rfl (by rfl)) [(bo false)] (Res.tmp (by rfl) (by rfl) Res.nil) rfl
 ·have h:=A4 hg1 h
  apply AWp.skip
  apply A0
  apply AWp.seq
  refine sr (SQ tt) ?_
  apply AWp.block
  obtain⟨x20,hx21,h⟩:=bindS h
  refine lg (Q5 a0 a1) (fun s2:Int=>([(1,(B7 a1)),(2,(.func 59 [])),(15,(B7 a0)),(16,(i6 (a0.length:Int))),(17,(i6 s2))]:EL)) (fun s2:Int=>([]:OL)) (fun(x:(Unit)⊕(Unit)) e E' O'=>match x with | (.inl _p)=>e = .ret∧Mat B E' O' ([(6,(bo false))]:EL) ([]:OL) | (.inr _p)=>e = .exit 0∧Mat B E' O' ([]:EL) ([]:OL)) hx21 (mp [] _ _ hB) (fun s2 y h => ?_) (fun e E' O' hR => ?_)
  ·unfold Q5 at h
   refine sr (SQ tt) ?_
   apply AWp.seq
   apply AWp.cond rfl<;>intro hg15
   ·have h:=A3 hg15 h
    apply AWp.skip
    apply A0
    apply AWp.seq
    apply AWp.block
    obtain⟨x16,hx16,h⟩:=bindS h
    refine sr (SQ (fa hx16 tt)) ?_
    obtain⟨x17,hx17,h⟩:=bindS h
    refine sr (SQ (fa hx17 tt)) ?_
    obtain⟨r18,hr18,h⟩:=bindS h
    refine sr (SQ (fa (cl [] (A7i x16 x17 r18 hr18)) tt)) ?_
    apply AWp.cond rfl<;>intro hg19
    ·have h:=A3 hg19 h
     refine sr (SQ tt) ?_
     apply AWp.ret
     apply D5
     apply B5
     obtain rfl:=oi h
     exact⟨(fun hc=>by cases hc),rfl,(mp [] _ _ hB)⟩
    ·have h:=A4 hg19 h
     apply AWp.skip
     apply E4
     apply A0
     refine rg (SQ tt) ?_
     obtain rfl:=oi h
     exact⟨rfl,(mp [] _ _ hB)⟩
   ·have h:=A4 hg15 h
    apply AWp.exit
    apply E5
    obtain rfl:=oi h
    exact⟨(fun hc=>by cases hc),rfl,(mp [] _ _ hB)⟩
  ·rcases x20 with _ | _
   ·obtain⟨rfl,hmat⟩:=hR
    apply D5
    apply B5
    obtain rfl:=oi h
    exact rt (Mat.trans hmat (mp [] [(6,(bo false))] [] hB)) [(bo false)] (Res.tmp (by rfl) (by rfl) Res.nil) rfl
   ·obtain⟨rfl,hmat⟩:=hR
    apply C2
    apply A0
    refine AWp.ghost hmat ?_
    refine sr (SQ tt) ?_
    apply AWp.ret
    obtain rfl:=oi h
    exact rt (kp [(6,_)] [] hB rfl rfl (by rfl)) [(bo true)] (Res.tmp (by rfl) (by rfl) Res.nil) rfl
def A0w (a0:C6) (a1:C6):Option (Bool) :=
 jn (fun m9:Bool =>
 some m9) (fun j10 =>
 (if (((((a0.fOrigin==a1.fOrigin)&&((a0.fNext.fV6==a1.fNext.fV6)&&((a0.fNext.fHi==a1.fNext.fHi)&&((a0.fNext.fLo==a1.fNext.fLo)&&true))))&&(a0.fMED==a1.fMED))&&(a0.fPref==a1.fPref))&&(a0.fOTC==a1.fOTC))=true then
 (T2 a0.fPath a1.fPath).bind fun r12 =>
 (if r12=true then
 (Y4 a0.fCommunities a1.fCommunities).bind fun r14 =>
 (if r14=true then
 (Y5 a0.fLarge a1.fLarge).bind fun r16 =>
 (if r16=true then
 (P9 a0.fOther a1.fOther).bind fun r18 =>
 j10 r18
 else
 j10 false)
 else
 j10 false)
 else
 j10 false)
 else
 j10 false))
theorem A9l (a0:C6) (a1:C6) (r:Bool) (h:A0w a0 a1=some r):AC Tryz.prog 32 [(.d (B1 a0)),(.d (B1 a1))] [] (.d (.bool r)) []:=by
 refine ac2 Tryz.func32 rfl rfl fun B hB hN L => ?_
 delta A0w at h
 refine sr (SQ tt) ?_
 refine sr (SQ tt) ?_
 refine sr (SQ tt) ?_
 apply AWp.seq
 refine AWp.cut h (fun m9:Bool=>([(4,(bo m9))]:EL)) (fun m9:Bool=>([]:OL)) (fun m9 h E' O' hmat => ?_) (fun j10 hjj10 h => ?_)
 ·apply A0
  refine AWp.ghost hmat ?_
  apply AWp.ret
  obtain rfl:=oi h
  exact rt (kp [(4,_)] [] hB rfl rfl (by rfl)) [(bo m9)] (Res.tmp (by rfl) (by rfl) Res.nil) rfl
 ·rcases bft (((((a0.fOrigin==a1.fOrigin)&&((a0.fNext.fV6==a1.fNext.fV6)&&((a0.fNext.fHi==a1.fNext.fHi)&&((a0.fNext.fLo==a1.fNext.fLo)&&true))))&&(a0.fMED==a1.fMED))&&(a0.fPref==a1.fPref))&&(a0.fOTC==a1.fOTC)) with hg11 | hg11
  ·have h:=A3 hg11 h
   obtain⟨r12,hr12,h⟩:=bindS h
   rcases bft r12 with hg13 | hg13
   ·have h:=A3 hg13 h
    obtain⟨r14,hr14,h⟩:=bindS h
    rcases bft r14 with hg15 | hg15
    ·have h:=A3 hg15 h
     obtain⟨r16,hr16,h⟩:=bindS h
     rcases bft r16 with hg17 | hg17
     ·have h:=A3 hg17 h
      obtain⟨r18,hr18,h⟩:=bindS h
      apply rg (c (fo 1002 0 [0] hN underlying35 0 tyS3 (q 2)) rfl (c (la hN 35 tyS3 (q 7)) rfl (c (fo 1003 0 [0] hN underlying35 0 tyS3 (q 3)) rfl (c (la hN 35 tyS3 (q 9)) rfl (c (eqlI (L rfl) (q 8) (q 10)) rfl (c (mv hN (q 11)) rfl (c (oq hN 12 (fo 1002 2 [2] hN underlying35 2 tyS27 (q 2)) (OptL.keep (by rfl) OptL.nil) (GuardV.plain _)) rfl (c (oq hN 12 (la hN 35 tyS27 (q 13)) (OptL.opt OptL.nil) (GuardV.plain _)) rfl (c (oq hN 12 (fo 1003 2 [2] hN underlying35 2 tyS27 (q 3)) (OptL.keep (by rfl) OptL.nil) (GuardV.plain _)) rfl (c (oq hN 12 (la hN 35 tyS27 (q 15)) (OptL.opt OptL.nil) (GuardV.plain _)) rfl (c (oq hN 12 (OpJ.eqlD (h:=2) (FitE.st underlying27 rfl held27 (FitF.cons (x:=(.bool a0.fNext.fV6)) (y:=(.bool a1.fNext.fV6)) (by decide) rfl tyS4 ⟨rfl,rfl⟩ ⟨rfl,rfl⟩ (FitE.bool (h:=0) a0.fNext.fV6 a1.fNext.fV6 underlying4) (FitF.cons (x:=(.int .u64 a0.fNext.fHi)) (y:=(.int .u64 a1.fNext.fHi)) (by decide) rfl tyS25 ⟨rfl,rfl⟩ ⟨rfl,rfl⟩ (FitE.int (h:=0) a0.fNext.fHi a1.fNext.fHi underlying25) (FitF.cons (x:=(.int .u64 a0.fNext.fLo)) (y:=(.int .u64 a1.fNext.fLo)) (by decide) rfl tyS25 ⟨rfl,rfl⟩ ⟨rfl,rfl⟩ (FitE.int (h:=0) a0.fNext.fLo a1.fNext.fLo underlying25) FitF.nil)))) eqg27 ⟨rfl,rfl⟩ (by rfl) (L rfl) (q 14) (q 16)) (OptL.opt (OptL.opt OptL.nil)) (GuardV.plain _)) rfl (c (pickAnd rfl (L rfl) (q 12) (q 17)) rfl (c (mv hN (q 18)) rfl (c (oq hN 19 (fo 1002 5 [3] hN underlying35 5 tyS3 (q 2)) (OptL.keep (by rfl) OptL.nil) (GuardV.plain _)) rfl (c (oq hN 19 (la hN 35 tyS3 (q 20)) (OptL.opt OptL.nil) (GuardV.plain _)) rfl (c (oq hN 19 (fo 1003 5 [3] hN underlying35 5 tyS3 (q 3)) (OptL.keep (by rfl) OptL.nil) (GuardV.plain _)) rfl (c (oq hN 19 (la hN 35 tyS3 (q 22)) (OptL.opt OptL.nil) (GuardV.plain _)) rfl (c (oq hN 19 (eqlI (L rfl) (q 21) (q 23)) (OptL.opt (OptL.opt OptL.nil)) (GuardV.plain _)) rfl (c (pickAnd rfl (L rfl) (q 19) (q 24)) rfl (c (mv hN (q 25)) rfl (c (oq hN 26 (fo 1002 6 [4] hN underlying35 6 tyS3 (q 2)) (OptL.keep (by rfl) OptL.nil) (GuardV.plain _)) rfl (c (oq hN 26 (la hN 35 tyS3 (q 27)) (OptL.opt OptL.nil) (GuardV.plain _)) rfl (c (oq hN 26 (fo 1003 6 [4] hN underlying35 6 tyS3 (q 3)) (OptL.keep (by rfl) OptL.nil) (GuardV.plain _)) rfl (c (oq hN 26 (la hN 35 tyS3 (q 29)) (OptL.opt OptL.nil) (GuardV.plain _)) rfl (c (oq hN 26 (eqlI (L rfl) (q 28) (q 30)) (OptL.opt (OptL.opt OptL.nil)) (GuardV.plain _)) rfl (c (pickAnd rfl (L rfl) (q 26) (q 31)) rfl (c (mv hN (q 32)) rfl (c (oq hN 33 (fo 1002 7 [5] hN underlying35 7 tyS3 (q 2)) (OptL.keep (by rfl) OptL.nil) (GuardV.plain _)) rfl (c (oq hN 33 (la hN 35 tyS3 (q 34)) (OptL.opt OptL.nil) (GuardV.plain _)) rfl (c (oq hN 33 (fo 1003 7 [5] hN underlying35 7 tyS3 (q 3)) (OptL.keep (by rfl) OptL.nil) (GuardV.plain _)) rfl (c (oq hN 33 (la hN 35 tyS3 (q 36)) (OptL.opt OptL.nil) (GuardV.plain _)) rfl (c (oq hN 33 (eqlI (L rfl) (q 35) (q 37)) (OptL.opt (OptL.opt OptL.nil)) (GuardV.plain _)) rfl (c (pickAnd rfl (L rfl) (q 33) (q 38)) rfl (c (OpJ.val (v':=.d (.bool true)) (by rw [hg11]<;>rfl) (mv hN (q 39))) rfl (c (gd 40 (fo 1002 1 [1] hN underlying35 1 tyS30 (q 2))) rfl (c (gd 40 (la hN 35 tyS30 (q 41))) rfl (c (gd 40 (fo 1003 1 [1] hN underlying35 1 tyS30 (q 3))) rfl (c (gd 40 (la hN 35 tyS30 (q 43))) rfl (c (gd 40 (mv hN (q 5))) rfl (cg (gd 40 (cf hB fnOk61 (S8 a0.fPath a1.fPath r12 hr12) (L rfl) (OpdL.cons (q 42) (OpdL.cons (q 44) (OpdL.cons (q 45) OpdL.nil))))) rfl (c (pickT (L rfl) (q 40) (q 46)) rfl (c (OpJ.val (v':=.d (.bool true)) (by rw [hg13]<;>rfl) (mv hN (q 47))) rfl (c (gd 48 (fo 1002 8 [6] hN underlying35 8 tyS31 (q 2))) rfl (c (gd 48 (la hN 35 tyS31 (q 49))) rfl (c (gd 48 (fo 1003 8 [6] hN underlying35 8 tyS31 (q 3))) rfl (c (gd 48 (la hN 35 tyS31 (q 51))) rfl (cg (gd 48 (cf hB fnOk62 (A1e a0.fCommunities a1.fCommunities r14 hr14) (L rfl) (OpdL.cons (q 50) (OpdL.cons (q 52) OpdL.nil)))) rfl (c (pickT (L rfl) (q 48) (q 53)) rfl (c (OpJ.val (v':=.d (.bool true)) (by rw [hg15]<;>rfl) (mv hN (q 54))) rfl (c (gd 55 (fo 1002 9 [7] hN underlying35 9 tyS32 (q 2))) rfl (c (gd 55 (la hN 35 tyS32 (q 56))) rfl (c (gd 55 (fo 1003 9 [7] hN underlying35 9 tyS32 (q 3))) rfl (c (gd 55 (la hN 35 tyS32 (q 58))) rfl (cg (gd 55 (cf hB fnOk63 (A3y a0.fLarge a1.fLarge r16 hr16) (L rfl) (OpdL.cons (q 57) (OpdL.cons (q 59) OpdL.nil)))) rfl (c (pickT (L rfl) (q 55) (q 60)) rfl (c (OpJ.val (v':=.d (.bool true)) (by rw [hg17]<;>rfl) (mv hN (q 61))) rfl (c (gd 62 (fo 1002 10 [8] hN underlying35 10 tyS33 (q 2))) rfl (c (gd 62 (la hN 35 tyS33 (q 63))) rfl (c (gd 62 (fo 1003 10 [8] hN underlying35 10 tyS33 (q 3))) rfl (c (gd 62 (la hN 35 tyS33 (q 65))) rfl (c (gd 62 (mv hN (q 6))) rfl (cg (gd 62 (cf hB fnOk64 (A51 a0.fOther a1.fOther r18 hr18) (L rfl) (OpdL.cons (q 64) (OpdL.cons (q 66) (OpdL.cons (q 67) OpdL.nil))))) rfl (c (pickT (L rfl) (q 62) (q 68)) rfl (c (assign (L rfl) (q 69)) rfl cn))))))))))))))))))))))))))))))))))))))))))))))))))))))))))))))))
      exact hjj10 _ h _ _ (mp [] _ _ hB)
     ·have h:=A4 hg17 h
      apply rg (c (fo 1002 0 [0] hN underlying35 0 tyS3 (q 2)) rfl (c (la hN 35 tyS3 (q 7)) rfl (c (fo 1003 0 [0] hN underlying35 0 tyS3 (q 3)) rfl (c (la hN 35 tyS3 (q 9)) rfl (c (eqlI (L rfl) (q 8) (q 10)) rfl (c (mv hN (q 11)) rfl (c (oq hN 12 (fo 1002 2 [2] hN underlying35 2 tyS27 (q 2)) (OptL.keep (by rfl) OptL.nil) (GuardV.plain _)) rfl (c (oq hN 12 (la hN 35 tyS27 (q 13)) (OptL.opt OptL.nil) (GuardV.plain _)) rfl (c (oq hN 12 (fo 1003 2 [2] hN underlying35 2 tyS27 (q 3)) (OptL.keep (by rfl) OptL.nil) (GuardV.plain _)) rfl (c (oq hN 12 (la hN 35 tyS27 (q 15)) (OptL.opt OptL.nil) (GuardV.plain _)) rfl (c (oq hN 12 (OpJ.eqlD (h:=2) (FitE.st underlying27 rfl held27 (FitF.cons (x:=(.bool a0.fNext.fV6)) (y:=(.bool a1.fNext.fV6)) (by decide) rfl tyS4 ⟨rfl,rfl⟩ ⟨rfl,rfl⟩ (FitE.bool (h:=0) a0.fNext.fV6 a1.fNext.fV6 underlying4) (FitF.cons (x:=(.int .u64 a0.fNext.fHi)) (y:=(.int .u64 a1.fNext.fHi)) (by decide) rfl tyS25 ⟨rfl,rfl⟩ ⟨rfl,rfl⟩ (FitE.int (h:=0) a0.fNext.fHi a1.fNext.fHi underlying25) (FitF.cons (x:=(.int .u64 a0.fNext.fLo)) (y:=(.int .u64 a1.fNext.fLo)) (by decide) rfl tyS25 ⟨rfl,rfl⟩ ⟨rfl,rfl⟩ (FitE.int (h:=0) a0.fNext.fLo a1.fNext.fLo underlying25) FitF.nil)))) eqg27 ⟨rfl,rfl⟩ (by rfl) (L rfl) (q 14) (q 16)) (OptL.opt (OptL.opt OptL.nil)) (GuardV.plain _)) rfl (c (pickAnd rfl (L rfl) (q 12) (q 17)) rfl (c (mv hN (q 18)) rfl (c (oq hN 19 (fo 1002 5 [3] hN underlying35 5 tyS3 (q 2)) (OptL.keep (by rfl) OptL.nil) (GuardV.plain _)) rfl (c (oq hN 19 (la hN 35 tyS3 (q 20)) (OptL.opt OptL.nil) (GuardV.plain _)) rfl (c (oq hN 19 (fo 1003 5 [3] hN underlying35 5 tyS3 (q 3)) (OptL.keep (by rfl) OptL.nil) (GuardV.plain _)) rfl (c (oq hN 19 (la hN 35 tyS3 (q 22)) (OptL.opt OptL.nil) (GuardV.plain _)) rfl (c (oq hN 19 (eqlI (L rfl) (q 21) (q 23)) (OptL.opt (OptL.opt OptL.nil)) (GuardV.plain _)) rfl (c (pickAnd rfl (L rfl) (q 19) (q 24)) rfl (c (mv hN (q 25)) rfl (c (oq hN 26 (fo 1002 6 [4] hN underlying35 6 tyS3 (q 2)) (OptL.keep (by rfl) OptL.nil) (GuardV.plain _)) rfl (c (oq hN 26 (la hN 35 tyS3 (q 27)) (OptL.opt OptL.nil) (GuardV.plain _)) rfl (c (oq hN 26 (fo 1003 6 [4] hN underlying35 6 tyS3 (q 3)) (OptL.keep (by rfl) OptL.nil) (GuardV.plain _)) rfl (c (oq hN 26 (la hN 35 tyS3 (q 29)) (OptL.opt OptL.nil) (GuardV.plain _)) rfl (c (oq hN 26 (eqlI (L rfl) (q 28) (q 30)) (OptL.opt (OptL.opt OptL.nil)) (GuardV.plain _)) rfl (c (pickAnd rfl (L rfl) (q 26) (q 31)) rfl (c (mv hN (q 32)) rfl (c (oq hN 33 (fo 1002 7 [5] hN underlying35 7 tyS3 (q 2)) (OptL.keep (by rfl) OptL.nil) (GuardV.plain _)) rfl (c (oq hN 33 (la hN 35 tyS3 (q 34)) (OptL.opt OptL.nil) (GuardV.plain _)) rfl (c (oq hN 33 (fo 1003 7 [5] hN underlying35 7 tyS3 (q 3)) (OptL.keep (by rfl) OptL.nil) (GuardV.plain _)) rfl (c (oq hN 33 (la hN 35 tyS3 (q 36)) (OptL.opt OptL.nil) (GuardV.plain _)) rfl (c (oq hN 33 (eqlI (L rfl) (q 35) (q 37)) (OptL.opt (OptL.opt OptL.nil)) (GuardV.plain _)) rfl (c (pickAnd rfl (L rfl) (q 33) (q 38)) rfl (c (OpJ.val (v':=.d (.bool true)) (by rw [hg11]<;>rfl) (mv hN (q 39))) rfl (c (gd 40 (fo 1002 1 [1] hN underlying35 1 tyS30 (q 2))) rfl (c (gd 40 (la hN 35 tyS30 (q 41))) rfl (c (gd 40 (fo 1003 1 [1] hN underlying35 1 tyS30 (q 3))) rfl (c (gd 40 (la hN 35 tyS30 (q 43))) rfl (c (gd 40 (mv hN (q 5))) rfl (cg (gd 40 (cf hB fnOk61 (S8 a0.fPath a1.fPath r12 hr12) (L rfl) (OpdL.cons (q 42) (OpdL.cons (q 44) (OpdL.cons (q 45) OpdL.nil))))) rfl (c (pickT (L rfl) (q 40) (q 46)) rfl (c (OpJ.val (v':=.d (.bool true)) (by rw [hg13]<;>rfl) (mv hN (q 47))) rfl (c (gd 48 (fo 1002 8 [6] hN underlying35 8 tyS31 (q 2))) rfl (c (gd 48 (la hN 35 tyS31 (q 49))) rfl (c (gd 48 (fo 1003 8 [6] hN underlying35 8 tyS31 (q 3))) rfl (c (gd 48 (la hN 35 tyS31 (q 51))) rfl (cg (gd 48 (cf hB fnOk62 (A1e a0.fCommunities a1.fCommunities r14 hr14) (L rfl) (OpdL.cons (q 50) (OpdL.cons (q 52) OpdL.nil)))) rfl (c (pickT (L rfl) (q 48) (q 53)) rfl (c (OpJ.val (v':=.d (.bool true)) (by rw [hg15]<;>rfl) (mv hN (q 54))) rfl (c (gd 55 (fo 1002 9 [7] hN underlying35 9 tyS32 (q 2))) rfl (c (gd 55 (la hN 35 tyS32 (q 56))) rfl (c (gd 55 (fo 1003 9 [7] hN underlying35 9 tyS32 (q 3))) rfl (c (gd 55 (la hN 35 tyS32 (q 58))) rfl (cg (gd 55 (cf hB fnOk63 (A3y a0.fLarge a1.fLarge r16 hr16) (L rfl) (OpdL.cons (q 57) (OpdL.cons (q 59) OpdL.nil)))) rfl (c (pickT (L rfl) (q 55) (q 60)) rfl (c (OpJ.val (v':=.d (.bool false)) (by rw [hg17]<;>rfl) (mv hN (q 61))) rfl (ks 62 (L rfl) (ks 62 (L rfl) (ks 62 (L rfl) (ks 62 (L rfl) (ks 62 (L rfl) (ks 62 (L rfl) (c (pickF (L rfl) (q 62) (Opd.bool false)) rfl (c (assign (L rfl) (q 69)) rfl cn))))))))))))))))))))))))))))))))))))))))))))))))))))))))))))))))
      exact hjj10 _ h _ _ (mp [] _ _ hB)
    ·have h:=A4 hg15 h
     apply rg (c (fo 1002 0 [0] hN underlying35 0 tyS3 (q 2)) rfl (c (la hN 35 tyS3 (q 7)) rfl (c (fo 1003 0 [0] hN underlying35 0 tyS3 (q 3)) rfl (c (la hN 35 tyS3 (q 9)) rfl (c (eqlI (L rfl) (q 8) (q 10)) rfl (c (mv hN (q 11)) rfl (c (oq hN 12 (fo 1002 2 [2] hN underlying35 2 tyS27 (q 2)) (OptL.keep (by rfl) OptL.nil) (GuardV.plain _)) rfl (c (oq hN 12 (la hN 35 tyS27 (q 13)) (OptL.opt OptL.nil) (GuardV.plain _)) rfl (c (oq hN 12 (fo 1003 2 [2] hN underlying35 2 tyS27 (q 3)) (OptL.keep (by rfl) OptL.nil) (GuardV.plain _)) rfl (c (oq hN 12 (la hN 35 tyS27 (q 15)) (OptL.opt OptL.nil) (GuardV.plain _)) rfl (c (oq hN 12 (OpJ.eqlD (h:=2) (FitE.st underlying27 rfl held27 (FitF.cons (x:=(.bool a0.fNext.fV6)) (y:=(.bool a1.fNext.fV6)) (by decide) rfl tyS4 ⟨rfl,rfl⟩ ⟨rfl,rfl⟩ (FitE.bool (h:=0) a0.fNext.fV6 a1.fNext.fV6 underlying4) (FitF.cons (x:=(.int .u64 a0.fNext.fHi)) (y:=(.int .u64 a1.fNext.fHi)) (by decide) rfl tyS25 ⟨rfl,rfl⟩ ⟨rfl,rfl⟩ (FitE.int (h:=0) a0.fNext.fHi a1.fNext.fHi underlying25) (FitF.cons (x:=(.int .u64 a0.fNext.fLo)) (y:=(.int .u64 a1.fNext.fLo)) (by decide) rfl tyS25 ⟨rfl,rfl⟩ ⟨rfl,rfl⟩ (FitE.int (h:=0) a0.fNext.fLo a1.fNext.fLo underlying25) FitF.nil)))) eqg27 ⟨rfl,rfl⟩ (by rfl) (L rfl) (q 14) (q 16)) (OptL.opt (OptL.opt OptL.nil)) (GuardV.plain _)) rfl (c (pickAnd rfl (L rfl) (q 12) (q 17)) rfl (c (mv hN (q 18)) rfl (c (oq hN 19 (fo 1002 5 [3] hN underlying35 5 tyS3 (q 2)) (OptL.keep (by rfl) OptL.nil) (GuardV.plain _)) rfl (c (oq hN 19 (la hN 35 tyS3 (q 20)) (OptL.opt OptL.nil) (GuardV.plain _)) rfl (c (oq hN 19 (fo 1003 5 [3] hN underlying35 5 tyS3 (q 3)) (OptL.keep (by rfl) OptL.nil) (GuardV.plain _)) rfl (c (oq hN 19 (la hN 35 tyS3 (q 22)) (OptL.opt OptL.nil) (GuardV.plain _)) rfl (c (oq hN 19 (eqlI (L rfl) (q 21) (q 23)) (OptL.opt (OptL.opt OptL.nil)) (GuardV.plain _)) rfl (c (pickAnd rfl (L rfl) (q 19) (q 24)) rfl (c (mv hN (q 25)) rfl (c (oq hN 26 (fo 1002 6 [4] hN underlying35 6 tyS3 (q 2)) (OptL.keep (by rfl) OptL.nil) (GuardV.plain _)) rfl (c (oq hN 26 (la hN 35 tyS3 (q 27)) (OptL.opt OptL.nil) (GuardV.plain _)) rfl (c (oq hN 26 (fo 1003 6 [4] hN underlying35 6 tyS3 (q 3)) (OptL.keep (by rfl) OptL.nil) (GuardV.plain _)) rfl (c (oq hN 26 (la hN 35 tyS3 (q 29)) (OptL.opt OptL.nil) (GuardV.plain _)) rfl (c (oq hN 26 (eqlI (L rfl) (q 28) (q 30)) (OptL.opt (OptL.opt OptL.nil)) (GuardV.plain _)) rfl (c (pickAnd rfl (L rfl) (q 26) (q 31)) rfl (c (mv hN (q 32)) rfl (c (oq hN 33 (fo 1002 7 [5] hN underlying35 7 tyS3 (q 2)) (OptL.keep (by rfl) OptL.nil) (GuardV.plain _)) rfl (c (oq hN 33 (la hN 35 tyS3 (q 34)) (OptL.opt OptL.nil) (GuardV.plain _)) rfl (c (oq hN 33 (fo 1003 7 [5] hN underlying35 7 tyS3 (q 3)) (OptL.keep (by rfl) OptL.nil) (GuardV.plain _)) rfl (c (oq hN 33 (la hN 35 tyS3 (q 36)) (OptL.opt OptL.nil) (GuardV.plain _)) rfl (c (oq hN 33 (eqlI (L rfl) (q 35) (q 37)) (OptL.opt (OptL.opt OptL.nil)) (GuardV.plain _)) rfl (c (pickAnd rfl (L rfl) (q 33) (q 38)) rfl (c (OpJ.val (v':=.d (.bool true)) (by rw [hg11]<;>rfl) (mv hN (q 39))) rfl (c (gd 40 (fo 1002 1 [1] hN underlying35 1 tyS30 (q 2))) rfl (c (gd 40 (la hN 35 tyS30 (q 41))) rfl (c (gd 40 (fo 1003 1 [1] hN underlying35 1 tyS30 (q 3))) rfl (c (gd 40 (la hN 35 tyS30 (q 43))) rfl (c (gd 40 (mv hN (q 5))) rfl (cg (gd 40 (cf hB fnOk61 (S8 a0.fPath a1.fPath r12 hr12) (L rfl) (OpdL.cons (q 42) (OpdL.cons (q 44) (OpdL.cons (q 45) OpdL.nil))))) rfl (c (pickT (L rfl) (q 40) (q 46)) rfl (c (OpJ.val (v':=.d (.bool true)) (by rw [hg13]<;>rfl) (mv hN (q 47))) rfl (c (gd 48 (fo 1002 8 [6] hN underlying35 8 tyS31 (q 2))) rfl (c (gd 48 (la hN 35 tyS31 (q 49))) rfl (c (gd 48 (fo 1003 8 [6] hN underlying35 8 tyS31 (q 3))) rfl (c (gd 48 (la hN 35 tyS31 (q 51))) rfl (cg (gd 48 (cf hB fnOk62 (A1e a0.fCommunities a1.fCommunities r14 hr14) (L rfl) (OpdL.cons (q 50) (OpdL.cons (q 52) OpdL.nil)))) rfl (c (pickT (L rfl) (q 48) (q 53)) rfl (c (OpJ.val (v':=.d (.bool false)) (by rw [hg15]<;>rfl) (mv hN (q 54))) rfl (ks 55 (L rfl) (ks 55 (L rfl) (ks 55 (L rfl) (ks 55 (L rfl) (ks 55 (L rfl) (c (pickF (L rfl) (q 55) (Opd.bool false)) rfl (c (mv hN (q 61)) rfl (ks 62 (L rfl) (ks 62 (L rfl) (ks 62 (L rfl) (ks 62 (L rfl) (ks 62 (L rfl) (ks 62 (L rfl) (c (pickF (L rfl) (q 62) (Opd.bool false)) rfl (c (assign (L rfl) (q 69)) rfl cn))))))))))))))))))))))))))))))))))))))))))))))))))))))))))))))))
     exact hjj10 _ h _ _ (mp [] _ _ hB)
   ·have h:=A4 hg13 h
    apply rg (c (fo 1002 0 [0] hN underlying35 0 tyS3 (q 2)) rfl (c (la hN 35 tyS3 (q 7)) rfl (c (fo 1003 0 [0] hN underlying35 0 tyS3 (q 3)) rfl (c (la hN 35 tyS3 (q 9)) rfl (c (eqlI (L rfl) (q 8) (q 10)) rfl (c (mv hN (q 11)) rfl (c (oq hN 12 (fo 1002 2 [2] hN underlying35 2 tyS27 (q 2)) (OptL.keep (by rfl) OptL.nil) (GuardV.plain _)) rfl (c (oq hN 12 (la hN 35 tyS27 (q 13)) (OptL.opt OptL.nil) (GuardV.plain _)) rfl (c (oq hN 12 (fo 1003 2 [2] hN underlying35 2 tyS27 (q 3)) (OptL.keep (by rfl) OptL.nil) (GuardV.plain _)) rfl (c (oq hN 12 (la hN 35 tyS27 (q 15)) (OptL.opt OptL.nil) (GuardV.plain _)) rfl (c (oq hN 12 (OpJ.eqlD (h:=2) (FitE.st underlying27 rfl held27 (FitF.cons (x:=(.bool a0.fNext.fV6)) (y:=(.bool a1.fNext.fV6)) (by decide) rfl tyS4 ⟨rfl,rfl⟩ ⟨rfl,rfl⟩ (FitE.bool (h:=0) a0.fNext.fV6 a1.fNext.fV6 underlying4) (FitF.cons (x:=(.int .u64 a0.fNext.fHi)) (y:=(.int .u64 a1.fNext.fHi)) (by decide) rfl tyS25 ⟨rfl,rfl⟩ ⟨rfl,rfl⟩ (FitE.int (h:=0) a0.fNext.fHi a1.fNext.fHi underlying25) (FitF.cons (x:=(.int .u64 a0.fNext.fLo)) (y:=(.int .u64 a1.fNext.fLo)) (by decide) rfl tyS25 ⟨rfl,rfl⟩ ⟨rfl,rfl⟩ (FitE.int (h:=0) a0.fNext.fLo a1.fNext.fLo underlying25) FitF.nil)))) eqg27 ⟨rfl,rfl⟩ (by rfl) (L rfl) (q 14) (q 16)) (OptL.opt (OptL.opt OptL.nil)) (GuardV.plain _)) rfl (c (pickAnd rfl (L rfl) (q 12) (q 17)) rfl (c (mv hN (q 18)) rfl (c (oq hN 19 (fo 1002 5 [3] hN underlying35 5 tyS3 (q 2)) (OptL.keep (by rfl) OptL.nil) (GuardV.plain _)) rfl (c (oq hN 19 (la hN 35 tyS3 (q 20)) (OptL.opt OptL.nil) (GuardV.plain _)) rfl (c (oq hN 19 (fo 1003 5 [3] hN underlying35 5 tyS3 (q 3)) (OptL.keep (by rfl) OptL.nil) (GuardV.plain _)) rfl (c (oq hN 19 (la hN 35 tyS3 (q 22)) (OptL.opt OptL.nil) (GuardV.plain _)) rfl (c (oq hN 19 (eqlI (L rfl) (q 21) (q 23)) (OptL.opt (OptL.opt OptL.nil)) (GuardV.plain _)) rfl (c (pickAnd rfl (L rfl) (q 19) (q 24)) rfl (c (mv hN (q 25)) rfl (c (oq hN 26 (fo 1002 6 [4] hN underlying35 6 tyS3 (q 2)) (OptL.keep (by rfl) OptL.nil) (GuardV.plain _)) rfl (c (oq hN 26 (la hN 35 tyS3 (q 27)) (OptL.opt OptL.nil) (GuardV.plain _)) rfl (c (oq hN 26 (fo 1003 6 [4] hN underlying35 6 tyS3 (q 3)) (OptL.keep (by rfl) OptL.nil) (GuardV.plain _)) rfl (c (oq hN 26 (la hN 35 tyS3 (q 29)) (OptL.opt OptL.nil) (GuardV.plain _)) rfl (c (oq hN 26 (eqlI (L rfl) (q 28) (q 30)) (OptL.opt (OptL.opt OptL.nil)) (GuardV.plain _)) rfl (c (pickAnd rfl (L rfl) (q 26) (q 31)) rfl (c (mv hN (q 32)) rfl (c (oq hN 33 (fo 1002 7 [5] hN underlying35 7 tyS3 (q 2)) (OptL.keep (by rfl) OptL.nil) (GuardV.plain _)) rfl (c (oq hN 33 (la hN 35 tyS3 (q 34)) (OptL.opt OptL.nil) (GuardV.plain _)) rfl (c (oq hN 33 (fo 1003 7 [5] hN underlying35 7 tyS3 (q 3)) (OptL.keep (by rfl) OptL.nil) (GuardV.plain _)) rfl (c (oq hN 33 (la hN 35 tyS3 (q 36)) (OptL.opt OptL.nil) (GuardV.plain _)) rfl (c (oq hN 33 (eqlI (L rfl) (q 35) (q 37)) (OptL.opt (OptL.opt OptL.nil)) (GuardV.plain _)) rfl (c (pickAnd rfl (L rfl) (q 33) (q 38)) rfl (c (OpJ.val (v':=.d (.bool true)) (by rw [hg11]<;>rfl) (mv hN (q 39))) rfl (c (gd 40 (fo 1002 1 [1] hN underlying35 1 tyS30 (q 2))) rfl (c (gd 40 (la hN 35 tyS30 (q 41))) rfl (c (gd 40 (fo 1003 1 [1] hN underlying35 1 tyS30 (q 3))) rfl (c (gd 40 (la hN 35 tyS30 (q 43))) rfl (c (gd 40 (mv hN (q 5))) rfl (cg (gd 40 (cf hB fnOk61 (S8 a0.fPath a1.fPath r12 hr12) (L rfl) (OpdL.cons (q 42) (OpdL.cons (q 44) (OpdL.cons (q 45) OpdL.nil))))) rfl (c (pickT (L rfl) (q 40) (q 46)) rfl (c (OpJ.val (v':=.d (.bool false)) (by rw [hg13]<;>rfl) (mv hN (q 47))) rfl (ks 48 (L rfl) (ks 48 (L rfl) (ks 48 (L rfl) (ks 48 (L rfl) (ks 48 (L rfl) (c (pickF (L rfl) (q 48) (Opd.bool false)) rfl (c (mv hN (q 54)) rfl (ks 55 (L rfl) (ks 55 (L rfl) (ks 55 (L rfl) (ks 55 (L rfl) (ks 55 (L rfl) (c (pickF (L rfl) (q 55) (Opd.bool false)) rfl (c (mv hN (q 61)) rfl (ks 62 (L rfl) (ks 62 (L rfl) (ks 62 (L rfl) (ks 62 (L rfl) (ks 62 (L rfl) (ks 62 (L rfl) (c (pickF (L rfl) (q 62) (Opd.bool false)) rfl (c (assign (L rfl) (q 69)) rfl cn))))))))))))))))))))))))))))))))))))))))))))))))))))))))))))))))
    exact hjj10 _ h _ _ (mp [] _ _ hB)
  ·have h:=A4 hg11 h
   apply rg (c (fo 1002 0 [0] hN underlying35 0 tyS3 (q 2)) rfl (c (la hN 35 tyS3 (q 7)) rfl (c (fo 1003 0 [0] hN underlying35 0 tyS3 (q 3)) rfl (c (la hN 35 tyS3 (q 9)) rfl (c (eqlI (L rfl) (q 8) (q 10)) rfl (c (mv hN (q 11)) rfl (c (oq hN 12 (fo 1002 2 [2] hN underlying35 2 tyS27 (q 2)) (OptL.keep (by rfl) OptL.nil) (GuardV.plain _)) rfl (c (oq hN 12 (la hN 35 tyS27 (q 13)) (OptL.opt OptL.nil) (GuardV.plain _)) rfl (c (oq hN 12 (fo 1003 2 [2] hN underlying35 2 tyS27 (q 3)) (OptL.keep (by rfl) OptL.nil) (GuardV.plain _)) rfl (c (oq hN 12 (la hN 35 tyS27 (q 15)) (OptL.opt OptL.nil) (GuardV.plain _)) rfl (c (oq hN 12 (OpJ.eqlD (h:=2) (FitE.st underlying27 rfl held27 (FitF.cons (x:=(.bool a0.fNext.fV6)) (y:=(.bool a1.fNext.fV6)) (by decide) rfl tyS4 ⟨rfl,rfl⟩ ⟨rfl,rfl⟩ (FitE.bool (h:=0) a0.fNext.fV6 a1.fNext.fV6 underlying4) (FitF.cons (x:=(.int .u64 a0.fNext.fHi)) (y:=(.int .u64 a1.fNext.fHi)) (by decide) rfl tyS25 ⟨rfl,rfl⟩ ⟨rfl,rfl⟩ (FitE.int (h:=0) a0.fNext.fHi a1.fNext.fHi underlying25) (FitF.cons (x:=(.int .u64 a0.fNext.fLo)) (y:=(.int .u64 a1.fNext.fLo)) (by decide) rfl tyS25 ⟨rfl,rfl⟩ ⟨rfl,rfl⟩ (FitE.int (h:=0) a0.fNext.fLo a1.fNext.fLo underlying25) FitF.nil)))) eqg27 ⟨rfl,rfl⟩ (by rfl) (L rfl) (q 14) (q 16)) (OptL.opt (OptL.opt OptL.nil)) (GuardV.plain _)) rfl (c (pickAnd rfl (L rfl) (q 12) (q 17)) rfl (c (mv hN (q 18)) rfl (c (oq hN 19 (fo 1002 5 [3] hN underlying35 5 tyS3 (q 2)) (OptL.keep (by rfl) OptL.nil) (GuardV.plain _)) rfl (c (oq hN 19 (la hN 35 tyS3 (q 20)) (OptL.opt OptL.nil) (GuardV.plain _)) rfl (c (oq hN 19 (fo 1003 5 [3] hN underlying35 5 tyS3 (q 3)) (OptL.keep (by rfl) OptL.nil) (GuardV.plain _)) rfl (c (oq hN 19 (la hN 35 tyS3 (q 22)) (OptL.opt OptL.nil) (GuardV.plain _)) rfl (c (oq hN 19 (eqlI (L rfl) (q 21) (q 23)) (OptL.opt (OptL.opt OptL.nil)) (GuardV.plain _)) rfl (c (pickAnd rfl (L rfl) (q 19) (q 24)) rfl (c (mv hN (q 25)) rfl (c (oq hN 26 (fo 1002 6 [4] hN underlying35 6 tyS3 (q 2)) (OptL.keep (by rfl) OptL.nil) (GuardV.plain _)) rfl (c (oq hN 26 (la hN 35 tyS3 (q 27)) (OptL.opt OptL.nil) (GuardV.plain _)) rfl (c (oq hN 26 (fo 1003 6 [4] hN underlying35 6 tyS3 (q 3)) (OptL.keep (by rfl) OptL.nil) (GuardV.plain _)) rfl (c (oq hN 26 (la hN 35 tyS3 (q 29)) (OptL.opt OptL.nil) (GuardV.plain _)) rfl (c (oq hN 26 (eqlI (L rfl) (q 28) (q 30)) (OptL.opt (OptL.opt OptL.nil)) (GuardV.plain _)) rfl (c (pickAnd rfl (L rfl) (q 26) (q 31)) rfl (c (mv hN (q 32)) rfl (c (oq hN 33 (fo 1002 7 [5] hN underlying35 7 tyS3 (q 2)) (OptL.keep (by rfl) OptL.nil) (GuardV.plain _)) rfl (c (oq hN 33 (la hN 35 tyS3 (q 34)) (OptL.opt OptL.nil) (GuardV.plain _)) rfl (c (oq hN 33 (fo 1003 7 [5] hN underlying35 7 tyS3 (q 3)) (OptL.keep (by rfl) OptL.nil) (GuardV.plain _)) rfl (c (oq hN 33 (la hN 35 tyS3 (q 36)) (OptL.opt OptL.nil) (GuardV.plain _)) rfl (c (oq hN 33 (eqlI (L rfl) (q 35) (q 37)) (OptL.opt (OptL.opt OptL.nil)) (GuardV.plain _)) rfl (c (pickAnd rfl (L rfl) (q 33) (q 38)) rfl (c (OpJ.val (v':=.d (.bool false)) (by rw [hg11]<;>rfl) (mv hN (q 39))) rfl (ks 40 (L rfl) (ks 40 (L rfl) (ks 40 (L rfl) (ks 40 (L rfl) (ks 40 (L rfl) (ks 40 (L rfl) (c (pickF (L rfl) (q 40) (Opd.bool false)) rfl (c (mv hN (q 47)) rfl (ks 48 (L rfl) (ks 48 (L rfl) (ks 48 (L rfl) (ks 48 (L rfl) (ks 48 (L rfl) (c (pickF (L rfl) (q 48) (Opd.bool false)) rfl (c (mv hN (q 54)) rfl (ks 55 (L rfl) (ks 55 (L rfl) (ks 55 (L rfl) (ks 55 (L rfl) (ks 55 (L rfl) (c (pickF (L rfl) (q 55) (Opd.bool false)) rfl (c (mv hN (q 61)) rfl (ks 62 (L rfl) (ks 62 (L rfl) (ks 62 (L rfl) (ks 62 (L rfl) (ks 62 (L rfl) (ks 62 (L rfl) (c (pickF (L rfl) (q 62) (Opd.bool false)) rfl (c (assign (L rfl) (q 69)) rfl cn))))))))))))))))))))))))))))))))))))))))))))))))))))))))))))))))
   exact hjj10 _ h _ _ (mp [] _ _ hB)
def A0a (a0:C5) (a1:A6):Option (Bool) :=
 (A0w a0.fattrs a1.fRoute.fAttrs).bind fun r1 =>
 some r1
theorem A7j (a0:C5) (a1:A6) (r:Bool) (h:A0a a0 a1=some r):AC Tryz.prog 31 [(.d (C8 a0)),(.dptr (E7 a1))] [] (.d (.bool r)) []:=by
 refine AC.of_code2 Tryz.func31 rfl rfl (Nat.le_of_ble_eq_true (by rfl)) fun B hB hN => ?_
 delta A0a at h
 refine sr (SQ tt) ?_
 obtain⟨r1,hr1,h⟩:=bindS h
 refine sr (SQ (fa (cl [] (A9l a0.fattrs a1.fRoute.fAttrs r1 hr1)) tt)) ?_
 apply AWp.ret
 obtain rfl:=oi h
 exact rt (kp [(3,_)] [] hB rfl rfl (by rfl)) [(bo r1)] (Res.tmp (by rfl) (by rfl) Res.nil) rfl
def L3 (a0:(List C5)) (a1:A6) (s1:Int):Option (((Int)⊕(Unit))⊕(Int)) :=
 (if (decide (s1<(a0.length:Int)))=true then
 (idx a0 s1).bind fun x13 =>
 (A0a x13 a1).bind fun r14 =>
 (if r14=true then
 some (.inl (.inl s1))
 else
 some (.inr (w64 (s1+1))))
 else
 some (.inl (.inr ())))
def Q0 (a0:(List C5)) (a1:A6):Option (Int) :=
 (loop (L3 a0 a1) 0).bind fun x16=>match x16 with
 | (.inl p10) =>
  some p10
 | (.inr _) =>
  some (-1)
theorem A52 (a0:(List C5)) (a1:A6) (r:Int) (h:Q0 a0 a1=some r):AC Tryz.prog 30 [(.d (.list 12 (a0.map C8))),(.func 31 [(.dptr (E7 a1))])] [] (.d (.int .i64 r)) []:=by
 refine AC.of_code2 Tryz.func30 rfl rfl (Nat.le_of_ble_eq_true (by rfl)) fun B hB hN => ?_
 delta Q0 at h
 refine sr (SQ tt) ?_
 apply AWp.seq
 refine sr (SQ tt) ?_
 apply AWp.block
 obtain⟨x16,hx17,h⟩:=bindS h
 refine lg (L3 a0 a1) (fun s1:Int=>([(0,(.d (.list 12 (a0.map C8)))),(1,(.func 31 [(.dptr (E7 a1))])),(7,(i6 (a0.length:Int))),(8,(i6 s1))]:EL)) (fun s1:Int=>([]:OL)) (fun(x:(Int)⊕(Unit)) e E' O'=>match x with | (.inl p10)=>e = .ret∧Mat B E' O' ([(4,(i6 p10))]:EL) ([]:OL) | (.inr _p)=>e = .exit 0∧Mat B E' O' ([]:EL) ([]:OL)) hx17 (mp [] _ _ hB) (fun s1 y h => ?_) (fun e E' O' hR => ?_)
 ·unfold L3 at h
  refine sr (SQ tt) ?_
  apply AWp.seq
  apply AWp.cond rfl<;>intro hg12
  ·have h:=A3 hg12 h
   apply AWp.skip
   apply A0
   apply AWp.seq
   apply AWp.block
   refine sr (SQ tt) ?_
   obtain⟨x13,hx13,h⟩:=bindS h
   obtain⟨r14,hr14,h⟩:=bindS h
   refine sr (SQ (fa hx13 (fa (cl [] (A7j x13 a1 r14 hr14)) tt))) ?_
   apply AWp.cond rfl<;>intro hg15
   ·have h:=A3 hg15 h
    refine sr (SQ tt) ?_
    apply AWp.ret
    apply D5
    apply B5
    obtain rfl:=oi h
    exact⟨(fun hc=>by cases hc),rfl,(mp [] _ _ hB)⟩
   ·have h:=A4 hg15 h
    apply AWp.skip
    apply E4
    apply A0
    refine rg (SQ tt) ?_
    obtain rfl:=oi h
    exact⟨rfl,(mp [] _ _ hB)⟩
  ·have h:=A4 hg12 h
   apply AWp.exit
   apply E5
   obtain rfl:=oi h
   exact⟨(fun hc=>by cases hc),rfl,(mp [] _ _ hB)⟩
 ·rcases x16 with p10 | _
  ·obtain⟨rfl,hmat⟩:=hR
   apply D5
   apply B5
   obtain rfl:=oi h
   exact rt (Mat.trans hmat (mp [] [(4,(i6 p10))] [] hB)) [(i6 p10)] (Res.tmp (by rfl) (by rfl) Res.nil) rfl
  ·obtain⟨rfl,hmat⟩:=hR
   apply C2
   apply A0
   refine AWp.ghost hmat ?_
   refine sr (SQ tt) ?_
   apply AWp.ret
   obtain rfl:=oi h
   exact rt (kp [(4,_)] [] hB rfl rfl (by rfl)) [(i6 (-1))] (Res.tmp (by rfl) (by rfl) Res.nil) rfl
def A1g (a0:C5) (a1:Bool) (s1:Int×(List D2)) (s88:Int):Option (((Int))⊕(Int)) :=
 jn (fun m116:Bool =>
 (if m116=true then
 some (.inr (w64 (s88+1)))
 else
 some (.inl s88))) (fun j117 =>
 (if (decide (s88<(a0.fprefixes.length:Int)))=true then
 chk ((decide (0≤s1.1)&&decide (0≤(w64 (s88+1)))&&decide (s1.1.toNat≤(w64 (s88+1)).toNat)&&decide ((w64 (s88+1)).toNat≤a0.fprefixes.length))) <|
 (H7 a0.fattrs ((a0.fprefixes.take ((w64 (s88+1)).toNat)).drop s1.1.toNat) a1).bind fun r121 =>
 (M4 r121).bind fun r122 =>
 j117 r122
 else
 j117 false))
def A1h (a0:C5) (a1:Bool) (s1:Int×(List D2)):Option ((((List D2)))⊕(Int×(List D2))) :=
 (if (decide (s1.1<(a0.fprefixes.length:Int)))=true then
 (loop (A1g a0 a1 s1) (w64 (s1.1+1))).bind fun p111 =>
 chk ((decide (0≤s1.1)&&decide (0≤p111)&&decide (s1.1.toNat≤p111.toNat)&&decide (p111.toNat≤a0.fprefixes.length))) <|
 (H7 a0.fattrs ((a0.fprefixes.take p111.toNat).drop s1.1.toNat) a1).bind fun r126 =>
 chk (decide ((s1.2++[r126]).length≤LIM)) <|
 some (.inr (p111,(s1.2++[r126])))
 else
 some (.inl s1.2))
def S0 (a0:C5) (a1:Bool):Option ((List D2)) :=
 (loop (A1h a0 a1) (0,([]:List D2))).bind fun p86 =>
 some p86
theorem A9m (a0:C5) (a1:Bool) (r:(List D2)) (h:S0 a0 a1=some r):AC Tryz.prog 33 [(.d (C8 a0)),(.d (.bool a1))] [(500,(.know (globD 0 (.imap gv0))))] (.d (.list 13 (r.map C4))) [(500,some (.know (globD 0 (.imap gv0))))]:=by
 refine ac2 Tryz.func33 rfl rfl fun B hB hN L => ?_
 delta S0 at h
 refine sr (SQ tt) ?_
 refine sr (SQ tt) ?_
 apply AWp.seq
 refine sr (SQ tt) ?_
 apply AWp.block
 obtain⟨p86,hx129,h⟩:=bindS h
 refine lg (A1h a0 a1) (fun s1:Int×(List D2)=>([(1,(bo a1)),(2,(pt 1002)),(5,(.sref 3005 13 0 s1.2.length)),(6,(i6 s1.1))]:EL)) (fun s1:Int×(List D2)=>([(500,some (.know (globD 0 (.imap gv0)))),(1002,bd 79 (C8 a0)),(3005,some (F6 s1.2))]:OL)) (fun(p86:((List D2))) e E' O'=>e = .exit 0∧Mat B E' O' ([(5,(.sref 3005 13 0 p86.length))]:EL) ([(500,some (.know (globD 0 (.imap gv0)))),(3005,some (F6 p86))]:OL)) hx129 (Mat.trans (Mat.beginP (n:=3005) (e:=61) (sz:=13) (Ts:=[(5,(.sref 3005 13 0 0))]) (Bs:=[]) hB (by decide) (by rfl) (by decide) (TwT.cons (x:=.nils) (by rfl) (Tw.leaf ⟨rfl,rfl⟩) TwT.nil) TwB.nil) (mp [] _ _ hB)) (fun s1 y h => ?_) (fun e E' O' hR => ?_)
 ·unfold A1h at h
  apply AWp.seq
  refine sr (SQ tt) ?_
  apply AWp.cond rfl<;>intro hg87
  ·have h:=A3 hg87 h
   apply AWp.skip
   apply A0
   apply AWp.block
   refine sr (SQ tt) ?_
   apply AWp.seq
   apply AWp.block
   obtain⟨p111,hx124,h⟩:=bindS h
   refine lg (A1g a0 a1 s1) (fun s88:Int=>([(1,(bo a1)),(2,(pt 1002)),(5,(.sref 3005 13 0 s1.2.length)),(6,(i6 s1.1)),(7,(i6 s88))]:EL)) (fun s88:Int=>([(500,some (.know (globD 0 (.imap gv0)))),(1002,bd 79 (C8 a0)),(3005,some (F6 s1.2))]:OL)) (fun(p111:(Int)) e E' O'=>e = .exit 2∧Mat B E' O' ([(1,(bo a1)),(2,(pt 1002)),(5,(.sref 3005 13 0 s1.2.length)),(6,(i6 s1.1)),(7,(i6 p111))]:EL) ([(500,some (.know (globD 0 (.imap gv0)))),(1002,bd 79 (C8 a0)),(3005,some (F6 s1.2))]:OL)) hx124 (mp [] _ _ hB) (fun s88 y h => ?_) (fun e E' O' hR => ?_)
   ·unfold A1g at h
    apply AWp.seq
    apply AWp.seq
    refine AWp.cut h (fun m116:Bool=>([(1,(bo a1)),(2,(pt 1002)),(5,(.sref 3005 13 0 s1.2.length)),(6,(i6 s1.1)),(7,(i6 s88)),(32,(bo m116))]:EL)) (fun m116:Bool=>([(500,some (.know (globD 0 (.imap gv0)))),(1002,bd 79 (C8 a0)),(3005,some (F6 s1.2))]:OL)) (fun m116 h E' O' hmat => ?_) (fun j117 hjj117 h => ?_)
    ·apply A0
     refine AWp.ghost hmat ?_
     apply AWp.cond rfl<;>intro hg118
     ·have h:=A3 hg118 h
      apply AWp.skip
      apply A0
      apply AWp.block
      refine rg (SQ tt) ?_
      apply E4
      obtain rfl:=oi h
      exact⟨rfl,(mp [] _ _ hB)⟩
     ·have h:=A4 hg118 h
      apply AWp.exit
      apply E5
      obtain rfl:=oi h
      exact⟨(fun hc=>by cases hc),rfl,(mp [] _ _ hB)⟩
    ·rcases bft (decide (s88<(a0.fprefixes.length:Int))) with hg119 | hg119
     ·have h:=A3 hg119 h
      obtain⟨hc120,h⟩:=B6 h
      obtain⟨r121,hr121,h⟩:=bindS h
      obtain⟨r122,hr122,h⟩:=bindS h
      refine AWp.draws (by kernel_rfl) (oc (mv hN (ot 7 (i6 s88)))
       (oc (ov (.ptr 1002 11 [1]) (fp hN underlying79 11 tyS59 (.box 79 (.d (C8 a0))) (ot 2 (pt 1002))))
       (oc (lb hN 79 (.d (C8 a0)) (D6 a0.fprefixes) tyS59 (ad (.list 4 (a0.fprefixes.map A7))) (ot 16 (.ptr 1002 11 [1])))
       (oc (OpJ.val (v':=(i6 (a0.fprefixes.length:Int))) (by simp) (lenD underlying59 (L rfl) (ot 17 (D6 a0.fprefixes))))
       (oc (lss (L rfl) (ot 15 (i6 s88)) (ot 18 (i6 (a0.fprefixes.length:Int))))
       (oc (OpJ.val (v':=.d (.bool true)) (by rw [hg119]<;>rfl) (mv hN (ot 19 (bo (decide (s88<(a0.fprefixes.length:Int)))))))
       (oc (gd 20 (ov (.ptr 1002 0 [0]) (fp hN underlying79 0 tyS35 (.box 79 (.d (C8 a0))) (ot 2 (pt 1002)))))
       (oc (gd 20 (lb hN 79 (.d (C8 a0)) (.d (B1 a0.fattrs)) tyS35 (ad (B1 a0.fattrs)) (ot 21 (.ptr 1002 0 [0]))))
       (oc (gd 20 (ov (.ptr 1002 11 [1]) (fp hN underlying79 11 tyS59 (.box 79 (.d (C8 a0))) (ot 2 (pt 1002)))))
       (oc (gd 20 (lb hN 79 (.d (C8 a0)) (D6 a0.fprefixes) tyS59 (ad (.list 4 (a0.fprefixes.map A7))) (ot 23 (.ptr 1002 11 [1]))))
       (oc (gd 20 (mv hN (ot 6 (i6 s1.1))))
       (oc (gd 20 (mv hN (ot 7 (i6 s88))))
       (oc (gd 20 (add6 (L rfl) (ot 26 (i6 s88)) (ii 1)))
       (oc (gd 20 (OpJ.cutD underlying59 tyS29 (es:=a0.fprefixes.map A7) (es':=((a0.fprefixes.take ((w64 (s88+1)).toNat)).drop s1.1.toNat).map A7) (l:=s1.1.toNat) (h:=(w64 (s88+1)).toNat) (.inr ⟨_,_,_,rfl,(ot 25 (i6 s1.1)),(of_decide_eq_true (F9 (F9 (F9 hc120)))),rfl⟩) (.inr ⟨_,_,_,rfl,(ot 27 (i6 (w64 (s88+1)))),(of_decide_eq_true (J2 (F9 (F9 hc120)))),rfl⟩) (of_decide_eq_true (J2 (F9 hc120))) (by first | (simp;done) | simpa using (of_decide_eq_true (J2 hc120))) (by first | rw [List.map_drop,List.map_take] | (simp [List.map_take,List.map_drop];done) | simp [List.take_of_length_le]) (L rfl) (ot 24 (D6 a0.fprefixes))))
       (oc (gd 20 (mv hN (ot 1 (bo a1))))
       (oc (gd 20 (OpJ.callFn hB fnOk53 (V4 a0.fattrs ((a0.fprefixes.take ((w64 (s88+1)).toNat)).drop s1.1.toNat) a1 r121 hr121) [] (by kernel_rfl) (L rfl) (by kernel_rfl) (OpdL.cons (ot 22 (.d (B1 a0.fattrs))) (OpdL.cons (ot 28 (D6 ((a0.fprefixes.take ((w64 (s88+1)).toNat)).drop s1.1.toNat))) (OpdL.cons (ot 29 (bo a1)) OpdL.nil)))))
       (oc (gd 20 (OpJ.callFn hB fnOk52 (A2o r121 r122 hr122) [(500,500)] (by kernel_rfl) (L rfl) (by kernel_rfl) (OpdL.cons (ot 30 (.d (C4 r121))) OpdL.nil)))
       (oc (pickT (L rfl) (ot 20 (bo true)) (ot 31 (bo r122)))
       (OpJs.nil))))))))))))))))))) (by kernel_rfl) (by rfl) (by rfl) ?_
      exact hjj117 _ h _ _ (mp [] _ _ hB)
     ·have h:=A4 hg119 h
      refine drS (SQ (fa hg119 tt)) ?_
      exact hjj117 _ h _ _ (mp [] _ _ hB)
   ·obtain⟨rfl,hmat⟩:=hR
    apply C2
    apply A0
    refine AWp.ghost hmat ?_
    obtain⟨hc125,h⟩:=B6 h
    obtain⟨r126,hr126,h⟩:=bindS h
    obtain⟨hc127,h⟩:=B6 h
    apply sd (c (mv hN (q 5)) rfl (c (fo 1002 0 [0] hN underlying79 0 tyS35 (q 2)) rfl (c (la hN 79 tyS35 (q 36)) rfl (c (fo 1002 11 [1] hN underlying79 11 tyS59 (q 2)) rfl (c (la hN 79 tyS59 (q 38)) rfl (c (mv hN (q 6)) rfl (c (mv hN (q 7)) rfl (c (OpJ.cutD underlying59 tyS29 (es':=((a0.fprefixes.take p111.toNat).drop s1.1.toNat).map A7) (l:=s1.1.toNat) (h:=p111.toNat) (.inr ⟨_,_,_,rfl,(ot 40 (i6 s1.1)),(of_decide_eq_true (F9 (F9 (F9 hc125)))),rfl⟩) (.inr ⟨_,_,_,rfl,(ot 41 (i6 p111)),(of_decide_eq_true (J2 (F9 (F9 hc125)))),rfl⟩) (of_decide_eq_true (J2 (F9 hc125))) (by first | (simp;done) | simpa using (of_decide_eq_true (J2 hc125))) (by first | rw [List.map_drop,List.map_take] | (simp [List.map_take,List.map_drop];done) | simp [List.take_of_length_le]) (L rfl) (q 39)) rfl (c (mv hN (q 1)) rfl (cg (cf hB fnOk53 (V4 a0.fattrs ((a0.fprefixes.take p111.toNat).drop s1.1.toNat) a1 r126 hr126) (L rfl) (OpdL.cons (q 37) (OpdL.cons (q 42) (OpdL.cons (q 43) OpdL.nil)))) rfl (c (buildSlice underlying47 tyS61 tyZD61 (by rfl) (by decide) (by decide) (Opds.cons (q 44) Opds.nil) (by kernel_rfl) (es:=([(C4 r126)]:List D)) (by rfl) (by rfl) (by kernel_rfl) (by simp) (L rfl)) rfl (cg (apd hB underlying47 tyE61 1046 C4 s1.2 [r126] hc127 (L rfl) (q 35) (q 45)) rfl (c (assign (L rfl) (q 46)) rfl cn))))))))))))) (by kernel_rfl) (by kernel_rfl)
    refine rg (SQ tt) ?_
    apply E4
    obtain rfl:=oi h
    exact⟨rfl,(mp [(3005,1046)] _ _ hB)⟩
  ·have h:=A4 hg87 h
   apply AWp.exit
   apply E5
   obtain rfl:=oi h
   exact⟨(fun hc=>by cases hc),rfl,(mp [] _ _ hB)⟩
 ·obtain⟨rfl,hmat⟩:=hR
  apply C2
  apply A0
  refine AWp.ghost hmat ?_
  refine sr (SQ tt) ?_
  apply AWp.ret
  obtain rfl:=oi h
  exact rt (Mat.trans (Mat.freezeP (n:=3005) (e:=61) (sz:=13) (es:=p86.map C4) (Ts:=[(4,(E9 p86))]) (Bs:=[]) (by rfl) (TwT.cons (x:=(.sref 3005 13 0 p86.length)) (by rfl) (FrzL.all (by first | rfl | (simp;done) | (simp;omega) | omega)) TwT.nil) TwB.nil) (mp [] [(4,(E9 p86))] [(500,some (.know (globD 0 (.imap gv0))))] hB)) [(E9 p86)] (Res.tmp (by rfl) (by rfl) Res.nil) rfl
def A1y (a0:C5) (a1:Bool) (s1:Int×(List D2)) (s88:Int):Option (((Int))⊕(Int)) :=
 jn (fun m116:Bool =>
 (if m116=true then
 some (.inr (w64 (s88+1)))
 else
 some (.inl s88))) (fun j117 =>
 (if (decide (s88<(a0.fprefixes.length:Int)))=true then
 chk ((decide (0≤s1.1)&&decide (0≤(w64 (s88+1)))&&decide (s1.1.toNat≤(w64 (s88+1)).toNat)&&decide ((w64 (s88+1)).toNat≤a0.fprefixes.length))) <|
 (H7 a0.fattrs ((a0.fprefixes.take ((w64 (s88+1)).toNat)).drop s1.1.toNat) a1).bind fun r121 =>
 (M4 r121).bind fun r122 =>
 j117 r122
 else
 j117 false))
def A1z (a0:C5) (a1:Bool) (s1:Int×(List D2)):Option ((((List D2)))⊕(Int×(List D2))) :=
 (if (decide (s1.1<(a0.fprefixes.length:Int)))=true then
 (loop (A1y a0 a1 s1) (w64 (s1.1+1))).bind fun p111 =>
 chk ((decide (0≤s1.1)&&decide (0≤p111)&&decide (s1.1.toNat≤p111.toNat)&&decide (p111.toNat≤a0.fprefixes.length))) <|
 (H7 a0.fattrs ((a0.fprefixes.take p111.toNat).drop s1.1.toNat) a1).bind fun r126 =>
 chk (decide ((s1.2++[r126]).length≤LIM)) <|
 some (.inr (p111,(s1.2++[r126])))
 else
 some (.inl s1.2))
def A0b (a0:C5) (a1:Bool):Option ((List D2)) :=
 (loop (A1z a0 a1) (0,([]:List D2))).bind fun p86 =>
 some p86
theorem A7k (a0:C5) (a1:Bool) (r:(List D2)) (h:A0b a0 a1=some r):AC Tryz.prog 33 [(.d (C8 a0)),(.d (.bool a1))] [(500,(.know (globD 0 (.imap gv0))))] (.sref 900000 13 0 r.length) [(500,some (.know (globD 0 (.imap gv0)))),(900000,some (.row 61 13 (r.map C4)))]:=by
 refine ac2 Tryz.func33 rfl rfl fun B hB hN L => ?_
 delta A0b at h
 refine sr (SQ tt) ?_
 refine sr (SQ tt) ?_
 apply AWp.seq
 refine sr (SQ tt) ?_
 apply AWp.block
 obtain⟨p86,hx129,h⟩:=bindS h
 refine lg (A1z a0 a1) (fun s1:Int×(List D2)=>([(1,(bo a1)),(2,(pt 1002)),(5,(.sref 3005 13 0 s1.2.length)),(6,(i6 s1.1))]:EL)) (fun s1:Int×(List D2)=>([(500,some (.know (globD 0 (.imap gv0)))),(1002,bd 79 (C8 a0)),(3005,some (F6 s1.2))]:OL)) (fun(p86:((List D2))) e E' O'=>e = .exit 0∧Mat B E' O' ([(5,(.sref 3005 13 0 p86.length))]:EL) ([(500,some (.know (globD 0 (.imap gv0)))),(3005,some (F6 p86))]:OL)) hx129 (Mat.trans (Mat.beginP (n:=3005) (e:=61) (sz:=13) (Ts:=[(5,(.sref 3005 13 0 0))]) (Bs:=[]) hB (by decide) (by rfl) (by decide) (TwT.cons (x:=.nils) (by rfl) (Tw.leaf ⟨rfl,rfl⟩) TwT.nil) TwB.nil) (mp [] _ _ hB)) (fun s1 y h => ?_) (fun e E' O' hR => ?_)
 ·unfold A1z at h
  apply AWp.seq
  refine sr (SQ tt) ?_
  apply AWp.cond rfl<;>intro hg87
  ·have h:=A3 hg87 h
   apply AWp.skip
   apply A0
   apply AWp.block
   refine sr (SQ tt) ?_
   apply AWp.seq
   apply AWp.block
   obtain⟨p111,hx124,h⟩:=bindS h
   refine lg (A1y a0 a1 s1) (fun s88:Int=>([(1,(bo a1)),(2,(pt 1002)),(5,(.sref 3005 13 0 s1.2.length)),(6,(i6 s1.1)),(7,(i6 s88))]:EL)) (fun s88:Int=>([(500,some (.know (globD 0 (.imap gv0)))),(1002,bd 79 (C8 a0)),(3005,some (F6 s1.2))]:OL)) (fun(p111:(Int)) e E' O'=>e = .exit 2∧Mat B E' O' ([(1,(bo a1)),(2,(pt 1002)),(5,(.sref 3005 13 0 s1.2.length)),(6,(i6 s1.1)),(7,(i6 p111))]:EL) ([(500,some (.know (globD 0 (.imap gv0)))),(1002,bd 79 (C8 a0)),(3005,some (F6 s1.2))]:OL)) hx124 (mp [] _ _ hB) (fun s88 y h => ?_) (fun e E' O' hR => ?_)
   ·unfold A1y at h
    apply AWp.seq
    apply AWp.seq
    refine AWp.cut h (fun m116:Bool=>([(1,(bo a1)),(2,(pt 1002)),(5,(.sref 3005 13 0 s1.2.length)),(6,(i6 s1.1)),(7,(i6 s88)),(32,(bo m116))]:EL)) (fun m116:Bool=>([(500,some (.know (globD 0 (.imap gv0)))),(1002,bd 79 (C8 a0)),(3005,some (F6 s1.2))]:OL)) (fun m116 h E' O' hmat => ?_) (fun j117 hjj117 h => ?_)
    ·apply A0
     refine AWp.ghost hmat ?_
     apply AWp.cond rfl<;>intro hg118
     ·have h:=A3 hg118 h
      apply AWp.skip
      apply A0
      apply AWp.block
      refine rg (SQ tt) ?_
      apply E4
      obtain rfl:=oi h
      exact⟨rfl,(mp [] _ _ hB)⟩
     ·have h:=A4 hg118 h
      apply AWp.exit
      apply E5
      obtain rfl:=oi h
      exact⟨(fun hc=>by cases hc),rfl,(mp [] _ _ hB)⟩
    ·rcases bft (decide (s88<(a0.fprefixes.length:Int))) with hg119 | hg119
     ·have h:=A3 hg119 h
      obtain⟨hc120,h⟩:=B6 h
      obtain⟨r121,hr121,h⟩:=bindS h
      obtain⟨r122,hr122,h⟩:=bindS h
      refine AWp.draws (by kernel_rfl) (oc (mv hN (ot 7 (i6 s88)))
       (oc (ov (.ptr 1002 11 [1]) (fp hN underlying79 11 tyS59 (.box 79 (.d (C8 a0))) (ot 2 (pt 1002))))
       (oc (lb hN 79 (.d (C8 a0)) (D6 a0.fprefixes) tyS59 (ad (.list 4 (a0.fprefixes.map A7))) (ot 16 (.ptr 1002 11 [1])))
       (oc (OpJ.val (v':=(i6 (a0.fprefixes.length:Int))) (by simp) (lenD underlying59 (L rfl) (ot 17 (D6 a0.fprefixes))))
       (oc (lss (L rfl) (ot 15 (i6 s88)) (ot 18 (i6 (a0.fprefixes.length:Int))))
       (oc (OpJ.val (v':=.d (.bool true)) (by rw [hg119]<;>rfl) (mv hN (ot 19 (bo (decide (s88<(a0.fprefixes.length:Int)))))))
       (oc (gd 20 (ov (.ptr 1002 0 [0]) (fp hN underlying79 0 tyS35 (.box 79 (.d (C8 a0))) (ot 2 (pt 1002)))))
       (oc (gd 20 (lb hN 79 (.d (C8 a0)) (.d (B1 a0.fattrs)) tyS35 (ad (B1 a0.fattrs)) (ot 21 (.ptr 1002 0 [0]))))
       (oc (gd 20 (ov (.ptr 1002 11 [1]) (fp hN underlying79 11 tyS59 (.box 79 (.d (C8 a0))) (ot 2 (pt 1002)))))
       (oc (gd 20 (lb hN 79 (.d (C8 a0)) (D6 a0.fprefixes) tyS59 (ad (.list 4 (a0.fprefixes.map A7))) (ot 23 (.ptr 1002 11 [1]))))
       (oc (gd 20 (mv hN (ot 6 (i6 s1.1))))
       (oc (gd 20 (mv hN (ot 7 (i6 s88))))
       (oc (gd 20 (add6 (L rfl) (ot 26 (i6 s88)) (ii 1)))
       (oc (gd 20 (OpJ.cutD underlying59 tyS29 (es:=a0.fprefixes.map A7) (es':=((a0.fprefixes.take ((w64 (s88+1)).toNat)).drop s1.1.toNat).map A7) (l:=s1.1.toNat) (h:=(w64 (s88+1)).toNat) (.inr ⟨_,_,_,rfl,(ot 25 (i6 s1.1)),(of_decide_eq_true (F9 (F9 (F9 hc120)))),rfl⟩) (.inr ⟨_,_,_,rfl,(ot 27 (i6 (w64 (s88+1)))),(of_decide_eq_true (J2 (F9 (F9 hc120)))),rfl⟩) (of_decide_eq_true (J2 (F9 hc120))) (by first | (simp;done) | simpa using (of_decide_eq_true (J2 hc120))) (by first | rw [List.map_drop,List.map_take] | (simp [List.map_take,List.map_drop];done) | simp [List.take_of_length_le]) (L rfl) (ot 24 (D6 a0.fprefixes))))
       (oc (gd 20 (mv hN (ot 1 (bo a1))))
       (oc (gd 20 (OpJ.callFn hB fnOk53 (V4 a0.fattrs ((a0.fprefixes.take ((w64 (s88+1)).toNat)).drop s1.1.toNat) a1 r121 hr121) [] (by kernel_rfl) (L rfl) (by kernel_rfl) (OpdL.cons (ot 22 (.d (B1 a0.fattrs))) (OpdL.cons (ot 28 (D6 ((a0.fprefixes.take ((w64 (s88+1)).toNat)).drop s1.1.toNat))) (OpdL.cons (ot 29 (bo a1)) OpdL.nil)))))
       (oc (gd 20 (OpJ.callFn hB fnOk52 (A2o r121 r122 hr122) [(500,500)] (by kernel_rfl) (L rfl) (by kernel_rfl) (OpdL.cons (ot 30 (.d (C4 r121))) OpdL.nil)))
       (oc (pickT (L rfl) (ot 20 (bo true)) (ot 31 (bo r122)))
       (OpJs.nil))))))))))))))))))) (by kernel_rfl) (by rfl) (by rfl) ?_
      exact hjj117 _ h _ _ (mp [] _ _ hB)
     ·have h:=A4 hg119 h
      refine drS (SQ (fa hg119 tt)) ?_
      exact hjj117 _ h _ _ (mp [] _ _ hB)
   ·obtain⟨rfl,hmat⟩:=hR
    apply C2
    apply A0
    refine AWp.ghost hmat ?_
    obtain⟨hc125,h⟩:=B6 h
    obtain⟨r126,hr126,h⟩:=bindS h
    obtain⟨hc127,h⟩:=B6 h
    apply sd (c (mv hN (q 5)) rfl (c (fo 1002 0 [0] hN underlying79 0 tyS35 (q 2)) rfl (c (la hN 79 tyS35 (q 36)) rfl (c (fo 1002 11 [1] hN underlying79 11 tyS59 (q 2)) rfl (c (la hN 79 tyS59 (q 38)) rfl (c (mv hN (q 6)) rfl (c (mv hN (q 7)) rfl (c (OpJ.cutD underlying59 tyS29 (es':=((a0.fprefixes.take p111.toNat).drop s1.1.toNat).map A7) (l:=s1.1.toNat) (h:=p111.toNat) (.inr ⟨_,_,_,rfl,(ot 40 (i6 s1.1)),(of_decide_eq_true (F9 (F9 (F9 hc125)))),rfl⟩) (.inr ⟨_,_,_,rfl,(ot 41 (i6 p111)),(of_decide_eq_true (J2 (F9 (F9 hc125)))),rfl⟩) (of_decide_eq_true (J2 (F9 hc125))) (by first | (simp;done) | simpa using (of_decide_eq_true (J2 hc125))) (by first | rw [List.map_drop,List.map_take] | (simp [List.map_take,List.map_drop];done) | simp [List.take_of_length_le]) (L rfl) (q 39)) rfl (c (mv hN (q 1)) rfl (cg (cf hB fnOk53 (V4 a0.fattrs ((a0.fprefixes.take p111.toNat).drop s1.1.toNat) a1 r126 hr126) (L rfl) (OpdL.cons (q 37) (OpdL.cons (q 42) (OpdL.cons (q 43) OpdL.nil)))) rfl (c (buildSlice underlying47 tyS61 tyZD61 (by rfl) (by decide) (by decide) (Opds.cons (q 44) Opds.nil) (by kernel_rfl) (es:=([(C4 r126)]:List D)) (by rfl) (by rfl) (by kernel_rfl) (by simp) (L rfl)) rfl (cg (apd hB underlying47 tyE61 1046 C4 s1.2 [r126] hc127 (L rfl) (q 35) (q 45)) rfl (c (assign (L rfl) (q 46)) rfl cn))))))))))))) (by kernel_rfl) (by kernel_rfl)
    refine rg (SQ tt) ?_
    apply E4
    obtain rfl:=oi h
    exact⟨rfl,(mp [(3005,1046)] _ _ hB)⟩
  ·have h:=A4 hg87 h
   apply AWp.exit
   apply E5
   obtain rfl:=oi h
   exact⟨(fun hc=>by cases hc),rfl,(mp [] _ _ hB)⟩
 ·obtain⟨rfl,hmat⟩:=hR
  apply C2
  apply A0
  refine AWp.ghost hmat ?_
  refine sr (SQ tt) ?_
  apply AWp.ret
  obtain rfl:=oi h
  exact rt (mp [(900000,3005)] [(4,(.sref 900000 13 0 p86.length))] [(500,some (.know (globD 0 (.imap gv0)))),(900000,some (F6 p86))] hB) [(.sref 900000 13 0 p86.length)] (Res.tmp (by rfl) (by rfl) Res.nil) rfl
end
end Go.Proofs.YtkhjkjojjdkidaaGreatDoor
