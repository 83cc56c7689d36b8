/- Printed by gen.py: the Go functions as plain functions, and that the code does what they say. -/
import Derived.Test.YtplbaenjbihekaaGreatDoorChecked
import Derived.Test.YtplbaenjbihekaaGreatDoorVcYB
import Derived.Test.YtplbaenjbihekaaGreatDoorVcZ
import Derived.Test.YtplbaenjbihekaaGreatDoorVcGC
import Derived.KernelRfl
import Derived.Test.YtplbaenjbihekaaGreatDoorVcMD
import Derived.Test.YtplbaenjbihekaaGreatDoorVcMQ
import Derived.Test.YtplbaenjbihekaaGreatDoorVcSG
import Derived.Test.YtplbaenjbihekaaGreatDoorFnsA
import Derived.Test.YtplbaenjbihekaaGreatDoorExt
import Derived.Test.YtplbaenjbihekaaGreatDoorVcPm
import Derived.Test.YtplbaenjbihekaaGreatDoorVcRg
import Derived.Test.YtplbaenjbihekaaGreatDoorVcSt
import Derived.Test.YtplbaenjbihekaaGreatDoorVcMR
namespace Go.Proofs.YtplbaenjbihekaaGreatDoor
open Go Go.Vc
open Tryz
open Go.Vc.OpJ (assign alloc lss pickT pickF extract lenD indexD loadD eqlI gtr callVal leq geq loadR nilP indexS buildSlice lenS fieldD neqI pickAnd pickOr)
open Go.Vc.AWp (seq ghost ret block)
set_option maxHeartbeats 4000000
set_option maxRecDepth 100000
noncomputable section
def O7 (a0:(List A3)):Option (List A3):=sortF a0 fun x y=>K5 x y
theorem A00 (a0:(List A3)) (r:List A3) (h:O7 a0=some r):AC Tryz.prog 167 [.sref 0 3 0 a0.length,.func 182 []] [(0,.row 78 3 (a0.map B6))] (.tup []) [(0,some (.row 78 3 (r.map B6)))]:=
 AC.sortF B6 (fun x y=>K5 x y) a0 r h sortOk167 fnOk182 (fun _=>rfl) rfl rfl (fun x y c hc=>A8m x y c hc)
def A0n (a1:(List A2)) (a2:Bool) (p:Int×(List Int)):Option (List Int⊕(Int×(List Int))):=
 (if (decide (p.1<(a1.length:Int)))=true then
 (idx a1 p.1).bind fun i=>
 jn (fun u:(List Int)=>
 some (.inr (w64 (p.1+1),u))) (fun t=>
 (if (i.fAddr.fV6==a2)=true then
 chk (decide ((p.2++([IntKind.u8.wrap i.fLen]:List Int)).length≤LIM))<|
 (A08 i.fAddr).bind fun s=>
 chk (decide (0≤(w64 (Int.tdiv (w64 (i.fLen+7)) 8)))&&decide (0≤(w64 (Int.tdiv (w64 (i.fLen+7)) 8)).toNat)&&decide ((w64 (Int.tdiv (w64 (i.fLen+7)) 8)).toNat≤s.length))<|
 chk (decide (((p.2++([IntKind.u8.wrap i.fLen]:List Int))++((s.take ((w64 (Int.tdiv (w64 (i.fLen+7)) 8)).toNat)).drop 0)).length≤LIM))<|
 t ((p.2++([IntKind.u8.wrap i.fLen]:List Int))++((s.take ((w64 (Int.tdiv (w64 (i.fLen+7)) 8)).toNat)).drop 0))
 else
 t p.2))
 else
 some (.inl p.2))
def A09 (a0:(List Int)) (a1:(List A2)) (a2:Bool):Option (List Int):=
 (loop (A0n a1 a2) (0,a0)).bind fun i=>
 some i
theorem A7u (a0:(List Int)) (a1:(List A2)) (a2:Bool) (r:(List Int)) (h:A09 a0 a1 a2=some r):AC Tryz.prog 157 [.sref 0 1 0 a0.length,.d (.list 4 (a1.map B0)),.d (.bool a2)] [(0,.row 5 1 (a0.map (eI .u8)))] (.d (.list 1 (r.map (eI .u8)))) [(0,none)]:=by
 refine ac2 Tryz.func157 rfl rfl fun B hB hN L => ?_;delta A09 at h;refine sr (SQ tt) ?_;apply seq;refine sr (SQ tt) ?_;apply block;obtain⟨i,J,h⟩:=bindS h;refine lg (A0n a1 a2) (fun p:Int×(List Int)=>([(0,.sref 3000 1 0 p.2.length),(2,bo a2),(9,F8 a1),(10,i6 (a1.length:Int)),(11,i6 p.1)]:EL)) (fun p:Int×(List Int)=>([(3000,some (.row 5 1 (p.2.map (eI .u8))))]:OL)) (fun(i:(List Int)) e t u=>e = .exit 0∧Mat B t u ([(0,.sref 3000 1 0 i.length)]:EL) ([(3000,some (.row 5 1 (i.map (eI .u8))))]:OL)) J (mp [(3000,0)] _ _ hB) (fun p y h => ?_) (fun e t u hR => ?_)
 ·unfold A0n at h;refine sr (SQ tt) ?_;apply seq;apply AWp.cond rfl<;>intro C
  ·have h:=A5 C h;apply AWp.skip;apply A0;apply seq;apply block;obtain⟨K,M,h⟩:=bindS h;refine sr (SQ (fa M tt)) ?_;refine sr (SQ tt) ?_;refine gh [(0,_),(2,_),(8,_),(9,_),(10,_),(11,_),(19,_)] [(1008,some _),(3000,some _)] hB rfl rfl (by rfl) ?_;refine AWp.cut h (fun s:(List Int)=>([(0,.sref 3000 1 0 s.length),(2,bo a2),(9,F8 a1),(10,i6 (a1.length:Int)),(11,i6 p.1)]:EL)) (fun s:(List Int)=>([(3000,some (.row 5 1 (s.map (eI .u8))))]:OL)) (fun s h t u A => ?_) (fun P E h => ?_)
   ·apply D7;apply A0;refine ghost A ?_;refine rg (SQ tt) ?_;obtain rfl:=oi h;exact⟨rfl,mp [] _ _ hB⟩
   ·apply AWp.cond rfl<;>intro F
    ·have h:=A5 F h;obtain⟨G,h⟩:=B2 h;have hc41_o:=G;simp only [decide_eq_true_eq] at hc41_o;obtain⟨N,O,h⟩:=bindS h;obtain⟨H,h⟩:=B2 h;have hc43_o:=H;simp only [Bool.and_eq_true,decide_eq_true_eq] at hc43_o;obtain⟨I,h⟩:=B2 h;have hc44_o:=I;simp only [decide_eq_true_eq] at hc44_o;refine drS (SQ (fa G (fa (cl [] (A4n K.fAddr N O)) (fa H (fa I tt))))) ?_;exact E _ h _ _ (mp [(3000,1034)] _ _ hB)
    ·have h:=A6 F h;apply AWp.skip;exact E _ h _ _ (mp [] _ _ hB)
  ·have h:=A6 C h;apply AWp.exit;apply D6;obtain rfl:=oi h;exact⟨nofun,rfl,mp [] _ _ hB⟩
 ·obtain⟨rfl,A⟩:=hR;apply B9;apply A0;refine ghost A ?_;refine sr (SQ tt) ?_;apply ret;obtain rfl:=oi h;exact rt (Mat.trans (Mat.freezeP (n:=3000) (e:=5) (sz:=1) (es:=i.map (eI .u8)) (Ts:=[(6,.d (.list 1 (i.map (eI .u8))))]) (Bs:=[]) (by rfl) (TwT.cons (x:=(.sref 3000 1 0 i.length)) (by rfl) (FrzL.all (by first | rfl | (simp;done) | (simp;omega) | omega)) TwT.nil) TwB.nil) (mp [] [(6,.d (.list 1 (i.map (eI .u8))))] [] hB)) [.d (.list 1 (i.map (eI .u8)))] (rT rN) rfl
def K9 (a0:C2) (i:Int×(List A3)):Option (List A3⊕(Int×(List A3))):=
 (if (decide (i.1<(a0.fOther.length:Int)))=true then
 (idx a0.fOther i.1).bind fun p=>
 (A10 p.fData).bind fun s=>
 chk (decide ((i.2++[A3.mk p.fFlags p.fType s]).length≤LIM))<|
 some (.inr (w64 (i.1+1),(i.2++[A3.mk p.fFlags p.fType s])))
 else
 some (.inl i.2))
def L9 (a0:C2):Option ((List A3)×Int):=
 (J4 a0).bind fun s=>
 (if (!s)=true then
 some (([]:List A3),1)
 else
 (L8 (a0.fOrigin != (-1)) 1 ([IntKind.u8.wrap a0.fOrigin]:List Int)).bind fun t=>
 (T6 a0.fPath).bind fun u=>
 (F4 ((a0.fOrigin != (-1)) || (decide (0<(a0.fPath.length:Int)))) 2 u t).bind fun A=>
 (A08 a0.fNext).bind fun C=>
 (F4 ((!a0.fNext.fV6)&&(!((a0.fNext.fV6==false)&&((a0.fNext.fHi==0)&&((a0.fNext.fLo==0)&&true))))) 3 C A).bind fun E=>
 (R4 ([a0.fMED]:List Int)).bind fun F=>
 (F4 (a0.fMED != (-1)) 4 F E).bind fun G=>
 (R4 ([a0.fPref]:List Int)).bind fun H=>
 (F4 (a0.fPref != (-1)) 5 H G).bind fun I=>
 (I3 a0.fCommunities).bind fun J=>
 (F4 (decide (0<(a0.fCommunities.length:Int))) 8 J I).bind fun K=>
 (R5 a0.fLarge).bind fun M=>
 (F4 (decide (0<(a0.fLarge.length:Int))) 32 M K).bind fun N=>
 (R4 ([a0.fOTC]:List Int)).bind fun O=>
 (F4 (a0.fOTC != (-1)) 35 O N).bind fun P=>
 (loop (K9 a0) (0,P)).bind fun i=>
 (O7 i).bind fun p=>
 chk (decide (p.length=i.length))<|
 some (p,0))
theorem A8n (a0:C2) (r:(List A3)×Int) (h:L9 a0=some r):AC Tryz.prog 165 [.d (C8 a0)] Zz10 (.tup [.sref 900000 3 0 r.1.length,.d (.int .i64 r.2)]) [(500,some (.know (globD 0 (.imap gv0)))),(900000,some (.row 78 3 (r.1.map B6)))]:=by
 refine ac2 Tryz.func165 rfl rfl fun B hB hN L => ?_;delta L9 at h;refine sr (SQ tt) ?_;apply seq;apply seq;obtain⟨I,X,h⟩:=bindS h;refine rg (SQ (fa (cl [(500,500)] (A2u a0 I X)) tt)) ?_;apply A0;refine ghost (mp [] [(1,pt 1001),(10,bo (!I))] [(500,some (.know (globD 0 (.imap gv0)))),(1001,bd 39 (C8 a0))] hB) ?_;apply AWp.cond rfl<;>intro J
 ·have h:=A5 J h;refine sr (SQ tt) ?_;apply ret;apply B8;obtain rfl:=oi h;exact rt (Mat.trans (Mat.beginP (n:=900500) (e:=78) (sz:=3) (Ts:=[(2,.sref 900500 3 0 0)]) (Bs:=[]) hB (by decide) (by rfl) (by decide) (TwT.cons (x:=.nils) (by rfl) (Tw.leaf ⟨rfl,rfl⟩) TwT.nil) TwB.nil) (Mat.trans (Mat.lenP (Ts:=[(2,.sref 900500 3 0 (([]:List A3).length))]) (Bs:=[]) (TwT.cons (x:=(.sref 900500 3 0 0)) (by rfl) (Tw.leaf ⟨_,_,_,_,_,rfl,rfl,(by first | rfl | (simp;done) | (simp;omega) | omega)⟩) TwT.nil) TwB.nil) (mp [(900000,900500)] [(2,.sref 900000 3 0 (([]:List A3).length)),(3,i6 1)] [(500,some (.know (globD 0 (.imap gv0)))),(900000,some (E0 ([]:List A3)))] hB))) [.sref 900000 3 0 (([]:List A3).length),i6 1] (rT (rT rN)) rfl
 ·have h:=A6 J h;apply AWp.skip;apply A0;refine sr (SQ tt) ?_;apply sr (cg (OpJ.makeF (OpdL.cons (q 4) OpdL.nil) rfl rfl (L rfl)) rfl (c (assign (L rfl) (q 11)) rfl cn));apply seq;obtain⟨t,Y,h⟩:=bindS h;refine rg (SQ (fa (cl [(0,1004),(500,500),(950000,100100)] (A8l (a0.fOrigin != (-1)) 1 ([IntKind.u8.wrap a0.fOrigin]:List Int) t Y)) tt)) ?_;apply A0;refine ghost (mp [] [(1,pt 1001),(4,pt 1004),(5,.func 176 [pt 1004])] [(500,some (.know (globD 0 (.imap gv0)))),(1001,bd 39 (C8 a0)),(1004,some (.box 37 (.sref 100100 3 0 t.length))),(100100,some (E0 t))] hB) ?_;apply seq;obtain⟨K,Z,h⟩:=bindS h;obtain⟨u,aa,h⟩:=bindS h;refine drS (SQ (fa (cl [] (B05 a0.fPath K Z)) (fa (cl [(0,1004),(1,100100),(500,500),(950000,100300)] (H8 ((a0.fOrigin != (-1)) || (decide (0<(a0.fPath.length:Int)))) 2 K t u aa)) tt))) ?_;apply A0;refine ghost (mp [] [(1,pt 1001),(4,pt 1004),(5,.func 176 [pt 1004])] [(500,some (.know (globD 0 (.imap gv0)))),(1001,bd 39 (C8 a0)),(1004,some (.box 37 (.sref 100300 3 0 u.length))),(100300,some (E0 u))] hB) ?_;apply seq;obtain⟨M,ab,h⟩:=bindS h;obtain⟨A,ac,h⟩:=bindS h;refine drS (SQ (fa (cl [] (A4n a0.fNext M ab)) (fa (cl [(0,1004),(1,100300),(500,500),(950000,100500)] (H8 ((!a0.fNext.fV6)&&(!((a0.fNext.fV6==false)&&((a0.fNext.fHi==0)&&((a0.fNext.fLo==0)&&true))))) 3 M u A ac)) tt))) ?_;apply A0;refine ghost (mp [] [(1,pt 1001),(4,pt 1004),(5,.func 176 [pt 1004])] [(500,some (.know (globD 0 (.imap gv0)))),(1001,bd 39 (C8 a0)),(1004,some (.box 37 (.sref 100500 3 0 A.length))),(100500,some (E0 A))] hB) ?_;apply seq;obtain⟨N,ae,h⟩:=bindS h;obtain⟨C,af,h⟩:=bindS h;refine drS (SQ (fa (cl [] (A2w ([a0.fMED]:List Int) N ae)) (fa (cl [(0,1004),(1,100500),(500,500),(950000,100700)] (H8 (a0.fMED != (-1)) 4 N A C af)) tt))) ?_;apply A0;refine ghost (mp [] [(1,pt 1001),(4,pt 1004),(5,.func 176 [pt 1004])] [(500,some (.know (globD 0 (.imap gv0)))),(1001,bd 39 (C8 a0)),(1004,some (.box 37 (.sref 100700 3 0 C.length))),(100700,some (E0 C))] hB) ?_;apply seq;obtain⟨O,ag,h⟩:=bindS h;obtain⟨E,ah,h⟩:=bindS h;refine drS (SQ (fa (cl [] (A2w ([a0.fPref]:List Int) O ag)) (fa (cl [(0,1004),(1,100700),(500,500),(950000,100900)] (H8 (a0.fPref != (-1)) 5 O C E ah)) tt))) ?_;apply A0;refine ghost (mp [] [(1,pt 1001),(4,pt 1004),(5,.func 176 [pt 1004])] [(500,some (.know (globD 0 (.imap gv0)))),(1001,bd 39 (C8 a0)),(1004,some (.box 37 (.sref 100900 3 0 E.length))),(100900,some (E0 E))] hB) ?_;apply seq;obtain⟨P,ai,h⟩:=bindS h;obtain⟨F,aj,h⟩:=bindS h;refine drS (SQ (fa (cl [] (A6t a0.fCommunities P ai)) (fa (cl [(0,1004),(1,100900),(500,500),(950000,101100)] (H8 (decide (0<(a0.fCommunities.length:Int))) 8 P E F aj)) tt))) ?_;apply A0;refine ghost (mp [] [(1,pt 1001),(4,pt 1004),(5,.func 176 [pt 1004])] [(500,some (.know (globD 0 (.imap gv0)))),(1001,bd 39 (C8 a0)),(1004,some (.box 37 (.sref 101100 3 0 F.length))),(101100,some (E0 F))] hB) ?_;apply seq;obtain⟨Q,ak,h⟩:=bindS h;obtain⟨G,al,h⟩:=bindS h;refine drS (SQ (fa (cl [] (A9o a0.fLarge Q ak)) (fa (cl [(0,1004),(1,101100),(500,500),(950000,101300)] (H8 (decide (0<(a0.fLarge.length:Int))) 32 Q F G al)) tt))) ?_;apply A0;refine ghost (mp [] [(1,pt 1001),(4,pt 1004),(5,.func 176 [pt 1004])] [(500,some (.know (globD 0 (.imap gv0)))),(1001,bd 39 (C8 a0)),(1004,some (.box 37 (.sref 101300 3 0 G.length))),(101300,some (E0 G))] hB) ?_;apply seq;obtain⟨R,am,h⟩:=bindS h;obtain⟨H,an,h⟩:=bindS h;refine drS (SQ (fa (cl [] (A2w ([a0.fOTC]:List Int) R am)) (fa (cl [(0,1004),(1,101300),(500,500),(950000,101500)] (H8 (a0.fOTC != (-1)) 35 R G H an)) tt))) ?_;apply A0;refine ghost (mp [] [(1,pt 1001),(4,pt 1004)] [(500,some (.know (globD 0 (.imap gv0)))),(1001,bd 39 (C8 a0)),(1004,some (.box 37 (.sref 101500 3 0 H.length))),(101500,some (E0 H))] hB) ?_;apply seq;refine sr (SQ tt) ?_;apply block;obtain⟨i,ao,h⟩:=bindS h;refine lg (K9 a0) (fun s:Int×(List A3)=>([(4,pt 1004),(96,C6 a0.fOther),(97,i6 (a0.fOther.length:Int)),(98,i6 s.1)]:EL)) (fun s:Int×(List A3)=>([(500,some (.know (globD 0 (.imap gv0)))),(1004,some (.box 37 (.sref 4004 3 0 s.2.length))),(4004,some (E0 s.2))]:OL)) (fun(i:(List A3)) e S T=>e = .exit 0∧Mat B S T ([(4,pt 1004)]:EL) ([(500,some (.know (globD 0 (.imap gv0)))),(1004,some (.box 37 (.sref 4004 3 0 i.length))),(4004,some (E0 i))]:OL)) ao (mp [(4004,101500)] _ _ hB) (fun s y h => ?_) (fun e S T hR => ?_)
  ·unfold K9 at h;refine sr (SQ tt) ?_;apply seq;apply AWp.cond rfl<;>intro U
   ·have h:=A5 U h;apply AWp.skip;apply A0;apply seq;apply block;obtain⟨ap,aq,h⟩:=bindS h;refine sr (SQ (fa aq tt)) ?_;obtain⟨ar,au,h⟩:=bindS h;refine sr (SQ (fa (cl [] (A6u ap.fData ar au)) tt)) ?_;obtain⟨av,h⟩:=B2 h;refine rg (SQ (fa av tt)) ?_;apply D7;apply A0;refine rg (SQ tt) ?_;obtain rfl:=oi h;exact⟨rfl,mp [(4004,1109)] _ _ hB⟩
   ·have h:=A6 U h;apply AWp.exit;apply D6;obtain rfl:=oi h;exact⟨nofun,rfl,mp [] _ _ hB⟩
  ·obtain⟨rfl,aw⟩:=hR;apply B9;apply A0;refine ghost aw ?_;apply seq;obtain⟨p,ax,h⟩:=bindS h;obtain⟨W,h⟩:=B2 h;have lhc35:=of_decide_eq_true W;have hc35_o:=of_decide_eq_true W;refine rg (SQ (fa (cl [(0,4004)] (A00 i p ax)) tt)) ?_;apply A0;refine ghost (mp [] [(4,pt 1004)] [(500,some (.know (globD 0 (.imap gv0)))),(1004,some (.box 37 (.sref 4004 3 0 i.length))),(4004,some (E0 p))] hB) ?_;refine sr (SQ tt) ?_;apply ret;obtain rfl:=oi h;exact rt (Mat.trans (Mat.lenP (Ts:=[(2,.sref 4004 3 0 p.length)]) (Bs:=[]) (TwT.cons (x:=(.sref 4004 3 0 i.length)) (by rfl) (Tw.leaf ⟨_,_,_,_,_,rfl,rfl,(by first | rfl | (simp;done) | (simp;omega) | omega)⟩) TwT.nil) TwB.nil) (mp [(900000,4004)] [(2,.sref 900000 3 0 p.length),(3,i6 0)] [(500,some (.know (globD 0 (.imap gv0)))),(900000,some (E0 p))] hB)) [.sref 900000 3 0 p.length,i6 0] (rT (rT rN)) rfl
def A3p (a0:(List A2)) (a1:Bool) (p:Int×(List Int)):Option (List Int⊕(Int×(List Int))):=
 (if (decide (p.1<(a0.length:Int)))=true then
 (idx a0 p.1).bind fun i=>
 jn (fun u:(List Int)=>
 some (.inr (w64 (p.1+1),u))) (fun t=>
 (if (i.fAddr.fV6==a1)=true then
 chk (decide ((p.2++([IntKind.u8.wrap i.fLen]:List Int)).length≤LIM))<|
 (A08 i.fAddr).bind fun s=>
 chk (decide (0≤(w64 (Int.tdiv (w64 (i.fLen+7)) 8)))&&decide (0≤(w64 (Int.tdiv (w64 (i.fLen+7)) 8)).toNat)&&decide ((w64 (Int.tdiv (w64 (i.fLen+7)) 8)).toNat≤s.length))<|
 chk (decide (((p.2++([IntKind.u8.wrap i.fLen]:List Int))++((s.take ((w64 (Int.tdiv (w64 (i.fLen+7)) 8)).toNat)).drop 0)).length≤LIM))<|
 t ((p.2++([IntKind.u8.wrap i.fLen]:List Int))++((s.take ((w64 (Int.tdiv (w64 (i.fLen+7)) 8)).toNat)).drop 0))
 else
 t p.2))
 else
 some (.inl p.2))
def Q4 (a0:(List A2)) (a1:Bool):Option (List Int):=
 (loop (A3p a0 a1) (0,([]:List Int))).bind fun i=>
 some i
theorem A6g (a0:(List A2)) (a1:Bool) (r:(List Int)) (h:Q4 a0 a1=some r):AC Tryz.prog 157 [.nils,.d (.list 4 (a0.map B0)),.d (.bool a1)] [] (.d (.list 1 (r.map (eI .u8)))) []:=by
 refine ac2 Tryz.func157 rfl rfl fun B hB hN L => ?_;delta Q4 at h;refine sr (SQ tt) ?_;apply seq;refine sr (SQ tt) ?_;apply block;obtain⟨i,G,h⟩:=bindS h;refine lg (A3p a0 a1) (fun p:Int×(List Int)=>([(0,.sref 3000 1 0 p.2.length),(2,bo a1),(9,F8 a0),(10,i6 (a0.length:Int)),(11,i6 p.1)]:EL)) (fun p:Int×(List Int)=>([(3000,some (.row 5 1 (p.2.map (eI .u8))))]:OL)) (fun(i:(List Int)) e t u=>e = .exit 0∧Mat B t u ([(0,.sref 3000 1 0 i.length)]:EL) ([(3000,some (.row 5 1 (i.map (eI .u8))))]:OL)) G (Mat.trans (Mat.beginP (n:=3000) (e:=5) (sz:=1) (Ts:=[(0,.sref 3000 1 0 0)]) (Bs:=[]) hB (by decide) (by rfl) (by decide) (TwT.cons (x:=.nils) (by rfl) (Tw.leaf ⟨rfl,rfl⟩) TwT.nil) TwB.nil) (mp [] _ _ hB)) (fun p y h => ?_) (fun e t u hR => ?_)
 ·unfold A3p at h;refine sr (SQ tt) ?_;apply seq;apply AWp.cond rfl<;>intro C
  ·have h:=A5 C h;apply AWp.skip;apply A0;apply seq;apply block;obtain⟨H,I,h⟩:=bindS h;refine sr (SQ (fa I tt)) ?_;refine sr (SQ tt) ?_;refine gh [(0,_),(2,_),(8,_),(9,_),(10,_),(11,_),(19,_)] [(1008,some _),(3000,some _)] hB rfl rfl (by rfl) ?_;refine AWp.cut h (fun s:(List Int)=>([(0,.sref 3000 1 0 s.length),(2,bo a1),(9,F8 a0),(10,i6 (a0.length:Int)),(11,i6 p.1)]:EL)) (fun s:(List Int)=>([(3000,some (.row 5 1 (s.map (eI .u8))))]:OL)) (fun s h t u A => ?_) (fun P E h => ?_)
   ·apply D7;apply A0;refine ghost A ?_;refine rg (SQ tt) ?_;obtain rfl:=oi h;exact⟨rfl,mp [] _ _ hB⟩
   ·apply AWp.cond rfl<;>intro F
    ·have h:=A5 F h;obtain⟨J,h⟩:=B2 h;obtain⟨K,M,h⟩:=bindS h;obtain⟨N,h⟩:=B2 h;obtain⟨O,h⟩:=B2 h;refine drS (SQ (fa J (fa (cl [] (A4n H.fAddr K M)) (fa N (fa O tt))))) ?_;exact E _ h _ _ (mp [(3000,1034)] _ _ hB)
    ·have h:=A6 F h;apply AWp.skip;exact E _ h _ _ (mp [] _ _ hB)
  ·have h:=A6 C h;apply AWp.exit;apply D6;obtain rfl:=oi h;exact⟨nofun,rfl,mp [] _ _ hB⟩
 ·obtain⟨rfl,A⟩:=hR;apply B9;apply A0;refine ghost A ?_;refine sr (SQ tt) ?_;apply ret;obtain rfl:=oi h;exact rt (Mat.trans (Mat.freezeP (n:=3000) (e:=5) (sz:=1) (es:=i.map (eI .u8)) (Ts:=[(6,.d (.list 1 (i.map (eI .u8))))]) (Bs:=[]) (by rfl) (TwT.cons (x:=(.sref 3000 1 0 i.length)) (by rfl) (FrzL.all (by first | rfl | (simp;done) | (simp;omega) | omega)) TwT.nil) TwB.nil) (mp [] [(6,.d (.list 1 (i.map (eI .u8))))] [] hB)) [.d (.list 1 (i.map (eI .u8)))] (rT rN) rfl
def A0x (a0:A3) (a1:A3):Option (Int):=
 (K4 a0.fType a1.fType).bind fun i=>
 some i
theorem B0o (a0:A3) (a1:A3) (r:Int) (h:A0x a0 a1=some r):AC Tryz.prog 168 [.d (B6 a0),.d (B6 a1)] [] (.d (.int .i64 r)) []:=by
 refine AC.of_code2 Tryz.func168 rfl rfl (Nat.le_of_ble_eq_true (by rfl)) fun B hB hN => ?_;delta A0x at h;refine sr (SQ tt) ?_;obtain⟨i,p,h⟩:=bindS h;refine sr (SQ (fa (cl [] (L6 a0.fType a1.fType i p)) tt)) ?_;apply ret;obtain rfl:=oi h;exact rt (kp [(4,_)] [] hB rfl rfl (by rfl)) [i6 i] (rT rN) rfl
def K3 (a0:(List A3)):Option (List A3):=sortF a0 fun x y=>A0x x y
theorem A13 (a0:(List A3)) (r:List A3) (h:K3 a0=some r):AC Tryz.prog 167 [.sref 0 3 0 a0.length,.func 168 []] [(0,.row 78 3 (a0.map B6))] (.tup []) [(0,some (.row 78 3 (r.map B6)))]:=
 AC.sortF B6 (fun x y=>A0x x y) a0 r h sortOk167 fnOk168 (fun _=>rfl) rfl rfl (fun x y c hc=>B0o x y c hc)
def A01 (a0:A7):Option (List A3):=
 (L9 a0.fAttrs).bind fun p=>
 jn (fun s:(List A3)=>
 (Q4 a0.fWithdraw true).bind fun i=>
 jn (fun t:(List A3)=>
 (K3 t).bind fun A=>
 chk (decide (A.length=t.length))<|
 some ((A.drop 0).take t.length)) (fun C=>
 (if (decide (0<(i.length:Int)))=true then
 chk (decide ((([0,2,1]:List Int)++i).length≤LIM))<|
 chk (decide ((s++([A3.mk 128 15 (([0,2,1]:List Int)++i)]:List A3)).length≤LIM))<|
 C (s++([A3.mk 128 15 (([0,2,1]:List Int)++i)]:List A3))
 else
 C s))) (fun E=>
 (if ((decide (0<(a0.fAnnounce.length:Int)))&&a0.fAttrs.fNext.fV6)=true then
 (A08 a0.fAttrs.fNext).bind fun u=>
 chk (decide ((([0,2,1,16]:List Int)++u).length≤LIM))<|
 chk (decide (((([0,2,1,16]:List Int)++u)++([0]:List Int)).length≤LIM))<|
 (A09 ((([0,2,1,16]:List Int)++u)++([0]:List Int)) a0.fAnnounce true).bind fun F=>
 chk (decide ((p.1++[A3.mk 128 14 F]).length≤LIM))<|
 E (p.1++[A3.mk 128 14 F])
 else
 E p.1))
theorem B30 (a0:A7) (r:(List A3)) (h:A01 a0=some r):AC Tryz.prog 156 [.d (E6 a0)] Zz10 (.d (.list 3 (r.map B6))) Zz3:=by
 refine ac2 Tryz.func156 rfl rfl fun B hB hN L => ?_;delta A01 at h;refine sr (SQ tt) ?_;apply seq;obtain⟨u,J,h⟩:=bindS h;refine rg (SQ (fa (cl [(500,500),(900000,100000)] (A8n a0.fAttrs u J)) tt)) ?_;apply A0;refine ghost (mp [] [(1,pt 1001),(3,.sref 100000 3 0 u.1.length)] [(500,some (.know (globD 0 (.imap gv0)))),(1001,bd 71 (E6 a0)),(100000,some (E0 u.1))] hB) ?_;apply seq;refine sr (SQ tt) ?_;refine gh [(1,_),(3,_),(22,_)] [(500,some _),(1001,some _),(100000,some _)] hB rfl rfl (by rfl) ?_;refine AWp.cut h (fun t:(List A3)=>([(1,pt 1001),(3,.sref 3003 3 0 t.length)]:EL)) (fun t:(List A3)=>([(500,some (.know (globD 0 (.imap gv0)))),(1001,bd 71 (E6 a0)),(3003,some (E0 t))]:OL)) (fun t h K M A => ?_) (fun Y E h => ?_)
 ·apply A0;refine ghost A ?_;apply seq;obtain⟨p,N,h⟩:=bindS h;refine sr (SQ (fa (cl [] (A6g a0.fWithdraw true p N)) tt)) ?_;refine sr (SQ tt) ?_;refine gh [(3,_),(6,_),(44,_)] [(500,some _),(3003,some _)] hB rfl rfl (by rfl) ?_;refine AWp.cut h (fun i:(List A3)=>([(3,.sref 3003 3 0 i.length)]:EL)) (fun i:(List A3)=>([(500,some (.know (globD 0 (.imap gv0)))),(3003,some (E0 i))]:OL)) (fun i h K M A => ?_) (fun Z F h => ?_)
  ·apply A0;refine ghost A ?_;apply seq;obtain⟨s,O,h⟩:=bindS h;obtain⟨G,h⟩:=B2 h;have lhc18:=of_decide_eq_true G;have hc18_o:=of_decide_eq_true G;refine rg (SQ (fa (cl [(0,3003)] (A13 i s O)) tt)) ?_;apply A0;refine ghost (mp [] [(3,.sref 3003 3 0 i.length)] [(500,some (.know (globD 0 (.imap gv0)))),(3003,some (E0 s))] hB) ?_;refine sr (SQ tt) ?_;apply ret;obtain rfl:=oi h;exact rt (Mat.trans (Mat.freezeP (n:=3003) (e:=78) (sz:=3) (es:=s.map B6) (Ts:=[(2,C6 ((s.drop 0).take i.length))]) (Bs:=[]) (by rfl) (TwT.cons (x:=(.sref 3003 3 0 i.length)) (by rfl) (FrzL.cut (fs:=((s.drop 0).take i.length).map B6) (by simp only [List.length_map,List.length_append,List.length_take,List.length_drop,List.length_replicate,List.length_set];omega) (by first | rw [List.map_drop,List.map_take] | (simp [List.map_take,List.map_drop];done) | simp [List.take_of_length_le])) TwT.nil) TwB.nil) (mp [] [(2,C6 ((s.drop 0).take i.length))] Zz3 hB)) [C6 ((s.drop 0).take i.length)] (rT rN) rfl
  ·apply AWp.cond rfl<;>intro H
   ·have h:=A5 H h;obtain⟨P,h⟩:=B2 h;obtain⟨Q,h⟩:=B2 h;apply rg (c (mv hN (q 3)) rfl (cg (OpJ.buildSliceR underlying76 tyS5 tyZD5 (by rfl) (by decide) (by decide) hB (nm:=1046) (by decide) (len:=([0,2,1]:List Int).length) (by rfl) (Opds.cons (Opd.int .u8 (0)) (Opds.cons (Opd.int .u8 (2)) (Opds.cons (Opd.int .u8 (1)) Opds.nil))) (by kernel_rfl) (es:=([0,2,1]:List Int).map (eI .u8)) (by rfl) (by rfl) (by kernel_rfl) (by simp) (L rfl)) rfl (c (mv hN (q 6)) rfl (cg (OpJ.frz (apd hB underlying76 tyE5 1048 (eI .u8) ([0,2,1]:List Int) p P (L rfl) (q 46) (q 47)) (by simp)) rfl (c (OpJ.coe (v:=(.st [i6 128,i6 15,.d (.list 1 ((([0,2,1]:List Int)++p).map (eI .u8)))])) (y:=(.st [.int .i64 128,.int .i64 15,.list 1 ((([0,2,1]:List Int)++p).map (eI .u8))])) (Co.st (CoL.cons (Co.d _) (CoL.cons (Co.d _) (CoL.cons (Co.d _) CoL.nil)))) rfl (OpJ.build (places:=[(0,1),(1,1),(2,1)]) ⟨underlying78,fun w=>by kernel_rfl⟩ tyZS78 (Opds.cons (ii 128) (Opds.cons (ii 15) (Opds.cons (q 48) Opds.nil))) (by kernel_rfl) (r:=(.st [i6 128,i6 15,.d (.list 1 ((([0,2,1]:List Int)++p).map (eI .u8)))])) (by rfl) (L rfl))) rfl (c (buildSlice underlying37 tyS78 tyZD78 (by rfl) (by decide) (by decide) (Opds.cons (q 49) Opds.nil) (by kernel_rfl) (es:=([.st [.int .i64 128,.int .i64 15,.list 1 ((([0,2,1]:List Int)++p).map (eI .u8))]]:List D)) (by rfl) (by rfl) (by kernel_rfl) (by simp) (L rfl)) rfl (cg (apd hB underlying37 tyE78 1051 B6 t ([A3.mk 128 15 (([0,2,1]:List Int)++p)]:List A3) Q (L rfl) (q 45) (q 50)) rfl (c (assign (L rfl) (q 51)) rfl cn))))))));exact F _ h _ _ (mp [(3003,1051)] _ _ hB)
   ·have h:=A6 H h;apply AWp.skip;exact F _ h _ _ (mp [] _ _ hB)
 ·apply AWp.cond rfl<;>intro I
  ·have h:=A5 I h;obtain⟨C,R,h⟩:=bindS h;obtain⟨S,h⟩:=B2 h;apply sr (cg (OpJ.buildSliceR underlying76 tyS5 tyZD5 (by rfl) (by decide) (by decide) hB (nm:=1023) (by decide) (len:=([0,2,1,16]:List Int).length) (by rfl) (Opds.cons (Opd.int .u8 (0)) (Opds.cons (Opd.int .u8 (2)) (Opds.cons (Opd.int .u8 (1)) (Opds.cons (Opd.int .u8 (16)) Opds.nil)))) (by kernel_rfl) (es:=([0,2,1,16]:List Int).map (eI .u8)) (by rfl) (by rfl) (by kernel_rfl) (by simp) (L rfl)) rfl (c (fo 1001 1 [1] hN underlying71 1 tyS39 (q 1)) rfl (c (fo 1001 3 [1,2] hN underlying39 2 tyS31 (q 24)) rfl (c (lb hN 71 _ _ tyS31 (At.dst1 (by rfl) (by rfl) (ad _) (by first | rfl | omega)) (q 25)) rfl (cg (cf hB fnOk166 (A4n a0.fAttrs.fNext C R) (L rfl) (OpdL.cons (q 26) OpdL.nil)) rfl (cg (apd hB underlying76 tyE5 1028 (eI .u8) ([0,2,1,16]:List Int) C S (L rfl) (q 23) (q 27)) rfl (c (assign (L rfl) (q 28)) rfl cn)))))))
   obtain⟨T,h⟩:=B2 h;obtain⟨U,W,h⟩:=bindS h;obtain⟨X,h⟩:=B2 h;refine drS (SQ (fa T (fa (cl [(0,1032)] (A7u ((([0,2,1,16]:List Int)++C)++([0]:List Int)) a0.fAnnounce true U W)) (fa X tt)))) ?_;exact E _ h _ _ (mp [(3003,1038)] _ _ hB)
  ·have h:=A6 I h;apply AWp.skip;exact E _ h _ _ (mp [(3003,100000)] _ _ hB)
def W5 (a0:(List A3)) (i:Int):Option ((Unit⊕Unit)⊕Int):=
 (if (decide (i<(a0.length:Int)))=true then
 (idx a0 i).bind fun p=>
 jn (fun t:Bool=>
 (if t=true then
 some (.inl (.inl ()))
 else
 some (.inr (w64 (i+1))))) (fun s=>
 (G8 p.fFlags 0 255).bind fun u=>
 (if (!u)=true then
 s true
 else
 (G8 p.fType 0 255).bind fun A=>
 s ((!A) || (decide (65535<(p.fData.length:Int))))))
 else
 some (.inl (.inr ())))
def W6 (a0:(List A3)) (p:Int×(List Int)):Option ((Unit⊕List Int)⊕(Int×(List Int))):=
 (if (decide (p.1<(a0.length:Int)))=true then
 (idx a0 p.1).bind fun i=>
 jn (fun s:(List Int)=>
 chk (decide ((s++i.fData).length≤LIM))<|
 (if (decide (2048<((s++i.fData).length:Int)))=true then
 some (.inl (.inl ()))
 else
 some (.inr (w64 (p.1+1),(s++i.fData))))) (fun t=>
 (if (decide (255<(i.fData.length:Int)))=true then
 chk (decide ((p.2++([bitI .or .u8 (bitI .and .u8 (IntKind.u8.wrap i.fFlags) 224) 16,IntKind.u8.wrap i.fType,IntKind.u8.wrap (shrI .i64 (i.fData.length:Int) 8),IntKind.u8.wrap (i.fData.length:Int)]:List Int)).length≤LIM))<|
 t (p.2++([bitI .or .u8 (bitI .and .u8 (IntKind.u8.wrap i.fFlags) 224) 16,IntKind.u8.wrap i.fType,IntKind.u8.wrap (shrI .i64 (i.fData.length:Int) 8),IntKind.u8.wrap (i.fData.length:Int)]:List Int))
 else
 chk (decide ((p.2++([bitI .and .u8 (IntKind.u8.wrap i.fFlags) 224,IntKind.u8.wrap i.fType,IntKind.u8.wrap (i.fData.length:Int)]:List Int)).length≤LIM))<|
 t (p.2++([bitI .and .u8 (IntKind.u8.wrap i.fFlags) 224,IntKind.u8.wrap i.fType,IntKind.u8.wrap (i.fData.length:Int)]:List Int))))
 else
 some (.inl (.inr p.2)))
def A1d (a0:(List A3)):Option ((List Int)×Int):=
 (loop (W5 a0) 0).bind fun i=>match i with
 | (.inl _)=>
  some (([]:List Int),1)
 | (.inr _)=>
  (loop (W6 a0) (0,([]:List Int))).bind fun p=>match p with
  | (.inl _)=>
   some (([]:List Int),3)
  | (.inr s)=>
   some (s,0)
theorem B06 (a0:(List A3)) (r:(List Int)×Int) (h:A1d a0=some r):AC Tryz.prog 155 [.d (.list 3 (a0.map B6))] [] (.tup [.d (.list 1 (r.1.map (eI .u8))),.d (.int .i64 r.2)]) []:=by
 refine ac2 Tryz.func155 rfl rfl fun B hB hN L => ?_;delta A1d at h;refine sr (SQ tt) ?_;apply seq;refine sr (SQ tt) ?_;apply block;obtain⟨R,S,h⟩:=bindS h;refine lg (W5 a0) (fun C:Int=>([(0,C6 a0),(11,C6 a0),(12,i6 (a0.length:Int)),(13,i6 C)]:EL)) (fun C:Int=>([]:OL)) (fun(x:(Unit)⊕Unit) e p s=>match x with | (.inl _p)=>e = .ret∧Mat B p s ([(2,.nils),(3,i6 1)]:EL) ([]:OL) | (.inr _p)=>e = .exit 0∧Mat B p s ([(0,C6 a0)]:EL) ([]:OL)) S (mp [] _ _ hB) (fun C y h => ?_) (fun e p s hR => ?_)
 ·unfold W5 at h;refine sr (SQ tt) ?_;apply seq;apply AWp.cond rfl<;>intro I
  ·have h:=A5 I h;apply AWp.skip;apply A0;apply seq;apply block;obtain⟨F,T,h⟩:=bindS h;refine sr (SQ (fa T tt)) ?_;apply seq;refine AWp.cut h (fun G:Bool=>([(0,C6 a0),(11,C6 a0),(12,i6 (a0.length:Int)),(13,i6 C),(32,bo G)]:EL)) (fun G:Bool=>([]:OL)) (fun G h p s i => ?_) (fun af J h => ?_)
   ·apply A0;refine ghost i ?_;apply AWp.cond rfl<;>intro K
    ·have h:=A5 K h;refine sr (SQ tt) ?_;apply ret;apply D8;apply B8;obtain rfl:=oi h;exact⟨nofun,rfl,mp [] _ _ hB⟩
    ·have h:=A6 K h;apply AWp.skip;apply D7;apply A0;refine rg (SQ tt) ?_;obtain rfl:=oi h;exact⟨rfl,mp [] _ _ hB⟩
   ·obtain⟨H,M,h⟩:=bindS h;rcases bft (!H) with A | A
    ·have h:=A5 A h;refine rg (SQ (fa (cl [] (C7 F.fFlags 0 255 H M)) (fa A tt))) ?_;exact J _ h _ _ (mp [] _ _ hB)
    ·have h:=A6 A h;obtain⟨U,W,h⟩:=bindS h;refine rg (SQ (fa (cl [] (C7 F.fFlags 0 255 H M)) (fa A (fa (cl [] (C7 F.fType 0 255 U W)) tt)))) ?_;exact J _ h _ _ (mp [] _ _ hB)
  ·have h:=A6 I h;apply AWp.exit;apply D6;obtain rfl:=oi h;exact⟨nofun,rfl,mp [] _ _ hB⟩
 ·rcases R with _ | _
  ·obtain⟨rfl,i⟩:=hR;apply D8;apply B8;obtain rfl:=oi h;exact rt (Mat.trans i (Mat.trans (Mat.coeP (Ts:=[(2,.d (.list 1 (([]:List Int).map (eI .u8))))]) (Bs:=[]) (TwT.cons (x:=.nils) (by rfl) (Tw.leaf ⟨_,Co.nils 1,rfl⟩) TwT.nil) TwB.nil) (mp [] [(2,.d (.list 1 (([]:List Int).map (eI .u8)))),(3,i6 1)] [] hB))) [.d (.list 1 (([]:List Int).map (eI .u8))),i6 1] (rT (rT rN)) rfl
  ·obtain⟨rfl,i⟩:=hR;apply B9;apply A0;refine ghost i ?_;refine sr (SQ tt) ?_;apply seq;refine sr (SQ tt) ?_;apply block;obtain⟨X,Y,h⟩:=bindS h;refine lg (W6 a0) (fun u:Int×(List Int)=>([(6,.sref 3006 1 0 u.2.length),(34,C6 a0),(35,i6 (a0.length:Int)),(36,i6 u.1)]:EL)) (fun u:Int×(List Int)=>([(3006,some (.row 5 1 (u.2.map (eI .u8))))]:OL)) (fun(x:(Unit)⊕List Int) e p s=>match x with | (.inl _p)=>e = .ret∧Mat B p s ([(2,.nils),(3,i6 3)]:EL) ([]:OL) | (.inr t)=>e = .exit 2∧Mat B p s ([(6,.sref 3006 1 0 t.length)]:EL) ([(3006,some (.row 5 1 (t.map (eI .u8))))]:OL)) Y (Mat.trans (Mat.beginP (n:=3006) (e:=5) (sz:=1) (Ts:=[(6,.sref 3006 1 0 0)]) (Bs:=[]) hB (by decide) (by rfl) (by decide) (TwT.cons (x:=.nils) (by rfl) (Tw.leaf ⟨rfl,rfl⟩) TwT.nil) TwB.nil) (mp [] _ _ hB)) (fun u y h => ?_) (fun e p s hR => ?_)
   ·unfold W6 at h;refine sr (SQ tt) ?_;apply seq;apply AWp.cond rfl<;>intro N
    ·have h:=A5 N h;apply AWp.skip;apply A0;apply seq;apply block;obtain⟨Z,aa,h⟩:=bindS h;refine sr (SQ (fa aa tt)) ?_;refine sdS (SQ tt) ?_;apply seq;refine sr (SQ tt) ?_;refine gh [(6,_),(8,_),(9,_),(10,_),(34,_),(35,_),(36,_),(48,_)] [(1008,some _),(3006,some _)] hB rfl rfl (by rfl) ?_;refine AWp.cut h (fun E:(List Int)=>([(6,.sref 3006 1 0 E.length),(8,pt 1008),(34,C6 a0),(35,i6 (a0.length:Int)),(36,i6 u.1)]:EL)) (fun E:(List Int)=>([(1008,bd 78 (B6 Z)),(3006,some (.row 5 1 (E.map (eI .u8))))]:OL)) (fun E h p s i => ?_) (fun ag O h => ?_)
     ·apply A0;refine ghost i ?_;obtain⟨ab,h⟩:=B2 h;refine sr (SQ (fa ab tt)) ?_;refine sr (SQ tt) ?_;apply AWp.cond rfl<;>intro P
      ·have h:=A5 P h;refine sr (SQ tt) ?_;apply ret;apply D8;apply B8;obtain rfl:=oi h;exact⟨nofun,rfl,mp [] _ _ hB⟩
      ·have h:=A6 P h;apply AWp.skip;apply D7;apply A0;refine rg (SQ tt) ?_;obtain rfl:=oi h;exact⟨rfl,mp [(3006,1074)] _ _ hB⟩
     ·apply AWp.cond rfl<;>intro Q
      ·have h:=A5 Q h;obtain⟨ac,h⟩:=B2 h;refine rg (SQ (fa ac tt)) ?_;exact O _ h _ _ (mp [(3006,1061)] _ _ hB)
      ·have h:=A6 Q h;obtain⟨ae,h⟩:=B2 h;refine rg (SQ (fa ae tt)) ?_;exact O _ h _ _ (mp [(3006,1070)] _ _ hB)
    ·have h:=A6 N h;apply AWp.exit;apply D6;obtain rfl:=oi h;exact⟨nofun,rfl,mp [] _ _ hB⟩
   ·rcases X with _ | t
    ·obtain⟨rfl,i⟩:=hR;apply D8;apply B8;obtain rfl:=oi h;exact rt (Mat.trans i (Mat.trans (Mat.coeP (Ts:=[(2,.d (.list 1 (([]:List Int).map (eI .u8))))]) (Bs:=[]) (TwT.cons (x:=.nils) (by rfl) (Tw.leaf ⟨_,Co.nils 1,rfl⟩) TwT.nil) TwB.nil) (mp [] [(2,.d (.list 1 (([]:List Int).map (eI .u8)))),(3,i6 3)] [] hB))) [.d (.list 1 (([]:List Int).map (eI .u8))),i6 3] (rT (rT rN)) rfl
    ·obtain⟨rfl,i⟩:=hR;apply B9;apply A0;refine ghost i ?_;refine sr (SQ tt) ?_;apply ret;obtain rfl:=oi h;exact rt (Mat.trans (Mat.freezeP (n:=3006) (e:=5) (sz:=1) (es:=t.map (eI .u8)) (Ts:=[(2,.d (.list 1 (t.map (eI .u8))))]) (Bs:=[]) (by rfl) (TwT.cons (x:=(.sref 3006 1 0 t.length)) (by rfl) (FrzL.all (by first | rfl | (simp;done) | (simp;omega) | omega)) TwT.nil) TwB.nil) (mp [] [(2,.d (.list 1 (t.map (eI .u8)))),(3,i6 0)] [] hB)) [.d (.list 1 (t.map (eI .u8))),i6 0] (rT (rT rN)) rfl
def A5i (a0:Int):Option (List Int):=
 chk (decide (([IntKind.u8.wrap (shrI .i64 a0 8),IntKind.u8.wrap a0]:List Int).length≤LIM))<|
 some ([IntKind.u8.wrap (shrI .i64 a0 8),IntKind.u8.wrap a0]:List Int)
theorem B1q (a0:Int) (r:(List Int)) (h:A5i a0=some r):AC Tryz.prog 158 [.nils,.d (.int .i64 a0)] [] (.sref 900000 1 0 r.length) [(900000,some (.row 5 1 (r.map (eI .u8))))]:=by
 refine AC.of_code2 Tryz.func158 rfl rfl (Nat.le_of_ble_eq_true (by rfl)) fun B hB hN => ?_;delta A5i at h;refine sr (SQ tt) ?_;obtain⟨i,h⟩:=B2 h;refine sr (SQ (fa i tt)) ?_;apply ret;obtain rfl:=oi h;exact rt (mp [(900000,1012)] [(4,.sref 900000 1 0 (([IntKind.u8.wrap (shrI .i64 a0 8),IntKind.u8.wrap a0]:List Int).length))] [(900000,some (.row 5 1 (([IntKind.u8.wrap (shrI .i64 a0 8),IntKind.u8.wrap a0]:List Int).map (eI .u8))))] hB) [.sref 900000 1 0 (([IntKind.u8.wrap (shrI .i64 a0 8),IntKind.u8.wrap a0]:List Int).length)] (rT rN) rfl
def A5j (a0:(List Int)) (a1:Int):Option (List Int):=
 chk (decide ((a0++([IntKind.u8.wrap (shrI .i64 a1 8),IntKind.u8.wrap a1]:List Int)).length≤LIM))<|
 some (a0++([IntKind.u8.wrap (shrI .i64 a1 8),IntKind.u8.wrap a1]:List Int))
theorem B1r (a0:(List Int)) (a1:Int) (r:(List Int)) (h:A5j a0 a1=some r):AC Tryz.prog 158 [.sref 0 1 0 a0.length,.d (.int .i64 a1)] [(0,.row 5 1 (a0.map (eI .u8)))] (.sref 900000 1 0 r.length) [(0,none),(900000,some (.row 5 1 (r.map (eI .u8))))]:=by
 refine AC.of_code2 Tryz.func158 rfl rfl (Nat.le_of_ble_eq_true (by rfl)) fun B hB hN => ?_;delta A5j at h;refine sr (SQ tt) ?_;obtain⟨i,h⟩:=B2 h;have hc1_o:=i;simp only [decide_eq_true_eq] at hc1_o;refine sr (SQ (fa i tt)) ?_;apply ret;obtain rfl:=oi h;exact rt (mp [(900000,1012)] [(4,.sref 900000 1 0 ((a0++([IntKind.u8.wrap (shrI .i64 a1 8),IntKind.u8.wrap a1]:List Int)).length))] [(900000,some (.row 5 1 ((a0++([IntKind.u8.wrap (shrI .i64 a1 8),IntKind.u8.wrap a1]:List Int)).map (eI .u8))))] hB) [.sref 900000 1 0 ((a0++([IntKind.u8.wrap (shrI .i64 a1 8),IntKind.u8.wrap a1]:List Int)).length)] (rT rN) rfl
def A4t (a0:A7):Option ((List Int)×Bool):=
 (A01 a0).bind fun A=>
 (A1d A).bind fun i=>
 (Q4 a0.fWithdraw false).bind fun p=>
 (A5i (p.length:Int)).bind fun s=>
 chk (decide ((s++p).length≤LIM))<|
 (A5j (s++p) (i.1.length:Int)).bind fun t=>
 chk (decide ((t++i.1).length≤LIM))<|
 (A09 (t++i.1) a0.fAnnounce false).bind fun u=>
 some (u,((i.2==0)&&(decide ((u.length:Int)≤4077))))
theorem B31 (a0:A7) (r:(List Int)×Bool) (h:A4t a0=some r):AC Tryz.prog 147 [.d (E6 a0)] Zz10 (.tup [.d (.list 1 (r.1.map (eI .u8))),.d (.bool r.2)]) Zz3:=by
 refine ac2 Tryz.func147 rfl rfl fun B hB hN L => ?_;delta A4t at h;refine sr (SQ tt) ?_;apply seq;obtain⟨A,C,h⟩:=bindS h;obtain⟨i,E,h⟩:=bindS h;refine rg (SQ (fa (cl [(500,500)] (B30 a0 A C)) (fa (cl [] (B06 A i E)) tt))) ?_;apply A0;refine ghost (mp [] [(1,pt 1001),(4,.d (.list 1 (i.1.map (eI .u8)))),(5,i6 i.2)] [(500,some (.know (globD 0 (.imap gv0)))),(1001,bd 71 (E6 a0))] hB) ?_;obtain⟨p,F,h⟩:=bindS h;refine sr (SQ (fa (cl [] (A6g a0.fWithdraw false p F)) tt)) ?_;apply seq;obtain⟨s,G,h⟩:=bindS h;obtain⟨H,h⟩:=B2 h;refine rg (SQ (fa (cl [(900000,100300)] (B1q (p.length:Int) s G)) (fa H tt))) ?_;apply A0;refine ghost (mp [] [(1,pt 1001),(4,.d (.list 1 (i.1.map (eI .u8)))),(5,i6 i.2),(7,.sref 1021 1 0 ((s++p).length))] [(500,some (.know (globD 0 (.imap gv0)))),(1001,bd 71 (E6 a0)),(1021,some (.row 5 1 ((s++p).map (eI .u8))))] hB) ?_;apply seq;obtain⟨t,I,h⟩:=bindS h;obtain⟨J,h⟩:=B2 h;refine rg (SQ (fa (cl [(0,1021),(900000,100400)] (B1r (s++p) (i.1.length:Int) t I)) (fa J tt))) ?_;apply A0;refine ghost (mp [] [(1,pt 1001),(5,i6 i.2),(7,.sref 1027 1 0 ((t++i.1).length))] [(500,some (.know (globD 0 (.imap gv0)))),(1001,bd 71 (E6 a0)),(1027,some (.row 5 1 ((t++i.1).map (eI .u8))))] hB) ?_;apply seq;obtain⟨u,K,h⟩:=bindS h;refine rg (SQ (fa (cl [(0,1027)] (A7u (t++i.1) a0.fAnnounce false u K)) tt)) ?_;apply A0;refine ghost (mp [] [(5,i6 i.2),(7,.d (.list 1 (u.map (eI .u8))))] Zz3 hB) ?_;refine sr (SQ tt) ?_;apply ret;obtain rfl:=oi h;exact rt (kp [(2,_),(3,_)] [(500,some _)] hB rfl rfl (by rfl)) [.d (.list 1 (u.map (eI .u8))),bo ((i.2==0)&&(decide ((u.length:Int)≤4077)))] (rT (rT rN)) rfl
def P8 (a0:A7):Option (Bool):=
 jn (fun p:Bool=>
 (if p=true then
 some false
 else
 (A4t a0).bind fun s=>
 some s.2)) (fun i=>
 (if ((decide (256<(a0.fWithdraw.length:Int))) || (decide (256<(a0.fAnnounce.length:Int))))=true then
 i true
 else
 (K2 a0.fWithdraw).bind fun t=>
 (if t=true then
 i true
 else
 (K2 a0.fAnnounce).bind fun u=>
 (if u=true then
 i true
 else
 (A1c a0).bind fun A=>
 i (!A)))))
theorem A58 (a0:A7) (r:Bool) (h:P8 a0=some r):AC Tryz.prog 113 [.d (E6 a0)] Zz10 (.d (.bool r)) Zz3:=by
 refine ac2 Tryz.func113 rfl rfl fun B hB hN L => ?_;delta P8 at h;refine sr (SQ tt) ?_;refine sr (SQ tt) ?_;apply seq;apply seq;refine AWp.cut h (fun A:Bool=>([(1,pt 1001),(32,bo A)]:EL)) (fun A:Bool=>([(500,some (.know (globD 0 (.imap gv0)))),(1001,bd 71 (E6 a0))]:OL)) (fun A h N O I => ?_) (fun P t h => ?_)
 ·apply A0;refine ghost I ?_;apply AWp.cond rfl<;>intro G
  ·have h:=A5 G h;refine sr (SQ tt) ?_;apply ret;apply B8;obtain rfl:=oi h;exact rt (kp [(2,_)] [(500,some _)] hB rfl rfl (by rfl)) [bo false] (rT rN) rfl
  ·have h:=A6 G h;apply AWp.skip;apply A0;apply seq;obtain⟨C,J,h⟩:=bindS h;refine rg (SQ (fa (cl [(500,500)] (B31 a0 C J)) tt)) ?_;apply A0;refine ghost (mp [] [(5,bo C.2)] Zz3 hB) ?_;refine sr (SQ tt) ?_;apply ret;obtain rfl:=oi h;exact rt (kp [(2,_)] [(500,some _)] hB rfl rfl (by rfl)) [bo C.2] (rT rN) rfl
 ·rcases bft ((decide (256<(a0.fWithdraw.length:Int))) || (decide (256<(a0.fAnnounce.length:Int)))) with i | i
  ·have h:=A5 i h;refine rg (SQ (fa i tt)) ?_;exact t _ h _ _ (mp [] _ _ hB)
  ·have h:=A6 i h;obtain⟨u,E,h⟩:=bindS h;rcases bft u with p | p
   ·have h:=A5 p h;refine rg (SQ (fa i (fa (cl [] (L5 a0.fWithdraw u E)) (fa p tt)))) ?_;exact t _ h _ _ (mp [] _ _ hB)
   ·have h:=A6 p h;obtain⟨F,H,h⟩:=bindS h;rcases bft F with s | s
    ·have h:=A5 s h;refine rg (SQ (fa i (fa (cl [] (L5 a0.fWithdraw u E)) (fa p (fa (cl [] (L5 a0.fAnnounce F H)) (fa s tt)))))) ?_;exact t _ h _ _ (mp [] _ _ hB)
    ·have h:=A6 s h;obtain⟨K,M,h⟩:=bindS h;refine rg (SQ (fa i (fa (cl [] (L5 a0.fWithdraw u E)) (fa p (fa (cl [] (L5 a0.fAnnounce F H)) (fa s (fa (cl [(500,500)] (B2z a0 K M)) tt))))))) ?_;exact t _ h _ _ (mp [] _ _ hB)
def A5x (a0:A1):Option (Bool):=
 jn (fun p:Bool=>
 some p) (fun i=>
 (A1y a0.fPrefix).bind fun s=>
 (if s=true then
 (if (!a0.fHas)=true then
 i true
 else
 (if (((a0.fRoute.fPrefix.fAddr.fV6==a0.fPrefix.fAddr.fV6)&&((a0.fRoute.fPrefix.fAddr.fHi==a0.fPrefix.fAddr.fHi)&&((a0.fRoute.fPrefix.fAddr.fLo==a0.fPrefix.fAddr.fLo)&&true)))&&((a0.fRoute.fPrefix.fLen==a0.fPrefix.fLen)&&true))=true then
 (I5 a0.fRoute.fAttrs [a0.fPrefix] true).bind fun t=>
 (P8 t).bind fun u=>
 i u
 else
 i false))
 else
 i false))
theorem A6v (a0:A1) (r:Bool) (h:A5x a0=some r):AC Tryz.prog 75 [.d (A8 a0)] Zz10 (.d (.bool r)) Zz3:=by
 refine ac2 Tryz.func75 rfl rfl fun B hB hN L => ?_;delta A5x at h;refine sr (SQ tt) ?_;apply seq;refine AWp.cut h (fun u:Bool=>([(2,bo u)]:EL)) (fun u:Bool=>(Zz3:OL)) (fun u h J K F => ?_) (fun M A h => ?_)
 ·apply A0;refine ghost F ?_;apply ret;obtain rfl:=oi h;exact rt (kp [(2,_)] [(500,some _)] hB rfl rfl (by rfl)) [bo u] (rT rN) rfl
 ·obtain⟨s,C,h⟩:=bindS h;rcases bft s with i | i
  ·have h:=A5 i h;rcases bft (!a0.fHas) with p | p
   ·have h:=A5 p h;refine rg (SQ (fa (cl [] (A0j a0.fPrefix s C)) (fa i (fa p tt)))) ?_;exact A _ h _ _ (mp [] _ _ hB)
   ·have h:=A6 p h;rcases bft (((a0.fRoute.fPrefix.fAddr.fV6==a0.fPrefix.fAddr.fV6)&&((a0.fRoute.fPrefix.fAddr.fHi==a0.fPrefix.fAddr.fHi)&&((a0.fRoute.fPrefix.fAddr.fLo==a0.fPrefix.fAddr.fLo)&&true)))&&((a0.fRoute.fPrefix.fLen==a0.fPrefix.fLen)&&true)) with t | t
    ·have h:=A5 t h;obtain⟨E,G,h⟩:=bindS h;obtain⟨H,I,h⟩:=bindS h;refine rg (SQ (fa (cl [] (A0j a0.fPrefix s C)) (fa i (fa p (fa t (fa (cl [] (A0l a0.fRoute.fAttrs [a0.fPrefix] true E G)) (fa (cl [(500,500)] (A58 E H I)) tt))))))) ?_;exact A _ h _ _ (mp [] _ _ hB)
    ·have h:=A6 t h;refine rg (SQ (fa (cl [] (A0j a0.fPrefix s C)) (fa i (fa p (fa t tt))))) ?_;exact A _ h _ _ (mp [] _ _ hB)
  ·have h:=A6 i h;refine rg (SQ (fa (cl [] (A0j a0.fPrefix s C)) (fa i tt))) ?_;exact A _ h _ _ (mp [] _ _ hB)
def A35 (a0:E5):Option (Int):=
 (if a0.fV6=true then
 some 1
 else
 some 0)
theorem A8o (a0:E5) (r:Int) (h:A35 a0=some r):AC Tryz.prog 109 [.d (E4 a0)] [] (.d (.int .i64 r)) []:=by
 refine AC.of_code2 Tryz.func109 rfl rfl (Nat.le_of_ble_eq_true (by rfl)) fun B hB hN => ?_;delta A35 at h;refine sr (SQ tt) ?_;apply seq;refine sr (SQ tt) ?_;apply AWp.cond rfl<;>intro i
 ·have h:=A5 i h;refine sr (SQ tt) ?_;apply ret;apply B8;obtain rfl:=oi h;exact rt (kp [(2,_)] [] hB rfl rfl (by rfl)) [i6 1] (rT rN) rfl
 ·have h:=A6 i h;apply AWp.skip;apply A0;refine sr (SQ tt) ?_;apply ret;obtain rfl:=oi h;exact rt (kp [(2,_)] [] hB rfl rfl (by rfl)) [i6 0] (rT rN) rfl
def A6h (a0:Int):Option (Bool):=
 some (a0 != a0)
theorem A8p (a0:Int) (r:Bool) (h:A6h a0=some r):AC Tryz.prog 140 [.d (.int .u64 a0)] [] (.d (.bool r)) []:=by
 refine AC.of_code2 Tryz.func140 rfl rfl (Nat.le_of_ble_eq_true (by rfl)) fun B hB hN => ?_;delta A6h at h;refine sr (SQ tt) ?_;refine sr (SQ tt) ?_;apply ret;obtain rfl:=oi h;exact rt (kp [(2,_)] [] hB rfl rfl (by rfl)) [bo (a0 != a0)] (rT rN) rfl
def A2c (a0:Int) (a1:Int):Option (Int):=
 (A6h a0).bind fun p=>
 (A6h a1).bind fun i=>
 (if p=true then
 (if i=true then
 some 0
 else
 some (-1))
 else
 (if i=true then
 some 1
 else
 (if (decide (a0<a1))=true then
 some (-1)
 else
 (if (decide (a1<a0))=true then
 some 1
 else
 some 0))))
theorem A79 (a0:Int) (a1:Int) (r:Int) (h:A2c a0 a1=some r):AC Tryz.prog 110 [.d (.int .u64 a0),.d (.int .u64 a1)] [] (.d (.int .i64 r)) []:=by
 refine ac2 Tryz.func110 rfl rfl fun B hB hN L => ?_;delta A2c at h;refine sr (SQ tt) ?_;obtain⟨A,C,h⟩:=bindS h;refine sr (SQ (fa (cl [] (A8p a0 A C)) tt)) ?_;obtain⟨E,F,h⟩:=bindS h;refine sr (SQ (fa (cl [] (A8p a1 E F)) tt)) ?_;apply seq;refine sr (SQ tt) ?_;apply AWp.cond rfl<;>intro i
 ·have h:=A5 i h;apply seq;refine sr (SQ tt) ?_;apply AWp.cond rfl<;>intro p
  ·have h:=A5 p h;refine sr (SQ tt) ?_;apply ret;apply B8;apply B8;obtain rfl:=oi h;exact rt (kp [(4,_)] [] hB rfl rfl (by rfl)) [i6 0] (rT rN) rfl
  ·have h:=A6 p h;apply AWp.skip;apply A0;refine sr (SQ tt) ?_;apply ret;apply B8;obtain rfl:=oi h;exact rt (kp [(4,_)] [] hB rfl rfl (by rfl)) [i6 (-1)] (rT rN) rfl
 ·have h:=A6 i h;apply AWp.skip;apply A0;apply seq;refine sr (SQ tt) ?_;apply AWp.cond rfl<;>intro s
  ·have h:=A5 s h;refine sr (SQ tt) ?_;apply ret;apply B8;obtain rfl:=oi h;exact rt (kp [(4,_)] [] hB rfl rfl (by rfl)) [i6 1] (rT rN) rfl
  ·have h:=A6 s h;apply AWp.skip;apply A0;apply seq;refine sr (SQ tt) ?_;apply AWp.cond rfl<;>intro t
   ·have h:=A5 t h;refine sr (SQ tt) ?_;apply ret;apply B8;obtain rfl:=oi h;exact rt (kp [(4,_)] [] hB rfl rfl (by rfl)) [i6 (-1)] (rT rN) rfl
   ·have h:=A6 t h;apply AWp.skip;apply A0;apply seq;refine sr (SQ tt) ?_;apply AWp.cond rfl<;>intro u
    ·have h:=A5 u h;refine sr (SQ tt) ?_;apply ret;apply B8;obtain rfl:=oi h;exact rt (kp [(4,_)] [] hB rfl rfl (by rfl)) [i6 1] (rT rN) rfl
    ·have h:=A6 u h;apply AWp.skip;apply A0;refine sr (SQ tt) ?_;apply ret;obtain rfl:=oi h;exact rt (kp [(4,_)] [] hB rfl rfl (by rfl)) [i6 0] (rT rN) rfl
def A8q (a0:E5) (a1:E5):Option (Int):=
 (A35 a0).bind fun i=>
 (A35 a1).bind fun p=>
 (K4 i p).bind fun s=>
 (A2c a0.fHi a1.fHi).bind fun t=>
 (A2c a0.fLo a1.fLo).bind fun u=>
 (A8i ([s,t,u]:List Int)).bind fun A=>
 some A
theorem B67 (a0:E5) (a1:E5) (r:Int) (h:A8q a0 a1=some r):AC Tryz.prog 73 [.d (E4 a0),.d (E4 a1)] [] (.d (.int .i64 r)) []:=by
 refine AC.of_code2 Tryz.func73 rfl rfl (Nat.le_of_ble_eq_true (by rfl)) fun B hB hN => ?_;delta A8q at h;refine sr (SQ tt) ?_;obtain⟨i,C,h⟩:=bindS h;obtain⟨p,E,h⟩:=bindS h;obtain⟨s,F,h⟩:=bindS h;obtain⟨t,G,h⟩:=bindS h;obtain⟨u,H,h⟩:=bindS h;obtain⟨A,I,h⟩:=bindS h;refine sdS (SQ (fa (cl [] (A8o a0 i C)) (fa (cl [] (A8o a1 p E)) (fa (cl [] (L6 i p s F)) (fa (cl [] (A79 a0.fHi a1.fHi t G)) (fa (cl [] (A79 a0.fLo a1.fLo u H)) (fa (cl [] (A98 ([s,t,u]:List Int) A I)) tt))))))) ?_;apply ret;obtain rfl:=oi h;exact rt (kp [(4,_)] [] hB rfl rfl (by rfl)) [i6 A] (rT rN) rfl
def A4e (a0:A2) (a1:A2):Option (Int):=
 (A8q a0.fAddr a1.fAddr).bind fun i=>
 (K4 a0.fLen a1.fLen).bind fun p=>
 (A8i ([i,p]:List Int)).bind fun s=>
 some s
theorem A9i (a0:A2) (a1:A2) (r:Int) (h:A4e a0 a1=some r):AC Tryz.prog 45 [.d (B0 a0),.d (B0 a1)] [] (.d (.int .i64 r)) []:=by
 refine AC.of_code2 Tryz.func45 rfl rfl (Nat.le_of_ble_eq_true (by rfl)) fun B hB hN => ?_;delta A4e at h;refine sr (SQ tt) ?_;obtain⟨i,t,h⟩:=bindS h;obtain⟨p,u,h⟩:=bindS h;obtain⟨s,A,h⟩:=bindS h;refine sdS (SQ (fa (cl [] (B67 a0.fAddr a1.fAddr i t)) (fa (cl [] (L6 a0.fLen a1.fLen p u)) (fa (cl [] (A98 ([i,p]:List Int) s A)) tt)))) ?_;apply ret;obtain rfl:=oi h;exact rt (kp [(4,_)] [] hB rfl rfl (by rfl)) [i6 s] (rT rN) rfl
def A0o (a0:(List Int)) (a1:(List Int)) (i:Int):Option ((Unit⊕Unit)⊕Int):=
 (if (decide (i<(a0.length:Int)))=true then
 (idx a0 i).bind fun p=>
 (idx a1 i).bind fun s=>
 (if (p != s)=true then
 some (.inl (.inl ()))
 else
 some (.inr (w64 (i+1))))
 else
 some (.inl (.inr ())))
def A3q (a0:(List Int)) (a1:(List Int)):Option (Bool):=
 (if ((a0.length:Int) != (a1.length:Int))=true then
 some false
 else
 (loop (A0o a0 a1) 0).bind fun i=>match i with
 | (.inl _)=>
  some false
 | (.inr _)=>
  some true)
theorem B1s (a0:(List Int)) (a1:(List Int)) (r:Bool) (h:A3q a0 a1=some r):AC Tryz.prog 116 [.d (.list 1 (a0.map (eI .i64))),.d (.list 1 (a1.map (eI .i64)))] [] (.d (.bool r)) []:=by
 refine ac2 Tryz.func116 rfl rfl fun B hB hN L => ?_;delta A3q at h;refine sr (SQ tt) ?_;apply seq;refine sr (SQ tt) ?_;apply AWp.cond rfl<;>intro u
 ·have h:=A5 u h;refine sr (SQ tt) ?_;apply ret;apply B8;obtain rfl:=oi h;exact rt (kp [(4,_)] [] hB rfl rfl (by rfl)) [bo false] (rT rN) rfl
 ·have h:=A6 u h;apply AWp.skip;apply A0;apply seq;refine sr (SQ tt) ?_;apply block;obtain⟨E,F,h⟩:=bindS h;refine lg (A0o a0 a1) (fun i:Int=>([(0,qI_1 a0),(1,qI_1 a1),(12,i6 (a0.length:Int)),(13,i6 i)]:EL)) (fun i:Int=>([]:OL)) (fun(x:(Unit)⊕Unit) e p s=>match x with | (.inl _p)=>e = .ret∧Mat B p s ([(4,bo false)]:EL) ([]:OL) | (.inr _p)=>e = .exit 0∧Mat B p s ([]:EL) ([]:OL)) F (mp [] _ _ hB) (fun i y h => ?_) (fun e p s hR => ?_)
  ·unfold A0o at h;refine sr (SQ tt) ?_;apply seq;apply AWp.cond rfl<;>intro A
   ·have h:=A5 A h;apply AWp.skip;apply A0;apply seq;apply block;refine sr (SQ tt) ?_;obtain⟨_,G,h⟩:=bindS h;obtain⟨_,H,h⟩:=bindS h;refine sdS (SQ (fa G (fa H tt))) ?_;apply AWp.cond rfl<;>intro C
    ·have h:=A5 C h;refine sr (SQ tt) ?_;apply ret;apply D8;apply B8;obtain rfl:=oi h;exact⟨nofun,rfl,mp [] _ _ hB⟩
    ·have h:=A6 C h;apply AWp.skip;apply D7;apply A0;refine rg (SQ tt) ?_;obtain rfl:=oi h;exact⟨rfl,mp [] _ _ hB⟩
   ·have h:=A6 A h;apply AWp.exit;apply D6;obtain rfl:=oi h;exact⟨nofun,rfl,mp [] _ _ hB⟩
  ·rcases E with _ | _
   ·obtain⟨rfl,t⟩:=hR;apply D8;apply B8;obtain rfl:=oi h;exact rt (Mat.trans t (mp [] [(4,bo false)] [] hB)) [bo false] (rT rN) rfl
   ·obtain⟨rfl,t⟩:=hR;apply B9;apply A0;refine ghost t ?_;refine sr (SQ tt) ?_;apply ret;obtain rfl:=oi h;exact rt (kp [(4,_)] [] hB rfl rfl (by rfl)) [bo true] (rT rN) rfl
def A2d (a0:B4) (a1:B4):Option (Bool):=
 jn (fun p:Bool=>
 some p) (fun i=>
 (if (a0.fSet==a1.fSet)=true then
 (A3q a0.fASNs a1.fASNs).bind fun s=>
 i s
 else
 i false))
theorem B0p (a0:B4) (a1:B4) (r:Bool) (h:A2d a0 a1=some r):AC Tryz.prog 115 [.d (D2 a0),.d (D2 a1)] [] (.d (.bool r)) []:=by
 refine ac2 Tryz.func115 rfl rfl fun B hB hN L => ?_;delta A2d at h;refine sr (SQ tt) ?_;apply seq;refine AWp.cut h (fun p:Bool=>([(4,bo p)]:EL)) (fun p:Bool=>([]:OL)) (fun p h C E t => ?_) (fun F s h => ?_)
 ·apply A0;refine ghost t ?_;apply ret;obtain rfl:=oi h;exact rt (kp [(4,_)] [] hB rfl rfl (by rfl)) [bo p] (rT rN) rfl
 ·rcases bft (a0.fSet==a1.fSet) with i | i
  ·have h:=A5 i h;obtain⟨u,A,h⟩:=bindS h;refine rg (SQ (fa i (fa (cl [] (B1s a0.fASNs a1.fASNs u A)) tt))) ?_;exact s _ h _ _ (mp [] _ _ hB)
  ·have h:=A6 i h;refine rg (SQ (fa i tt)) ?_;exact s _ h _ _ (mp [] _ _ hB)
def S2 (a0:(List B4)) (a1:(List B4)) (i:Int):Option ((Unit⊕Unit)⊕Int):=
 (if (decide (i<(a0.length:Int)))=true then
 (idx a0 i).bind fun p=>
 (idx a1 i).bind fun s=>
 (A2d p s).bind fun t=>
 (if (!t)=true then
 some (.inl (.inl ()))
 else
 some (.inr (w64 (i+1))))
 else
 some (.inl (.inr ())))
def Y6 (a0:(List B4)) (a1:(List B4)):Option (Bool):=
 (if ((a0.length:Int) != (a1.length:Int))=true then
 some false
 else
 (loop (S2 a0 a1) 0).bind fun i=>match i with
 | (.inl _)=>
  some false
 | (.inr _)=>
  some true)
theorem X9 (a0:(List B4)) (a1:(List B4)) (r:Bool) (h:Y6 a0 a1=some r):AC Tryz.prog 119 [.d (.list 2 (a0.map D2)),.d (.list 2 (a1.map D2)),.func 115 []] [] (.d (.bool r)) []:=by
 refine ac2 Tryz.func119 rfl rfl fun B hB hN L => ?_;delta Y6 at h;refine sr (SQ tt) ?_;apply seq;refine sr (SQ tt) ?_;apply AWp.cond rfl<;>intro u
 ·have h:=A5 u h;refine sr (SQ tt) ?_;apply ret;apply B8;obtain rfl:=oi h;exact rt (kp [(6,_)] [] hB rfl rfl (by rfl)) [bo false] (rT rN) rfl
 ·have h:=A6 u h;apply AWp.skip;apply A0;apply seq;refine sr (SQ tt) ?_;apply block;obtain⟨E,F,h⟩:=bindS h;refine lg (S2 a0 a1) (fun i:Int=>([(1,D0 a1),(2,.func 115 []),(15,D0 a0),(16,i6 (a0.length:Int)),(17,i6 i)]:EL)) (fun i:Int=>([]:OL)) (fun(x:(Unit)⊕Unit) e p s=>match x with | (.inl _p)=>e = .ret∧Mat B p s ([(6,bo false)]:EL) ([]:OL) | (.inr _p)=>e = .exit 0∧Mat B p s ([]:EL) ([]:OL)) F (mp [] _ _ hB) (fun i y h => ?_) (fun e p s hR => ?_)
  ·unfold S2 at h;refine sr (SQ tt) ?_;apply seq;apply AWp.cond rfl<;>intro A
   ·have h:=A5 A h;apply AWp.skip;apply A0;apply seq;apply block;obtain⟨G,H,h⟩:=bindS h;refine sr (SQ (fa H tt)) ?_;obtain⟨I,J,h⟩:=bindS h;refine sr (SQ (fa J tt)) ?_;obtain⟨K,M,h⟩:=bindS h;refine sr (SQ (fa (cl [] (B0p G I K M)) tt)) ?_;apply AWp.cond rfl<;>intro C
    ·have h:=A5 C h;refine sr (SQ tt) ?_;apply ret;apply D8;apply B8;obtain rfl:=oi h;exact⟨nofun,rfl,mp [] _ _ hB⟩
    ·have h:=A6 C h;apply AWp.skip;apply D7;apply A0;refine rg (SQ tt) ?_;obtain rfl:=oi h;exact⟨rfl,mp [] _ _ hB⟩
   ·have h:=A6 A h;apply AWp.exit;apply D6;obtain rfl:=oi h;exact⟨nofun,rfl,mp [] _ _ hB⟩
  ·rcases E with _ | _
   ·obtain⟨rfl,t⟩:=hR;apply D8;apply B8;obtain rfl:=oi h;exact rt (Mat.trans t (mp [] [(6,bo false)] [] hB)) [bo false] (rT rN) rfl
   ·obtain⟨rfl,t⟩:=hR;apply B9;apply A0;refine ghost t ?_;refine sr (SQ tt) ?_;apply ret;obtain rfl:=oi h;exact rt (kp [(6,_)] [] hB rfl rfl (by rfl)) [bo true] (rT rN) rfl
def W7 (a0:(List B5)) (a1:(List B5)) (i:Int):Option ((Unit⊕Unit)⊕Int):=
 (if (decide (i<(a0.length:Int)))=true then
 (idx a0 i).bind fun p=>
 (idx a1 i).bind fun s=>
 (if (!((p.fA==s.fA)&&((p.fB==s.fB)&&true)))=true then
 some (.inl (.inl ()))
 else
 some (.inr (w64 (i+1))))
 else
 some (.inl (.inr ())))
def A1e (a0:(List B5)) (a1:(List B5)):Option (Bool):=
 (if ((a0.length:Int) != (a1.length:Int))=true then
 some false
 else
 (loop (W7 a0 a1) 0).bind fun i=>match i with
 | (.inl _)=>
  some false
 | (.inr _)=>
  some true)
theorem A3r (a0:(List B5)) (a1:(List B5)) (r:Bool) (h:A1e a0 a1=some r):AC Tryz.prog 120 [.d (.list 2 (a0.map C5)),.d (.list 2 (a1.map C5))] [] (.d (.bool r)) []:=by
 refine ac2 Tryz.func120 rfl rfl fun B hB hN L => ?_;delta A1e at h;refine sr (SQ tt) ?_;apply seq;refine sr (SQ tt) ?_;apply AWp.cond rfl<;>intro u
 ·have h:=A5 u h;refine sr (SQ tt) ?_;apply ret;apply B8;obtain rfl:=oi h;exact rt (kp [(4,_)] [] hB rfl rfl (by rfl)) [bo false] (rT rN) rfl
 ·have h:=A6 u h;apply AWp.skip;apply A0;apply seq;refine sr (SQ tt) ?_;apply block;obtain⟨E,F,h⟩:=bindS h;refine lg (W7 a0 a1) (fun i:Int=>([(0,C9 a0),(1,C9 a1),(12,i6 (a0.length:Int)),(13,i6 i)]:EL)) (fun i:Int=>([]:OL)) (fun(x:(Unit)⊕Unit) e p s=>match x with | (.inl _p)=>e = .ret∧Mat B p s ([(4,bo false)]:EL) ([]:OL) | (.inr _p)=>e = .exit 0∧Mat B p s ([]:EL) ([]:OL)) F (mp [] _ _ hB) (fun i y h => ?_) (fun e p s hR => ?_)
  ·unfold W7 at h;refine sr (SQ tt) ?_;apply seq;apply AWp.cond rfl<;>intro A
   ·have h:=A5 A h;apply AWp.skip;apply A0;apply seq;apply block;refine sr (SQ tt) ?_;obtain⟨_,G,h⟩:=bindS h;obtain⟨_,H,h⟩:=bindS h;refine sdS (SQ (fa G (fa H tt))) ?_;apply AWp.cond rfl<;>intro C
    ·have h:=A5 C h;refine sr (SQ tt) ?_;apply ret;apply D8;apply B8;obtain rfl:=oi h;exact⟨nofun,rfl,mp [] _ _ hB⟩
    ·have h:=A6 C h;apply AWp.skip;apply D7;apply A0;refine rg (SQ tt) ?_;obtain rfl:=oi h;exact⟨rfl,mp [] _ _ hB⟩
   ·have h:=A6 A h;apply AWp.exit;apply D6;obtain rfl:=oi h;exact⟨nofun,rfl,mp [] _ _ hB⟩
  ·rcases E with _ | _
   ·obtain⟨rfl,t⟩:=hR;apply D8;apply B8;obtain rfl:=oi h;exact rt (Mat.trans t (mp [] [(4,bo false)] [] hB)) [bo false] (rT rN) rfl
   ·obtain⟨rfl,t⟩:=hR;apply B9;apply A0;refine ghost t ?_;refine sr (SQ tt) ?_;apply ret;obtain rfl:=oi h;exact rt (kp [(4,_)] [] hB rfl rfl (by rfl)) [bo true] (rT rN) rfl
def W8 (a0:(List E7)) (a1:(List E7)) (i:Int):Option ((Unit⊕Unit)⊕Int):=
 (if (decide (i<(a0.length:Int)))=true then
 (idx a0 i).bind fun p=>
 (idx a1 i).bind fun s=>
 (if (!((p.fA==s.fA)&&((p.fB==s.fB)&&((p.fC==s.fC)&&true))))=true then
 some (.inl (.inl ()))
 else
 some (.inr (w64 (i+1))))
 else
 some (.inl (.inr ())))
def A1f (a0:(List E7)) (a1:(List E7)):Option (Bool):=
 (if ((a0.length:Int) != (a1.length:Int))=true then
 some false
 else
 (loop (W8 a0 a1) 0).bind fun i=>match i with
 | (.inl _)=>
  some false
 | (.inr _)=>
  some true)
theorem A6i (a0:(List E7)) (a1:(List E7)) (r:Bool) (h:A1f a0 a1=some r):AC Tryz.prog 121 [.d (.list 3 (a0.map E9)),.d (.list 3 (a1.map E9))] [] (.d (.bool r)) []:=by
 refine ac2 Tryz.func121 rfl rfl fun B hB hN L => ?_;delta A1f at h;refine sr (SQ tt) ?_;apply seq;refine sr (SQ tt) ?_;apply AWp.cond rfl<;>intro u
 ·have h:=A5 u h;refine sr (SQ tt) ?_;apply ret;apply B8;obtain rfl:=oi h;exact rt (kp [(4,_)] [] hB rfl rfl (by rfl)) [bo false] (rT rN) rfl
 ·have h:=A6 u h;apply AWp.skip;apply A0;apply seq;refine sr (SQ tt) ?_;apply block;obtain⟨E,F,h⟩:=bindS h;refine lg (W8 a0 a1) (fun i:Int=>([(0,E8 a0),(1,E8 a1),(12,i6 (a0.length:Int)),(13,i6 i)]:EL)) (fun i:Int=>([]:OL)) (fun(x:(Unit)⊕Unit) e p s=>match x with | (.inl _p)=>e = .ret∧Mat B p s ([(4,bo false)]:EL) ([]:OL) | (.inr _p)=>e = .exit 0∧Mat B p s ([]:EL) ([]:OL)) F (mp [] _ _ hB) (fun i y h => ?_) (fun e p s hR => ?_)
  ·unfold W8 at h;refine sr (SQ tt) ?_;apply seq;apply AWp.cond rfl<;>intro A
   ·have h:=A5 A h;apply AWp.skip;apply A0;apply seq;apply block;refine sr (SQ tt) ?_;obtain⟨_,G,h⟩:=bindS h;obtain⟨_,H,h⟩:=bindS h;refine sdS (SQ (fa G (fa H tt))) ?_;apply AWp.cond rfl<;>intro C
    ·have h:=A5 C h;refine sr (SQ tt) ?_;apply ret;apply D8;apply B8;obtain rfl:=oi h;exact⟨nofun,rfl,mp [] _ _ hB⟩
    ·have h:=A6 C h;apply AWp.skip;apply D7;apply A0;refine rg (SQ tt) ?_;obtain rfl:=oi h;exact⟨rfl,mp [] _ _ hB⟩
   ·have h:=A6 A h;apply AWp.exit;apply D6;obtain rfl:=oi h;exact⟨nofun,rfl,mp [] _ _ hB⟩
  ·rcases E with _ | _
   ·obtain⟨rfl,t⟩:=hR;apply D8;apply B8;obtain rfl:=oi h;exact rt (Mat.trans t (mp [] [(4,bo false)] [] hB)) [bo false] (rT rN) rfl
   ·obtain⟨rfl,t⟩:=hR;apply B9;apply A0;refine ghost t ?_;refine sr (SQ tt) ?_;apply ret;obtain rfl:=oi h;exact rt (kp [(4,_)] [] hB rfl rfl (by rfl)) [bo true] (rT rN) rfl
def W9 (a0:(List Int)) (a1:(List Int)) (i:Int):Option ((Unit⊕Unit)⊕Int):=
 (if (decide (i<(a0.length:Int)))=true then
 (idx a0 i).bind fun p=>
 (idx a1 i).bind fun s=>
 (if (p != s)=true then
 some (.inl (.inl ()))
 else
 some (.inr (w64 (i+1))))
 else
 some (.inl (.inr ())))
def A1g (a0:(List Int)) (a1:(List Int)):Option (Bool):=
 (if ((a0.length:Int) != (a1.length:Int))=true then
 some false
 else
 (loop (W9 a0 a1) 0).bind fun i=>match i with
 | (.inl _)=>
  some false
 | (.inr _)=>
  some true)
theorem B07 (a0:(List Int)) (a1:(List Int)) (r:Bool) (h:A1g a0 a1=some r):AC Tryz.prog 118 [.d (.list 1 (a0.map (eI .u8))),.d (.list 1 (a1.map (eI .u8)))] [] (.d (.bool r)) []:=by
 refine ac2 Tryz.func118 rfl rfl fun B hB hN L => ?_;delta A1g at h;refine sr (SQ tt) ?_;apply seq;refine sr (SQ tt) ?_;apply AWp.cond rfl<;>intro u
 ·have h:=A5 u h;refine sr (SQ tt) ?_;apply ret;apply B8;obtain rfl:=oi h;exact rt (kp [(4,_)] [] hB rfl rfl (by rfl)) [bo false] (rT rN) rfl
 ·have h:=A6 u h;apply AWp.skip;apply A0;apply seq;refine sr (SQ tt) ?_;apply block;obtain⟨E,F,h⟩:=bindS h;refine lg (W9 a0 a1) (fun i:Int=>([(0,.d (.list 1 (a0.map (eI .u8)))),(1,.d (.list 1 (a1.map (eI .u8)))),(12,i6 (a0.length:Int)),(13,i6 i)]:EL)) (fun i:Int=>([]:OL)) (fun(x:(Unit)⊕Unit) e p s=>match x with | (.inl _p)=>e = .ret∧Mat B p s ([(4,bo false)]:EL) ([]:OL) | (.inr _p)=>e = .exit 0∧Mat B p s ([]:EL) ([]:OL)) F (mp [] _ _ hB) (fun i y h => ?_) (fun e p s hR => ?_)
  ·unfold W9 at h;refine sr (SQ tt) ?_;apply seq;apply AWp.cond rfl<;>intro A
   ·have h:=A5 A h;apply AWp.skip;apply A0;apply seq;apply block;refine sr (SQ tt) ?_;obtain⟨_,G,h⟩:=bindS h;obtain⟨_,H,h⟩:=bindS h;refine sdS (SQ (fa G (fa H tt))) ?_;apply AWp.cond rfl<;>intro C
    ·have h:=A5 C h;refine sr (SQ tt) ?_;apply ret;apply D8;apply B8;obtain rfl:=oi h;exact⟨nofun,rfl,mp [] _ _ hB⟩
    ·have h:=A6 C h;apply AWp.skip;apply D7;apply A0;refine rg (SQ tt) ?_;obtain rfl:=oi h;exact⟨rfl,mp [] _ _ hB⟩
   ·have h:=A6 A h;apply AWp.exit;apply D6;obtain rfl:=oi h;exact⟨nofun,rfl,mp [] _ _ hB⟩
  ·rcases E with _ | _
   ·obtain⟨rfl,t⟩:=hR;apply D8;apply B8;obtain rfl:=oi h;exact rt (Mat.trans t (mp [] [(4,bo false)] [] hB)) [bo false] (rT rN) rfl
   ·obtain⟨rfl,t⟩:=hR;apply B9;apply A0;refine ghost t ?_;refine sr (SQ tt) ?_;apply ret;obtain rfl:=oi h;exact rt (kp [(4,_)] [] hB rfl rfl (by rfl)) [bo true] (rT rN) rfl
def A2e (a0:A3) (a1:A3):Option (Bool):=
 jn (fun p:Bool=>
 some p) (fun i=>
 (if ((a0.fFlags==a1.fFlags)&&(a0.fType==a1.fType))=true then
 (A1g a0.fData a1.fData).bind fun s=>
 i s
 else
 i false))
theorem B0q (a0:A3) (a1:A3) (r:Bool) (h:A2e a0 a1=some r):AC Tryz.prog 117 [.d (B6 a0),.d (B6 a1)] [] (.d (.bool r)) []:=by
 refine ac2 Tryz.func117 rfl rfl fun B hB hN L => ?_;delta A2e at h;refine sr (SQ tt) ?_;apply seq;refine AWp.cut h (fun p:Bool=>([(4,bo p)]:EL)) (fun p:Bool=>([]:OL)) (fun p h C E t => ?_) (fun F s h => ?_)
 ·apply A0;refine ghost t ?_;apply ret;obtain rfl:=oi h;exact rt (kp [(4,_)] [] hB rfl rfl (by rfl)) [bo p] (rT rN) rfl
 ·rcases bft ((a0.fFlags==a1.fFlags)&&(a0.fType==a1.fType)) with i | i
  ·have h:=A5 i h;obtain⟨u,A,h⟩:=bindS h;refine rg (SQ (fa i (fa (cl [] (B07 a0.fData a1.fData u A)) tt))) ?_;exact s _ h _ _ (mp [] _ _ hB)
  ·have h:=A6 i h;refine rg (SQ (fa i tt)) ?_;exact s _ h _ _ (mp [] _ _ hB)
def O8 (a0:(List A3)) (a1:(List A3)) (i:Int):Option ((Unit⊕Unit)⊕Int):=
 (if (decide (i<(a0.length:Int)))=true then
 (idx a0 i).bind fun p=>
 (idx a1 i).bind fun s=>
 (A2e p s).bind fun t=>
 (if (!t)=true then
 some (.inl (.inl ()))
 else
 some (.inr (w64 (i+1))))
 else
 some (.inl (.inr ())))
def T8 (a0:(List A3)) (a1:(List A3)):Option (Bool):=
 (if ((a0.length:Int) != (a1.length:Int))=true then
 some false
 else
 (loop (O8 a0 a1) 0).bind fun i=>match i with
 | (.inl _)=>
  some false
 | (.inr _)=>
  some true)
theorem A81 (a0:(List A3)) (a1:(List A3)) (r:Bool) (h:T8 a0 a1=some r):AC Tryz.prog 122 [.d (.list 3 (a0.map B6)),.d (.list 3 (a1.map B6)),.func 117 []] [] (.d (.bool r)) []:=by
 refine ac2 Tryz.func122 rfl rfl fun B hB hN L => ?_;delta T8 at h;refine sr (SQ tt) ?_;apply seq;refine sr (SQ tt) ?_;apply AWp.cond rfl<;>intro u
 ·have h:=A5 u h;refine sr (SQ tt) ?_;apply ret;apply B8;obtain rfl:=oi h;exact rt (kp [(6,_)] [] hB rfl rfl (by rfl)) [bo false] (rT rN) rfl
 ·have h:=A6 u h;apply AWp.skip;apply A0;apply seq;refine sr (SQ tt) ?_;apply block;obtain⟨E,F,h⟩:=bindS h;refine lg (O8 a0 a1) (fun i:Int=>([(1,C6 a1),(2,.func 117 []),(15,C6 a0),(16,i6 (a0.length:Int)),(17,i6 i)]:EL)) (fun i:Int=>([]:OL)) (fun(x:(Unit)⊕Unit) e p s=>match x with | (.inl _p)=>e = .ret∧Mat B p s ([(6,bo false)]:EL) ([]:OL) | (.inr _p)=>e = .exit 0∧Mat B p s ([]:EL) ([]:OL)) F (mp [] _ _ hB) (fun i y h => ?_) (fun e p s hR => ?_)
  ·unfold O8 at h;refine sr (SQ tt) ?_;apply seq;apply AWp.cond rfl<;>intro A
   ·have h:=A5 A h;apply AWp.skip;apply A0;apply seq;apply block;obtain⟨G,H,h⟩:=bindS h;refine sr (SQ (fa H tt)) ?_;obtain⟨I,J,h⟩:=bindS h;refine sr (SQ (fa J tt)) ?_;obtain⟨K,M,h⟩:=bindS h;refine sr (SQ (fa (cl [] (B0q G I K M)) tt)) ?_;apply AWp.cond rfl<;>intro C
    ·have h:=A5 C h;refine sr (SQ tt) ?_;apply ret;apply D8;apply B8;obtain rfl:=oi h;exact⟨nofun,rfl,mp [] _ _ hB⟩
    ·have h:=A6 C h;apply AWp.skip;apply D7;apply A0;refine rg (SQ tt) ?_;obtain rfl:=oi h;exact⟨rfl,mp [] _ _ hB⟩
   ·have h:=A6 A h;apply AWp.exit;apply D6;obtain rfl:=oi h;exact⟨nofun,rfl,mp [] _ _ hB⟩
  ·rcases E with _ | _
   ·obtain⟨rfl,t⟩:=hR;apply D8;apply B8;obtain rfl:=oi h;exact rt (Mat.trans t (mp [] [(6,bo false)] [] hB)) [bo false] (rT rN) rfl
   ·obtain⟨rfl,t⟩:=hR;apply B9;apply A0;refine ghost t ?_;refine sr (SQ tt) ?_;apply ret;obtain rfl:=oi h;exact rt (kp [(6,_)] [] hB rfl rfl (by rfl)) [bo true] (rT rN) rfl
def A4u (a0:C2) (a1:C2):Option (Bool):=
 jn (fun p:Bool=>
 some p) (fun i=>
 (if (((((a0.fOrigin==a1.fOrigin)&&((a0.fNext.fV6==a1.fNext.fV6)&&((a0.fNext.fHi==a1.fNext.fHi)&&((a0.fNext.fLo==a1.fNext.fLo)&&true))))&&(a0.fMED==a1.fMED))&&(a0.fPref==a1.fPref))&&(a0.fOTC==a1.fOTC))=true then
 (Y6 a0.fPath a1.fPath).bind fun s=>
 (if s=true then
 (A1e a0.fCommunities a1.fCommunities).bind fun t=>
 (if t=true then
 (A1f a0.fLarge a1.fLarge).bind fun u=>
 (if u=true then
 (T8 a0.fOther a1.fOther).bind fun A=>
 i A
 else
 i false)
 else
 i false)
 else
 i false)
 else
 i false))
theorem B32 (a0:C2) (a1:C2) (r:Bool) (h:A4u a0 a1=some r):AC Tryz.prog 78 [.d (C8 a0),.d (C8 a1)] [] (.d (.bool r)) []:=by
 refine ac2 Tryz.func78 rfl rfl fun B hB hN L => ?_;delta A4u at h;refine sr (SQ tt) ?_;refine sr (SQ tt) ?_;refine sr (SQ tt) ?_;apply seq;refine AWp.cut h (fun C:Bool=>([(4,bo C)]:EL)) (fun C:Bool=>([]:OL)) (fun C h N O J => ?_) (fun P t h => ?_)
 ·apply A0;refine ghost J ?_;apply ret;obtain rfl:=oi h;exact rt (kp [(4,_)] [] hB rfl rfl (by rfl)) [bo C] (rT rN) rfl
 ·rcases bft (((((a0.fOrigin==a1.fOrigin)&&((a0.fNext.fV6==a1.fNext.fV6)&&((a0.fNext.fHi==a1.fNext.fHi)&&((a0.fNext.fLo==a1.fNext.fLo)&&true))))&&(a0.fMED==a1.fMED))&&(a0.fPref==a1.fPref))&&(a0.fOTC==a1.fOTC)) with i | i
  ·have h:=A5 i h;obtain⟨u,E,h⟩:=bindS h;rcases bft u with p | p
   ·have h:=A5 p h;obtain⟨F,G,h⟩:=bindS h;rcases bft F with s | s
    ·have h:=A5 s h;obtain⟨H,I,h⟩:=bindS h;rcases bft H with A | A
     ·have h:=A5 A h;obtain⟨K,M,h⟩:=bindS h;refine rg (SQ (fa i (fa (cl [] (X9 a0.fPath a1.fPath u E)) (fa p (fa (cl [] (A3r a0.fCommunities a1.fCommunities F G)) (fa s (fa (cl [] (A6i a0.fLarge a1.fLarge H I)) (fa A (fa (cl [] (A81 a0.fOther a1.fOther K M)) tt))))))))) ?_;exact t _ h _ _ (mp [] _ _ hB)
     ·have h:=A6 A h;refine rg (SQ (fa i (fa (cl [] (X9 a0.fPath a1.fPath u E)) (fa p (fa (cl [] (A3r a0.fCommunities a1.fCommunities F G)) (fa s (fa (cl [] (A6i a0.fLarge a1.fLarge H I)) (fa A tt)))))))) ?_;exact t _ h _ _ (mp [] _ _ hB)
    ·have h:=A6 s h;refine rg (SQ (fa i (fa (cl [] (X9 a0.fPath a1.fPath u E)) (fa p (fa (cl [] (A3r a0.fCommunities a1.fCommunities F G)) (fa s tt)))))) ?_;exact t _ h _ _ (mp [] _ _ hB)
   ·have h:=A6 p h;refine rg (SQ (fa i (fa (cl [] (X9 a0.fPath a1.fPath u E)) (fa p tt)))) ?_;exact t _ h _ _ (mp [] _ _ hB)
  ·have h:=A6 i h;refine rg (SQ (fa i tt)) ?_;exact t _ h _ _ (mp [] _ _ hB)
def A2f (a0:D3) (a1:A1):Option (Bool):=
 (A4u a0.fattrs a1.fRoute.fAttrs).bind fun i=>
 some i
theorem B0r (a0:D3) (a1:A1) (r:Bool) (h:A2f a0 a1=some r):AC Tryz.prog 77 [.d (F3 a0),.dptr (A8 a1)] [] (.d (.bool r)) []:=by
 refine AC.of_code2 Tryz.func77 rfl rfl (Nat.le_of_ble_eq_true (by rfl)) fun B hB hN => ?_;delta A2f at h;refine sr (SQ tt) ?_;obtain⟨i,p,h⟩:=bindS h;refine sr (SQ (fa (cl [] (B32 a0.fattrs a1.fRoute.fAttrs i p)) tt)) ?_;apply ret;obtain rfl:=oi h;exact rt (kp [(3,_)] [] hB rfl rfl (by rfl)) [bo i] (rT rN) rfl
def O9 (a0:(List D3)) (a1:A1) (i:Int):Option ((Int⊕Unit)⊕Int):=
 (if (decide (i<(a0.length:Int)))=true then
 (idx a0 i).bind fun p=>
 (A2f p a1).bind fun s=>
 (if s=true then
 some (.inl (.inl i))
 else
 some (.inr (w64 (i+1))))
 else
 some (.inl (.inr ())))
def T9 (a0:(List D3)) (a1:A1):Option (Int):=
 (loop (O9 a0 a1) 0).bind fun i=>match i with
 | (.inl p)=>
  some p
 | (.inr _)=>
  some (-1)
theorem A82 (a0:(List D3)) (a1:A1) (r:Int) (h:T9 a0 a1=some r):AC Tryz.prog 76 [.d (.list 12 (a0.map F3)),.func 77 [.dptr (A8 a1)]] [] (.d (.int .i64 r)) []:=by
 refine AC.of_code2 Tryz.func76 rfl rfl (Nat.le_of_ble_eq_true (by rfl)) fun B hB hN => ?_;delta T9 at h;refine sr (SQ tt) ?_;apply seq;refine sr (SQ tt) ?_;apply block;obtain⟨E,F,h⟩:=bindS h;refine lg (O9 a0 a1) (fun p:Int=>([(0,.d (.list 12 (a0.map F3))),(1,.func 77 [.dptr (A8 a1)]),(7,i6 (a0.length:Int)),(8,i6 p)]:EL)) (fun p:Int=>([]:OL)) (fun(x:(Int)⊕Unit) e s t=>match x with | (.inl i)=>e = .ret∧Mat B s t ([(4,i6 i)]:EL) ([]:OL) | (.inr _p)=>e = .exit 0∧Mat B s t ([]:EL) ([]:OL)) F (mp [] _ _ hB) (fun p y h => ?_) (fun e s t hR => ?_)
 ·unfold O9 at h;refine sr (SQ tt) ?_;apply seq;apply AWp.cond rfl<;>intro A
  ·have h:=A5 A h;apply AWp.skip;apply A0;apply seq;apply block;refine sr (SQ tt) ?_;obtain⟨G,H,h⟩:=bindS h;obtain⟨I,J,h⟩:=bindS h;refine sr (SQ (fa H (fa (cl [] (B0r G a1 I J)) tt))) ?_;apply AWp.cond rfl<;>intro C
   ·have h:=A5 C h;refine sr (SQ tt) ?_;apply ret;apply D8;apply B8;obtain rfl:=oi h;exact⟨nofun,rfl,mp [] _ _ hB⟩
   ·have h:=A6 C h;apply AWp.skip;apply D7;apply A0;refine rg (SQ tt) ?_;obtain rfl:=oi h;exact⟨rfl,mp [] _ _ hB⟩
  ·have h:=A6 A h;apply AWp.exit;apply D6;obtain rfl:=oi h;exact⟨nofun,rfl,mp [] _ _ hB⟩
 ·rcases E with i | _
  ·obtain⟨rfl,u⟩:=hR;apply D8;apply B8;obtain rfl:=oi h;exact rt (Mat.trans u (mp [] [(4,i6 i)] [] hB)) [i6 i] (rT rN) rfl
  ·obtain⟨rfl,u⟩:=hR;apply B9;apply A0;refine ghost u ?_;refine sr (SQ tt) ?_;apply ret;obtain rfl:=oi h;exact rt (kp [(4,_)] [] hB rfl rfl (by rfl)) [i6 (-1)] (rT rN) rfl
def A3s (a0:D3) (a1:Bool) (p:Int×(List A7)) (i:Int):Option (Int⊕Int):=
 jn (fun t:Bool=>
 (if t=true then
 some (.inr (w64 (i+1)))
 else
 some (.inl i))) (fun s=>
 (if (decide (i<(a0.fprefixes.length:Int)))=true then
 chk (decide (0≤p.1)&&decide (0≤(w64 (i+1)))&&decide (p.1.toNat≤(w64 (i+1)).toNat)&&decide ((w64 (i+1)).toNat≤a0.fprefixes.length))<|
 (I5 a0.fattrs ((a0.fprefixes.take ((w64 (i+1)).toNat)).drop p.1.toNat) a1).bind fun u=>
 (P8 u).bind fun A=>
 s A
 else
 s false))
def A3t (a0:D3) (a1:Bool) (i:Int×(List A7)):Option (List A7⊕(Int×(List A7))):=
 (if (decide (i.1<(a0.fprefixes.length:Int)))=true then
 (loop (A3s a0 a1 i) (w64 (i.1+1))).bind fun p=>
 chk (decide (0≤i.1)&&decide (0≤p)&&decide (i.1.toNat≤p.toNat)&&decide (p.toNat≤a0.fprefixes.length))<|
 (I5 a0.fattrs ((a0.fprefixes.take p.toNat).drop i.1.toNat) a1).bind fun s=>
 chk (decide ((i.2++[s]).length≤LIM))<|
 some (.inr (p,(i.2++[s])))
 else
 some (.inl i.2))
def A02 (a0:D3) (a1:Bool):Option (List A7):=
 (loop (A3t a0 a1) (0,([]:List A7))).bind fun i=>
 some i
theorem B33 (a0:D3) (a1:Bool) (r:(List A7)) (h:A02 a0 a1=some r):AC Tryz.prog 79 [.d (F3 a0),.d (.bool a1)] Zz10 (.d (.list 13 (r.map E6))) Zz3:=by
 refine ac2 Tryz.func79 rfl rfl fun B hB hN L => ?_;delta A02 at h;refine sr (SQ tt) ?_;refine sr (SQ tt) ?_;apply seq;refine sr (SQ tt) ?_;apply block;obtain⟨p,K,h⟩:=bindS h;refine lg (A3t a0 a1) (fun i:Int×(List A7)=>([(1,bo a1),(2,pt 1002),(5,.sref 3005 13 0 i.2.length),(6,i6 i.1)]:EL)) (fun i:Int×(List A7)=>([(500,some (.know (globD 0 (.imap gv0)))),(1002,bd 123 (F3 a0)),(3005,some (C4 i.2))]:OL)) (fun(p:(List A7)) e s t=>e = .exit 0∧Mat B s t ([(5,.sref 3005 13 0 p.length)]:EL) ([(500,some (.know (globD 0 (.imap gv0)))),(3005,some (C4 p))]:OL)) K (Mat.trans (Mat.beginP (n:=3005) (e:=71) (sz:=13) (Ts:=[(5,.sref 3005 13 0 0)]) (Bs:=[]) hB (by decide) (by rfl) (by decide) (TwT.cons (x:=.nils) (by rfl) (Tw.leaf ⟨rfl,rfl⟩) TwT.nil) TwB.nil) (mp [] _ _ hB)) (fun i y h => ?_) (fun e s t hR => ?_)
 ·unfold A3t at h;apply seq;refine sr (SQ tt) ?_;apply AWp.cond rfl<;>intro G
  ·have h:=A5 G h;apply AWp.skip;apply A0;apply block;refine sr (SQ tt) ?_;apply seq;apply block;obtain⟨E,M,h⟩:=bindS h;refine lg (A3s a0 a1 i) (fun u:Int=>([(1,bo a1),(2,pt 1002),(5,.sref 3005 13 0 i.2.length),(6,i6 i.1),(7,i6 u)]:EL)) (fun u:Int=>([(500,some (.know (globD 0 (.imap gv0)))),(1002,bd 123 (F3 a0)),(3005,some (C4 i.2))]:OL)) (fun(E:(Int)) e s t=>e = .exit 2∧Mat B s t ([(1,bo a1),(2,pt 1002),(5,.sref 3005 13 0 i.2.length),(6,i6 i.1),(7,i6 E)]:EL) ([(500,some (.know (globD 0 (.imap gv0)))),(1002,bd 123 (F3 a0)),(3005,some (C4 i.2))]:OL)) M (mp [] _ _ hB) (fun u y h => ?_) (fun e s t hR => ?_)
   ·unfold A3s at h;apply seq;apply seq;refine AWp.cut h (fun F:Bool=>([(1,bo a1),(2,pt 1002),(5,.sref 3005 13 0 i.2.length),(6,i6 i.1),(7,i6 u),(32,bo F)]:EL)) (fun F:Bool=>([(500,some (.know (globD 0 (.imap gv0)))),(1002,bd 123 (F3 a0)),(3005,some (C4 i.2))]:OL)) (fun F h s t A => ?_) (fun W H h => ?_)
    ·apply A0;refine ghost A ?_;apply AWp.cond rfl<;>intro I
     ·have h:=A5 I h;apply AWp.skip;apply A0;apply block;refine rg (SQ tt) ?_;apply D7;obtain rfl:=oi h;exact⟨rfl,mp [] _ _ hB⟩
     ·have h:=A6 I h;apply AWp.exit;apply D6;obtain rfl:=oi h;exact⟨nofun,rfl,mp [] _ _ hB⟩
    ·rcases bft (decide (u<(a0.fprefixes.length:Int))) with C | C
     ·have h:=A5 C h;obtain⟨N,h⟩:=B2 h;obtain⟨J,O,h⟩:=bindS h;obtain⟨P,Q,h⟩:=bindS h;refine drS (SQ (fa C (fa N (fa (cl [] (A0l a0.fattrs ((a0.fprefixes.take ((w64 (u+1)).toNat)).drop i.1.toNat) a1 J O)) (fa (cl [(500,500)] (A58 J P Q)) tt))))) ?_;exact H _ h _ _ (mp [] _ _ hB)
     ·have h:=A6 C h;refine drS (SQ (fa C tt)) ?_;exact H _ h _ _ (mp [] _ _ hB)
   ·obtain⟨rfl,A⟩:=hR;apply B9;apply A0;refine ghost A ?_;obtain⟨R,h⟩:=B2 h;obtain⟨S,T,h⟩:=bindS h;obtain⟨U,h⟩:=B2 h;refine sdS (SQ (fa R (fa (cl [] (A0l a0.fattrs ((a0.fprefixes.take E.toNat).drop i.1.toNat) a1 S T)) (fa U tt)))) ?_;refine rg (SQ tt) ?_;apply D7;obtain rfl:=oi h;exact⟨rfl,mp [(3005,1046)] _ _ hB⟩
  ·have h:=A6 G h;apply AWp.exit;apply D6;obtain rfl:=oi h;exact⟨nofun,rfl,mp [] _ _ hB⟩
 ·obtain⟨rfl,A⟩:=hR;apply B9;apply A0;refine ghost A ?_;refine sr (SQ tt) ?_;apply ret;obtain rfl:=oi h;exact rt (Mat.trans (Mat.freezeP (n:=3005) (e:=71) (sz:=13) (es:=p.map E6) (Ts:=[(4,D1 p)]) (Bs:=[]) (by rfl) (TwT.cons (x:=(.sref 3005 13 0 p.length)) (by rfl) (FrzL.all (by first | rfl | (simp;done) | (simp;omega) | omega)) TwT.nil) TwB.nil) (mp [] [(4,D1 p)] Zz3 hB)) [D1 p] (rT rN) rfl
def A4f (a0:D3) (a1:Bool) (p:Int×(List A7)) (i:Int):Option (Int⊕Int):=
 jn (fun t:Bool=>
 (if t=true then
 some (.inr (w64 (i+1)))
 else
 some (.inl i))) (fun s=>
 (if (decide (i<(a0.fprefixes.length:Int)))=true then
 chk (decide (0≤p.1)&&decide (0≤(w64 (i+1)))&&decide (p.1.toNat≤(w64 (i+1)).toNat)&&decide ((w64 (i+1)).toNat≤a0.fprefixes.length))<|
 (I5 a0.fattrs ((a0.fprefixes.take ((w64 (i+1)).toNat)).drop p.1.toNat) a1).bind fun u=>
 (P8 u).bind fun A=>
 s A
 else
 s false))
def A4g (a0:D3) (a1:Bool) (i:Int×(List A7)):Option (List A7⊕(Int×(List A7))):=
 (if (decide (i.1<(a0.fprefixes.length:Int)))=true then
 (loop (A4f a0 a1 i) (w64 (i.1+1))).bind fun p=>
 chk (decide (0≤i.1)&&decide (0≤p)&&decide (i.1.toNat≤p.toNat)&&decide (p.toNat≤a0.fprefixes.length))<|
 (I5 a0.fattrs ((a0.fprefixes.take p.toNat).drop i.1.toNat) a1).bind fun s=>
 chk (decide ((i.2++[s]).length≤LIM))<|
 some (.inr (p,(i.2++[s])))
 else
 some (.inl i.2))
def A2g (a0:D3) (a1:Bool):Option (List A7):=
 (loop (A4g a0 a1) (0,([]:List A7))).bind fun i=>
 some i
theorem B0s (a0:D3) (a1:Bool) (r:(List A7)) (h:A2g a0 a1=some r):AC Tryz.prog 79 [.d (F3 a0),.d (.bool a1)] Zz10 (.sref 900000 13 0 r.length) [(500,some (.know (globD 0 (.imap gv0)))),(900000,some (.row 71 13 (r.map E6)))]:=by
 refine ac2 Tryz.func79 rfl rfl fun B hB hN L => ?_;delta A2g at h;refine sr (SQ tt) ?_;refine sr (SQ tt) ?_;apply seq;refine sr (SQ tt) ?_;apply block;obtain⟨p,K,h⟩:=bindS h;refine lg (A4g a0 a1) (fun i:Int×(List A7)=>([(1,bo a1),(2,pt 1002),(5,.sref 3005 13 0 i.2.length),(6,i6 i.1)]:EL)) (fun i:Int×(List A7)=>([(500,some (.know (globD 0 (.imap gv0)))),(1002,bd 123 (F3 a0)),(3005,some (C4 i.2))]:OL)) (fun(p:(List A7)) e s t=>e = .exit 0∧Mat B s t ([(5,.sref 3005 13 0 p.length)]:EL) ([(500,some (.know (globD 0 (.imap gv0)))),(3005,some (C4 p))]:OL)) K (Mat.trans (Mat.beginP (n:=3005) (e:=71) (sz:=13) (Ts:=[(5,.sref 3005 13 0 0)]) (Bs:=[]) hB (by decide) (by rfl) (by decide) (TwT.cons (x:=.nils) (by rfl) (Tw.leaf ⟨rfl,rfl⟩) TwT.nil) TwB.nil) (mp [] _ _ hB)) (fun i y h => ?_) (fun e s t hR => ?_)
 ·unfold A4g at h;apply seq;refine sr (SQ tt) ?_;apply AWp.cond rfl<;>intro G
  ·have h:=A5 G h;apply AWp.skip;apply A0;apply block;refine sr (SQ tt) ?_;apply seq;apply block;obtain⟨E,M,h⟩:=bindS h;refine lg (A4f a0 a1 i) (fun u:Int=>([(1,bo a1),(2,pt 1002),(5,.sref 3005 13 0 i.2.length),(6,i6 i.1),(7,i6 u)]:EL)) (fun u:Int=>([(500,some (.know (globD 0 (.imap gv0)))),(1002,bd 123 (F3 a0)),(3005,some (C4 i.2))]:OL)) (fun(E:(Int)) e s t=>e = .exit 2∧Mat B s t ([(1,bo a1),(2,pt 1002),(5,.sref 3005 13 0 i.2.length),(6,i6 i.1),(7,i6 E)]:EL) ([(500,some (.know (globD 0 (.imap gv0)))),(1002,bd 123 (F3 a0)),(3005,some (C4 i.2))]:OL)) M (mp [] _ _ hB) (fun u y h => ?_) (fun e s t hR => ?_)
   ·unfold A4f at h;apply seq;apply seq;refine AWp.cut h (fun F:Bool=>([(1,bo a1),(2,pt 1002),(5,.sref 3005 13 0 i.2.length),(6,i6 i.1),(7,i6 u),(32,bo F)]:EL)) (fun F:Bool=>([(500,some (.know (globD 0 (.imap gv0)))),(1002,bd 123 (F3 a0)),(3005,some (C4 i.2))]:OL)) (fun F h s t A => ?_) (fun W H h => ?_)
    ·apply A0;refine ghost A ?_;apply AWp.cond rfl<;>intro I
     ·have h:=A5 I h;apply AWp.skip;apply A0;apply block;refine rg (SQ tt) ?_;apply D7;obtain rfl:=oi h;exact⟨rfl,mp [] _ _ hB⟩
     ·have h:=A6 I h;apply AWp.exit;apply D6;obtain rfl:=oi h;exact⟨nofun,rfl,mp [] _ _ hB⟩
    ·rcases bft (decide (u<(a0.fprefixes.length:Int))) with C | C
     ·have h:=A5 C h;obtain⟨N,h⟩:=B2 h;obtain⟨J,O,h⟩:=bindS h;obtain⟨P,Q,h⟩:=bindS h;refine drS (SQ (fa C (fa N (fa (cl [] (A0l a0.fattrs ((a0.fprefixes.take ((w64 (u+1)).toNat)).drop i.1.toNat) a1 J O)) (fa (cl [(500,500)] (A58 J P Q)) tt))))) ?_;exact H _ h _ _ (mp [] _ _ hB)
     ·have h:=A6 C h;refine drS (SQ (fa C tt)) ?_;exact H _ h _ _ (mp [] _ _ hB)
   ·obtain⟨rfl,A⟩:=hR;apply B9;apply A0;refine ghost A ?_;obtain⟨R,h⟩:=B2 h;obtain⟨S,T,h⟩:=bindS h;obtain⟨U,h⟩:=B2 h;refine sdS (SQ (fa R (fa (cl [] (A0l a0.fattrs ((a0.fprefixes.take E.toNat).drop i.1.toNat) a1 S T)) (fa U tt)))) ?_;refine rg (SQ tt) ?_;apply D7;obtain rfl:=oi h;exact⟨rfl,mp [(3005,1046)] _ _ hB⟩
  ·have h:=A6 G h;apply AWp.exit;apply D6;obtain rfl:=oi h;exact⟨nofun,rfl,mp [] _ _ hB⟩
 ·obtain⟨rfl,A⟩:=hR;apply B9;apply A0;refine ghost A ?_;refine sr (SQ tt) ?_;apply ret;obtain rfl:=oi h;exact rt (mp [(900000,3005)] [(4,.sref 900000 13 0 p.length)] [(500,some (.know (globD 0 (.imap gv0)))),(900000,some (C4 p))] hB) [.sref 900000 13 0 p.length] (rT rN) rfl
def A21 (a0:(List A1)) (i:Int×(List D3)×(List A2)):Option ((Unit⊕((List D3)×(List A2)))⊕(Int×(List D3)×(List A2))):=
 (if (decide (i.1<(a0.length:Int)))=true then
 jn (fun u:(List D3)×(List A2)=>
 some (.inr (w64 (i.1+1),u.1,u.2))) (fun A=>
 (idx a0 i.1).bind fun p=>
 jn (fun G:Bool=>
 (if G=true then
 some (.inl (.inl ()))
 else
 (if (!p.fHas)=true then
 chk (decide ((i.2.2++[p.fPrefix]).length≤LIM))<|
 A (i.2.1,(i.2.2++[p.fPrefix]))
 else
 (T9 i.2.1 p).bind fun C=>
 jn (fun s:Int×(List D3)=>
 (idx s.2 s.1).bind fun _=>
 (idx s.2 s.1).bind fun E=>
 chk (decide ((E.fprefixes++[p.fPrefix]).length≤LIM))<|
 (idx s.2 s.1).bind fun _=>
 (idx s.2 s.1).bind fun H=>
 A (s.2.set s.1.toNat (D3.mk H.fattrs (E.fprefixes++[p.fPrefix])),i.2.2)) (fun F=>
 (if (decide (C<0))=true then
 chk (decide ((i.2.1++([D3.mk p.fRoute.fAttrs ([]:List A2)]:List D3)).length≤LIM))<|
 F ((i.2.1.length:Int),(i.2.1++([D3.mk p.fRoute.fAttrs ([]:List A2)]:List D3)))
 else
 F (C,i.2.1)))))) (fun t=>
 (A5x p).bind fun I=>
 (if (!I)=true then
 t true
 else
 (if (decide (0<i.1))=true then
 (idx a0 (w64 (i.1-1))).bind fun J=>
 (A4e J.fPrefix p.fPrefix).bind fun K=>
 t (decide (0≤K))
 else
 t false))))
 else
 some (.inl (.inr (i.2.1,i.2.2))))
def A3u (p:(List D3)×(List A2)) (i:Int×(List A7)):Option (List A7⊕(Int×(List A7))):=
 (if (decide (i.1<(p.1.length:Int)))=true then
 (idx p.1 i.1).bind fun t=>
 (A02 t true).bind fun s=>
 chk (decide ((i.2++s).length≤LIM))<|
 some (.inr (w64 (i.1+1),(i.2++s)))
 else
 some (.inl i.2))
def A5p (a0:(List A1)):Option ((List A7)×Int):=
 (loop (A21 a0) (0,([]:List D3),([]:List A2))).bind fun p=>match p with
 | (.inl _)=>
  some (([]:List A7),1)
 | (.inr i)=>
  (A2g (D3.mk (C2.mk 0 ([]:List B4) (E5.mk false 0 0) 0 0 0 ([]:List B5) ([]:List E7) ([]:List A3)) i.2) false).bind fun s=>
  (loop (A3u i) (0,s)).bind fun t=>
  some (t,0)
theorem B08 (a0:(List A1)) (r:(List A7)×Int) (h:A5p a0=some r):AC Tryz.prog 46 [.d (.list 22 (a0.map A8))] Zz10 (.tup [.d (.list 13 (r.1.map E6)),.d (.int .i64 r.2)]) Zz3:=by
 refine ac2 Tryz.func46 rfl rfl fun B hB hN L => ?_;delta A5p at h;refine sr (SQ tt) ?_;refine sr (SQ tt) ?_;refine sr (SQ tt) ?_;apply seq;refine sr (SQ tt) ?_;apply block;obtain⟨ae,af,h⟩:=bindS h;refine lg (A21 a0) (fun i:Int×(List D3)×(List A2)=>([(0,A4 a0),(4,pt 1004),(5,.sref 3005 12 0 i.2.1.length),(12,A4 a0),(13,i6 (a0.length:Int)),(14,i6 i.1)]:EL)) (fun i:Int×(List D3)×(List A2)=>([(500,some (.know (globD 0 (.imap gv0)))),(1004,some (.box 123 (.st [.st Zz7,.sref 13041 4 0 i.2.2.length]))),(3005,some (.reg (nrow 123 12 1 33 4 (i.2.1.map F3) none))),(13041,some (G0 i.2.2))]:OL)) (fun(x:(Unit)⊕((List D3)×(List A2))) e A C=>match x with | (.inl _p)=>e = .ret∧Mat B A C ([(2,.nils),(3,i6 1)]:EL) (Zz3:OL) | (.inr t)=>e = .exit 0∧Mat B A C ([(4,pt 1004),(5,.sref 3005 12 0 t.1.length)]:EL) ([(500,some (.know (globD 0 (.imap gv0)))),(1004,some (.box 123 (.st [.st Zz7,.sref 13041 4 0 t.2.length]))),(3005,some (.reg (nrow 123 12 1 33 4 (t.1.map F3) none))),(13041,some (G0 t.2))]:OL)) af (Mat.trans (Mat.beginG (n:=3005) (e:=123) (sz:=12) (j:=1) (e2:=33) (sz2:=4) (Ts:=[(5,.sref 3005 12 0 0)]) (Bs:=[]) hB (by decide) (by decide) (by rfl) (by decide) (TwT.cons (x:=.nils) (by rfl) (Tw.leaf ⟨rfl,rfl⟩) TwT.nil) TwB.nil) (Mat.trans (Mat.beginP (n:=13041) (e:=33) (sz:=4) (Ts:=[]) (Bs:=[(1004,some (.box 123 (.st [.st Zz7,.sref 13041 4 0 0])))]) hB (by decide) (by rfl) (by decide) TwT.nil (TwB.cons (x:=(.st [.st Zz7,.nils])) (by rfl) (Tw.st (TwL.cons (Tw.same _) (TwL.cons (Tw.leaf ⟨rfl,rfl⟩) TwL.nil))) TwB.nil)) (mp [] _ _ hB))) (fun i y h => ?_) (fun e A C hR => ?_)
 ·unfold A21 at h;refine sr (SQ tt) ?_;apply seq;apply AWp.cond rfl<;>intro S
  ·have h:=A5 S h;apply AWp.skip;apply A0;apply seq;refine AWp.cut h (fun H:(List D3)×(List A2)=>([(0,A4 a0),(4,pt 1004),(5,.sref 3005 12 0 H.1.length),(12,A4 a0),(13,i6 (a0.length:Int)),(14,i6 i.1)]:EL)) (fun H:(List D3)×(List A2)=>([(500,some (.know (globD 0 (.imap gv0)))),(1004,some (.box 123 (.st [.st Zz7,.sref 13041 4 0 H.2.length]))),(3005,some (.reg (nrow 123 12 1 33 4 (H.1.map F3) none))),(13041,some (G0 H.2))]:OL)) (fun H h A C u => ?_) (fun az T h => ?_)
   ·apply A0;refine ghost u ?_;refine rg (SQ tt) ?_;obtain rfl:=oi h;exact⟨rfl,mp [] _ _ hB⟩
   ·apply block;obtain⟨s,ag,h⟩:=bindS h;refine sr (SQ (fa ag tt)) ?_;apply seq;apply seq;refine AWp.cut h (fun N:Bool=>([(0,A4 a0),(4,pt 1004),(5,.sref 3005 12 0 i.2.1.length),(7,pt 1007),(12,A4 a0),(13,i6 (a0.length:Int)),(14,i6 i.1),(37,bo N)]:EL)) (fun N:Bool=>([(500,some (.know (globD 0 (.imap gv0)))),(1004,some (.box 123 (.st [.st Zz7,.sref 13041 4 0 i.2.2.length]))),(1007,bd 43 (A8 s)),(3005,some (.reg (nrow 123 12 1 33 4 (i.2.1.map F3) none))),(13041,some (G0 i.2.2))]:OL)) (fun N h A C u => ?_) (fun a5 O h => ?_)
    ·apply A0;refine ghost u ?_;apply AWp.cond rfl<;>intro U
     ·have h:=A5 U h;refine sr (SQ tt) ?_;apply ret;apply B8;apply D8;apply B8;obtain rfl:=oi h;exact⟨nofun,rfl,mp [] _ _ hB⟩
     ·have h:=A6 U h;apply AWp.skip;apply A0;apply seq;refine sr (SQ tt) ?_;apply AWp.cond rfl<;>intro W
      ·have h:=A5 W h;obtain⟨ah,h⟩:=B2 h;refine sr (SQ (fa ah tt)) ?_;refine gh [(0,_),(4,_),(5,_),(12,_),(13,_),(14,_)] [(500,some _),(1004,some _),(1046,some _),(3005,some _)] hB rfl rfl (by rfl) ?_;apply AWp.exit;apply D6;apply B9;exact T _ h _ _ (mp [(13041,1046)] _ _ hB)
      ·have h:=A6 W h;apply AWp.skip;apply A0;obtain⟨ai,aj,h⟩:=bindS h;apply sr (c (mv hN (q 5)) rfl (cg (OpJ.makeF (OpdL.cons (q 7) OpdL.nil) rfl rfl (L rfl)) rfl (cg (OpJ.peek [(3005,.reg (nrow 123 12 1 33 4 (i.2.1.map F3) none)),(1007,.box 43 (.d (A8 s)))] fnOk76 (A82 i.2.1 s ai aj) rfl (L rfl) (by kernel_rfl) (OpdL.cons (q 48) (OpdL.cons (q 49) OpdL.nil)) (PkL.cons (Pk.reg (List.Mem.head _) (by simp)) (PkL.cons (Pk.fn (PkL.cons (Pk.box (List.Mem.tail _ (List.Mem.head _)) (Co.d _)) PkL.nil)) PkL.nil))) rfl (c (assign (L rfl) (q 50)) rfl cn))));apply seq;refine sr (SQ tt) ?_;refine gh [(0,_),(4,_),(5,_),(7,_),(8,_),(12,_),(13,_),(14,_),(52,_)] [(500,some _),(1004,some _),(1007,some _),(3005,some _),(13041,some _)] hB rfl rfl (by rfl) ?_;refine AWp.cut h (fun p:Int×(List D3)=>([(0,A4 a0),(4,pt 1004),(5,.sref 3005 12 0 p.2.length),(7,pt 1007),(8,i6 p.1),(12,A4 a0),(13,i6 (a0.length:Int)),(14,i6 i.1)]:EL)) (fun p:Int×(List D3)=>([(500,some (.know (globD 0 (.imap gv0)))),(1004,some (.box 123 (.st [.st Zz7,.sref 13041 4 0 i.2.2.length]))),(1007,bd 43 (A8 s)),(3005,some (.reg (nrow 123 12 1 33 4 (p.2.map F3) none))),(13041,some (G0 i.2.2))]:OL)) (fun p h A C u => ?_) (fun a6 X h => ?_)
       ·apply A0;refine ghost u ?_;obtain⟨_,Y,h⟩:=bindS h;obtain⟨E,ak,h⟩:=bindS h;obtain⟨al,h⟩:=B2 h;obtain⟨_,Z,h⟩:=bindS h;obtain⟨J,am,h⟩:=bindS h;apply dr (c (mv hN (q 5)) rfl (c (mv hN (q 8)) rfl (c (mv hN (q 5)) rfl (c (mv hN (q 8)) rfl (c (OpJ.val (v':=(.ptr 3005 (p.1.toNat*12) [p.1.toNat])) (by simp) (indexS underlying124 tyS123 (G3 Y).1 (by have:=B52 Y;first | (simpa using this) | ((try simp only [List.length_map] at this);(try simp only [List.length_map]);omega)) (L rfl) (q 64) (q 65))) rfl (c (ov (.ptr 3005 ((p.1.toNat*12)+11) [p.1.toNat,1]) (fp hN underlying123 11 tyS69 _ (q 66))) rfl (cg (OpJ.takeG hB (m:=1068) (e:=123) (sz:=12) (j:=1) (e2:=33) (sz2:=4) (len:=E.fprefixes.length) (es:=p.2.map F3) (pre:=([C8 E.fattrs]:List D)) (inner:=E.fprefixes.map B0) (post:=([]:List D)) tyS69 (by decide) (X8 F3 (G3 ak).2) (by rfl) (o:=11) (by rfl) (by rfl) (by simp) (L rfl) (q 67)) rfl (c (fo 1007 1 [1] hN underlying43 1 tyS33 (q 7)) rfl (c (la hN 43 tyS33 (q 69)) rfl (c (buildSlice underlying69 tyS33 tyZD33 (by rfl) (by decide) (by decide) (Opds.cons (q 70) Opds.nil) (by kernel_rfl) (es:=([B0 s.fPrefix]:List D)) (by rfl) (by rfl) (by kernel_rfl) (by simp) (L rfl)) rfl (cg (apd hB underlying69 tyE33 1072 B0 E.fprefixes [s.fPrefix] al (L rfl) (q 68) (q 71)) rfl (c (OpJ.val (v':=(.ptr 3005 (p.1.toNat*12) [p.1.toNat])) (by simp) (indexS underlying124 tyS123 (G3 Z).1 (by have:=B52 Z;first | (simpa using this) | ((try simp only [List.length_map] at this);(try simp only [List.length_map]);omega)) (L rfl) (q 62) (q 63))) rfl (c (ov (.ptr 3005 ((p.1.toNat*12)+11) [p.1.toNat,1]) (fp hN underlying123 11 tyS69 _ (q 73))) rfl (cg (OpJ.putG (e:=123) (sz:=12) (j:=1) (e2:=33) (sz2:=4) (es:=p.2.map F3) (es':=(p.2.set p.1.toNat (D3.mk J.fattrs (E.fprefixes++[s.fPrefix]))).map F3) (pre:=([C8 J.fattrs]:List D)) (inner0:=J.fprefixes.map B0) (inner:=(E.fprefixes++[s.fPrefix]).map B0) (post:=([]:List D)) tyS69 (X8 F3 (G3 am).2) (B22 _ _ _ _) (by rfl) (o:=11) (by rfl) (by rfl) (by simp) (q 74) (q 72)) rfl cn)))))))))))))) (by kernel_rfl) (by kernel_rfl)
        apply D7;exact T _ h _ _ (Mat.trans (mp [] [(0,A4 a0),(4,pt 1004),(5,.sref 3005 12 0 p.2.length),(12,A4 a0),(13,i6 (a0.length:Int)),(14,i6 i.1)] [(500,some (.know (globD 0 (.imap gv0)))),(1004,some (.box 123 (.st [.st Zz7,.sref 13041 4 0 i.2.2.length]))),(3005,some (.reg (nrow 123 12 1 33 4 ((p.2.set p.1.toNat (D3.mk J.fattrs (E.fprefixes++[s.fPrefix]))).map F3) none))),(13041,some (G0 i.2.2))] hB) (Mat.trans (Mat.lenP (Ts:=[(5,.sref 3005 12 0 ((p.2.set p.1.toNat (D3.mk J.fattrs (E.fprefixes++[s.fPrefix]))).length))]) (Bs:=[]) (TwT.cons (x:=(.sref 3005 12 0 p.2.length)) (by rfl) (Tw.leaf ⟨_,_,_,_,_,rfl,rfl,(by first | rfl | (simp;done) | (simp;omega) | omega)⟩) TwT.nil) TwB.nil) (mp [] _ _ hB)))
       ·apply AWp.cond rfl<;>intro aa
        ·have h:=A5 aa h;refine sr (SQ tt) ?_;obtain⟨ab,h⟩:=B2 h;apply rg (c (mv hN (q 5)) rfl (c (fo 1007 6 [3] hN underlying43 6 tyS41 (q 7)) rfl (c (fo 1007 11 [3,2] hN underlying41 5 tyS39 (q 56)) rfl (c (lb hN 43 _ _ tyS39 (At.dst1 (by rfl) (by rfl) (ad _) (by first | rfl | omega)) (q 57)) rfl (c (OpJ.build (places:=[(0,11),(11,1)]) ⟨underlying123,fun w=>by kernel_rfl⟩ tyZS123 (Opds.cons (q 58) Opds.nil) (by kernel_rfl) (r:=(.st [.d (C8 s.fRoute.fAttrs),.nils])) (by rfl) (L rfl)) rfl (cg (OpJ.buildSliceG (e:=123) (sz:=12) (j:=1) (e2:=33) (sz2:=4) (z:=(.st [.st Zz2,.list 4 (([]:List A2).map B0)])) underlying124 tyS123 tyZD123 (by rfl) (by decide) (by decide) (by decide) hB (nm:=1060) (by decide) (pre:=([C8 s.fRoute.fAttrs]:List D)) (post:=([]:List D)) (q 59) (by kernel_rfl) (es:=([D3.mk s.fRoute.fAttrs ([]:List A2)]:List D3).map F3) (by rfl) (by rfl) (by kernel_rfl) (L rfl)) rfl (cg (OpJ.appendG hB underlying124 tyE123 (nm:=1061) (by decide) (j:=1) (e2:=33) (sz2:=4) (es:=i.2.1.map F3) (ys:=([D3.mk s.fRoute.fAttrs ([]:List A2)]:List D3).map F3) (es':=(i.2.1++([D3.mk s.fRoute.fAttrs ([]:List A2)]:List D3)).map F3) (len:=(i.2.1++([D3.mk s.fRoute.fAttrs ([]:List A2)]:List D3)).length) (by rfl) (by simp) (by simp) (by simp) (by rw [List.length_map];exact A0i ab (by decide)) (by rw [List.length_map];exact A3g ab) (L rfl) (by simp) (by simp) (q 55) (q 60)) rfl (c (assign (L rfl) (q 61)) rfl cn))))))))
         exact X _ h _ _ (mp [(3005,1061)] _ _ hB)
        ·have h:=A6 aa h;apply AWp.skip;exact X _ h _ _ (mp [] _ _ hB)
    ·obtain⟨M,P,h⟩:=bindS h;rcases bft (!M) with I | I
     ·have h:=A5 I h;refine drS (SQ (fa (cl [(500,500)] (A6v s M P)) (fa I tt))) ?_;exact O _ h _ _ (mp [] _ _ hB)
     ·have h:=A6 I h;rcases bft (decide (0<i.1)) with K | K
      ·have h:=A5 K h;obtain⟨an,ao,h⟩:=bindS h;obtain⟨ap,aq,h⟩:=bindS h;refine drS (SQ (fa (cl [(500,500)] (A6v s M P)) (fa I (fa K (fa ao (fa (cl [] (A9i an.fPrefix s.fPrefix ap aq)) tt)))))) ?_;exact O _ h _ _ (mp [] _ _ hB)
      ·have h:=A6 K h;refine drS (SQ (fa (cl [(500,500)] (A6v s M P)) (fa I (fa K tt)))) ?_;exact O _ h _ _ (mp [] _ _ hB)
  ·have h:=A6 S h;apply AWp.exit;apply D6;obtain rfl:=oi h;exact⟨nofun,rfl,mp [] _ _ hB⟩
 ·rcases ae with _ | t
  ·obtain⟨rfl,u⟩:=hR;apply D8;apply B8;obtain rfl:=oi h;exact rt (Mat.trans u (Mat.trans (Mat.coeP (Ts:=[(2,D1 ([]:List A7))]) (Bs:=[]) (TwT.cons (x:=.nils) (by rfl) (Tw.leaf ⟨_,Co.nils 13,rfl⟩) TwT.nil) TwB.nil) (mp [] [(2,D1 ([]:List A7)),(3,i6 1)] Zz3 hB))) [D1 ([]:List A7),i6 1] (rT (rT rN)) rfl
  ·obtain⟨rfl,u⟩:=hR;apply B9;apply A0;refine ghost u ?_;apply seq;refine ghost (Mat.freezeP (n:=13041) (e:=33) (sz:=4) (es:=t.2.map B0) (Ts:=[]) (Bs:=[(1004,some (.box 123 (.st [.st Zz7,F8 t.2])))]) (by rfl) TwT.nil (TwB.cons (x:=(.st [.st Zz7,.sref 13041 4 0 t.2.length])) (by rfl) (Tw.st (TwL.cons (Tw.same _) (TwL.cons (FrzL.all (by first | rfl | (simp;done) | (simp;omega) | omega)) TwL.nil))) TwB.nil)) ?_
   obtain⟨Q,ar,h⟩:=bindS h;refine rg (SQ (fa (cl [(500,500),(900000,100300)] (B0s (D3.mk (C2.mk 0 ([]:List B4) (E5.mk false 0 0) 0 0 0 ([]:List B5) ([]:List E7) ([]:List A3)) t.2) false Q ar)) tt)) ?_;apply A0;refine ghost (mp [] [(5,.sref 3005 12 0 t.1.length),(9,.sref 100300 13 0 Q.length)] [(500,some (.know (globD 0 (.imap gv0)))),(3005,some (.reg (nrow 123 12 1 33 4 (t.1.map F3) none))),(100300,some (C4 Q))] hB) ?_;apply seq;refine sr (SQ tt) ?_;apply block;obtain⟨F,au,h⟩:=bindS h;refine lg (A3u t) (fun G:Int×(List A7)=>([(9,.sref 3009 13 0 G.2.length),(78,.d (.list 12 (t.1.map F3))),(79,i6 (t.1.length:Int)),(80,i6 G.1)]:EL)) (fun G:Int×(List A7)=>([(500,some (.know (globD 0 (.imap gv0)))),(3009,some (C4 G.2))]:OL)) (fun(F:(List A7)) e A C=>e = .exit 2∧Mat B A C ([(9,.sref 3009 13 0 F.length)]:EL) ([(500,some (.know (globD 0 (.imap gv0)))),(3009,some (C4 F))]:OL)) au (Mat.trans (Mat.freezeG (n:=3005) (e:=123) (sz:=12) (j:=1) (e2:=33) (sz2:=4) (es:=t.1.map F3) (Ts:=[(78,.d (.list 12 (t.1.map F3)))]) (Bs:=[]) (by rfl) (TwT.cons (x:=(.sref 3005 12 0 t.1.length)) (by rfl) (FrzL.all (by first | rfl | (simp;done) | (simp;omega) | omega)) TwT.nil) TwB.nil) (mp [(3009,100300)] _ _ hB)) (fun G y h => ?_) (fun e A C hR => ?_)
   ·unfold A3u at h;refine sr (SQ tt) ?_;apply seq;apply AWp.cond rfl<;>intro ac
    ·have h:=A5 ac h;apply AWp.skip;apply A0;apply seq;apply block;obtain⟨av,aw,h⟩:=bindS h;refine sr (SQ (fa aw tt)) ?_;obtain⟨R,ax,h⟩:=bindS h;obtain⟨ay,h⟩:=B2 h;refine rg (SQ (fa (cl [(500,500)] (B33 av true R ax)) (fa ay tt))) ?_;apply D7;apply A0;refine ghost (mp [] [(9,.sref 1087 13 0 ((G.2++R).length)),(78,.d (.list 12 (t.1.map F3))),(79,i6 (t.1.length:Int)),(80,i6 G.1)] [(500,some (.know (globD 0 (.imap gv0)))),(1087,some (C4 (G.2++R)))] hB) ?_;refine rg (SQ tt) ?_;obtain rfl:=oi h;exact⟨rfl,mp [(3009,1087)] _ _ hB⟩
    ·have h:=A6 ac h;apply AWp.exit;apply D6;obtain rfl:=oi h;exact⟨nofun,rfl,mp [] _ _ hB⟩
   ·obtain⟨rfl,u⟩:=hR;apply B9;apply A0;refine ghost u ?_;refine sr (SQ tt) ?_;apply ret;obtain rfl:=oi h;exact rt (Mat.trans (Mat.freezeP (n:=3009) (e:=71) (sz:=13) (es:=F.map E6) (Ts:=[(2,D1 F)]) (Bs:=[]) (by rfl) (TwT.cons (x:=(.sref 3009 13 0 F.length)) (by rfl) (FrzL.all (by first | rfl | (simp;done) | (simp;omega) | omega)) TwT.nil) TwB.nil) (mp [] [(2,D1 F),(3,i6 0)] Zz3 hB)) [D1 F,i6 0] (rT (rT rN)) rfl
def A22 (a0:A1):Option (Bool):=
 (A5p [a0]).bind fun i=>
 some (i.2==0)
theorem A7v (a0:A1) (r:Bool) (h:A22 a0=some r):AC Tryz.prog 31 [.d (A8 a0)] Zz10 (.d (.bool r)) Zz3:=by
 refine AC.of_code2 Tryz.func31 rfl rfl (Nat.le_of_ble_eq_true (by rfl)) fun B hB hN => ?_;delta A22 at h;refine sr (SQ tt) ?_;apply seq;obtain⟨i,p,h⟩:=bindS h;refine rg (SQ (fa (cl [(500,500)] (B08 [a0] i p)) tt)) ?_;apply A0;refine ghost (mp [] [(4,i6 i.2)] Zz3 hB) ?_;refine sr (SQ tt) ?_;apply ret;obtain rfl:=oi h;exact rt (kp [(2,_)] [(500,some _)] hB rfl rfl (by rfl)) [bo (i.2==0)] (rT rN) rfl
def A2h (a0:C3) (i:Int×(List (A2×Bool))):Option ((Unit⊕Unit)⊕(Int×(List (A2×Bool)))):=
 (if (decide (i.1<(a0.fPending.length:Int)))=true then
 (idx a0.fPending i.1).bind fun p=>
 jn (fun t:Bool=>
 (if t=true then
 some (.inl (.inl ()))
 else
 some (.inr (w64 (i.1+1),mput keq33 i.2 p.fPrefix true)))) (fun s=>
 (if ((mget keq33 i.2 p.fPrefix).getD false)=true then
 s true
 else
 (A22 p).bind fun u=>
 s (!u)))
 else
 some (.inl (.inr ())))
def A2x (a0:C3):Option (Bool):=
 (A4s a0.fBucket).bind fun i=>
 (if ((!i) || (decide (4096<(a0.fPending.length:Int))))=true then
 some false
 else
 (loop (A2h a0) (0,([]:List (A2×Bool)))).bind fun p=>match p with
 | (.inl _)=>
  some false
 | (.inr _)=>
  some true)
theorem A2i (a0:C3) (r:Bool) (h:A2x a0=some r):AC Tryz.prog 11 [.d (D4 a0)] Zz10 (.d (.bool r)) Zz3:=by
 refine ac2 Tryz.func11 rfl rfl fun B hB hN L => ?_;delta A2x at h;refine sr (SQ tt) ?_;apply seq;obtain⟨J,K,h⟩:=bindS h;refine sr (SQ (fa (cl [] (B2y a0.fBucket J K)) tt)) ?_;apply AWp.cond rfl<;>intro F
 ·have h:=A5 F h;refine sr (SQ tt) ?_;apply ret;apply B8;obtain rfl:=oi h;exact rt (kp [(2,_)] [(500,some _)] hB rfl rfl (by rfl)) [bo false] (rT rN) rfl
 ·have h:=A6 F h;apply AWp.skip;apply A0;apply sr (cg (OpJ.mkmapQ hB (nm:=1016) (by decide) (L rfl)) rfl (c (assign (L rfl) (q 16)) rfl cn));apply seq;refine sr (SQ tt) ?_;apply block;obtain⟨M,N,h⟩:=bindS h;refine lg (A2h a0) (fun p:Int×(List (A2×Bool))=>([(3,.mref 1016),(18,A4 a0.fPending),(19,i6 (a0.fPending.length:Int)),(20,i6 p.1)]:EL)) (fun p:Int×(List (A2×Bool))=>([(500,some (.know (globD 0 (.imap gv0)))),(1016,some (.blk (mapQ (mpairs B0 eB p.2))))]:OL)) (fun(x:(Unit)⊕Unit) e u A=>match x with | (.inl _p)=>e = .ret∧Mat B u A ([(2,bo false)]:EL) (Zz3:OL) | (.inr _p)=>e = .exit 0∧Mat B u A ([]:EL) (Zz3:OL)) N (mp [] _ _ hB) (fun p y h => ?_) (fun e u A hR => ?_)
  ·unfold A2h at h;refine sr (SQ tt) ?_;apply seq;apply AWp.cond rfl<;>intro G
   ·have h:=A5 G h;apply AWp.skip;apply A0;apply seq;apply block;obtain⟨i,O,h⟩:=bindS h;refine sr (SQ (fa O tt)) ?_;apply seq;apply seq;refine AWp.cut h (fun C:Bool=>([(3,.mref 1016),(5,pt 1005),(18,A4 a0.fPending),(19,i6 (a0.fPending.length:Int)),(20,i6 p.1),(32,bo C)]:EL)) (fun C:Bool=>([(500,some (.know (globD 0 (.imap gv0)))),(1005,bd 43 (A8 i)),(1016,some (.blk (mapQ (mpairs B0 eB p.2))))]:OL)) (fun C h u A s => ?_) (fun Q H h => ?_)
    ·apply A0;refine ghost s ?_;apply AWp.cond rfl<;>intro I
     ·have h:=A5 I h;refine sr (SQ tt) ?_;apply ret;apply B8;apply D8;apply B8;obtain rfl:=oi h;exact⟨nofun,rfl,mp [] _ _ hB⟩
     ·have h:=A6 I h;apply AWp.skip;apply A0;apply rg (c (mv hN (q 3)) rfl (c (fo 1005 1 [1] hN underlying43 1 tyS33 (q 5)) rfl (c (la hN 43 tyS33 (q 34)) rfl (cg (OpJ.mputQ (g:=eB) (v:=true) (l:=p.2) (k:=i.fPrefix) tyU82 underlying33 keyEq33 (q 33) (q 35) (Opd.bool true)) rfl cn))));apply D7;apply A0;refine rg (SQ tt) ?_;obtain rfl:=oi h;exact⟨rfl,mp [] _ _ hB⟩
    ·rcases bft ((mget keq33 p.2 i.fPrefix).getD false) with t | t
     ·have h:=A5 t h;apply rg (c (mv hN (q 3)) rfl (c (fo 1005 1 [1] hN underlying43 1 tyS33 (q 5)) rfl (c (la hN 43 tyS33 (q 25)) rfl (cg (OpJ.mlookQ (g:=eB) (l:=p.2) (k:=i.fPrefix) tyU82 underlying33 keyEq33 (z:=false) tyZD4 (L rfl) (q 24) (q 26)) rfl (c (OpJ.val (v':=.d (.bool true)) (by rw [t]<;>rfl) (mv hN (q 27))) rfl (ks 28 (L rfl) (ks 28 (L rfl) (ks 28 (L rfl) (c (pickT (L rfl) (q 28) (Opd.bool true)) rfl cn)))))))));exact H _ h _ _ (mp [] _ _ hB)
     ·have h:=A6 t h;obtain⟨E,P,h⟩:=bindS h;refine AWp.region (oc (mv hN (ot 3 (.mref 1016)))
       (oc (ov (.ptr 1005 1 [1]) (fp hN underlying43 1 tyS33 (.box 43 (.d (A8 i))) (ot 5 (pt 1005))))
       (oc (lb hN 43 (.d (A8 i)) (.d (B0 i.fPrefix)) tyS33 (ad (B0 i.fPrefix)) (ot 25 (.ptr 1005 1 [1])))
       (oc (OpJ.mlookQ (g:=eB) (l:=p.2) (k:=i.fPrefix) tyU82 underlying33 keyEq33 (z:=false) tyZD4 (L rfl) (ot 24 (.mref 1016)) (ot 26 (.d (B0 i.fPrefix))))
       (oc (OpJ.val (v':=.d (.bool false)) (by rw [t]<;>rfl) (mv hN (ot 27 (bo ((mget keq33 p.2 i.fPrefix).getD false)))))
       (oc (gd 28 (lb hN 43 (.d (A8 i)) (.d (A8 i)) tyS43 (At.here _) (ot 5 (pt 1005))))
       (oc (gd 28 (OpJ.callFn hB fnOk31 (A7v i E P) [(500,500)] (by kernel_rfl) (L rfl) (by kernel_rfl) (OpdL.cons (ot 29 (.d (A8 i))) OpdL.nil)))
       (oc (gd 28 (OpJ.not (L rfl) (ot 30 (bo E))))
       (oc (pickF (L rfl) (ot 28 (bo false)) (ot 31 (bo (!E))))
       (OpJs.nil)))))))))) (by rfl) (by rfl) ?_
      exact H _ h _ _ (mp [] _ _ hB)
   ·have h:=A6 G h;apply AWp.exit;apply D6;obtain rfl:=oi h;exact⟨nofun,rfl,mp [] _ _ hB⟩
  ·rcases M with _ | _
   ·obtain⟨rfl,s⟩:=hR;apply D8;apply B8;obtain rfl:=oi h;exact rt (Mat.trans s (mp [] [(2,bo false)] Zz3 hB)) [bo false] (rT rN) rfl
   ·obtain⟨rfl,s⟩:=hR;apply B9;apply A0;refine ghost s ?_;refine sr (SQ tt) ?_;apply ret;obtain rfl:=oi h;exact rt (kp [(2,_)] [(500,some _)] hB rfl rfl (by rfl)) [bo true] (rT rN) rfl
def A4v (a0:A1):Option (Bool):=
 (A22 a0).bind fun i=>
 some (!i)
theorem B34 (a0:A1) (r:Bool) (h:A4v a0=some r):AC Tryz.prog 39 [.d (A8 a0)] Zz10 (.d (.bool r)) Zz3:=by
 refine AC.of_code2 Tryz.func39 rfl rfl (Nat.le_of_ble_eq_true (by rfl)) fun B hB hN => ?_;delta A4v at h;refine sr (SQ tt) ?_;apply seq;obtain⟨i,p,h⟩:=bindS h;refine rg (SQ (fa (cl [(500,500)] (A7v a0 i p)) tt)) ?_;apply A0;refine ghost (mp [] [(2,bo (!i))] Zz3 hB) ?_;apply ret;obtain rfl:=oi h;exact rt (kp [(2,_)] [(500,some _)] hB rfl rfl (by rfl)) [bo (!i)] (rT rN) rfl
def P0 (a0:(List A1)) (i:Int):Option ((Int⊕Unit)⊕Int):=
 (if (decide (i<(a0.length:Int)))=true then
 (idx a0 i).bind fun p=>
 (A4v p).bind fun s=>
 (if s=true then
 some (.inl (.inl i))
 else
 some (.inr (w64 (i+1))))
 else
 some (.inl (.inr ())))
def A0a (a0:(List A1)):Option (Int):=
 (loop (P0 a0) 0).bind fun i=>match i with
 | (.inl p)=>
  some p
 | (.inr _)=>
  some (-1)
theorem A83 (a0:(List A1)) (r:Int) (h:A0a a0=some r):AC Tryz.prog 68 [.d (.list 22 (a0.map A8)),.func 39 []] Zz10 (.d (.int .i64 r)) Zz3:=by
 refine AC.of_code2 Tryz.func68 rfl rfl (Nat.le_of_ble_eq_true (by rfl)) fun B hB hN => ?_;delta A0a at h;refine sr (SQ tt) ?_;apply seq;refine sr (SQ tt) ?_;apply block;obtain⟨F,G,h⟩:=bindS h;refine lg (P0 a0) (fun i:Int=>([(0,A4 a0),(1,.func 39 []),(7,i6 (a0.length:Int)),(8,i6 i)]:EL)) (fun i:Int=>(Zz3:OL)) (fun(x:(Int)⊕Unit) e s t=>match x with | (.inl p)=>e = .ret∧Mat B s t ([(4,i6 p)]:EL) (Zz3:OL) | (.inr _p)=>e = .exit 0∧Mat B s t ([]:EL) (Zz3:OL)) G (mp [] _ _ hB) (fun i y h => ?_) (fun e s t hR => ?_)
 ·unfold P0 at h;refine sr (SQ tt) ?_;apply seq;apply AWp.cond rfl<;>intro A
  ·have h:=A5 A h;apply AWp.skip;apply A0;apply seq;apply block;refine sr (SQ tt) ?_;apply seq;obtain⟨H,I,h⟩:=bindS h;obtain⟨C,J,h⟩:=bindS h;refine rg (SQ (fa I (fa (cl [(500,500)] (B34 H C J)) tt))) ?_;apply A0;refine ghost (mp [] [(0,A4 a0),(1,.func 39 []),(5,i6 i),(7,i6 (a0.length:Int)),(8,i6 i),(16,bo C)] Zz3 hB) ?_;apply AWp.cond rfl<;>intro E
   ·have h:=A5 E h;refine sr (SQ tt) ?_;apply ret;apply D8;apply B8;obtain rfl:=oi h;exact⟨nofun,rfl,mp [] _ _ hB⟩
   ·have h:=A6 E h;apply AWp.skip;apply D7;apply A0;refine rg (SQ tt) ?_;obtain rfl:=oi h;exact⟨rfl,mp [] _ _ hB⟩
  ·have h:=A6 A h;apply AWp.exit;apply D6;obtain rfl:=oi h;exact⟨nofun,rfl,mp [] _ _ hB⟩
 ·rcases F with p | _
  ·obtain⟨rfl,u⟩:=hR;apply D8;apply B8;obtain rfl:=oi h;exact rt (Mat.trans u (mp [] [(4,i6 p)] Zz3 hB)) [i6 p] (rT rN) rfl
  ·obtain⟨rfl,u⟩:=hR;apply B9;apply A0;refine ghost u ?_;refine sr (SQ tt) ?_;apply ret;obtain rfl:=oi h;exact rt (kp [(4,_)] [(500,some _)] hB rfl rfl (by rfl)) [i6 (-1)] (rT rN) rfl
def P1 (a0:(List A1)):Option (Bool):=
 (A0a a0).bind fun i=>
 some (decide (0≤i))
theorem A6w (a0:(List A1)) (r:Bool) (h:P1 a0=some r):AC Tryz.prog 38 [.d (.list 22 (a0.map A8)),.func 39 []] Zz10 (.d (.bool r)) Zz3:=by
 refine AC.of_code2 Tryz.func38 rfl rfl (Nat.le_of_ble_eq_true (by rfl)) fun B hB hN => ?_;delta P1 at h;refine sr (SQ tt) ?_;apply seq;obtain⟨i,p,h⟩:=bindS h;refine rg (SQ (fa (cl [(500,500)] (A83 a0 i p)) tt)) ?_;apply A0;refine ghost (mp [] [(4,bo (decide (0≤i)))] Zz3 hB) ?_;apply ret;obtain rfl:=oi h;exact rt (kp [(4,_)] [(500,some _)] hB rfl rfl (by rfl)) [bo (decide (0≤i))] (rT rN) rfl
def A36 (a0:D5):Option (D5):=
 (A34 a0.fAttrs).bind fun i=>
 some (D5.mk a0.fPrefix a0.fFrom i)
theorem A8r (a0:D5) (r:D5) (h:A36 a0=some r):AC Tryz.prog 69 [.d (G6 a0)] [] (.d (G6 r)) []:=by
 refine AC.of_code2 Tryz.func69 rfl rfl (Nat.le_of_ble_eq_true (by rfl)) fun B hB hN => ?_;delta A36 at h;refine sr (SQ tt) ?_;obtain⟨i,p,h⟩:=bindS h;refine sr (SQ (fa (cl [] (A8h a0.fAttrs i p)) tt)) ?_;refine sr (SQ tt) ?_;apply ret;obtain rfl:=oi h;exact rt (kp [(2,_)] [(1002,some _)] hB rfl rfl (by rfl)) [.d (.st [B0 a0.fPrefix,.int .i64 a0.fFrom,C8 i])] (Res.cell (c:=(.d (.st [B0 a0.fPrefix,.int .i64 a0.fFrom,C8 i]))) (by rfl) (by rfl) tyS41 (by rfl) (by rfl) (by rfl) rN) rfl
def Y7 (a0:(List A1)) (p:Int×(List A1)):Option (List A1⊕(Int×(List A1))):=
 (if (decide (p.1<(a0.length:Int)))=true then
 (idx a0 p.1).bind fun i=>
 (A36 i.fRoute).bind fun s=>
 chk (decide ((p.2++[A1.mk i.fTo i.fPrefix i.fHas s]).length≤LIM))<|
 some (.inr (w64 (p.1+1),(p.2++[A1.mk i.fTo i.fPrefix i.fHas s])))
 else
 some (.inl p.2))
def A0y (a0:(List A1)):Option (List A1):=
 (loop (Y7 a0) (0,([]:List A1))).bind fun i=>
 some i
theorem A7a (a0:(List A1)) (r:(List A1)) (h:A0y a0=some r):AC Tryz.prog 40 [.d (.list 22 (a0.map A8))] [] (.d (.list 22 (r.map A8))) []:=by
 refine ac2 Tryz.func40 rfl rfl fun B hB hN L => ?_;delta A0y at h;refine sr (SQ tt) ?_;refine sr (SQ tt) ?_;apply seq;refine sr (SQ tt) ?_;apply block;obtain⟨i,A,h⟩:=bindS h;refine lg (Y7 a0) (fun p:Int×(List A1)=>([(3,.sref 3003 22 0 p.2.length),(6,A4 a0),(7,i6 (a0.length:Int)),(8,i6 p.1)]:EL)) (fun p:Int×(List A1)=>([(3003,some (B3 p.2))]:OL)) (fun(i:(List A1)) e s t=>e = .exit 0∧Mat B s t ([(3,.sref 3003 22 0 i.length)]:EL) ([(3003,some (B3 i))]:OL)) A (Mat.trans (Mat.beginP (n:=3003) (e:=43) (sz:=22) (Ts:=[(3,.sref 3003 22 0 0)]) (Bs:=[]) hB (by decide) (by rfl) (by decide) (TwT.cons (x:=.nils) (by rfl) (Tw.leaf ⟨rfl,rfl⟩) TwT.nil) TwB.nil) (mp [] _ _ hB)) (fun p y h => ?_) (fun e s t hR => ?_)
 ·unfold Y7 at h;refine sr (SQ tt) ?_;apply seq;apply AWp.cond rfl<;>intro u
  ·have h:=A5 u h;apply AWp.skip;apply A0;apply seq;apply block;obtain⟨C,E,h⟩:=bindS h;refine sr (SQ (fa E tt)) ?_;obtain⟨F,G,h⟩:=bindS h;refine sr (SQ (fa (cl [] (A8r C.fRoute F G)) tt)) ?_;obtain⟨H,h⟩:=B2 h;refine rg (SQ (fa H tt)) ?_;apply D7;apply A0;refine rg (SQ tt) ?_;obtain rfl:=oi h;exact⟨rfl,mp [(3003,1019)] _ _ hB⟩
  ·have h:=A6 u h;apply AWp.exit;apply D6;obtain rfl:=oi h;exact⟨nofun,rfl,mp [] _ _ hB⟩
 ·obtain⟨rfl,I⟩:=hR;apply B9;apply A0;refine ghost I ?_;refine sr (SQ tt) ?_;apply ret;obtain rfl:=oi h;exact rt (Mat.trans (Mat.freezeP (n:=3003) (e:=43) (sz:=22) (es:=i.map A8) (Ts:=[(2,A4 i)]) (Bs:=[]) (by rfl) (TwT.cons (x:=(.sref 3003 22 0 i.length)) (by rfl) (FrzL.all (by first | rfl | (simp;done) | (simp;omega) | omega)) TwT.nil) TwB.nil) (mp [] [(2,A4 i)] [] hB)) [A4 i] (rT rN) rfl
def A2y (a0:(List A1)) (p:Int×(List A1)):Option (List A1⊕(Int×(List A1))):=
 (if (decide (p.1<(a0.length:Int)))=true then
 (idx a0 p.1).bind fun i=>
 (A36 i.fRoute).bind fun s=>
 chk (decide ((p.2++[A1.mk i.fTo i.fPrefix i.fHas s]).length≤LIM))<|
 some (.inr (w64 (p.1+1),(p.2++[A1.mk i.fTo i.fPrefix i.fHas s])))
 else
 some (.inl p.2))
def U6 (a0:(List A1)):Option (List A1):=
 (loop (A2y a0) (0,([]:List A1))).bind fun i=>
 some i
theorem A2z (a0:(List A1)) (r:(List A1)) (h:U6 a0=some r):AC Tryz.prog 40 [.d (.list 22 (a0.map A8))] [] (.sref 900000 22 0 r.length) [(900000,some (.row 43 22 (r.map A8)))]:=by
 refine ac2 Tryz.func40 rfl rfl fun B hB hN L => ?_;delta U6 at h;refine sr (SQ tt) ?_;refine sr (SQ tt) ?_;apply seq;refine sr (SQ tt) ?_;apply block;obtain⟨i,A,h⟩:=bindS h;refine lg (A2y a0) (fun p:Int×(List A1)=>([(3,.sref 3003 22 0 p.2.length),(6,A4 a0),(7,i6 (a0.length:Int)),(8,i6 p.1)]:EL)) (fun p:Int×(List A1)=>([(3003,some (B3 p.2))]:OL)) (fun(i:(List A1)) e s t=>e = .exit 0∧Mat B s t ([(3,.sref 3003 22 0 i.length)]:EL) ([(3003,some (B3 i))]:OL)) A (Mat.trans (Mat.beginP (n:=3003) (e:=43) (sz:=22) (Ts:=[(3,.sref 3003 22 0 0)]) (Bs:=[]) hB (by decide) (by rfl) (by decide) (TwT.cons (x:=.nils) (by rfl) (Tw.leaf ⟨rfl,rfl⟩) TwT.nil) TwB.nil) (mp [] _ _ hB)) (fun p y h => ?_) (fun e s t hR => ?_)
 ·unfold A2y at h;refine sr (SQ tt) ?_;apply seq;apply AWp.cond rfl<;>intro u
  ·have h:=A5 u h;apply AWp.skip;apply A0;apply seq;apply block;obtain⟨C,E,h⟩:=bindS h;refine sr (SQ (fa E tt)) ?_;obtain⟨F,G,h⟩:=bindS h;refine sr (SQ (fa (cl [] (A8r C.fRoute F G)) tt)) ?_;obtain⟨H,h⟩:=B2 h;refine rg (SQ (fa H tt)) ?_;apply D7;apply A0;refine rg (SQ tt) ?_;obtain rfl:=oi h;exact⟨rfl,mp [(3003,1019)] _ _ hB⟩
  ·have h:=A6 u h;apply AWp.exit;apply D6;obtain rfl:=oi h;exact⟨nofun,rfl,mp [] _ _ hB⟩
 ·obtain⟨rfl,I⟩:=hR;apply B9;apply A0;refine ghost I ?_;refine sr (SQ tt) ?_;apply ret;obtain rfl:=oi h;exact rt (mp [(900000,3003)] [(2,.sref 900000 22 0 i.length)] [(900000,some (B3 i))] hB) [.sref 900000 22 0 i.length] (rT rN) rfl
def A3v (p:(List A1)) (i:Int×(List (A2×Int))):Option ((List (A2×Int))⊕(Int×(List (A2×Int)))):=
 (if (decide (i.1<(p.length:Int)))=true then
 (idx p i.1).bind fun _=>
 (idx p i.1).bind fun s=>
 some (.inr (w64 (i.1+1),mput keq33 i.2 s.fPrefix i.1))
 else
 some (.inl i.2))
def A3w (s:(List A1)) (i:Int×(List (A2×Int))×(List A1)):Option (List A1⊕(Int×(List (A2×Int))×(List A1))):=
 (if (decide (i.1<(s.length:Int)))=true then
 jn (fun t:(List (A2×Int))×(List A1)=>
 some (.inr (w64 (i.1+1),t.1,t.2))) (fun u=>
 (idx s i.1).bind fun p=>
 (if (mget keq33 i.2.1 p.fPrefix).isSome=true then
 (idx i.2.2 ((mget keq33 i.2.1 p.fPrefix).getD 0)).bind fun _=>
 (idx i.2.2 ((mget keq33 i.2.1 p.fPrefix).getD 0)).bind fun _=>
 u (i.2.1,i.2.2.set ((mget keq33 i.2.1 p.fPrefix).getD 0).toNat p)
 else
 chk (decide ((i.2.2++[p]).length≤LIM))<|
 u (mput keq33 i.2.1 p.fPrefix (i.2.2.length:Int),(i.2.2++[p]))))
 else
 some (.inl i.2.2))
def A5q (a0:C3) (a1:(List A1)):Option (C3×Int):=
 jn (fun t:Bool=>
 (if t=true then
 some (C3.mk ([]:List A1) (D9.mk 0 0 0),1)
 else
 (U6 a0.fPending).bind fun i=>
 (loop (A3v i) (0,([]:List (A2×Int)))).bind fun u=>
 (A0y a1).bind fun A=>
 (loop (A3w A) (0,u,i)).bind fun p=>
 (if (decide (4096<(p.length:Int)))=true then
 some (C3.mk ([]:List A1) (D9.mk 0 0 0),3)
 else
 some (C3.mk p a0.fBucket,0)))) (fun s=>
 (A2x a0).bind fun C=>
 (if (!C)=true then
 s true
 else
 (P1 a1).bind fun E=>
 s E))
theorem B09 (a0:C3) (a1:(List A1)) (r:C3×Int) (h:A5q a0 a1=some r):AC Tryz.prog 16 [.d (D4 a0),.d (.list 22 (a1.map A8))] Zz10 (.tup [.d (D4 r.1),.d (.int .i64 r.2)]) Zz3:=by
 refine ac2 Tryz.func16 rfl rfl fun B hB hN L => ?_;delta A5q at h;refine sr (SQ tt) ?_;apply seq;apply seq;refine AWp.cut h (fun I:Bool=>([(1,A4 a1),(2,pt 1002),(4,pt 1004),(20,bo I)]:EL)) (fun I:Bool=>([(500,some (.know (globD 0 (.imap gv0)))),(1002,bd 26 (D4 a0)),(1004,some (.box 26 (.st Zz8)))]:OL)) (fun I h t u A => ?_) (fun j6 K h => ?_)
 ·apply A0;refine ghost A ?_;apply AWp.cond rfl<;>intro M
  ·have h:=A5 M h;refine sr (SQ tt) ?_;apply ret;apply B8;obtain rfl:=oi h;exact rt (Mat.trans (Mat.coeP (Ts:=[]) (Bs:=[(1004,bd 26 (.st Zz5))]) TwT.nil (TwB.cons (x:=(.st Zz8)) (by rfl) (Tw.leaf ⟨_,Co.st (CoL.cons (Co.nils 22) (CoL.cons (Co.d _) CoL.nil)),rfl⟩) TwB.nil)) (mp [] [(4,pt 1004),(5,i6 1)] [(500,some (.know (globD 0 (.imap gv0)))),(1004,bd 26 (.st Zz5))] hB)) [.d (.st Zz5),i6 1] (Res.cell (c:=(.d (.st Zz5))) (by rfl) (by rfl) tyS26 (by rfl) (by rfl) (by rfl) (rT rN)) rfl
  ·have h:=A6 M h;apply AWp.skip;apply A0;apply seq;obtain⟨s,U,h⟩:=bindS h;refine drS (SQ (fa (cl [(900000,100200)] (A2z a0.fPending s U)) tt)) ?_;apply A0;refine ghost (mp [] [(1,A4 a1),(4,pt 1004),(6,pt 1006)] [(500,some (.know (globD 0 (.imap gv0)))),(1004,some (.box 26 (.st Zz8))),(1006,some (.box 26 (.st [.sref 100200 22 0 s.length,.d (C1 a0.fBucket)]))),(100200,some (B3 s))] hB) ?_;apply sr (cg (OpJ.mkmapQ hB (nm:=1028) (by decide) (L rfl)) rfl (c (assign (L rfl) (q 28)) rfl cn));apply seq;refine sr (SQ tt) ?_;apply block;obtain⟨N,W,h⟩:=bindS h;refine lg (A3v s) (fun C:Int×(List (A2×Int))=>([(1,A4 a1),(4,pt 1004),(6,pt 1006),(7,.mref 1028),(30,.sref 100200 22 0 s.length),(31,i6 (s.length:Int)),(32,i6 C.1)]:EL)) (fun C:Int×(List (A2×Int))=>([(500,some (.know (globD 0 (.imap gv0)))),(1004,some (.box 26 (.st Zz8))),(1006,some (.box 26 (.st [.sref 100200 22 0 s.length,.d (C1 a0.fBucket)]))),(1028,some (.blk (mapQ (mpairs B0 (eI .i64) C.2)))),(100200,some (B3 s))]:OL)) (fun(N:(List (A2×Int))) e t u=>e = .exit 0∧Mat B t u ([(1,A4 a1),(4,pt 1004),(6,pt 1006),(7,.mref 1028)]:EL) ([(500,some (.know (globD 0 (.imap gv0)))),(1004,some (.box 26 (.st Zz8))),(1006,some (.box 26 (.st [.sref 100200 22 0 s.length,.d (C1 a0.fBucket)]))),(1028,some (.blk (mapQ (mpairs B0 (eI .i64) N)))),(100200,some (B3 s))]:OL)) W (mp [] _ _ hB) (fun C y h => ?_) (fun e t u hR => ?_)
   ·unfold A3v at h;refine sr (SQ tt) ?_;apply seq;apply AWp.cond rfl<;>intro O
    ·have h:=A5 O h;apply AWp.skip;apply A0;apply seq;apply block;obtain⟨_,X,h⟩:=bindS h;obtain⟨Y,Z,h⟩:=bindS h;refine sr (SQ (fa X (fa Z tt))) ?_;apply rg (c (mv hN (q 7)) rfl (c (fo 1009 1 [1] hN underlying43 1 tyS33 (q 9)) rfl (c (la hN 43 tyS33 (q 38)) rfl (c (mv hN (q 8)) rfl (cg (OpJ.mputQ (g:=(eI .i64)) (v:=C.1) (l:=C.2) (k:=Y.fPrefix) tyU90 underlying33 keyEq33 (q 37) (q 39) (q 40)) rfl cn)))));apply D7;apply A0;refine rg (SQ tt) ?_;obtain rfl:=oi h;exact⟨rfl,mp [] _ _ hB⟩
    ·have h:=A6 O h;apply AWp.exit;apply D6;obtain rfl:=oi h;exact⟨nofun,rfl,mp [] _ _ hB⟩
   ·obtain⟨rfl,A⟩:=hR;apply B9;apply A0;refine ghost A ?_;apply seq;obtain⟨E,aa,h⟩:=bindS h;refine sr (SQ (fa (cl [] (A7a a1 E aa)) tt)) ?_;apply block;obtain⟨p,ab,h⟩:=bindS h;refine lg (A3w E) (fun i:Int×(List (A2×Int))×(List A1)=>([(4,pt 1004),(6,pt 1006),(7,.mref 1028),(43,A4 E),(44,i6 (E.length:Int)),(45,i6 i.1)]:EL)) (fun i:Int×(List (A2×Int))×(List A1)=>([(500,some (.know (globD 0 (.imap gv0)))),(1004,some (.box 26 (.st Zz8))),(1006,some (.box 26 (.st [.sref 13060 22 0 i.2.2.length,.d (C1 a0.fBucket)]))),(1028,some (.blk (mapQ (mpairs B0 (eI .i64) i.2.1)))),(13060,some (B3 i.2.2))]:OL)) (fun(p:(List A1)) e t u=>e = .exit 2∧Mat B t u ([(4,pt 1004),(6,pt 1006)]:EL) ([(500,some (.know (globD 0 (.imap gv0)))),(1004,some (.box 26 (.st Zz8))),(1006,some (.box 26 (.st [.sref 13060 22 0 p.length,.d (C1 a0.fBucket)]))),(13060,some (B3 p))]:OL)) ab (mp [(13060,100200)] _ _ hB) (fun i y h => ?_) (fun e t u hR => ?_)
    ·unfold A3w at h;refine sr (SQ tt) ?_;apply seq;apply AWp.cond rfl<;>intro P
     ·have h:=A5 P h;apply AWp.skip;apply A0;apply seq;refine AWp.cut h (fun F:(List (A2×Int))×(List A1)=>([(4,pt 1004),(6,pt 1006),(7,.mref 1028),(43,A4 E),(44,i6 (E.length:Int)),(45,i6 i.1)]:EL)) (fun F:(List (A2×Int))×(List A1)=>([(500,some (.know (globD 0 (.imap gv0)))),(1004,some (.box 26 (.st Zz8))),(1006,some (.box 26 (.st [.sref 13060 22 0 F.2.length,.d (C1 a0.fBucket)]))),(1028,some (.blk (mapQ (mpairs B0 (eI .i64) F.1)))),(13060,some (B3 F.2))]:OL)) (fun F h t u A => ?_) (fun ak Q h => ?_)
      ·apply A0;refine ghost A ?_;refine rg (SQ tt) ?_;obtain rfl:=oi h;exact⟨rfl,mp [] _ _ hB⟩
      ·apply block;obtain⟨G,ac,h⟩:=bindS h;refine sr (SQ (fa ac tt)) ?_;apply seq;apply sr (c (mv hN (q 7)) rfl (c (fo 1011 1 [1] hN underlying43 1 tyS33 (q 11)) rfl (c (la hN 43 tyS33 (q 51)) rfl (cg (OpJ.mlook2Q (g:=(eI .i64)) (l:=i.2.1) (k:=G.fPrefix) tyU90 underlying33 keyEq33 (z:=0) tyZD3 (L rfl) (q 50) (q 52)) rfl (c (mv hN (q 53)) rfl (c (extract (by rfl) rfl (L rfl) (q 49)) rfl (c (extract (by rfl) rfl (L rfl) (q 49)) rfl (c (assign (L rfl) (q 54)) rfl (c (assign (L rfl) (q 55)) rfl cn)))))))));refine sr (SQ tt) ?_;apply AWp.cond rfl<;>intro R
       ·have h:=A5 R h;obtain⟨_,ae,h⟩:=bindS h;obtain⟨_,af,h⟩:=bindS h;refine sr (SQ (fa ae (fa af (fa (sv G) tt)))) ?_;refine gh [(4,_),(6,_),(7,_),(43,_),(44,_),(45,_)] [(500,some _),(1004,some _),(1006,some _),(1028,some _),(13060,some _)] hB rfl rfl (by rfl) ?_;apply AWp.exit;apply D6;apply B9;exact Q _ h _ _ (Mat.trans (Mat.lenP (Ts:=[]) (Bs:=[(1006,some (.box 26 (.st [.sref 13060 22 0 ((i.2.2.set ((mget keq33 i.2.1 G.fPrefix).getD 0).toNat G).length),.d (C1 a0.fBucket)])))]) TwT.nil (TwB.cons (x:=(.st [.sref 13060 22 0 i.2.2.length,.d (C1 a0.fBucket)])) (by rfl) (Tw.st (TwL.cons (Tw.leaf ⟨_,_,_,_,_,rfl,rfl,(by first | rfl | (simp;done) | (simp;omega) | omega)⟩) (TwL.cons (Tw.same _) TwL.nil))) TwB.nil)) (mp [] _ _ hB))
       ·have h:=A6 R h;apply AWp.skip;apply A0;apply sr (c (mv hN (q 7)) rfl (c (fo 1011 1 [1] hN underlying43 1 tyS33 (q 11)) rfl (c (la hN 43 tyS33 (q 63)) rfl (c (fo 1006 0 [0] hN underlying26 0 tyS22 (q 6)) rfl (c (lb hN 26 _ (.sref 13060 22 0 i.2.2.length) tyS22 (At.st1 (f:=(.sref 13060 22 0 i.2.2.length)) (by rfl) (by rfl) (At.here _) (by first | rfl | omega)) (q 65)) rfl (c (lenS underlying22 (L rfl) (q 66)) rfl (cg (OpJ.mputQ (g:=(eI .i64)) (v:=(i.2.2.length:Int)) (l:=i.2.1) (k:=G.fPrefix) tyU90 underlying33 keyEq33 (q 62) (q 64) (q 67)) rfl cn)))))))
        obtain⟨ag,h⟩:=B2 h;refine rg (SQ (fa ag tt)) ?_;apply D7;exact Q _ h _ _ (mp [(13060,1072)] _ _ hB)
     ·have h:=A6 P h;apply AWp.exit;apply D6;obtain rfl:=oi h;exact⟨nofun,rfl,mp [] _ _ hB⟩
    ·obtain⟨rfl,A⟩:=hR;apply B9;apply A0;refine ghost A ?_;apply seq;refine sr (SQ tt) ?_;apply AWp.cond rfl<;>intro S
     ·have h:=A5 S h;refine sr (SQ tt) ?_;apply ret;apply B8;obtain rfl:=oi h;exact rt (Mat.trans (Mat.coeP (Ts:=[]) (Bs:=[(1004,bd 26 (.st Zz5))]) TwT.nil (TwB.cons (x:=(.st Zz8)) (by rfl) (Tw.leaf ⟨_,Co.st (CoL.cons (Co.nils 22) (CoL.cons (Co.d _) CoL.nil)),rfl⟩) TwB.nil)) (mp [] [(4,pt 1004),(5,i6 3)] [(500,some (.know (globD 0 (.imap gv0)))),(1004,bd 26 (.st Zz5))] hB)) [.d (.st Zz5),i6 3] (Res.cell (c:=(.d (.st Zz5))) (by rfl) (by rfl) tyS26 (by rfl) (by rfl) (by rfl) (rT rN)) rfl
     ·have h:=A6 S h;apply AWp.skip;apply A0;refine sr (SQ tt) ?_;apply ret;obtain rfl:=oi h;exact rt (Mat.trans (Mat.freezeP (n:=13060) (e:=43) (sz:=22) (es:=p.map A8) (Ts:=[]) (Bs:=[(1004,some (.box 26 (.st [A4 p,.d (C1 a0.fBucket)])))]) (by rfl) TwT.nil (TwB.cons (x:=(.st [.sref 13060 22 0 p.length,.d (C1 a0.fBucket)])) (by rfl) (Tw.st (TwL.cons (FrzL.all (by first | rfl | (simp;done) | (simp;omega) | omega)) (TwL.cons (Tw.same _) TwL.nil))) TwB.nil)) (Mat.trans (Mat.coeP (Ts:=[]) (Bs:=[(1004,bd 26 (.st [.list 22 (p.map A8),C1 a0.fBucket]))]) TwT.nil (TwB.cons (x:=(.st [A4 p,.d (C1 a0.fBucket)])) (by rfl) (Tw.leaf ⟨_,Co.st (CoL.cons (Co.d _) (CoL.cons (Co.d _) CoL.nil)),rfl⟩) TwB.nil)) (mp [] [(4,pt 1004),(5,i6 0)] [(500,some (.know (globD 0 (.imap gv0)))),(1004,bd 26 (.st [.list 22 (p.map A8),C1 a0.fBucket]))] hB))) [.d (.st [.list 22 (p.map A8),C1 a0.fBucket]),i6 0] (Res.cell (c:=(.d (.st [.list 22 (p.map A8),C1 a0.fBucket]))) (by rfl) (by rfl) tyS26 (by rfl) (by rfl) (by rfl) (rT rN)) rfl
 ·obtain⟨J,T,h⟩:=bindS h;rcases bft (!J) with H | H
  ·have h:=A5 H h;refine rg (SQ (fa (cl [(500,500)] (A2i a0 J T)) (fa H tt))) ?_;exact K _ h _ _ (mp [] _ _ hB)
  ·have h:=A6 H h;obtain⟨ah,ai,h⟩:=bindS h;refine rg (SQ (fa (cl [(500,500)] (A2i a0 J T)) (fa H (fa (cl [(500,500)] (A6w a1 ah ai)) tt)))) ?_;exact K _ h _ _ (mp [] _ _ hB)
def A37 (a0:A1) (a1:A1):Option (Int):=
 (A4e a0.fPrefix a1.fPrefix).bind fun i=>
 some i
theorem B35 (a0:A1) (a1:A1) (r:Int) (h:A37 a0 a1=some r):AC Tryz.prog 44 [.d (A8 a0),.d (A8 a1)] [] (.d (.int .i64 r)) []:=by
 refine AC.of_code2 Tryz.func44 rfl rfl (Nat.le_of_ble_eq_true (by rfl)) fun B hB hN => ?_;delta A37 at h;refine sr (SQ tt) ?_;obtain⟨i,p,h⟩:=bindS h;refine sr (SQ (fa (cl [] (A9i a0.fPrefix a1.fPrefix i p)) tt)) ?_;apply ret;obtain rfl:=oi h;exact rt (kp [(4,_)] [] hB rfl rfl (by rfl)) [i6 i] (rT rN) rfl
def I1 (a0:(List A1)):Option (List A1):=sortF a0 fun x y=>A37 x y
theorem A29 (a0:(List A1)) (r:List A1) (h:I1 a0=some r):AC Tryz.prog 43 [.sref 0 22 0 a0.length,.func 44 []] [(0,.row 43 22 (a0.map A8))] (.tup []) [(0,some (.row 43 22 (r.map A8)))]:=
 AC.sortF A8 (fun x y=>A37 x y) a0 r h sortOk43 fnOk44 (fun _=>rfl) rfl rfl (fun x y c hc=>B35 x y c hc)
def A5y (a0:D9):Option (D9×Bool):=
 (if (decide (a0.fLevel≤0))=true then
 some (a0,false)
 else
 some (D9.mk (w64 (a0.fLevel-1)) a0.fRate a0.fBurst,true))
theorem B41 (a0:D9) (r:D9×Bool) (h:A5y a0=some r):AC Tryz.prog 47 [.d (C1 a0)] [] (.tup [.d (C1 r.1),.d (.bool r.2)]) []:=by
 refine AC.of_code2 Tryz.func47 rfl rfl (Nat.le_of_ble_eq_true (by rfl)) fun B hB hN => ?_;delta A5y at h;refine sr (SQ tt) ?_;apply seq;refine sr (SQ tt) ?_;apply AWp.cond rfl<;>intro i
 ·have h:=A5 i h;refine sr (SQ tt) ?_;apply ret;apply B8;obtain rfl:=oi h;exact rt (kp [(2,_),(3,_)] [(1002,some _)] hB rfl rfl (by rfl)) [.d (C1 a0),bo false] (Res.cell (c:=(.d (C1 a0))) (by rfl) (by rfl) tyS24 (by rfl) (by rfl) (by rfl) (rT rN)) rfl
 ·have h:=A6 i h;apply AWp.skip;apply A0;refine sr (SQ tt) ?_;refine sr (SQ tt) ?_;apply ret;obtain rfl:=oi h;exact rt (kp [(2,_),(3,_)] [(1002,some _)] hB rfl rfl (by rfl)) [.d (.st [.int .i64 (w64 (a0.fLevel-1)),.int .i64 a0.fRate,.int .i64 a0.fBurst]),bo true] (Res.cell (c:=(.d (.st [.int .i64 (w64 (a0.fLevel-1)),.int .i64 a0.fRate,.int .i64 a0.fBurst]))) (by rfl) (by rfl) tyS24 (by rfl) (by rfl) (by rfl) (rT rN)) rfl
def A3x (a0:(List A2)):Option (List A2):=
 chk (decide (a0.length≤LIM))<|
 some a0
theorem B1t (a0:(List A2)) (r:(List A2)) (h:A3x a0=some r):AC Tryz.prog 48 [.d (.list 4 (a0.map B0))] [] (.sref 900000 4 0 r.length) [(900000,some (.row 33 4 (r.map B0)))]:=by
 refine AC.of_code2 Tryz.func48 rfl rfl (Nat.le_of_ble_eq_true (by rfl)) fun B hB hN => ?_;delta A3x at h;refine sr (SQ tt) ?_;obtain⟨i,h⟩:=B2 h;refine sr (SQ (fa i tt)) ?_;apply ret;obtain rfl:=oi h;exact rt (mp [(900000,1004)] [(2,.sref 900000 4 0 a0.length)] [(900000,some (G0 a0))] hB) [.sref 900000 4 0 a0.length] (rT rN) rfl
def A03 (a0:A1) (a1:(List (A2×Bool))):Option (Bool):=
 some ((mget keq33 a1 a0.fPrefix).getD false)
theorem A8s (a0:A1) (a1:(List (A2×Bool))) (r:Bool) (h:A03 a0 a1=some r):AC Tryz.prog 50 [.d (A8 a0),pt 0] [(0,.box 82 (.mref 1)),(1,.blk (mapQ (mpairs B0 eB a1)))] (.d (.bool r)) [(0,some (.box 82 (.mref 1))),(1,some (.blk (mapQ (mpairs B0 eB a1))))]:=by
 refine AC.of_code2 Tryz.func50 rfl rfl (Nat.le_of_ble_eq_true (by rfl)) fun B hB hN => ?_;delta A03 at h;refine sr (SQ tt) ?_;apply sr (c (lb hN 82 _ _ tyS82 (At.here _) (q 1)) rfl (c (fo 1002 1 [1] hN underlying43 1 tyS33 (q 2)) rfl (c (la hN 43 tyS33 (q 5)) rfl (cg (OpJ.mlookQ (g:=eB) (l:=a1) (k:=a0.fPrefix) tyU82 underlying33 keyEq33 (z:=false) tyZD4 (ltN hN rfl) (q 4) (q 6)) rfl (c (assign (ltN hN rfl) (q 7)) rfl cn)))));apply ret;obtain rfl:=oi h;exact rt (kp [(3,_)] [(0,some _),(1,some _)] hB rfl rfl (by rfl)) [bo ((mget keq33 a1 a0.fPrefix).getD false)] (rT rN) rfl
end
end Go.Proofs.YtplbaenjbihekaaGreatDoor
