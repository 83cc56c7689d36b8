/- Printed by gen.py: the Go functions as plain functions, and that the code does what they say. -/
import Derived.Test.YtplbaenjbihekaaGreatDoorChecked
import Derived.Test.YtplbaenjbihekaaGreatDoorVcYB
import Derived.Test.YtplbaenjbihekaaGreatDoorVcZ
import Derived.Test.YtplbaenjbihekaaGreatDoorVcGC
import Derived.KernelRfl
import Derived.Test.YtplbaenjbihekaaGreatDoorVcMD
import Derived.Test.YtplbaenjbihekaaGreatDoorVcMQ
import Derived.Test.YtplbaenjbihekaaGreatDoorVcSG
import Derived.Test.YtplbaenjbihekaaGreatDoorFnsC
import Derived.Test.YtplbaenjbihekaaGreatDoorExt
import Derived.Test.YtplbaenjbihekaaGreatDoorVcPm
import Derived.Test.YtplbaenjbihekaaGreatDoorVcRg
import Derived.Test.YtplbaenjbihekaaGreatDoorVcSt
import Derived.Test.YtplbaenjbihekaaGreatDoorVcMR
namespace Go.Proofs.YtplbaenjbihekaaGreatDoor
open Go Go.Vc
open Tryz
open Go.Vc.OpJ (assign alloc lss pickT pickF extract lenD indexD loadD eqlI gtr callVal leq geq loadR nilP indexS buildSlice lenS fieldD neqI pickAnd pickOr)
open Go.Vc.AWp (seq ghost ret block)
set_option maxHeartbeats 4000000
set_option maxRecDepth 100000
noncomputable section
def A1j (i:Int×(List Int)):Option (List Int⊕(Int×(List Int))):=
 (if (decide (i.1<(w64 (8*(i.2.length:Int)))))=true then
 (idx i.2 (w64 (Int.tdiv i.1 8))).bind fun _=>
 (idx i.2 (w64 (Int.tdiv i.1 8))).bind fun p=>
 (idx i.2 (w64 (Int.tdiv i.1 8))).bind fun _=>
 (idx i.2 (w64 (Int.tdiv i.1 8))).bind fun _=>
 some (.inr (w64 (i.1+1),i.2.set (w64 (Int.tdiv i.1 8)).toNat (bitI .andNot .u8 p (shrI .u8 128 (IntKind.u64.wrap (Int.tmod i.1 8))))))
 else
 some (.inl i.2))
def A4x (a0:E5) (a1:Int):Option (A2×Int):=
 (X3 a0).bind fun p=>
 (if (!p)=true then
 some (A2.mk (E5.mk false 0 0) 0,1)
 else
 jn (fun s:Bool=>
 (if s=true then
 some (A2.mk (E5.mk false 0 0) 0,9)
 else
 (A41 a0).bind fun t=>
 (loop (A1j) (a1,t)).bind fun u=>
 (Y9 u).bind fun A=>
 some (A2.mk A.1 a1,0))) (fun i=>
 (if (decide (a1<0))=true then
 i true
 else
 (A5m a0).bind fun C=>
 i (decide (C<a1)))))
theorem B37 (a0:E5) (a1:Int) (r:A2×Int) (h:A4x a0 a1=some r):AC Tryz.prog 84 [.d (E4 a0),.d (.int .i64 a1)] [] (.tup [.d (B0 r.1),.d (.int .i64 r.2)]) []:=by
 refine ac2 Tryz.func84 rfl rfl fun B hB hN L => ?_;delta A4x at h;refine sr (SQ tt) ?_;apply seq;apply block;obtain⟨M,N,h⟩:=bindS h;refine sr (SQ (fa (cl [] (K6 a0 M N)) tt)) ?_;apply AWp.cond rfl<;>intro H
 ·have h:=A5 H h;refine sr (SQ tt) ?_;apply ret;apply D8;apply B8;obtain rfl:=oi h;exact rt (kp [(4,_),(5,_)] [(1004,some _)] hB rfl rfl (by rfl)) [.d (.st Zz9),i6 1] (Res.cell (c:=(.d (.st Zz9))) (by rfl) (by rfl) tyS33 (by rfl) (by rfl) (by rfl) (rT rN)) rfl
 ·have h:=A6 H h;apply seq;refine AWp.cut h (fun t:Bool=>([(1,i6 a1),(2,pt 1002),(4,pt 1004),(15,bo t)]:EL)) (fun t:Bool=>([(1002,bd 31 (E4 a0)),(1004,bd 33 (.st Zz9))]:OL)) (fun t h u A C => ?_) (fun Y I h => ?_)
  ·apply A0;refine ghost C ?_;apply AWp.cond rfl<;>intro J
   ·have h:=A5 J h;refine sr (SQ tt) ?_;apply ret;apply D8;apply B8;obtain rfl:=oi h;exact rt (kp [(4,_),(5,_)] [(1004,some _)] hB rfl rfl (by rfl)) [.d (.st Zz9),i6 9] (Res.cell (c:=(.d (.st Zz9))) (by rfl) (by rfl) tyS33 (by rfl) (by rfl) (by rfl) (rT rN)) rfl
   ·have h:=A6 J h;apply AWp.skip;apply D7;apply A0;apply seq;obtain⟨E,O,h⟩:=bindS h;refine rg (SQ (fa (cl [(900000,100200)] (B0b a0 E O)) tt)) ?_;apply A0;refine ghost (mp [] [(1,i6 a1),(4,pt 1004),(6,.sref 100200 1 0 E.length)] [(1004,bd 33 (.st Zz9)),(100200,some (.row 5 1 (E.map (eI .u8))))] hB) ?_;apply seq;refine sr (SQ tt) ?_;apply block;obtain⟨p,P,h⟩:=bindS h;refine lg (A1j) (fun i:Int×(List Int)=>([(1,i6 a1),(4,pt 1004),(6,.sref 100200 1 0 i.2.length),(7,i6 i.1)]:EL)) (fun i:Int×(List Int)=>([(1004,bd 33 (.st Zz9)),(100200,some (.row 5 1 (i.2.map (eI .u8))))]:OL)) (fun(p:(List Int)) e u A=>e = .exit 1∧Mat B u A ([(1,i6 a1),(4,pt 1004),(6,.sref 100200 1 0 p.length)]:EL) ([(1004,bd 33 (.st Zz9)),(100200,some (.row 5 1 (p.map (eI .u8))))]:OL)) P (mp [] _ _ hB) (fun i y h => ?_) (fun e u A hR => ?_)
    ·unfold A1j at h;apply seq;refine sr (SQ tt) ?_;apply AWp.cond rfl<;>intro K
     ·have h:=A5 K h;apply AWp.skip;apply A0;apply seq;apply block;obtain⟨_,Q,h⟩:=bindS h;obtain⟨F,R,h⟩:=bindS h;obtain⟨_,S,h⟩:=bindS h;obtain⟨_,T,h⟩:=bindS h;refine rg (SQ (fa Q (fa R (fa S (fa T (fa (sv (bitI .andNot .u8 F (shrI .u8 128 (IntKind.u64.wrap (Int.tmod i.1 8))))) tt)))))) ?_;apply D7;apply A0;refine rg (SQ tt) ?_;obtain rfl:=oi h;exact⟨rfl,Mat.trans (mp [] [(1,i6 a1),(4,pt 1004),(6,.sref 100200 1 0 i.2.length),(7,i6 (w64 (i.1+1)))] [(1004,bd 33 (.st Zz9)),(100200,some (.row 5 1 ((i.2.set (w64 (Int.tdiv i.1 8)).toNat (bitI .andNot .u8 F (shrI .u8 128 (IntKind.u64.wrap (Int.tmod i.1 8))))).map (eI .u8))))] hB) (Mat.trans (Mat.lenP (Ts:=[(6,.sref 100200 1 0 ((i.2.set (w64 (Int.tdiv i.1 8)).toNat (bitI .andNot .u8 F (shrI .u8 128 (IntKind.u64.wrap (Int.tmod i.1 8))))).length))]) (Bs:=[]) (TwT.cons (x:=(.sref 100200 1 0 i.2.length)) (by rfl) (Tw.leaf ⟨_,_,_,_,_,rfl,rfl,(by first | rfl | (simp;done) | (simp;omega) | omega)⟩) TwT.nil) TwB.nil) (mp [] _ _ hB))⟩
     ·have h:=A6 K h;apply AWp.exit;apply D6;obtain rfl:=oi h;exact⟨nofun,rfl,mp [] _ _ hB⟩
    ·obtain⟨rfl,C⟩:=hR;apply B9;apply A0;refine ghost C ?_;apply seq;refine ghost (Mat.freezeP (n:=100200) (e:=5) (sz:=1) (es:=p.map (eI .u8)) (Ts:=[(6,.d (.list 1 (p.map (eI .u8))))]) (Bs:=[]) (by rfl) (TwT.cons (x:=(.sref 100200 1 0 p.length)) (by rfl) (FrzL.all (by first | rfl | (simp;done) | (simp;omega) | omega)) TwT.nil) TwB.nil) ?_
     obtain⟨G,U,h⟩:=bindS h;refine rg (SQ (fa (cl [] (A9d p G U)) tt)) ?_;apply A0;refine sr (SQ tt) ?_;apply ret;obtain rfl:=oi h;exact rt (kp [(4,_),(5,_)] [(1004,some _)] hB rfl rfl (by rfl)) [.d (.st [E4 G.1,.int .i64 a1]),i6 0] (Res.cell (c:=(.d (.st [E4 G.1,.int .i64 a1]))) (by rfl) (by rfl) tyS33 (by rfl) (by rfl) (by rfl) (rT rN)) rfl
  ·rcases bft (decide (a1<0)) with s | s
   ·have h:=A5 s h;refine rg (SQ (fa s tt)) ?_;exact I _ h _ _ (mp [] _ _ hB)
   ·have h:=A6 s h;obtain⟨W,X,h⟩:=bindS h;refine rg (SQ (fa s (fa (cl [] (B1v a0 W X)) tt))) ?_;exact I _ h _ _ (mp [] _ _ hB)
def A25 (a0:A2):Option (Bool):=
 (A4x a0.fAddr a0.fLen).bind fun i=>
 some ((i.2==0)&&(((a0.fAddr.fV6==i.1.fAddr.fV6)&&((a0.fAddr.fHi==i.1.fAddr.fHi)&&((a0.fAddr.fLo==i.1.fAddr.fLo)&&true)))&&((a0.fLen==i.1.fLen)&&true)))
theorem A7w (a0:A2) (r:Bool) (h:A25 a0=some r):AC Tryz.prog 62 [.d (B0 a0)] [] (.d (.bool r)) []:=by
 refine AC.of_code2 Tryz.func62 rfl rfl (Nat.le_of_ble_eq_true (by rfl)) fun B hB hN => ?_;delta A25 at h;refine sr (SQ tt) ?_;obtain⟨i,p,h⟩:=bindS h;refine sr (SQ (fa (cl [] (B37 a0.fAddr a0.fLen i p)) tt)) ?_;refine sr (SQ tt) ?_;apply ret;obtain rfl:=oi h;exact rt (kp [(2,_)] [] hB rfl rfl (by rfl)) [bo ((i.2==0)&&(((a0.fAddr.fV6==i.1.fAddr.fV6)&&((a0.fAddr.fHi==i.1.fAddr.fHi)&&((a0.fAddr.fLo==i.1.fAddr.fLo)&&true)))&&((a0.fLen==i.1.fLen)&&true)))] (rT rN) rfl
def A62 (a1:(List B4)) (s:Int) (p:B4) (i:Int):Option ((Unit⊕Unit)⊕Int):=
 (if (decide (i<(p.fASNs.length:Int)))=true then
 (idx p.fASNs i).bind fun t=>
 (idx a1 s).bind fun u=>
 (idx u.fASNs i).bind fun A=>
 (if (A != t)=true then
 some (.inl (.inl ()))
 else
 some (.inr (w64 (i+1))))
 else
 some (.inl (.inr ())))
def A42 (a0:(List B4)) (a1:(List B4)) (i:Int):Option ((Unit⊕Unit)⊕Int):=
 (if (decide (i<(a0.length:Int)))=true then
 (idx a0 i).bind fun p=>
 jn (fun t:Bool=>
 (if t=true then
 some (.inl (.inl ()))
 else
 (loop (A62 a1 i p) 0).bind fun u=>match u with
 | (.inl _)=>
  some (.inl (.inl ()))
 | (.inr _)=>
  some (.inr (w64 (i+1))))) (fun s=>
 (idx a1 i).bind fun A=>
 (if (p.fSet != A.fSet)=true then
 s true
 else
 (idx a1 i).bind fun C=>
 s ((p.fASNs.length:Int) != (C.fASNs.length:Int))))
 else
 some (.inl (.inr ())))
def A4y (a0:(List B4)) (a1:(List B4)):Option (Bool):=
 (if ((a0.length:Int) != (a1.length:Int))=true then
 some false
 else
 (loop (A42 a0 a1) 0).bind fun i=>match i with
 | (.inl _)=>
  some false
 | (.inr _)=>
  some true)
theorem A43 (a0:(List B4)) (a1:(List B4)) (r:Bool) (h:A4y a0 a1=some r):AC Tryz.prog 85 [.d (.list 2 (a0.map D2)),.d (.list 2 (a1.map D2))] [] (.d (.bool r)) []:=by
 refine ac2 Tryz.func85 rfl rfl fun B hB hN L => ?_;delta A4y at h;refine sr (SQ tt) ?_;apply seq;refine sr (SQ tt) ?_;apply AWp.cond rfl<;>intro F
 ·have h:=A5 F h;refine sr (SQ tt) ?_;apply ret;apply B8;obtain rfl:=oi h;exact rt (kp [(4,_)] [] hB rfl rfl (by rfl)) [bo false] (rT rN) rfl
 ·have h:=A6 F h;apply AWp.skip;apply A0;apply seq;refine sr (SQ tt) ?_;apply block;obtain⟨N,O,h⟩:=bindS h;refine lg (A42 a0 a1) (fun i:Int=>([(1,D0 a1),(14,D0 a0),(15,i6 (a0.length:Int)),(16,i6 i)]:EL)) (fun i:Int=>([]:OL)) (fun(x:(Unit)⊕Unit) e s t=>match x with | (.inl _p)=>e = .ret∧Mat B s t ([(4,bo false)]:EL) ([]:OL) | (.inr _p)=>e = .exit 0∧Mat B s t ([]:EL) ([]:OL)) O (mp [] _ _ hB) (fun i y h => ?_) (fun e s t hR => ?_)
  ·unfold A42 at h;refine sr (SQ tt) ?_;apply seq;apply AWp.cond rfl<;>intro G
   ·have h:=A5 G h;apply AWp.skip;apply A0;apply seq;apply block;obtain⟨u,P,h⟩:=bindS h;refine sr (SQ (fa P tt)) ?_;apply seq;apply seq;refine AWp.cut h (fun C:Bool=>([(1,D0 a1),(5,i6 i),(6,pt 1006),(14,D0 a0),(15,i6 (a0.length:Int)),(16,i6 i),(40,bo C)]:EL)) (fun C:Bool=>([(1006,bd 75 (D2 u))]:OL)) (fun C h s t p => ?_) (fun Y H h => ?_)
    ·apply A0;refine ghost p ?_;apply AWp.cond rfl<;>intro I
     ·have h:=A5 I h;refine sr (SQ tt) ?_;apply ret;apply B8;apply D8;apply B8;obtain rfl:=oi h;exact⟨nofun,rfl,mp [] _ _ hB⟩
     ·have h:=A6 I h;apply AWp.skip;apply A0;refine sr (SQ tt) ?_;apply block;obtain⟨Q,R,h⟩:=bindS h;refine lg (A62 a1 i u) (fun E:Int=>([(1,D0 a1),(5,i6 i),(14,D0 a0),(15,i6 (a0.length:Int)),(16,i6 i),(42,qI_1 u.fASNs),(43,i6 (u.fASNs.length:Int)),(44,i6 E)]:EL)) (fun E:Int=>([]:OL)) (fun(x:(Unit)⊕Unit) e s t=>match x with | (.inl _p)=>e = .ret∧Mat B s t ([(4,bo false)]:EL) ([]:OL) | (.inr _p)=>e = .exit 2∧Mat B s t ([(1,D0 a1),(14,D0 a0),(15,i6 (a0.length:Int)),(16,i6 i)]:EL) ([]:OL)) R (mp [] _ _ hB) (fun E y h => ?_) (fun e s t hR => ?_)
      ·unfold A62 at h;refine sr (SQ tt) ?_;apply seq;apply AWp.cond rfl<;>intro J
       ·have h:=A5 J h;apply AWp.skip;apply A0;apply seq;apply block;obtain⟨_,S,h⟩:=bindS h;refine sr (SQ (fa S tt)) ?_;obtain⟨_,T,h⟩:=bindS h;obtain⟨_,U,h⟩:=bindS h;refine sr (SQ (fa T (fa U tt))) ?_;apply AWp.cond rfl<;>intro K
        ·have h:=A5 K h;refine sr (SQ tt) ?_;apply ret;apply D8;apply B8;obtain rfl:=oi h;exact⟨nofun,rfl,mp [] _ _ hB⟩
        ·have h:=A6 K h;apply AWp.skip;apply D7;apply A0;refine rg (SQ tt) ?_;obtain rfl:=oi h;exact⟨rfl,mp [] _ _ hB⟩
       ·have h:=A6 J h;apply AWp.exit;apply D6;obtain rfl:=oi h;exact⟨nofun,rfl,mp [] _ _ hB⟩
      ·rcases Q with _ | _
       ·obtain⟨rfl,p⟩:=hR;apply D8;apply D8;apply B8;obtain rfl:=oi h;exact⟨nofun,rfl,Mat.trans p (mp [] _ _ hB)⟩
       ·obtain⟨rfl,p⟩:=hR;apply B9;apply D7;apply A0;refine ghost p ?_;refine rg (SQ tt) ?_;obtain rfl:=oi h;exact⟨rfl,mp [] _ _ hB⟩
    ·obtain⟨W,M,h⟩:=bindS h;rcases bft (u.fSet != W.fSet) with A | A
     ·have h:=A5 A h;refine drS (SQ (fa M (fa A tt))) ?_;exact H _ h _ _ (mp [] _ _ hB)
     ·have h:=A6 A h;obtain⟨_,X,h⟩:=bindS h;refine drS (SQ (fa M (fa A (fa X tt)))) ?_;exact H _ h _ _ (mp [] _ _ hB)
   ·have h:=A6 G h;apply AWp.exit;apply D6;obtain rfl:=oi h;exact⟨nofun,rfl,mp [] _ _ hB⟩
  ·rcases N with _ | _
   ·obtain⟨rfl,p⟩:=hR;apply D8;apply B8;obtain rfl:=oi h;exact rt (Mat.trans p (mp [] [(4,bo false)] [] hB)) [bo false] (rT rN) rfl
   ·obtain⟨rfl,p⟩:=hR;apply B9;apply A0;refine ghost p ?_;refine sr (SQ tt) ?_;apply ret;obtain rfl:=oi h;exact rt (kp [(4,_)] [] hB rfl rfl (by rfl)) [bo true] (rT rN) rfl
def A44 (a0:(List B5)) (a1:(List B5)) (i:Int):Option ((Unit⊕Unit)⊕Int):=
 (if (decide (i<(a0.length:Int)))=true then
 (idx a0 i).bind fun p=>
 (idx a1 i).bind fun s=>
 (if (!((s.fA==p.fA)&&((s.fB==p.fB)&&true)))=true then
 some (.inl (.inl ()))
 else
 some (.inr (w64 (i+1))))
 else
 some (.inl (.inr ())))
def A4z (a0:(List B5)) (a1:(List B5)):Option (Bool):=
 (if ((a0.length:Int) != (a1.length:Int))=true then
 some false
 else
 (loop (A44 a0 a1) 0).bind fun i=>match i with
 | (.inl _)=>
  some false
 | (.inr _)=>
  some true)
theorem A63 (a0:(List B5)) (a1:(List B5)) (r:Bool) (h:A4z a0 a1=some r):AC Tryz.prog 86 [.d (.list 2 (a0.map C5)),.d (.list 2 (a1.map C5))] [] (.d (.bool r)) []:=by
 refine ac2 Tryz.func86 rfl rfl fun B hB hN L => ?_;delta A4z at h;refine sr (SQ tt) ?_;apply seq;refine sr (SQ tt) ?_;apply AWp.cond rfl<;>intro u
 ·have h:=A5 u h;refine sr (SQ tt) ?_;apply ret;apply B8;obtain rfl:=oi h;exact rt (kp [(4,_)] [] hB rfl rfl (by rfl)) [bo false] (rT rN) rfl
 ·have h:=A6 u h;apply AWp.skip;apply A0;apply seq;refine sr (SQ tt) ?_;apply block;obtain⟨E,F,h⟩:=bindS h;refine lg (A44 a0 a1) (fun i:Int=>([(1,C9 a1),(12,C9 a0),(13,i6 (a0.length:Int)),(14,i6 i)]:EL)) (fun i:Int=>([]:OL)) (fun(x:(Unit)⊕Unit) e p s=>match x with | (.inl _p)=>e = .ret∧Mat B p s ([(4,bo false)]:EL) ([]:OL) | (.inr _p)=>e = .exit 0∧Mat B p s ([]:EL) ([]:OL)) F (mp [] _ _ hB) (fun i y h => ?_) (fun e p s hR => ?_)
  ·unfold A44 at h;refine sr (SQ tt) ?_;apply seq;apply AWp.cond rfl<;>intro A
   ·have h:=A5 A h;apply AWp.skip;apply A0;apply seq;apply block;obtain⟨_,G,h⟩:=bindS h;refine sr (SQ (fa G tt)) ?_;obtain⟨_,H,h⟩:=bindS h;refine sdS (SQ (fa H tt)) ?_;apply AWp.cond rfl<;>intro C
    ·have h:=A5 C h;refine sr (SQ tt) ?_;apply ret;apply D8;apply B8;obtain rfl:=oi h;exact⟨nofun,rfl,mp [] _ _ hB⟩
    ·have h:=A6 C h;apply AWp.skip;apply D7;apply A0;refine rg (SQ tt) ?_;obtain rfl:=oi h;exact⟨rfl,mp [] _ _ hB⟩
   ·have h:=A6 A h;apply AWp.exit;apply D6;obtain rfl:=oi h;exact⟨nofun,rfl,mp [] _ _ hB⟩
  ·rcases E with _ | _
   ·obtain⟨rfl,t⟩:=hR;apply D8;apply B8;obtain rfl:=oi h;exact rt (Mat.trans t (mp [] [(4,bo false)] [] hB)) [bo false] (rT rN) rfl
   ·obtain⟨rfl,t⟩:=hR;apply B9;apply A0;refine ghost t ?_;refine sr (SQ tt) ?_;apply ret;obtain rfl:=oi h;exact rt (kp [(4,_)] [] hB rfl rfl (by rfl)) [bo true] (rT rN) rfl
def Y3 (a0:(List E7)) (a1:(List E7)) (i:Int):Option ((Unit⊕Unit)⊕Int):=
 (if (decide (i<(a0.length:Int)))=true then
 (idx a0 i).bind fun p=>
 (idx a1 i).bind fun s=>
 (if (!((s.fA==p.fA)&&((s.fB==p.fB)&&((s.fC==p.fC)&&true))))=true then
 some (.inl (.inl ()))
 else
 some (.inr (w64 (i+1))))
 else
 some (.inl (.inr ())))
def Z2 (a0:(List E7)) (a1:(List E7)):Option (Bool):=
 (if ((a0.length:Int) != (a1.length:Int))=true then
 some false
 else
 (loop (Y3 a0 a1) 0).bind fun i=>match i with
 | (.inl _)=>
  some false
 | (.inr _)=>
  some true)
theorem A5h (a0:(List E7)) (a1:(List E7)) (r:Bool) (h:Z2 a0 a1=some r):AC Tryz.prog 87 [.d (.list 3 (a0.map E9)),.d (.list 3 (a1.map E9))] [] (.d (.bool r)) []:=by
 refine ac2 Tryz.func87 rfl rfl fun B hB hN L => ?_;delta Z2 at h;refine sr (SQ tt) ?_;apply seq;refine sr (SQ tt) ?_;apply AWp.cond rfl<;>intro u
 ·have h:=A5 u h;refine sr (SQ tt) ?_;apply ret;apply B8;obtain rfl:=oi h;exact rt (kp [(4,_)] [] hB rfl rfl (by rfl)) [bo false] (rT rN) rfl
 ·have h:=A6 u h;apply AWp.skip;apply A0;apply seq;refine sr (SQ tt) ?_;apply block;obtain⟨E,F,h⟩:=bindS h;refine lg (Y3 a0 a1) (fun i:Int=>([(1,E8 a1),(12,E8 a0),(13,i6 (a0.length:Int)),(14,i6 i)]:EL)) (fun i:Int=>([]:OL)) (fun(x:(Unit)⊕Unit) e p s=>match x with | (.inl _p)=>e = .ret∧Mat B p s ([(4,bo false)]:EL) ([]:OL) | (.inr _p)=>e = .exit 0∧Mat B p s ([]:EL) ([]:OL)) F (mp [] _ _ hB) (fun i y h => ?_) (fun e p s hR => ?_)
  ·unfold Y3 at h;refine sr (SQ tt) ?_;apply seq;apply AWp.cond rfl<;>intro A
   ·have h:=A5 A h;apply AWp.skip;apply A0;apply seq;apply block;obtain⟨_,G,h⟩:=bindS h;refine sr (SQ (fa G tt)) ?_;obtain⟨_,H,h⟩:=bindS h;refine sdS (SQ (fa H tt)) ?_;apply AWp.cond rfl<;>intro C
    ·have h:=A5 C h;refine sr (SQ tt) ?_;apply ret;apply D8;apply B8;obtain rfl:=oi h;exact⟨nofun,rfl,mp [] _ _ hB⟩
    ·have h:=A6 C h;apply AWp.skip;apply D7;apply A0;refine rg (SQ tt) ?_;obtain rfl:=oi h;exact⟨rfl,mp [] _ _ hB⟩
   ·have h:=A6 A h;apply AWp.exit;apply D6;obtain rfl:=oi h;exact⟨nofun,rfl,mp [] _ _ hB⟩
  ·rcases E with _ | _
   ·obtain⟨rfl,t⟩:=hR;apply D8;apply B8;obtain rfl:=oi h;exact rt (Mat.trans t (mp [] [(4,bo false)] [] hB)) [bo false] (rT rN) rfl
   ·obtain⟨rfl,t⟩:=hR;apply B9;apply A0;refine ghost t ?_;refine sr (SQ tt) ?_;apply ret;obtain rfl:=oi h;exact rt (kp [(4,_)] [] hB rfl rfl (by rfl)) [bo true] (rT rN) rfl
def A0c (a0:(List A3)) (a1:(List A3)) (i:Int):Option ((Unit⊕Unit)⊕Int):=
 (if (decide (i<(a0.length:Int)))=true then
 (idx a0 i).bind fun p=>
 jn (fun t:Bool=>
 (if t=true then
 some (.inl (.inl ()))
 else
 some (.inr (w64 (i+1))))) (fun s=>
 (idx a1 i).bind fun u=>
 (if (p.fFlags != u.fFlags)=true then
 s true
 else
 (idx a1 i).bind fun A=>
 (if (p.fType != A.fType)=true then
 s true
 else
 (idx a1 i).bind fun C=>
 s ((bstr p.fData) != (bstr C.fData)))))
 else
 some (.inl (.inr ())))
def A0q (a0:(List A3)) (a1:(List A3)):Option (Bool):=
 (if ((a0.length:Int) != (a1.length:Int))=true then
 some false
 else
 (loop (A0c a0 a1) 0).bind fun i=>match i with
 | (.inl _)=>
  some false
 | (.inr _)=>
  some true)
theorem A9q (a0:(List A3)) (a1:(List A3)) (r:Bool) (h:A0q a0 a1=some r):AC Tryz.prog 88 [.d (.list 3 (a0.map B6)),.d (.list 3 (a1.map B6))] [] (.d (.bool r)) []:=by
 refine ac2 Tryz.func88 rfl rfl fun B hB hN L => ?_;delta A0q at h;refine sr (SQ tt) ?_;apply seq;refine sr (SQ tt) ?_;apply AWp.cond rfl<;>intro I
 ·have h:=A5 I h;refine sr (SQ tt) ?_;apply ret;apply B8;obtain rfl:=oi h;exact rt (kp [(4,_)] [] hB rfl rfl (by rfl)) [bo false] (rT rN) rfl
 ·have h:=A6 I h;apply AWp.skip;apply A0;apply seq;refine sr (SQ tt) ?_;apply block;obtain⟨N,O,h⟩:=bindS h;refine lg (A0c a0 a1) (fun t:Int=>([(1,C6 a1),(12,C6 a0),(13,i6 (a0.length:Int)),(14,i6 t)]:EL)) (fun t:Int=>([]:OL)) (fun(x:(Unit)⊕Unit) e u A=>match x with | (.inl _p)=>e = .ret∧Mat B u A ([(4,bo false)]:EL) ([]:OL) | (.inr _p)=>e = .exit 0∧Mat B u A ([]:EL) ([]:OL)) O (mp [] _ _ hB) (fun t y h => ?_) (fun e u A hR => ?_)
  ·unfold A0c at h;refine sr (SQ tt) ?_;apply seq;apply AWp.cond rfl<;>intro J
   ·have h:=A5 J h;apply AWp.skip;apply A0;apply seq;apply block;obtain⟨E,P,h⟩:=bindS h;refine sr (SQ (fa P tt)) ?_;apply seq;refine AWp.cut h (fun F:Bool=>([(1,C6 a1),(12,C6 a0),(13,i6 (a0.length:Int)),(14,i6 t),(48,bo F)]:EL)) (fun F:Bool=>([]:OL)) (fun F h u A p => ?_) (fun T G h => ?_)
    ·apply A0;refine ghost p ?_;apply AWp.cond rfl<;>intro K
     ·have h:=A5 K h;refine sr (SQ tt) ?_;apply ret;apply D8;apply B8;obtain rfl:=oi h;exact⟨nofun,rfl,mp [] _ _ hB⟩
     ·have h:=A6 K h;apply AWp.skip;apply D7;apply A0;refine rg (SQ tt) ?_;obtain rfl:=oi h;exact⟨rfl,mp [] _ _ hB⟩
    ·obtain⟨Q,C,h⟩:=bindS h;rcases bft (E.fFlags != Q.fFlags) with i | i
     ·have h:=A5 i h;refine drS (SQ (fa C (fa i tt))) ?_;exact G _ h _ _ (mp [] _ _ hB)
     ·have h:=A6 i h;obtain⟨R,H,h⟩:=bindS h;rcases bft (E.fType != R.fType) with s | s
      ·have h:=A5 s h;refine drS (SQ (fa C (fa i (fa H (fa s tt))))) ?_;exact G _ h _ _ (mp [] _ _ hB)
      ·have h:=A6 s h;obtain⟨S,M,h⟩:=bindS h;apply dr (c (fo 1006 0 [0] hN underlying78 0 tyS3 (q 6)) rfl (c (la hN 78 tyS3 (q 19)) rfl (c (mv hN (q 1)) rfl (c (mv hN (q 5)) rfl (c (indexD underlying37 tyS78 (G3 C).1 (X8 B6 (G3 C).2) (L rfl) (q 21) (q 22)) rfl (c (fieldD underlying78 (by rfl) (o:=0) (by rfl) tyS3 (by decide) (by rfl) (by rfl) (L rfl) (q 23)) rfl (c (loadD tyS3 (by rfl) (by rfl) (L rfl) (q 24)) rfl (c (neqI (L rfl) (q 20) (q 25)) rfl (c (OpJ.val (v':=.d (.bool false)) (by rw [i]<;>rfl) (mv hN (q 26))) rfl (c (gd 27 (fo 1006 1 [1] hN underlying78 1 tyS3 (q 6))) rfl (c (gd 27 (la hN 78 tyS3 (q 28))) rfl (c (gd 27 (mv hN (q 1))) rfl (c (gd 27 (mv hN (q 5))) rfl (c (gd 27 (indexD underlying37 tyS78 (G3 H).1 (X8 B6 (G3 H).2) (L rfl) (q 30) (q 31))) rfl (c (gd 27 (fieldD underlying78 (by rfl) (o:=1) (by rfl) tyS3 (by decide) (by rfl) (by rfl) (L rfl) (q 32))) rfl (c (gd 27 (loadD tyS3 (by rfl) (by rfl) (L rfl) (q 33))) rfl (c (gd 27 (neqI (L rfl) (q 29) (q 34))) rfl (c (pickF (L rfl) (q 27) (q 35)) rfl (c (OpJ.val (v':=.d (.bool false)) (by rw [s]<;>rfl) (mv hN (q 36))) rfl (c (gd 37 (fo 1006 2 [2] hN underlying78 2 tyS76 (q 6))) rfl (c (gd 37 (la hN 78 tyS76 (q 38))) rfl (cg (gd 37 (OpJ.bytesStr (xs:=E.fData) tyU76 underlying5 underlying9 (L rfl) (q 39))) rfl (c (gd 37 (mv hN (q 1))) rfl (c (gd 37 (mv hN (q 5))) rfl (c (gd 37 (indexD underlying37 tyS78 (G3 M).1 (X8 B6 (G3 M).2) (L rfl) (q 41) (q 42))) rfl (c (gd 37 (fieldD underlying78 (by rfl) (o:=2) (by rfl) tyS76 (by decide) (by rfl) (by rfl) (L rfl) (q 43))) rfl (c (gd 37 (loadD tyS76 (by rfl) (by rfl) (L rfl) (q 44))) rfl (cg (gd 37 (OpJ.bytesStr (xs:=S.fData) tyU76 underlying5 underlying9 (L rfl) (q 45))) rfl (cg (gd 37 (OpJ.neqS (L rfl) (q 40) (q 46))) rfl (c (pickF (L rfl) (q 37) (q 47)) rfl cn)))))))))))))))))))))))))))))) (by kernel_rfl) (by kernel_rfl);exact G _ h _ _ (mp [] _ _ hB)
   ·have h:=A6 J h;apply AWp.exit;apply D6;obtain rfl:=oi h;exact⟨nofun,rfl,mp [] _ _ hB⟩
  ·rcases N with _ | _
   ·obtain⟨rfl,p⟩:=hR;apply D8;apply B8;obtain rfl:=oi h;exact rt (Mat.trans p (mp [] [(4,bo false)] [] hB)) [bo false] (rT rN) rfl
   ·obtain⟨rfl,p⟩:=hR;apply B9;apply A0;refine ghost p ?_;refine sr (SQ tt) ?_;apply ret;obtain rfl:=oi h;exact rt (kp [(4,_)] [] hB rfl rfl (by rfl)) [bo true] (rT rN) rfl
def A3a (a0:C2) (a1:C2):Option (Bool):=
 jn (fun p:Bool=>
 some p) (fun i=>
 (if (a0.fOrigin==a1.fOrigin)=true then
 (A4y a0.fPath a1.fPath).bind fun s=>
 (if ((((s&&((a0.fNext.fV6==a1.fNext.fV6)&&((a0.fNext.fHi==a1.fNext.fHi)&&((a0.fNext.fLo==a1.fNext.fLo)&&true))))&&(a0.fMED==a1.fMED))&&(a0.fPref==a1.fPref))&&(a0.fOTC==a1.fOTC))=true then
 (A4z a0.fCommunities a1.fCommunities).bind fun t=>
 (if t=true then
 (Z2 a0.fLarge a1.fLarge).bind fun u=>
 (if u=true then
 (A0q a0.fOther a1.fOther).bind fun A=>
 i A
 else
 i false)
 else
 i false)
 else
 i false)
 else
 i false))
theorem B38 (a0:C2) (a1:C2) (r:Bool) (h:A3a a0 a1=some r):AC Tryz.prog 63 [.d (C8 a0),.d (C8 a1)] [] (.d (.bool r)) []:=by
 refine ac2 Tryz.func63 rfl rfl fun B hB hN L => ?_;delta A3a at h;refine sr (SQ tt) ?_;apply seq;refine AWp.cut h (fun C:Bool=>([(4,bo C)]:EL)) (fun C:Bool=>([]:OL)) (fun C h N O J => ?_) (fun P t h => ?_)
 ·apply A0;refine ghost J ?_;apply ret;obtain rfl:=oi h;exact rt (kp [(4,_)] [] hB rfl rfl (by rfl)) [bo C] (rT rN) rfl
 ·rcases bft (a0.fOrigin==a1.fOrigin) with i | i
  ·have h:=A5 i h;obtain⟨u,E,h⟩:=bindS h;rcases bft ((((u&&((a0.fNext.fV6==a1.fNext.fV6)&&((a0.fNext.fHi==a1.fNext.fHi)&&((a0.fNext.fLo==a1.fNext.fLo)&&true))))&&(a0.fMED==a1.fMED))&&(a0.fPref==a1.fPref))&&(a0.fOTC==a1.fOTC)) with p | p
   ·have h:=A5 p h;obtain⟨F,G,h⟩:=bindS h;rcases bft F with s | s
    ·have h:=A5 s h;obtain⟨H,I,h⟩:=bindS h;rcases bft H with A | A
     ·have h:=A5 A h;obtain⟨K,M,h⟩:=bindS h;refine rg (SQ (fa i (fa (cl [] (A43 a0.fPath a1.fPath u E)) (fa p (fa (cl [] (A63 a0.fCommunities a1.fCommunities F G)) (fa s (fa (cl [] (A5h a0.fLarge a1.fLarge H I)) (fa A (fa (cl [] (A9q a0.fOther a1.fOther K M)) tt))))))))) ?_;exact t _ h _ _ (mp [] _ _ hB)
     ·have h:=A6 A h;refine rg (SQ (fa i (fa (cl [] (A43 a0.fPath a1.fPath u E)) (fa p (fa (cl [] (A63 a0.fCommunities a1.fCommunities F G)) (fa s (fa (cl [] (A5h a0.fLarge a1.fLarge H I)) (fa A tt)))))))) ?_;exact t _ h _ _ (mp [] _ _ hB)
    ·have h:=A6 s h;refine rg (SQ (fa i (fa (cl [] (A43 a0.fPath a1.fPath u E)) (fa p (fa (cl [] (A63 a0.fCommunities a1.fCommunities F G)) (fa s tt)))))) ?_;exact t _ h _ _ (mp [] _ _ hB)
   ·have h:=A6 p h;refine rg (SQ (fa i (fa (cl [] (A43 a0.fPath a1.fPath u E)) (fa p tt)))) ?_;exact t _ h _ _ (mp [] _ _ hB)
  ·have h:=A6 i h;refine rg (SQ (fa i tt)) ?_;exact t _ h _ _ (mp [] _ _ hB)
def X4 (a0:Int):Option (Int):=
 jn (fun s:Bool=>
 (if s=true then
 some 64
 else
 (if (a0==4)=true then
 some 128
 else
 jn (fun t:Bool=>
 (if t=true then
 some 192
 else
 some 0)) (fun p=>
 (if (a0==8)=true then
 p (a0==8)
 else
 (if (a0==32)=true then
 p (a0==32)
 else
 p (a0==35))))))) (fun i=>
 (if (a0==1)=true then
 i (a0==1)
 else
 (if (a0==2)=true then
 i (a0==2)
 else
 (if (a0==3)=true then
 i (a0==3)
 else
 i (a0==5)))))
theorem A7x (a0:Int) (r:Int) (h:X4 a0=some r):AC Tryz.prog 125 [.d (.int .i64 a0)] [] (.d (.int .i64 r)) []:=by
 refine ac2 Tryz.func125 rfl rfl fun B hB hN L => ?_;delta X4 at h;refine sr (SQ tt) ?_;apply seq;refine sr (SQ tt) ?_;apply block;apply seq;refine sr (SQ tt) ?_;refine gh [(3,_),(4,_)] [] hB rfl rfl (by rfl) ?_;refine AWp.cut h (fun p:Bool=>([(3,i6 a0),(4,bo p)]:EL)) (fun p:Bool=>([]:OL)) (fun p h K M s => ?_) (fun N i h => ?_)
 ·apply A0;refine ghost s ?_;apply AWp.cond rfl<;>intro A
  ·have h:=A5 A h;refine sr (SQ tt) ?_;apply ret;apply D8;apply B8;obtain rfl:=oi h;exact rt (kp [(2,_)] [] hB rfl rfl (by rfl)) [i6 64] (rT rN) rfl
  ·have h:=A6 A h;refine sr (SQ tt) ?_;apply AWp.cond rfl<;>intro C
   ·have h:=A5 C h;refine sr (SQ tt) ?_;apply ret;apply D8;apply B8;obtain rfl:=oi h;exact rt (kp [(2,_)] [] hB rfl rfl (by rfl)) [i6 128] (rT rN) rfl
   ·have h:=A6 C h;apply seq;refine sr (SQ tt) ?_;refine gh [(3,_),(11,_)] [] hB rfl rfl (by rfl) ?_;refine AWp.cut h (fun t:Bool=>([(11,bo t)]:EL)) (fun t:Bool=>([]:OL)) (fun t h K M s => ?_) (fun O u h => ?_)
    ·apply A0;refine ghost s ?_;apply AWp.cond rfl<;>intro E
     ·have h:=A5 E h;refine sr (SQ tt) ?_;apply ret;apply D8;apply B8;obtain rfl:=oi h;exact rt (kp [(2,_)] [] hB rfl rfl (by rfl)) [i6 192] (rT rN) rfl
     ·have h:=A6 E h;apply AWp.skip;apply D7;apply A0;refine sr (SQ tt) ?_;apply ret;obtain rfl:=oi h;exact rt (kp [(2,_)] [] hB rfl rfl (by rfl)) [i6 0] (rT rN) rfl
    ·apply AWp.cond rfl<;>intro F
     ·have h:=A5 F h;apply AWp.skip;exact u _ h _ _ (mp [] _ _ hB)
     ·have h:=A6 F h;refine sr (SQ tt) ?_;apply AWp.cond rfl<;>intro G
      ·have h:=A5 G h;apply AWp.skip;exact u _ h _ _ (mp [] _ _ hB)
      ·have h:=A6 G h;refine rg (SQ tt) ?_;exact u _ h _ _ (mp [] _ _ hB)
 ·apply AWp.cond rfl<;>intro H
  ·have h:=A5 H h;apply AWp.skip;exact i _ h _ _ (mp [] _ _ hB)
  ·have h:=A6 H h;refine sr (SQ tt) ?_;apply AWp.cond rfl<;>intro I
   ·have h:=A5 I h;apply AWp.skip;exact i _ h _ _ (mp [] _ _ hB)
   ·have h:=A6 I h;refine sr (SQ tt) ?_;apply AWp.cond rfl<;>intro J
    ·have h:=A5 J h;apply AWp.skip;exact i _ h _ _ (mp [] _ _ hB)
    ·have h:=A6 J h;refine rg (SQ tt) ?_;exact i _ h _ _ (mp [] _ _ hB)
def Q6 (a0:Int):Option (Bool):=
 (X4 a0).bind fun i=>
 some (((i==0)&&(a0 != 14))&&(a0 != 15))
theorem A45 (a0:Int) (r:Bool) (h:Q6 a0=some r):AC Tryz.prog 89 [.d (.int .i64 a0)] [] (.d (.bool r)) []:=by
 refine AC.of_code2 Tryz.func89 rfl rfl (Nat.le_of_ble_eq_true (by rfl)) fun B hB hN => ?_;delta Q6 at h;refine sr (SQ tt) ?_;obtain⟨i,p,h⟩:=bindS h;refine sr (SQ (fa (cl [] (A7x a0 i p)) tt)) ?_;apply ret;obtain rfl:=oi h;exact rt (kp [(2,_)] [] hB rfl rfl (by rfl)) [bo (((i==0)&&(a0 != 14))&&(a0 != 15))] (rT rN) rfl
def N8 (p:B4) (i:Int):Option ((Unit⊕Unit)⊕Int):=
 (if (decide (i<(p.fASNs.length:Int)))=true then
 (idx p.fASNs i).bind fun s=>
 jn (fun u:Bool=>
 (if u=true then
 some (.inl (.inl ()))
 else
 some (.inr (w64 (i+1))))) (fun t=>
 (if ((decide (s<1)) || (decide (4294967295<s)))=true then
 t true
 else
 (if (p.fSet&&(decide (0<i)))=true then
 (idx p.fASNs (w64 (i-1))).bind fun A=>
 t (decide (s≤A))
 else
 t false)))
 else
 some (.inl (.inr ())))
def R6 (a0:(List B4)) (i:Int×Int):Option ((Unit⊕Int)⊕(Int×Int)):=
 (if (decide (i.2<(a0.length:Int)))=true then
 (idx a0 i.2).bind fun p=>
 jn (fun t:Bool=>
 (if t=true then
 some (.inl (.inl ()))
 else
 (loop (N8 p) 0).bind fun u=>match u with
 | (.inl _)=>
  some (.inl (.inl ()))
 | (.inr _)=>
  some (.inr (w64 (i.1+(p.fASNs.length:Int)),w64 (i.2+1))))) (fun s=>
 (if ((p.fASNs.length:Int)==0)=true then
 s true
 else
 (if ((decide (0<i.2))&&(!p.fSet))=true then
 (idx a0 (w64 (i.2-1))).bind fun A=>
 s (!A.fSet)
 else
 s false)))
 else
 some (.inl (.inr i.1)))
def A0d (a0:(List B4)):Option (Bool):=
 (loop (R6 a0) (0,0)).bind fun i=>match i with
 | (.inl _)=>
  some false
 | (.inr p)=>
  some (decide (p≤64))
theorem R7 (a0:(List B4)) (r:Bool) (h:A0d a0=some r):AC Tryz.prog 83 [.d (.list 2 (a0.map D2))] [] (.d (.bool r)) []:=by
 refine ac2 Tryz.func83 rfl rfl fun B hB hN L => ?_;delta A0d at h;refine sr (SQ tt) ?_;refine sr (SQ tt) ?_;apply seq;refine sr (SQ tt) ?_;apply block;obtain⟨S,T,h⟩:=bindS h;refine lg (R6 a0) (fun i:Int×Int=>([(0,D0 a0),(3,i6 i.1),(8,D0 a0),(9,i6 (a0.length:Int)),(10,i6 i.2)]:EL)) (fun i:Int×Int=>([]:OL)) (fun(x:(Unit)⊕Int) e t u=>match x with | (.inl _p)=>e = .ret∧Mat B t u ([(2,bo false)]:EL) ([]:OL) | (.inr H)=>e = .exit 0∧Mat B t u ([(3,i6 H)]:EL) ([]:OL)) T (mp [] _ _ hB) (fun i y h => ?_) (fun e t u hR => ?_)
 ·unfold R6 at h;refine sr (SQ tt) ?_;apply seq;apply AWp.cond rfl<;>intro N
  ·have h:=A5 N h;apply AWp.skip;apply A0;apply seq;apply block;obtain⟨p,U,h⟩:=bindS h;refine sr (SQ (fa U tt)) ?_;apply seq;apply seq;refine AWp.cut h (fun I:Bool=>([(0,D0 a0),(3,i6 i.1),(5,pt 1005),(8,D0 a0),(9,i6 (a0.length:Int)),(10,i6 i.2),(36,bo I)]:EL)) (fun I:Bool=>([(1005,bd 75 (D2 p))]:OL)) (fun I h t u s => ?_) (fun ab J h => ?_)
   ·apply A0;refine ghost s ?_;apply AWp.cond rfl<;>intro O
    ·have h:=A5 O h;refine sr (SQ tt) ?_;apply ret;apply B8;apply D8;apply B8;obtain rfl:=oi h;exact⟨nofun,rfl,mp [] _ _ hB⟩
    ·have h:=A6 O h;apply AWp.skip;apply A0;apply seq;refine sr (SQ tt) ?_;apply block;obtain⟨W,X,h⟩:=bindS h;refine lg (N8 p) (fun E:Int=>([(0,D0 a0),(3,i6 i.1),(5,pt 1005),(8,D0 a0),(9,i6 (a0.length:Int)),(10,i6 i.2),(38,qI_1 p.fASNs),(39,i6 (p.fASNs.length:Int)),(40,i6 E)]:EL)) (fun E:Int=>([(1005,bd 75 (D2 p))]:OL)) (fun(x:(Unit)⊕Unit) e t u=>match x with | (.inl _p)=>e = .ret∧Mat B t u ([(2,bo false)]:EL) ([]:OL) | (.inr _p)=>e = .exit 2∧Mat B t u ([(0,D0 a0),(3,i6 i.1),(5,pt 1005),(8,D0 a0),(9,i6 (a0.length:Int)),(10,i6 i.2)]:EL) ([(1005,bd 75 (D2 p))]:OL)) X (mp [] _ _ hB) (fun E y h => ?_) (fun e t u hR => ?_)
     ·unfold N8 at h;refine sr (SQ tt) ?_;apply seq;apply AWp.cond rfl<;>intro P
      ·have h:=A5 P h;apply AWp.skip;apply A0;apply seq;apply block;obtain⟨Q,Y,h⟩:=bindS h;refine sr (SQ (fa Y tt)) ?_;apply seq;refine AWp.cut h (fun K:Bool=>([(0,D0 a0),(3,i6 i.1),(5,pt 1005),(8,D0 a0),(9,i6 (a0.length:Int)),(10,i6 i.2),(38,qI_1 p.fASNs),(39,i6 (p.fASNs.length:Int)),(40,i6 E),(68,bo K)]:EL)) (fun K:Bool=>([(1005,bd 75 (D2 p))]:OL)) (fun K h t u s => ?_) (fun ac M h => ?_)
       ·apply A0;refine ghost s ?_;apply AWp.cond rfl<;>intro R
        ·have h:=A5 R h;refine sr (SQ tt) ?_;apply ret;apply D8;apply B8;obtain rfl:=oi h;exact⟨nofun,rfl,mp [] _ _ hB⟩
        ·have h:=A6 R h;apply AWp.skip;apply D7;apply A0;refine rg (SQ tt) ?_;obtain rfl:=oi h;exact⟨rfl,mp [] _ _ hB⟩
       ·rcases bft ((decide (Q<1)) || (decide (4294967295<Q))) with A | A
        ·have h:=A5 A h;refine rg (SQ (fa A tt)) ?_;exact M _ h _ _ (mp [] _ _ hB)
        ·have h:=A6 A h;rcases bft (p.fSet&&(decide (0<E))) with F | F
         ·have h:=A5 F h;obtain⟨_,Z,h⟩:=bindS h;refine rg (SQ (fa A (fa F (fa Z tt)))) ?_;exact M _ h _ _ (mp [] _ _ hB)
         ·have h:=A6 F h;refine rg (SQ (fa A (fa F tt))) ?_;exact M _ h _ _ (mp [] _ _ hB)
      ·have h:=A6 P h;apply AWp.exit;apply D6;obtain rfl:=oi h;exact⟨nofun,rfl,mp [] _ _ hB⟩
     ·rcases W with _ | _
      ·obtain⟨rfl,s⟩:=hR;apply D8;apply B8;apply D8;apply B8;obtain rfl:=oi h;exact⟨nofun,rfl,Mat.trans s (mp [] _ _ hB)⟩
      ·obtain⟨rfl,s⟩:=hR;apply B9;apply A0;refine ghost s ?_;refine rg (SQ tt) ?_;apply D7;apply A0;refine rg (SQ tt) ?_;obtain rfl:=oi h;exact⟨rfl,mp [] _ _ hB⟩
   ·rcases bft ((p.fASNs.length:Int)==0) with C | C
    ·have h:=A5 C h;refine rg (SQ (fa C tt)) ?_;exact J _ h _ _ (mp [] _ _ hB)
    ·have h:=A6 C h;rcases bft ((decide (0<i.2))&&(!p.fSet)) with G | G
     ·have h:=A5 G h;obtain⟨_,aa,h⟩:=bindS h;refine rg (SQ (fa C (fa G (fa aa tt)))) ?_;exact J _ h _ _ (mp [] _ _ hB)
     ·have h:=A6 G h;refine rg (SQ (fa C (fa G tt))) ?_;exact J _ h _ _ (mp [] _ _ hB)
  ·have h:=A6 N h;apply AWp.exit;apply D6;obtain rfl:=oi h;exact⟨nofun,rfl,mp [] _ _ hB⟩
 ·rcases S with _ | H
  ·obtain⟨rfl,s⟩:=hR;apply D8;apply B8;obtain rfl:=oi h;exact rt (Mat.trans s (mp [] [(2,bo false)] [] hB)) [bo false] (rT rN) rfl
  ·obtain⟨rfl,s⟩:=hR;apply B9;apply A0;refine ghost s ?_;refine sr (SQ tt) ?_;apply ret;obtain rfl:=oi h;exact rt (kp [(2,_)] [] hB rfl rfl (by rfl)) [bo (decide (H≤64))] (rT rN) rfl
def A26 (a0:B5):Option (Bool):=
 some ((((decide (0≤a0.fA))&&(decide (a0.fA≤65535)))&&(decide (0≤a0.fB)))&&(decide (a0.fB≤65535)))
theorem A5c (a0:B5) (r:Bool) (h:A26 a0=some r):AC Tryz.prog 126 [.d (C5 a0)] [] (.d (.bool r)) []:=by
 refine AC.of_code2 Tryz.func126 rfl rfl (Nat.le_of_ble_eq_true (by rfl)) fun B hB hN => ?_;delta A26 at h;refine sr (SQ tt) ?_;refine sr (SQ tt) ?_;apply ret;obtain rfl:=oi h;exact rt (kp [(2,_)] [] hB rfl rfl (by rfl)) [bo ((((decide (0≤a0.fA))&&(decide (a0.fA≤65535)))&&(decide (0≤a0.fB)))&&(decide (a0.fB≤65535)))] (rT rN) rfl
def A50 (a0:B5) (a1:B5):Option (Bool):=
 jn (fun p:Bool=>
 some p) (fun i=>
 (if (decide (a0.fA<a1.fA))=true then
 i true
 else
 i ((a0.fA==a1.fA)&&(decide (a0.fB<a1.fB)))))
theorem B39 (a0:B5) (a1:B5) (r:Bool) (h:A50 a0 a1=some r):AC Tryz.prog 127 [.d (C5 a0),.d (C5 a1)] [] (.d (.bool r)) []:=by
 refine ac2 Tryz.func127 rfl rfl fun B hB hN L => ?_;delta A50 at h;refine sr (SQ tt) ?_;apply seq;refine AWp.cut h (fun p:Bool=>([(4,bo p)]:EL)) (fun p:Bool=>([]:OL)) (fun p h u A t => ?_) (fun C s h => ?_)
 ·apply A0;refine ghost t ?_;apply ret;obtain rfl:=oi h;exact rt (kp [(4,_)] [] hB rfl rfl (by rfl)) [bo p] (rT rN) rfl
 ·rcases bft (decide (a0.fA<a1.fA)) with i | i
  ·have h:=A5 i h;refine rg (SQ (fa i tt)) ?_;exact s _ h _ _ (mp [] _ _ hB)
  ·have h:=A6 i h;refine rg (SQ (fa i tt)) ?_;exact s _ h _ _ (mp [] _ _ hB)
def N9 (a0:(List B5)) (i:Int):Option ((Unit⊕Unit)⊕Int):=
 (if (decide (i<(a0.length:Int)))=true then
 (idx a0 i).bind fun s=>
 jn (fun t:Bool=>
 (if t=true then
 some (.inl (.inl ()))
 else
 some (.inr (w64 (i+1))))) (fun p=>
 (A26 s).bind fun u=>
 (if (!u)=true then
 p true
 else
 (if (decide (0<i))=true then
 (idx a0 (w64 (i-1))).bind fun A=>
 (A50 A s).bind fun C=>
 p (!C)
 else
 p false)))
 else
 some (.inl (.inr ())))
def S7 (a0:(List B5)):Option (Bool):=
 (loop (N9 a0) 0).bind fun i=>match i with
 | (.inl _)=>
  some false
 | (.inr _)=>
  some (decide ((a0.length:Int)≤64))
theorem A2n (a0:(List B5)) (r:Bool) (h:S7 a0=some r):AC Tryz.prog 91 [.d (.list 2 (a0.map C5))] [] (.d (.bool r)) []:=by
 refine ac2 Tryz.func91 rfl rfl fun B hB hN L => ?_;delta S7 at h;refine sr (SQ tt) ?_;apply seq;refine sr (SQ tt) ?_;apply block;obtain⟨K,M,h⟩:=bindS h;refine lg (N9 a0) (fun p:Int=>([(0,C9 a0),(5,C9 a0),(6,i6 (a0.length:Int)),(7,i6 p)]:EL)) (fun p:Int=>([]:OL)) (fun(x:(Unit)⊕Unit) e u A=>match x with | (.inl _p)=>e = .ret∧Mat B u A ([(2,bo false)]:EL) ([]:OL) | (.inr _p)=>e = .exit 0∧Mat B u A ([(0,C9 a0)]:EL) ([]:OL)) M (mp [] _ _ hB) (fun p y h => ?_) (fun e u A hR => ?_)
 ·unfold N9 at h;refine sr (SQ tt) ?_;apply seq;apply AWp.cond rfl<;>intro I
  ·have h:=A5 I h;apply AWp.skip;apply A0;apply seq;apply block;obtain⟨C,N,h⟩:=bindS h;refine sr (SQ (fa N tt)) ?_;apply seq;refine AWp.cut h (fun F:Bool=>([(0,C9 a0),(5,C9 a0),(6,i6 (a0.length:Int)),(7,i6 p),(28,bo F)]:EL)) (fun F:Bool=>([]:OL)) (fun F h u A s => ?_) (fun S G h => ?_)
   ·apply A0;refine ghost s ?_;apply AWp.cond rfl<;>intro J
    ·have h:=A5 J h;refine sr (SQ tt) ?_;apply ret;apply D8;apply B8;obtain rfl:=oi h;exact⟨nofun,rfl,mp [] _ _ hB⟩
    ·have h:=A6 J h;apply AWp.skip;apply D7;apply A0;refine rg (SQ tt) ?_;obtain rfl:=oi h;exact⟨rfl,mp [] _ _ hB⟩
   ·obtain⟨E,H,h⟩:=bindS h;rcases bft (!E) with i | i
    ·have h:=A5 i h;refine drS (SQ (fa (cl [] (A5c C E H)) (fa i tt))) ?_;exact G _ h _ _ (mp [] _ _ hB)
    ·have h:=A6 i h;rcases bft (decide (0<p)) with t | t
     ·have h:=A5 t h;obtain⟨O,P,h⟩:=bindS h;obtain⟨Q,R,h⟩:=bindS h;refine drS (SQ (fa (cl [] (A5c C E H)) (fa i (fa t (fa P (fa (cl [] (B39 O C Q R)) tt)))))) ?_;exact G _ h _ _ (mp [] _ _ hB)
     ·have h:=A6 t h;refine drS (SQ (fa (cl [] (A5c C E H)) (fa i (fa t tt)))) ?_;exact G _ h _ _ (mp [] _ _ hB)
  ·have h:=A6 I h;apply AWp.exit;apply D6;obtain rfl:=oi h;exact⟨nofun,rfl,mp [] _ _ hB⟩
 ·rcases K with _ | _
  ·obtain⟨rfl,s⟩:=hR;apply D8;apply B8;obtain rfl:=oi h;exact rt (Mat.trans s (mp [] [(2,bo false)] [] hB)) [bo false] (rT rN) rfl
  ·obtain⟨rfl,s⟩:=hR;apply B9;apply A0;refine ghost s ?_;refine sr (SQ tt) ?_;apply ret;obtain rfl:=oi h;exact rt (kp [(2,_)] [] hB rfl rfl (by rfl)) [bo (decide ((a0.length:Int)≤64))] (rT rN) rfl
def R2 (a0:E7):Option (Bool):=
 some ((((((decide (0≤a0.fA))&&(decide (a0.fA≤4294967295)))&&(decide (0≤a0.fB)))&&(decide (a0.fB≤4294967295)))&&(decide (0≤a0.fC)))&&(decide (a0.fC≤4294967295)))
theorem A1k (a0:E7) (r:Bool) (h:R2 a0=some r):AC Tryz.prog 128 [.d (E9 a0)] [] (.d (.bool r)) []:=by
 refine ac2 Tryz.func128 rfl rfl fun B hB hN L => ?_;delta R2 at h;refine sr (SQ tt) ?_;refine sr (SQ tt) ?_;apply ret;obtain rfl:=oi h;exact rt (kp [(2,_)] [] hB rfl rfl (by rfl)) [bo ((((((decide (0≤a0.fA))&&(decide (a0.fA≤4294967295)))&&(decide (0≤a0.fB)))&&(decide (a0.fB≤4294967295)))&&(decide (0≤a0.fC)))&&(decide (a0.fC≤4294967295)))] (rT rN) rfl
def Z3 (a0:E7) (a1:E7):Option (Bool):=
 jn (fun p:Bool=>
 some p) (fun i=>
 (if (decide (a0.fA<a1.fA))=true then
 i true
 else
 (if (a0.fA==a1.fA)=true then
 (if (decide (a0.fB<a1.fB))=true then
 i true
 else
 i ((a0.fB==a1.fB)&&(decide (a0.fC<a1.fC))))
 else
 i false)))
theorem A9e (a0:E7) (a1:E7) (r:Bool) (h:Z3 a0 a1=some r):AC Tryz.prog 129 [.d (E9 a0),.d (E9 a1)] [] (.d (.bool r)) []:=by
 refine ac2 Tryz.func129 rfl rfl fun B hB hN L => ?_;delta Z3 at h;refine sr (SQ tt) ?_;apply seq;refine AWp.cut h (fun t:Bool=>([(4,bo t)]:EL)) (fun t:Bool=>([]:OL)) (fun t h C E A => ?_) (fun F u h => ?_)
 ·apply A0;refine ghost A ?_;apply ret;obtain rfl:=oi h;exact rt (kp [(4,_)] [] hB rfl rfl (by rfl)) [bo t] (rT rN) rfl
 ·rcases bft (decide (a0.fA<a1.fA)) with i | i
  ·have h:=A5 i h;refine rg (SQ (fa i tt)) ?_;exact u _ h _ _ (mp [] _ _ hB)
  ·have h:=A6 i h;rcases bft (a0.fA==a1.fA) with p | p
   ·have h:=A5 p h;rcases bft (decide (a0.fB<a1.fB)) with s | s
    ·have h:=A5 s h;refine rg (SQ (fa i (fa p (fa s tt)))) ?_;exact u _ h _ _ (mp [] _ _ hB)
    ·have h:=A6 s h;refine rg (SQ (fa i (fa p (fa s tt)))) ?_;exact u _ h _ _ (mp [] _ _ hB)
   ·have h:=A6 p h;refine rg (SQ (fa i (fa p tt))) ?_;exact u _ h _ _ (mp [] _ _ hB)
def H6 (a0:(List E7)) (i:Int):Option ((Unit⊕Unit)⊕Int):=
 (if (decide (i<(a0.length:Int)))=true then
 (idx a0 i).bind fun s=>
 jn (fun t:Bool=>
 (if t=true then
 some (.inl (.inl ()))
 else
 some (.inr (w64 (i+1))))) (fun p=>
 (R2 s).bind fun u=>
 (if (!u)=true then
 p true
 else
 (if (decide (0<i))=true then
 (idx a0 (w64 (i-1))).bind fun A=>
 (Z3 A s).bind fun C=>
 p (!C)
 else
 p false)))
 else
 some (.inl (.inr ())))
def I6 (a0:(List E7)):Option (Bool):=
 (loop (H6 a0) 0).bind fun i=>match i with
 | (.inl _)=>
  some false
 | (.inr _)=>
  some (decide ((a0.length:Int)≤64))
theorem A51 (a0:(List E7)) (r:Bool) (h:I6 a0=some r):AC Tryz.prog 92 [.d (.list 3 (a0.map E9))] [] (.d (.bool r)) []:=by
 refine ac2 Tryz.func92 rfl rfl fun B hB hN L => ?_;delta I6 at h;refine sr (SQ tt) ?_;apply seq;refine sr (SQ tt) ?_;apply block;obtain⟨K,M,h⟩:=bindS h;refine lg (H6 a0) (fun p:Int=>([(0,E8 a0),(5,E8 a0),(6,i6 (a0.length:Int)),(7,i6 p)]:EL)) (fun p:Int=>([]:OL)) (fun(x:(Unit)⊕Unit) e u A=>match x with | (.inl _p)=>e = .ret∧Mat B u A ([(2,bo false)]:EL) ([]:OL) | (.inr _p)=>e = .exit 0∧Mat B u A ([(0,E8 a0)]:EL) ([]:OL)) M (mp [] _ _ hB) (fun p y h => ?_) (fun e u A hR => ?_)
 ·unfold H6 at h;refine sr (SQ tt) ?_;apply seq;apply AWp.cond rfl<;>intro I
  ·have h:=A5 I h;apply AWp.skip;apply A0;apply seq;apply block;obtain⟨C,N,h⟩:=bindS h;refine sr (SQ (fa N tt)) ?_;apply seq;refine AWp.cut h (fun F:Bool=>([(0,E8 a0),(5,E8 a0),(6,i6 (a0.length:Int)),(7,i6 p),(28,bo F)]:EL)) (fun F:Bool=>([]:OL)) (fun F h u A s => ?_) (fun S G h => ?_)
   ·apply A0;refine ghost s ?_;apply AWp.cond rfl<;>intro J
    ·have h:=A5 J h;refine sr (SQ tt) ?_;apply ret;apply D8;apply B8;obtain rfl:=oi h;exact⟨nofun,rfl,mp [] _ _ hB⟩
    ·have h:=A6 J h;apply AWp.skip;apply D7;apply A0;refine rg (SQ tt) ?_;obtain rfl:=oi h;exact⟨rfl,mp [] _ _ hB⟩
   ·obtain⟨E,H,h⟩:=bindS h;rcases bft (!E) with i | i
    ·have h:=A5 i h;refine drS (SQ (fa (cl [] (A1k C E H)) (fa i tt))) ?_;exact G _ h _ _ (mp [] _ _ hB)
    ·have h:=A6 i h;rcases bft (decide (0<p)) with t | t
     ·have h:=A5 t h;obtain⟨O,P,h⟩:=bindS h;obtain⟨Q,R,h⟩:=bindS h;refine drS (SQ (fa (cl [] (A1k C E H)) (fa i (fa t (fa P (fa (cl [] (A9e O C Q R)) tt)))))) ?_;exact G _ h _ _ (mp [] _ _ hB)
     ·have h:=A6 t h;refine drS (SQ (fa (cl [] (A1k C E H)) (fa i (fa t tt)))) ?_;exact G _ h _ _ (mp [] _ _ hB)
  ·have h:=A6 I h;apply AWp.exit;apply D6;obtain rfl:=oi h;exact⟨nofun,rfl,mp [] _ _ hB⟩
 ·rcases K with _ | _
  ·obtain⟨rfl,s⟩:=hR;apply D8;apply B8;obtain rfl:=oi h;exact rt (Mat.trans s (mp [] [(2,bo false)] [] hB)) [bo false] (rT rN) rfl
  ·obtain⟨rfl,s⟩:=hR;apply B9;apply A0;refine ghost s ?_;refine sr (SQ tt) ?_;apply ret;obtain rfl:=oi h;exact rt (kp [(2,_)] [] hB rfl rfl (by rfl)) [bo (decide ((a0.length:Int)≤64))] (rT rN) rfl
def O4 (a0:C2) (p:Int):Option ((Unit⊕Unit)⊕Int):=
 (if (decide (p<(a0.fOther.length:Int)))=true then
 (idx a0.fOther p).bind fun i=>
 jn (fun t:Bool=>
 (if t=true then
 some (.inl (.inl ()))
 else
 some (.inr (w64 (p+1))))) (fun s=>
 (if ((decide (i.fType<1)) || (decide (255<i.fType)))=true then
 s true
 else
 (Q6 i.fType).bind fun u=>
 (if (((!u) || (i.fFlags != 224)) || (decide (255<(i.fData.length:Int))))=true then
 s true
 else
 (if (decide (0<p))=true then
 (idx a0.fOther (w64 (p-1))).bind fun A=>
 s (decide (i.fType≤A.fType))
 else
 s false))))
 else
 some (.inl (.inr ())))
def M0 (a0:C2):Option (Bool):=
 (loop (O4 a0) 0).bind fun p=>match p with
 | (.inl _)=>
  some false
 | (.inr _)=>
  jn (fun s:Bool=>
  some s) (fun i=>
  (if ((decide ((-1)≤a0.fOrigin))&&(decide (a0.fOrigin≤2)))=true then
  (A0d a0.fPath).bind fun t=>
  (if t=true then
  (X3 a0.fNext).bind fun u=>
  (if ((((u&&(decide ((-1)≤a0.fMED)))&&(decide (a0.fMED≤4294967295)))&&(decide ((-1)≤a0.fPref)))&&(decide (a0.fPref≤4294967295)))=true then
  (if (a0.fOTC==(-1))=true then
  (S7 a0.fCommunities).bind fun A=>
  (if A=true then
  (I6 a0.fLarge).bind fun C=>
  i (C&&(decide ((a0.fOther.length:Int)≤8)))
  else
  i false)
  else
  (if ((decide (1≤a0.fOTC))&&(decide (a0.fOTC≤4294967295)))=true then
  (S7 a0.fCommunities).bind fun E=>
  (if E=true then
  (I6 a0.fLarge).bind fun F=>
  i (F&&(decide ((a0.fOther.length:Int)≤8)))
  else
  i false)
  else
  i false))
  else
  i false)
  else
  i false)
  else
  i false))
theorem A7y (a0:C2) (r:Bool) (h:M0 a0=some r):AC Tryz.prog 64 [.d (C8 a0)] [] (.d (.bool r)) []:=by
 refine ac2 Tryz.func64 rfl rfl fun B hB hN L => ?_;delta M0 at h;refine sr (SQ tt) ?_;apply seq;refine sr (SQ tt) ?_;apply block;obtain⟨af,ag,h⟩:=bindS h;refine lg (O4 a0) (fun M:Int=>([(1,pt 1001),(6,C6 a0.fOther),(7,i6 (a0.fOther.length:Int)),(8,i6 M)]:EL)) (fun M:Int=>([(1001,bd 39 (C8 a0))]:OL)) (fun(x:(Unit)⊕Unit) e N O=>match x with | (.inl _p)=>e = .ret∧Mat B N O ([(2,bo false)]:EL) ([]:OL) | (.inr _p)=>e = .exit 0∧Mat B N O ([(1,pt 1001)]:EL) ([(1001,bd 39 (C8 a0))]:OL)) ag (mp [] _ _ hB) (fun M y h => ?_) (fun e N O hR => ?_)
 ·unfold O4 at h;refine sr (SQ tt) ?_;apply seq;apply AWp.cond rfl<;>intro aa
  ·have h:=A5 aa h;apply AWp.skip;apply A0;apply seq;apply block;obtain⟨C,ah,h⟩:=bindS h;refine sr (SQ (fa ah tt)) ?_;apply seq;refine AWp.cut h (fun W:Bool=>([(1,pt 1001),(6,C6 a0.fOther),(7,i6 (a0.fOther.length:Int)),(8,i6 M),(53,bo W)]:EL)) (fun W:Bool=>([(1001,bd 39 (C8 a0))]:OL)) (fun W h N O E => ?_) (fun an S h => ?_)
   ·apply A0;refine ghost E ?_;apply AWp.cond rfl<;>intro ab
    ·have h:=A5 ab h;refine sr (SQ tt) ?_;apply ret;apply D8;apply B8;obtain rfl:=oi h;exact⟨nofun,rfl,mp [] _ _ hB⟩
    ·have h:=A6 ab h;apply AWp.skip;apply D7;apply A0;refine rg (SQ tt) ?_;obtain rfl:=oi h;exact⟨rfl,mp [] _ _ hB⟩
   ·rcases bft ((decide (C.fType<1)) || (decide (255<C.fType))) with F | F
    ·have h:=A5 F h;refine drS (SQ (fa F tt)) ?_;exact S _ h _ _ (mp [] _ _ hB)
    ·have h:=A6 F h;obtain⟨T,X,h⟩:=bindS h;rcases bft (((!T) || (C.fFlags != 224)) || (decide (255<(C.fData.length:Int)))) with I | I
     ·have h:=A5 I h;refine drS (SQ (fa F (fa (cl [] (A45 C.fType T X)) (fa I tt)))) ?_;exact S _ h _ _ (mp [] _ _ hB)
     ·have h:=A6 I h;rcases bft (decide (0<M)) with P | P
      ·have h:=A5 P h;obtain⟨_,ai,h⟩:=bindS h;refine drS (SQ (fa F (fa (cl [] (A45 C.fType T X)) (fa I (fa P (fa ai tt)))))) ?_;exact S _ h _ _ (mp [] _ _ hB)
      ·have h:=A6 P h;refine drS (SQ (fa F (fa (cl [] (A45 C.fType T X)) (fa I (fa P tt))))) ?_;exact S _ h _ _ (mp [] _ _ hB)
  ·have h:=A6 aa h;apply AWp.exit;apply D6;obtain rfl:=oi h;exact⟨nofun,rfl,mp [] _ _ hB⟩
 ·rcases af with _ | _
  ·obtain⟨rfl,E⟩:=hR;apply D8;apply B8;obtain rfl:=oi h;exact rt (Mat.trans E (mp [] [(2,bo false)] [] hB)) [bo false] (rT rN) rfl
  ·obtain⟨rfl,E⟩:=hR;apply B9;apply A0;refine ghost E ?_;apply seq;refine AWp.cut h (fun U:Bool=>([(2,bo U)]:EL)) (fun U:Bool=>([]:OL)) (fun U h N O E => ?_) (fun ao t h => ?_)
   ·apply A0;refine ghost E ?_;apply ret;obtain rfl:=oi h;exact rt (kp [(2,_)] [] hB rfl rfl (by rfl)) [bo U] (rT rN) rfl
   ·rcases bft ((decide ((-1)≤a0.fOrigin))&&(decide (a0.fOrigin≤2))) with i | i
    ·have h:=A5 i h;obtain⟨u,G,h⟩:=bindS h;rcases bft u with p | p
     ·have h:=A5 p h;obtain⟨H,J,h⟩:=bindS h;rcases bft ((((H&&(decide ((-1)≤a0.fMED)))&&(decide (a0.fMED≤4294967295)))&&(decide ((-1)≤a0.fPref)))&&(decide (a0.fPref≤4294967295))) with s | s
      ·have h:=A5 s h;rcases bft (a0.fOTC==(-1)) with A | A
       ·have h:=A5 A h;obtain⟨Y,ac,h⟩:=bindS h;rcases bft Y with Q | Q
        ·have h:=A5 Q h;obtain⟨aj,ak,h⟩:=bindS h;refine rg (SQ (fa i (fa (cl [] (R7 a0.fPath u G)) (fa p (fa (cl [] (K6 a0.fNext H J)) (fa s (fa A (fa (cl [] (A2n a0.fCommunities Y ac)) (fa Q (fa (cl [] (A51 a0.fLarge aj ak)) tt)))))))))) ?_;exact t _ h _ _ (mp [] _ _ hB)
        ·have h:=A6 Q h;refine rg (SQ (fa i (fa (cl [] (R7 a0.fPath u G)) (fa p (fa (cl [] (K6 a0.fNext H J)) (fa s (fa A (fa (cl [] (A2n a0.fCommunities Y ac)) (fa Q tt))))))))) ?_;exact t _ h _ _ (mp [] _ _ hB)
       ·have h:=A6 A h;rcases bft ((decide (1≤a0.fOTC))&&(decide (a0.fOTC≤4294967295))) with K | K
        ·have h:=A5 K h;obtain⟨Z,ae,h⟩:=bindS h;rcases bft Z with R | R
         ·have h:=A5 R h;obtain⟨al,am,h⟩:=bindS h;refine rg (SQ (fa i (fa (cl [] (R7 a0.fPath u G)) (fa p (fa (cl [] (K6 a0.fNext H J)) (fa s (fa A (fa K (fa (cl [] (A2n a0.fCommunities Z ae)) (fa R (fa (cl [] (A51 a0.fLarge al am)) tt))))))))))) ?_;exact t _ h _ _ (mp [] _ _ hB)
         ·have h:=A6 R h;refine rg (SQ (fa i (fa (cl [] (R7 a0.fPath u G)) (fa p (fa (cl [] (K6 a0.fNext H J)) (fa s (fa A (fa K (fa (cl [] (A2n a0.fCommunities Z ae)) (fa R tt)))))))))) ?_;exact t _ h _ _ (mp [] _ _ hB)
        ·have h:=A6 K h;refine rg (SQ (fa i (fa (cl [] (R7 a0.fPath u G)) (fa p (fa (cl [] (K6 a0.fNext H J)) (fa s (fa A (fa K tt)))))))) ?_;exact t _ h _ _ (mp [] _ _ hB)
      ·have h:=A6 s h;refine rg (SQ (fa i (fa (cl [] (R7 a0.fPath u G)) (fa p (fa (cl [] (K6 a0.fNext H J)) (fa s tt)))))) ?_;exact t _ h _ _ (mp [] _ _ hB)
     ·have h:=A6 p h;refine rg (SQ (fa i (fa (cl [] (R7 a0.fPath u G)) (fa p tt)))) ?_;exact t _ h _ _ (mp [] _ _ hB)
    ·have h:=A6 i h;refine rg (SQ (fa i tt)) ?_;exact t _ h _ _ (mp [] _ _ hB)
def J0 (a0:Int) (i:Int×(List Int)):Option (List Int⊕(Int×(List Int))):=
 (if (decide (0≤i.1))=true then
 chk (decide ((i.2++([IntKind.u8.wrap (shrI .i64 a0 (IntKind.u64.wrap (8*(IntKind.u64.wrap i.1))))]:List Int)).length≤LIM))<|
 some (.inr (w64 (i.1-1),(i.2++([IntKind.u8.wrap (shrI .i64 a0 (IntKind.u64.wrap (8*(IntKind.u64.wrap i.1))))]:List Int))))
 else
 some (.inl i.2))
def J1 (a0:Int) (a1:Int):Option (List Int):=
 (loop (J0 a0) (w64 (a1-1),([]:List Int))).bind fun i=>
 some i
theorem M1 (a0:Int) (a1:Int) (r:(List Int)) (h:J1 a0 a1=some r):AC Tryz.prog 130 [.d (.int .i64 a0),.d (.int .i64 a1)] [] (.d (.list 1 (r.map (eI .u8)))) []:=by
 refine ac2 Tryz.func130 rfl rfl fun B hB hN L => ?_;delta J1 at h;refine sr (SQ tt) ?_;refine sr (SQ tt) ?_;apply seq;refine sr (SQ tt) ?_;apply block;obtain⟨i,A,h⟩:=bindS h;refine lg (J0 a0) (fun p:Int×(List Int)=>([(0,i6 a0),(5,.sref 3005 1 0 p.2.length),(6,i6 p.1)]:EL)) (fun p:Int×(List Int)=>([(3005,some (.row 5 1 (p.2.map (eI .u8))))]:OL)) (fun(i:(List Int)) e s t=>e = .exit 0∧Mat B s t ([(5,.sref 3005 1 0 i.length)]:EL) ([(3005,some (.row 5 1 (i.map (eI .u8))))]:OL)) A (Mat.trans (Mat.beginP (n:=3005) (e:=5) (sz:=1) (Ts:=[(5,.sref 3005 1 0 0)]) (Bs:=[]) hB (by decide) (by rfl) (by decide) (TwT.cons (x:=.nils) (by rfl) (Tw.leaf ⟨rfl,rfl⟩) TwT.nil) TwB.nil) (mp [] _ _ hB)) (fun p y h => ?_) (fun e s t hR => ?_)
 ·unfold J0 at h;apply seq;refine sr (SQ tt) ?_;apply AWp.cond rfl<;>intro u
  ·have h:=A5 u h;apply AWp.skip;apply A0;apply seq;apply block;obtain⟨C,h⟩:=B2 h;refine rg (SQ (fa C tt)) ?_;apply D7;apply A0;refine rg (SQ tt) ?_;obtain rfl:=oi h;exact⟨rfl,mp [(3005,1021)] _ _ hB⟩
  ·have h:=A6 u h;apply AWp.exit;apply D6;obtain rfl:=oi h;exact⟨nofun,rfl,mp [] _ _ hB⟩
 ·obtain⟨rfl,E⟩:=hR;apply B9;apply A0;refine ghost E ?_;refine sr (SQ tt) ?_;apply ret;obtain rfl:=oi h;exact rt (Mat.trans (Mat.freezeP (n:=3005) (e:=5) (sz:=1) (es:=i.map (eI .u8)) (Ts:=[(4,.d (.list 1 (i.map (eI .u8))))]) (Bs:=[]) (by rfl) (TwT.cons (x:=(.sref 3005 1 0 i.length)) (by rfl) (FrzL.all (by first | rfl | (simp;done) | (simp;omega) | omega)) TwT.nil) TwB.nil) (mp [] [(4,.d (.list 1 (i.map (eI .u8))))] [] hB)) [.d (.list 1 (i.map (eI .u8)))] (rT rN) rfl
def U7 (a0:C2) (i:Int×(List (Int×(List Int)))):Option ((List (Int×(List Int)))⊕(Int×(List (Int×(List Int))))):=
 (if (decide (i.1<(a0.fCommunities.length:Int)))=true then
 (idx a0.fCommunities i.1).bind fun s=>
 (J1 s.fA 2).bind fun p=>
 chk (decide ((((mget keq3 i.2 8).getD [])++p).length≤LIM))<|
 (J1 s.fB 2).bind fun t=>
 chk (decide (((((mget keq3 i.2 8).getD [])++p)++t).length≤LIM))<|
 some (.inr (w64 (i.1+1),mput keq3 i.2 8 ((((mget keq3 i.2 8).getD [])++p)++t)))
 else
 some (.inl i.2))
def U8 (a0:C2) (i:Int×(List (Int×(List Int)))):Option ((List (Int×(List Int)))⊕(Int×(List (Int×(List Int))))):=
 (if (decide (i.1<(a0.fLarge.length:Int)))=true then
 (idx a0.fLarge i.1).bind fun s=>
 (J1 s.fA 4).bind fun p=>
 chk (decide ((((mget keq3 i.2 32).getD [])++p).length≤LIM))<|
 (J1 s.fB 4).bind fun t=>
 chk (decide (((((mget keq3 i.2 32).getD [])++p)++t).length≤LIM))<|
 (J1 s.fC 4).bind fun u=>
 chk (decide ((((((mget keq3 i.2 32).getD [])++p)++t)++u).length≤LIM))<|
 some (.inr (w64 (i.1+1),mput keq3 i.2 32 (((((mget keq3 i.2 32).getD [])++p)++t)++u)))
 else
 some (.inl i.2))
def U9 (a0:C2) (s:Int×(List A3)) (i:Int×(List A3)):Option (List A3⊕(Int×(List A3))):=
 (if (decide (i.1<(a0.fOther.length:Int)))=true then
 (idx a0.fOther i.1).bind fun p=>
 jn (fun u:(List A3)=>
 some (.inr (w64 (i.1+1),u))) (fun t=>
 (if (p.fType==s.1)=true then
 chk (decide (p.fData.length≤LIM))<|
 chk (decide ((i.2++[A3.mk p.fFlags s.1 p.fData]).length≤LIM))<|
 t (i.2++[A3.mk p.fFlags s.1 p.fData])
 else
 t i.2))
 else
 some (.inl i.2))
def V0 (a0:C2) (p:(List (Int×(List Int)))) (i:Int×(List A3)):Option (List A3⊕(Int×(List A3))):=
 (if (decide (i.1<256))=true then
 jn (fun u:(List A3)=>
 (loop (U9 a0 i) (0,u)).bind fun A=>
 some (.inr (w64 (i.1+1),A))) (fun s=>
 (if (mget keq3 p i.1).isSome=true then
 (X4 i.1).bind fun t=>
 chk (decide (((mget keq3 p i.1).getD ([]:List Int)).length≤LIM))<|
 chk (decide ((i.2++([A3.mk t i.1 ((mget keq3 p i.1).getD ([]:List Int))]:List A3)).length≤LIM))<|
 s (i.2++([A3.mk t i.1 ((mget keq3 p i.1).getD ([]:List Int))]:List A3))
 else
 s i.2))
 else
 some (.inl i.2))
def A0r (p:B4) (i:Int×(List Int)):Option (List Int⊕(Int×(List Int))):=
 (if (decide (i.1<(p.fASNs.length:Int)))=true then
 (idx p.fASNs i.1).bind fun t=>
 (J1 t 4).bind fun s=>
 chk (decide ((i.2++s).length≤LIM))<|
 some (.inr (w64 (i.1+1),(i.2++s)))
 else
 some (.inl i.2))
def V1 (a0:C2) (i:Int×(List Int)):Option (List Int⊕(Int×(List Int))):=
 (if (decide (i.1<(a0.fPath.length:Int)))=true then
 (idx a0.fPath i.1).bind fun p=>
 jn (fun s:Int=>
 chk (decide ((i.2++([s,IntKind.u8.wrap (p.fASNs.length:Int)]:List Int)).length≤LIM))<|
 (loop (A0r p) (0,(i.2++([s,IntKind.u8.wrap (p.fASNs.length:Int)]:List Int)))).bind fun u=>
 some (.inr (w64 (i.1+1),u))) (fun t=>
 (if p.fSet=true then
 t 1
 else
 t 2))
 else
 some (.inl i.2))
def A46 (a0:C2):Option ((List A3)×Int):=
 (M0 a0).bind fun I=>
 (if (!I)=true then
 some (([]:List A3),1)
 else
 jn (fun i:(List (Int×(List Int)))=>
 jn (fun p:(List (Int×(List Int)))=>
 jn (fun s:(List (Int×(List Int)))=>
 jn (fun t:(List (Int×(List Int)))=>
 jn (fun J:(List (Int×(List Int)))=>
 (loop (U7 a0) (0,J)).bind fun K=>
 (loop (U8 a0) (0,K)).bind fun u=>
 jn (fun M:(List (Int×(List Int)))=>
 (loop (V0 a0 M) (0,([]:List A3))).bind fun N=>
 some (N,0)) (fun A=>
 (if (decide (0≤a0.fOTC))=true then
 (J1 a0.fOTC 4).bind fun O=>
 A (mput keq3 u 35 O)
 else
 A u))) (fun C=>
 (if (decide (0≤a0.fPref))=true then
 (J1 a0.fPref 4).bind fun P=>
 C (mput keq3 t 5 P)
 else
 C t))) (fun E=>
 (if (decide (0≤a0.fMED))=true then
 (J1 a0.fMED 4).bind fun Q=>
 E (mput keq3 s 4 Q)
 else
 E s))) (fun F=>
 (if ((!((a0.fNext.fV6==false)&&((a0.fNext.fHi==0)&&((a0.fNext.fLo==0)&&true))))&&(!a0.fNext.fV6))=true then
 (Q0 a0.fNext).bind fun R=>
 F (mput keq3 p 3 R)
 else
 F p))) (fun G=>
 (if ((decide (0≤a0.fOrigin)) || (decide (0<(a0.fPath.length:Int))))=true then
 (loop (V1 a0) (0,([]:List Int))).bind fun S=>
 G (mput keq3 i 2 S)
 else
 G i))) (fun H=>
 (if (decide (0≤a0.fOrigin))=true then
 H (mput keq3 ([]:List (Int×(List Int))) 1 ([IntKind.u8.wrap a0.fOrigin]:List Int))
 else
 H ([]:List (Int×(List Int))))))
theorem B1w (a0:C2) (r:(List A3)×Int) (h:A46 a0=some r):AC Tryz.prog 93 [.d (C8 a0)] [] (.tup [.d (.list 3 (r.1.map B6)),.d (.int .i64 r.2)]) []:=by
 refine ac2 Tryz.func93 rfl rfl fun B hB hN L => ?_;delta A46 at h;refine sr (SQ tt) ?_;apply seq;obtain⟨r1,bm,h⟩:=bindS h;refine sr (SQ (fa (cl [] (A7y a0 r1 bm)) tt)) ?_;apply AWp.cond rfl<;>intro ag
 ·have h:=A5 ag h;refine sr (SQ tt) ?_;apply ret;apply B8;obtain rfl:=oi h;exact rt (Mat.trans (Mat.coeP (Ts:=[(2,C6 ([]:List A3))]) (Bs:=[]) (TwT.cons (x:=.nils) (by rfl) (Tw.leaf ⟨_,Co.nils 3,rfl⟩) TwT.nil) TwB.nil) (mp [] [(2,C6 ([]:List A3)),(3,i6 1)] [] hB)) [C6 ([]:List A3),i6 1] (rT (rT rN)) rfl
 ·have h:=A6 ag h;apply AWp.skip;apply A0;refine sr (SQ tt) ?_;apply sr (cg (OpJ.mkmapM hB (nm:=1024) (by decide) (h:=(eI .u8)) (e2:=5) (sz2:=1) (own:=[8,32]) (by decide) (fun _=>rfl) (L rfl)) rfl (c (assign (L rfl) (q 24)) rfl cn));apply seq;refine sr (SQ tt) ?_;refine gh [(1,_),(4,_),(5,_),(27,_)] [(1001,some _),(1024,some _)] hB rfl rfl (by rfl) ?_;refine AWp.cut h (fun G:(List (Int×(List Int)))=>([(1,pt 1001),(4,.nils),(5,.mref 1024)]:EL)) (fun G:(List (Int×(List Int)))=>([(1001,bd 39 (C8 a0)),(1024,some (.reg (mrow (eI .u8) 5 1 [8,32] G none)))]:OL)) (fun G h s t p => ?_) (fun j5 ah h => ?_)
  ·apply A0;refine ghost p ?_;apply seq;refine sr (SQ tt) ?_;refine gh [(1,_),(4,_),(5,_),(41,_)] [(1001,some _),(1024,some _)] hB rfl rfl (by rfl) ?_;refine AWp.cut h (fun Q:(List (Int×(List Int)))=>([(1,pt 1001),(4,.nils),(5,.mref 1024)]:EL)) (fun Q:(List (Int×(List Int)))=>([(1001,bd 39 (C8 a0)),(1024,some (.reg (mrow (eI .u8) 5 1 [8,32] Q none)))]:OL)) (fun Q h s t p => ?_) (fun ct ai h => ?_)
   ·apply A0;refine ghost p ?_;apply seq;refine sr (SQ tt) ?_;refine gh [(1,_),(4,_),(5,_),(84,_)] [(1001,some _),(1024,some _)] hB rfl rfl (by rfl) ?_;refine AWp.cut h (fun R:(List (Int×(List Int)))=>([(1,pt 1001),(4,.nils),(5,.mref 1024)]:EL)) (fun R:(List (Int×(List Int)))=>([(1001,bd 39 (C8 a0)),(1024,some (.reg (mrow (eI .u8) 5 1 [8,32] R none)))]:OL)) (fun R h s t p => ?_) (fun cu aj h => ?_)
    ·apply A0;refine ghost p ?_;apply seq;refine sr (SQ tt) ?_;refine gh [(1,_),(4,_),(5,_),(91,_)] [(1001,some _),(1024,some _)] hB rfl rfl (by rfl) ?_;refine AWp.cut h (fun S:(List (Int×(List Int)))=>([(1,pt 1001),(4,.nils),(5,.mref 1024)]:EL)) (fun S:(List (Int×(List Int)))=>([(1001,bd 39 (C8 a0)),(1024,some (.reg (mrow (eI .u8) 5 1 [8,32] S none)))]:OL)) (fun S h s t p => ?_) (fun cv ak h => ?_)
     ·apply A0;refine ghost p ?_;apply seq;refine sr (SQ tt) ?_;refine gh [(1,_),(4,_),(5,_),(98,_)] [(1001,some _),(1024,some _)] hB rfl rfl (by rfl) ?_;refine AWp.cut h (fun Z:(List (Int×(List Int)))=>([(1,pt 1001),(4,.nils),(5,.mref 1024)]:EL)) (fun Z:(List (Int×(List Int)))=>([(1001,bd 39 (C8 a0)),(1024,some (.reg (mrow (eI .u8) 5 1 [8,32] Z none)))]:OL)) (fun Z h s t p => ?_) (fun cw al h => ?_)
      ·apply A0;refine ghost p ?_;apply seq;refine sr (SQ tt) ?_;apply block;obtain⟨am,bn,h⟩:=bindS h;refine lg (U7 a0) (fun C:Int×(List (Int×(List Int)))=>([(1,pt 1001),(4,.nils),(5,.mref 1024),(104,C9 a0.fCommunities),(105,i6 (a0.fCommunities.length:Int)),(106,i6 C.1)]:EL)) (fun C:Int×(List (Int×(List Int)))=>([(1001,bd 39 (C8 a0)),(1024,some (.reg (mrow (eI .u8) 5 1 [8,32] C.2 none)))]:OL)) (fun(am:(List (Int×(List Int)))) e s t=>e = .exit 4∧Mat B s t ([(1,pt 1001),(4,.nils),(5,.mref 1024)]:EL) ([(1001,bd 39 (C8 a0)),(1024,some (.reg (mrow (eI .u8) 5 1 [8,32] am none)))]:OL)) bn (mp [] _ _ hB) (fun C y h => ?_) (fun e s t hR => ?_)
       ·unfold U7 at h;refine sr (SQ tt) ?_;apply seq;apply AWp.cond rfl<;>intro an
        ·have h:=A5 an h;apply AWp.skip;apply A0;apply seq;apply block;obtain⟨ao,bp,h⟩:=bindS h;refine sr (SQ (fa bp tt)) ?_;obtain⟨N,bq,h⟩:=bindS h;obtain⟨br,h⟩:=B2 h;obtain⟨T,bs,h⟩:=bindS h;obtain⟨bu,h⟩:=B2 h;apply dr (c (mv hN (q 5)) rfl (c (mv hN (q 5)) rfl (cg (OpJ.mtakeM (m:=1112) (h:=(eI .u8)) (e2:=5) (sz2:=1) (own:=[8,32]) (eq:=keq3) (l:=C.2) (k:=8) hB (fun _ _=>rfl) tyU176 underlying3 tyZ76 (by decide) (by decide) (xs:=((mget keq3 C.2 8).getD [])) rfl (len:=((mget keq3 C.2 8).getD []).length) rfl (L rfl) (q 111) (ii 8)) rfl (c (fo 1013 0 [0] hN underlying132 0 tyS3 (q 13)) rfl (c (la hN 132 tyS3 (q 113)) rfl (cg (cf hB fnOk130 (M1 ao.fA 2 N bq) (L rfl) (OpdL.cons (q 114) (OpdL.cons (ii 2) OpdL.nil))) rfl (cg (apd hB underlying76 tyE5 1116 (eI .u8) ((mget keq3 C.2 8).getD []) N br (L rfl) (q 112) (q 115)) rfl (c (fo 1013 1 [1] hN underlying132 1 tyS3 (q 13)) rfl (c (la hN 132 tyS3 (q 117)) rfl (cg (cf hB fnOk130 (M1 ao.fB 2 T bs) (L rfl) (OpdL.cons (q 118) (OpdL.cons (ii 2) OpdL.nil))) rfl (cg (apd hB underlying76 tyE5 1120 (eI .u8) (((mget keq3 C.2 8).getD [])++N) T bu (L rfl) (q 116) (q 119)) rfl (cg (OpJ.mputR (h:=(eI .u8)) (e2:=5) (sz2:=1) (own:=[8,32]) (eq:=keq3) (l:=C.2) (k:=8) (xs:=((((mget keq3 C.2 8).getD [])++N)++T)) (fun _ _=>rfl) tyU176 underlying3 (by decide) (len:=((((mget keq3 C.2 8).getD [])++N)++T).length) rfl (q 110) (ii 8) (q 120)) rfl cn)))))))))))) (by kernel_rfl) (by kernel_rfl);apply D7;apply A0;refine rg (SQ tt) ?_;obtain rfl:=oi h;exact⟨rfl,mp [] _ _ hB⟩
        ·have h:=A6 an h;apply AWp.exit;apply D6;obtain rfl:=oi h;exact⟨nofun,rfl,mp [] _ _ hB⟩
       ·obtain⟨rfl,p⟩:=hR;apply B9;apply A0;refine ghost p ?_;apply seq;refine sr (SQ tt) ?_;apply block;obtain⟨aa,bv,h⟩:=bindS h;refine lg (U8 a0) (fun A:Int×(List (Int×(List Int)))=>([(1,pt 1001),(4,.nils),(5,.mref 1024),(123,E8 a0.fLarge),(124,i6 (a0.fLarge.length:Int)),(125,i6 A.1)]:EL)) (fun A:Int×(List (Int×(List Int)))=>([(1001,bd 39 (C8 a0)),(1024,some (.reg (mrow (eI .u8) 5 1 [8,32] A.2 none)))]:OL)) (fun(aa:(List (Int×(List Int)))) e s t=>e = .exit 6∧Mat B s t ([(1,pt 1001),(4,.nils),(5,.mref 1024)]:EL) ([(1001,bd 39 (C8 a0)),(1024,some (.reg (mrow (eI .u8) 5 1 [8,32] aa none)))]:OL)) bv (mp [] _ _ hB) (fun A y h => ?_) (fun e s t hR => ?_)
        ·unfold U8 at h;refine sr (SQ tt) ?_;apply seq;apply AWp.cond rfl<;>intro ap
         ·have h:=A5 ap h;apply AWp.skip;apply A0;apply seq;apply block;obtain⟨ab,bw,h⟩:=bindS h;refine sr (SQ (fa bw tt)) ?_;obtain⟨K,bx,h⟩:=bindS h;obtain⟨bz,h⟩:=B2 h;obtain⟨O,b0,h⟩:=bindS h;obtain⟨b1,h⟩:=B2 h;obtain⟨U,b2,h⟩:=bindS h;obtain⟨b3,h⟩:=B2 h;apply dr (c (mv hN (q 5)) rfl (c (mv hN (q 5)) rfl (cg (OpJ.mtakeM (m:=1131) (h:=(eI .u8)) (e2:=5) (sz2:=1) (own:=[8,32]) (eq:=keq3) (l:=A.2) (k:=32) hB (fun _ _=>rfl) tyU176 underlying3 tyZ76 (by decide) (by decide) (xs:=((mget keq3 A.2 32).getD [])) rfl (len:=((mget keq3 A.2 32).getD []).length) rfl (L rfl) (q 130) (ii 32)) rfl (c (fo 1015 0 [0] hN underlying134 0 tyS3 (q 15)) rfl (c (la hN 134 tyS3 (q 132)) rfl (cg (cf hB fnOk130 (M1 ab.fA 4 K bx) (L rfl) (OpdL.cons (q 133) (OpdL.cons (ii 4) OpdL.nil))) rfl (cg (apd hB underlying76 tyE5 1135 (eI .u8) ((mget keq3 A.2 32).getD []) K bz (L rfl) (q 131) (q 134)) rfl (c (fo 1015 1 [1] hN underlying134 1 tyS3 (q 15)) rfl (c (la hN 134 tyS3 (q 136)) rfl (cg (cf hB fnOk130 (M1 ab.fB 4 O b0) (L rfl) (OpdL.cons (q 137) (OpdL.cons (ii 4) OpdL.nil))) rfl (cg (apd hB underlying76 tyE5 1139 (eI .u8) (((mget keq3 A.2 32).getD [])++K) O b1 (L rfl) (q 135) (q 138)) rfl (c (fo 1015 2 [2] hN underlying134 2 tyS3 (q 15)) rfl (c (la hN 134 tyS3 (q 140)) rfl (cg (cf hB fnOk130 (M1 ab.fC 4 U b2) (L rfl) (OpdL.cons (q 141) (OpdL.cons (ii 4) OpdL.nil))) rfl (cg (apd hB underlying76 tyE5 1143 (eI .u8) ((((mget keq3 A.2 32).getD [])++K)++O) U b3 (L rfl) (q 139) (q 142)) rfl (cg (OpJ.mputR (h:=(eI .u8)) (e2:=5) (sz2:=1) (own:=[8,32]) (eq:=keq3) (l:=A.2) (k:=32) (xs:=(((((mget keq3 A.2 32).getD [])++K)++O)++U)) (fun _ _=>rfl) tyU176 underlying3 (by decide) (len:=(((((mget keq3 A.2 32).getD [])++K)++O)++U).length) rfl (q 129) (ii 32) (q 143)) rfl cn)))))))))))))))) (by kernel_rfl) (by kernel_rfl);apply D7;apply A0;refine rg (SQ tt) ?_;obtain rfl:=oi h;exact⟨rfl,mp [] _ _ hB⟩
         ·have h:=A6 ap h;apply AWp.exit;apply D6;obtain rfl:=oi h;exact⟨nofun,rfl,mp [] _ _ hB⟩
        ·obtain⟨rfl,p⟩:=hR;apply B9;apply A0;refine ghost p ?_;apply seq;refine sr (SQ tt) ?_;refine gh [(1,_),(4,_),(5,_),(147,_)] [(1001,some _),(1024,some _)] hB rfl rfl (by rfl) ?_;refine AWp.cut h (fun u:(List (Int×(List Int)))=>([(1,pt 1001),(4,.nils),(5,.mref 1024)]:EL)) (fun u:(List (Int×(List Int)))=>([(1001,bd 39 (C8 a0)),(1024,some (.reg (mrow (eI .u8) 5 1 [8,32] u none)))]:OL)) (fun u h s t p => ?_) (fun cx aq h => ?_)
         ·apply A0;refine ghost p ?_;apply seq;refine sr (SQ tt) ?_;apply block;obtain⟨H,b4,h⟩:=bindS h;refine lg (V0 a0 u) (fun i:Int×(List A3)=>([(1,pt 1001),(4,.sref 3004 3 0 i.2.length),(5,.mref 1024),(152,i6 i.1)]:EL)) (fun i:Int×(List A3)=>([(1001,bd 39 (C8 a0)),(1024,some (.blk (mapQ (mpairs (eI .i64) A97 u)))),(3004,some (E0 i.2))]:OL)) (fun(H:(List A3)) e s t=>e = .exit 8∧Mat B s t ([(4,.sref 3004 3 0 H.length)]:EL) ([(3004,some (E0 H))]:OL)) b4 (Mat.trans (Mat.freezeM (n:=1024) (h:=(eI .u8)) (e2:=5) (sz2:=1) (own:=[8,32]) (l:=u) (by rfl)) (Mat.trans (Mat.beginP (n:=3004) (e:=78) (sz:=3) (Ts:=[(4,.sref 3004 3 0 0)]) (Bs:=[]) hB (by decide) (by rfl) (by decide) (TwT.cons (x:=.nils) (by rfl) (Tw.leaf ⟨rfl,rfl⟩) TwT.nil) TwB.nil) (mp [] _ _ hB))) (fun i y h => ?_) (fun e s t hR => ?_)
          ·unfold V0 at h;refine sr (SQ tt) ?_;apply seq;apply AWp.cond rfl<;>intro ar
           ·have h:=A5 ar h;apply AWp.skip;apply A0;apply seq;apply block;refine sr (SQ tt) ?_;apply seq;apply sr (c (mv hN (q 5)) rfl (c (mv hN (q 16)) rfl (cg (OpJ.mlook2Q (g:=A97) (l:=u) (k:=i.1) tyU176 underlying3 keyEq3 (z:=([]:List Int)) tyZD76 (L rfl) (q 156) (q 157)) rfl (c (mv hN (q 158)) rfl (c (extract (by rfl) rfl (L rfl) (q 155)) rfl (c (extract (by rfl) rfl (L rfl) (q 155)) rfl (c (assign (L rfl) (q 159)) rfl (c (assign (L rfl) (q 160)) rfl cn))))))));refine sr (SQ tt) ?_;refine gh [(1,_),(4,_),(5,_),(16,_),(17,_),(152,_),(161,_)] [(1001,some _),(1024,some _),(3004,some _)] hB rfl rfl (by rfl) ?_;refine AWp.cut h (fun W:(List A3)=>([(1,pt 1001),(4,.sref 3004 3 0 W.length),(5,.mref 1024),(16,i6 i.1),(152,i6 i.1)]:EL)) (fun W:(List A3)=>([(1001,bd 39 (C8 a0)),(1024,some (.blk (mapQ (mpairs (eI .i64) A97 u)))),(3004,some (E0 W))]:OL)) (fun W h s t p => ?_) (fun cy au h => ?_)
            ·apply A0;refine ghost p ?_;refine sr (SQ tt) ?_;apply block;obtain⟨ac,b5,h⟩:=bindS h;refine lg (U9 a0 i) (fun I:Int×(List A3)=>([(1,pt 1001),(4,.sref 3004 3 0 I.2.length),(5,.mref 1024),(16,i6 i.1),(152,i6 i.1),(172,C6 a0.fOther),(173,i6 (a0.fOther.length:Int)),(174,i6 I.1)]:EL)) (fun I:Int×(List A3)=>([(1001,bd 39 (C8 a0)),(1024,some (.blk (mapQ (mpairs (eI .i64) A97 u)))),(3004,some (E0 I.2))]:OL)) (fun(ac:(List A3)) e s t=>e = .exit 10∧Mat B s t ([(1,pt 1001),(4,.sref 3004 3 0 ac.length),(5,.mref 1024),(152,i6 i.1)]:EL) ([(1001,bd 39 (C8 a0)),(1024,some (.blk (mapQ (mpairs (eI .i64) A97 u)))),(3004,some (E0 ac))]:OL)) b5 (mp [] _ _ hB) (fun I y h => ?_) (fun e s t hR => ?_)
             ·unfold U9 at h;refine sr (SQ tt) ?_;apply seq;apply AWp.cond rfl<;>intro av
              ·have h:=A5 av h;apply AWp.skip;apply A0;apply seq;apply block;obtain⟨E,b6,h⟩:=bindS h;refine sr (SQ (fa b6 tt)) ?_;refine sr (SQ tt) ?_;refine gh [(1,_),(4,_),(5,_),(16,_),(20,_),(152,_),(172,_),(173,_),(174,_),(181,_)] [(1001,some _),(1020,some _),(1024,some _),(3004,some _)] hB rfl rfl (by rfl) ?_;refine AWp.cut h (fun X:(List A3)=>([(1,pt 1001),(4,.sref 3004 3 0 X.length),(5,.mref 1024),(16,i6 i.1),(152,i6 i.1),(172,C6 a0.fOther),(173,i6 (a0.fOther.length:Int)),(174,i6 I.1)]:EL)) (fun X:(List A3)=>([(1001,bd 39 (C8 a0)),(1024,some (.blk (mapQ (mpairs (eI .i64) A97 u)))),(3004,some (E0 X))]:OL)) (fun X h s t p => ?_) (fun cz aw h => ?_)
               ·apply D7;apply A0;refine ghost p ?_;refine rg (SQ tt) ?_;obtain rfl:=oi h;exact⟨rfl,mp [] _ _ hB⟩
               ·apply AWp.cond rfl<;>intro ax
                ·have h:=A5 ax h;obtain⟨ay,h⟩:=B2 h;obtain⟨b7,h⟩:=B2 h;apply dr (c (mv hN (q 4)) rfl (c (fo 1020 0 [0] hN underlying78 0 tyS3 (q 20)) rfl (c (la hN 78 tyS3 (q 183)) rfl (c (mv hN (q 16)) rfl (c (fo 1020 2 [2] hN underlying78 2 tyS76 (q 20)) rfl (c (la hN 78 tyS76 (q 186)) rfl (cg (OpJ.frz (OpJ.appendN hB underlying76 tyE5 (nm:=1188) (by decide) (ys:=E.fData.map (eI .u8)) (len:=E.fData.length) (by simp) (A5t (f:=(eI .u8)) (fun _=>rfl)) (by rw [List.length_map];exact A0i ay (by decide)) (by rw [List.length_map];exact A3g ay) (L rfl) Opd.nils (q 187)) (by simp)) rfl (c (OpJ.coe (v:=(.st [i6 E.fFlags,i6 i.1,.d (.list 1 (E.fData.map (eI .u8)))])) (y:=(.st [.int .i64 E.fFlags,.int .i64 i.1,.list 1 (E.fData.map (eI .u8))])) (Co.st (CoL.cons (Co.d _) (CoL.cons (Co.d _) (CoL.cons (Co.d _) CoL.nil)))) rfl (OpJ.build (places:=[(0,1),(1,1),(2,1)]) ⟨underlying78,fun w=>by kernel_rfl⟩ tyZS78 (Opds.cons (q 184) (Opds.cons (q 185) (Opds.cons (q 188) Opds.nil))) (by kernel_rfl) (r:=(.st [i6 E.fFlags,i6 i.1,.d (.list 1 (E.fData.map (eI .u8)))])) (by rfl) (L rfl))) rfl (c (buildSlice underlying37 tyS78 tyZD78 (by rfl) (by decide) (by decide) (Opds.cons (q 189) Opds.nil) (by kernel_rfl) (es:=([.st [.int .i64 E.fFlags,.int .i64 i.1,.list 1 (E.fData.map (eI .u8))]]:List D)) (by rfl) (by rfl) (by kernel_rfl) (by simp) (L rfl)) rfl (cg (apd hB underlying37 tyE78 1191 B6 I.2 [A3.mk E.fFlags i.1 E.fData] b7 (L rfl) (q 182) (q 190)) rfl (c (assign (L rfl) (q 191)) rfl cn))))))))))) (by kernel_rfl) (by kernel_rfl);exact aw _ h _ _ (mp [(3004,1191)] _ _ hB)
                ·have h:=A6 ax h;apply AWp.skip;exact aw _ h _ _ (mp [] _ _ hB)
              ·have h:=A6 av h;apply AWp.exit;apply D6;obtain rfl:=oi h;exact⟨nofun,rfl,mp [] _ _ hB⟩
             ·obtain⟨rfl,p⟩:=hR;apply B9;apply D7;apply A0;refine ghost p ?_;refine rg (SQ tt) ?_;obtain rfl:=oi h;exact⟨rfl,mp [] _ _ hB⟩
            ·apply AWp.cond rfl<;>intro az
             ·have h:=A5 az h;obtain⟨M,b8,h⟩:=bindS h;obtain⟨a5,h⟩:=B2 h;obtain⟨b9,h⟩:=B2 h;apply rg (c (mv hN (q 4)) rfl (c (mv hN (q 16)) rfl (cg (cf hB fnOk125 (A7x i.1 M b8) (L rfl) (OpdL.cons (q 163) OpdL.nil)) rfl (c (mv hN (q 16)) rfl (c (mv hN (q 17)) rfl (cg (OpJ.frz (OpJ.appendN hB underlying76 tyE5 (nm:=1167) (by decide) (ys:=((mget keq3 u i.1).getD ([]:List Int)).map (eI .u8)) (len:=((mget keq3 u i.1).getD ([]:List Int)).length) (by simp) (A5t (f:=(eI .u8)) (fun _=>rfl)) (by rw [List.length_map];exact A0i a5 (by decide)) (by rw [List.length_map];exact A3g a5) (L rfl) Opd.nils (q 166)) (by simp)) rfl (c (OpJ.coe (v:=(.st [i6 M,i6 i.1,.d (.list 1 (((mget keq3 u i.1).getD ([]:List Int)).map (eI .u8)))])) (y:=(.st [.int .i64 M,.int .i64 i.1,.list 1 (((mget keq3 u i.1).getD ([]:List Int)).map (eI .u8))])) (Co.st (CoL.cons (Co.d _) (CoL.cons (Co.d _) (CoL.cons (Co.d _) CoL.nil)))) rfl (OpJ.build (places:=[(0,1),(1,1),(2,1)]) ⟨underlying78,fun w=>by kernel_rfl⟩ tyZS78 (Opds.cons (q 164) (Opds.cons (q 165) (Opds.cons (q 167) Opds.nil))) (by kernel_rfl) (r:=(.st [i6 M,i6 i.1,.d (.list 1 (((mget keq3 u i.1).getD ([]:List Int)).map (eI .u8)))])) (by rfl) (L rfl))) rfl (c (buildSlice underlying37 tyS78 tyZD78 (by rfl) (by decide) (by decide) (Opds.cons (q 168) Opds.nil) (by kernel_rfl) (es:=([.st [.int .i64 M,.int .i64 i.1,.list 1 (((mget keq3 u i.1).getD ([]:List Int)).map (eI .u8))]]:List D)) (by rfl) (by rfl) (by kernel_rfl) (by simp) (L rfl)) rfl (cg (apd hB underlying37 tyE78 1170 B6 i.2 ([A3.mk M i.1 ((mget keq3 u i.1).getD ([]:List Int))]:List A3) b9 (L rfl) (q 162) (q 169)) rfl (c (assign (L rfl) (q 170)) rfl cn))))))))));exact au _ h _ _ (mp [(3004,1170)] _ _ hB)
             ·have h:=A6 az h;apply AWp.skip;exact au _ h _ _ (mp [] _ _ hB)
           ·have h:=A6 ar h;apply AWp.exit;apply D6;obtain rfl:=oi h;exact⟨nofun,rfl,mp [] _ _ hB⟩
          ·obtain⟨rfl,p⟩:=hR;apply B9;apply A0;refine ghost p ?_;refine sr (SQ tt) ?_;apply ret;obtain rfl:=oi h;exact rt (Mat.trans (Mat.freezeP (n:=3004) (e:=78) (sz:=3) (es:=H.map B6) (Ts:=[(2,C6 H)]) (Bs:=[]) (by rfl) (TwT.cons (x:=(.sref 3004 3 0 H.length)) (by rfl) (FrzL.all (by first | rfl | (simp;done) | (simp;omega) | omega)) TwT.nil) TwB.nil) (mp [] [(2,C6 H),(3,i6 0)] [] hB)) [C6 H,i6 0] (rT (rT rN)) rfl
         ·apply AWp.cond rfl<;>intro a6
          ·have h:=A5 a6 h;obtain⟨a7,ca,h⟩:=bindS h;apply rg (c (mv hN (q 5)) rfl (c (fo 1001 7 [5] hN underlying39 7 tyS3 (q 1)) rfl (c (la hN 39 tyS3 (q 149)) rfl (cg (cf hB fnOk130 (M1 a0.fOTC 4 a7 ca) (L rfl) (OpdL.cons (q 150) (OpdL.cons (ii 4) OpdL.nil))) rfl (cg (OpJ.mputM (h:=(eI .u8)) (e2:=5) (sz2:=1) (own:=[8,32]) (eq:=keq3) (l:=aa) (k:=35) (xs:=a7) (fun _ _=>rfl) tyU176 underlying3 (by decide) (q 148) (ii 35) (q 151)) rfl cn)))));exact aq _ h _ _ (mp [] _ _ hB)
          ·have h:=A6 a6 h;apply AWp.skip;exact aq _ h _ _ (mp [] _ _ hB)
      ·apply AWp.cond rfl<;>intro a8
       ·have h:=A5 a8 h;obtain⟨a9,cb,h⟩:=bindS h;apply rg (c (mv hN (q 5)) rfl (c (fo 1001 6 [4] hN underlying39 6 tyS3 (q 1)) rfl (c (la hN 39 tyS3 (q 100)) rfl (cg (cf hB fnOk130 (M1 a0.fPref 4 a9 cb) (L rfl) (OpdL.cons (q 101) (OpdL.cons (ii 4) OpdL.nil))) rfl (cg (OpJ.mputM (h:=(eI .u8)) (e2:=5) (sz2:=1) (own:=[8,32]) (eq:=keq3) (l:=S) (k:=5) (xs:=a9) (fun _ _=>rfl) tyU176 underlying3 (by decide) (q 99) (ii 5) (q 102)) rfl cn)))));exact al _ h _ _ (mp [] _ _ hB)
       ·have h:=A6 a8 h;apply AWp.skip;exact al _ h _ _ (mp [] _ _ hB)
     ·apply AWp.cond rfl<;>intro ba
      ·have h:=A5 ba h;obtain⟨bb,cc,h⟩:=bindS h;apply rg (c (mv hN (q 5)) rfl (c (fo 1001 5 [3] hN underlying39 5 tyS3 (q 1)) rfl (c (la hN 39 tyS3 (q 93)) rfl (cg (cf hB fnOk130 (M1 a0.fMED 4 bb cc) (L rfl) (OpdL.cons (q 94) (OpdL.cons (ii 4) OpdL.nil))) rfl (cg (OpJ.mputM (h:=(eI .u8)) (e2:=5) (sz2:=1) (own:=[8,32]) (eq:=keq3) (l:=R) (k:=4) (xs:=bb) (fun _ _=>rfl) tyU176 underlying3 (by decide) (q 92) (ii 4) (q 95)) rfl cn)))));exact ak _ h _ _ (mp [] _ _ hB)
      ·have h:=A6 ba h;apply AWp.skip;exact ak _ h _ _ (mp [] _ _ hB)
    ·apply AWp.cond rfl<;>intro bc
     ·have h:=A5 bc h;obtain⟨be,cd,h⟩:=bindS h;apply rg (c (mv hN (q 5)) rfl (c (fo 1001 2 [2] hN underlying39 2 tyS31 (q 1)) rfl (c (la hN 39 tyS31 (q 86)) rfl (cg (cf hB fnOk96 (A5b a0.fNext be cd) (L rfl) (OpdL.cons (q 87) OpdL.nil)) rfl (cg (OpJ.mputM (h:=(eI .u8)) (e2:=5) (sz2:=1) (own:=[8,32]) (eq:=keq3) (l:=Q) (k:=3) (xs:=be) (fun _ _=>rfl) tyU176 underlying3 (by decide) (q 85) (ii 3) (q 88)) rfl cn)))));exact aj _ h _ _ (mp [] _ _ hB)
     ·have h:=A6 bc h;apply AWp.skip;exact aj _ h _ _ (mp [] _ _ hB)
   ·apply AWp.cond rfl<;>intro bf
    ·have h:=A5 bf h;apply sr (cg (OpJ.buildSliceR underlying76 tyS5 tyZD5 (by rfl) (by decide) (by decide) hB (nm:=1042) (by decide) (len:=([]:List Int).length) (by rfl) Opds.nil (by kernel_rfl) (es:=([]:List Int).map (eI .u8)) (by rfl) (by rfl) (by kernel_rfl) (by simp) (L rfl)) rfl (c (assign (L rfl) (q 42)) rfl cn));apply seq;refine sr (SQ tt) ?_;apply block;obtain⟨J,ce,h⟩:=bindS h;refine lg (V1 a0) (fun F:Int×(List Int)=>([(1,pt 1001),(4,.nils),(5,.mref 1024),(6,.sref 3006 1 0 F.2.length),(44,D0 a0.fPath),(45,i6 (a0.fPath.length:Int)),(46,i6 F.1)]:EL)) (fun F:Int×(List Int)=>([(1001,bd 39 (C8 a0)),(1024,some (.reg (mrow (eI .u8) 5 1 [8,32] G none))),(3006,some (.row 5 1 (F.2.map (eI .u8))))]:OL)) (fun(J:(List Int)) e s t=>e = .exit 0∧Mat B s t ([(1,pt 1001),(4,.nils),(5,.mref 1024),(6,.sref 3006 1 0 J.length)]:EL) ([(1001,bd 39 (C8 a0)),(1024,some (.reg (mrow (eI .u8) 5 1 [8,32] G none))),(3006,some (.row 5 1 (J.map (eI .u8))))]:OL)) ce (mp [(3006,1042)] _ _ hB) (fun F y h => ?_) (fun e s t hR => ?_)
     ·unfold V1 at h;refine sr (SQ tt) ?_;apply seq;apply AWp.cond rfl<;>intro bg
      ·have h:=A5 bg h;apply AWp.skip;apply A0;apply seq;apply block;obtain⟨Y,ch,h⟩:=bindS h;refine sr (SQ (fa ch tt)) ?_;refine sr (SQ tt) ?_;apply seq;refine sr (SQ tt) ?_;refine gh [(1,_),(4,_),(5,_),(6,_),(8,_),(9,_),(44,_),(45,_),(46,_),(51,_)] [(1001,some _),(1008,some _),(1024,some _),(3006,some _)] hB rfl rfl (by rfl) ?_;refine AWp.cut h (fun ae:Int=>([(1,pt 1001),(4,.nils),(5,.mref 1024),(6,.sref 3006 1 0 F.2.length),(8,pt 1008),(9,.d (.int .u8 ae)),(44,D0 a0.fPath),(45,i6 (a0.fPath.length:Int)),(46,i6 F.1)]:EL)) (fun ae:Int=>([(1001,bd 39 (C8 a0)),(1008,bd 75 (D2 Y)),(1024,some (.reg (mrow (eI .u8) 5 1 [8,32] G none))),(3006,some (.row 5 1 (F.2.map (eI .u8))))]:OL)) (fun ae h s t p => ?_) (fun c0 bh h => ?_)
       ·apply A0;refine ghost p ?_;obtain⟨ci,h⟩:=B2 h;refine sr (SQ (fa ci tt)) ?_;refine sr (SQ tt) ?_;apply block;obtain⟨af,cj,h⟩:=bindS h;refine lg (A0r Y) (fun P:Int×(List Int)=>([(1,pt 1001),(4,.nils),(5,.mref 1024),(6,.sref 3006 1 0 P.2.length),(44,D0 a0.fPath),(45,i6 (a0.fPath.length:Int)),(46,i6 F.1),(61,qI_1 Y.fASNs),(62,i6 (Y.fASNs.length:Int)),(63,i6 P.1)]:EL)) (fun P:Int×(List Int)=>([(1001,bd 39 (C8 a0)),(1024,some (.reg (mrow (eI .u8) 5 1 [8,32] G none))),(3006,some (.row 5 1 (P.2.map (eI .u8))))]:OL)) (fun(af:(List Int)) e s t=>e = .exit 2∧Mat B s t ([(1,pt 1001),(4,.nils),(5,.mref 1024),(6,.sref 3006 1 0 af.length),(44,D0 a0.fPath),(45,i6 (a0.fPath.length:Int)),(46,i6 F.1)]:EL) ([(1001,bd 39 (C8 a0)),(1024,some (.reg (mrow (eI .u8) 5 1 [8,32] G none))),(3006,some (.row 5 1 (af.map (eI .u8))))]:OL)) cj (mp [(3006,1059)] _ _ hB) (fun P y h => ?_) (fun e s t hR => ?_)
        ·unfold A0r at h;refine sr (SQ tt) ?_;apply seq;apply AWp.cond rfl<;>intro bi
         ·have h:=A5 bi h;apply AWp.skip;apply A0;apply seq;apply block;obtain⟨ck,cm,h⟩:=bindS h;refine sr (SQ (fa cm tt)) ?_;obtain⟨cp,cq,h⟩:=bindS h;obtain⟨cr,h⟩:=B2 h;refine rg (SQ (fa (cl [] (M1 ck 4 cp cq)) (fa cr tt))) ?_;apply D7;apply A0;refine rg (SQ tt) ?_;obtain rfl:=oi h;exact⟨rfl,mp [(3006,1070)] _ _ hB⟩
         ·have h:=A6 bi h;apply AWp.exit;apply D6;obtain rfl:=oi h;exact⟨nofun,rfl,mp [] _ _ hB⟩
        ·obtain⟨rfl,p⟩:=hR;apply B9;apply D7;apply A0;refine ghost p ?_;refine rg (SQ tt) ?_;obtain rfl:=oi h;exact⟨rfl,mp [] _ _ hB⟩
       ·apply AWp.cond rfl<;>intro bj
        ·have h:=A5 bj h;refine rg (SQ tt) ?_;exact bh _ h _ _ (mp [] _ _ hB)
        ·have h:=A6 bj h;apply AWp.skip;exact bh _ h _ _ (mp [] _ _ hB)
      ·have h:=A6 bg h;apply AWp.exit;apply D6;obtain rfl:=oi h;exact⟨nofun,rfl,mp [] _ _ hB⟩
     ·obtain⟨rfl,p⟩:=hR;apply B9;apply A0;refine ghost p ?_;refine ghost (Mat.freezeP (n:=3006) (e:=5) (sz:=1) (es:=J.map (eI .u8)) (Ts:=[(6,.d (.list 1 (J.map (eI .u8))))]) (Bs:=[]) (by rfl) (TwT.cons (x:=(.sref 3006 1 0 J.length)) (by rfl) (FrzL.all (by first | rfl | (simp;done) | (simp;omega) | omega)) TwT.nil) TwB.nil) ?_
      apply rg (c (mv hN (q 5)) rfl (c (mv hN (q 6)) rfl (cg (OpJ.mputM (h:=(eI .u8)) (e2:=5) (sz2:=1) (own:=[8,32]) (eq:=keq3) (l:=G) (k:=2) (xs:=J) (fun _ _=>rfl) tyU176 underlying3 (by decide) (q 73) (ii 2) (q 74)) rfl cn)));exact ai _ h _ _ (mp [] _ _ hB)
    ·have h:=A6 bf h;apply AWp.skip;exact ai _ h _ _ (mp [] _ _ hB)
  ·apply AWp.cond rfl<;>intro bk
   ·have h:=A5 bk h;apply rg (c (mv hN (q 5)) rfl (c (fo 1001 0 [0] hN underlying39 0 tyS3 (q 1)) rfl (c (la hN 39 tyS3 (q 29)) rfl (c (OpJ.conv underlying3 underlying5 (L rfl) (q 30)) rfl (c (buildSlice underlying76 tyS5 tyZD5 (by rfl) (by decide) (by decide) (Opds.cons (q 31) Opds.nil) (by kernel_rfl) (es:=([.int .u8 (IntKind.u8.wrap a0.fOrigin)]:List D)) (by rfl) (by rfl) (by kernel_rfl) (by simp) (L rfl)) rfl (cg (OpJ.mputM (h:=(eI .u8)) (e2:=5) (sz2:=1) (own:=[8,32]) (eq:=keq3) (l:=([]:List (Int×(List Int)))) (k:=1) (xs:=([IntKind.u8.wrap a0.fOrigin]:List Int)) (fun _ _=>rfl) tyU176 underlying3 (by decide) (q 28) (ii 1) (q 32)) rfl cn))))));exact ah _ h _ _ (mp [] _ _ hB)
   ·have h:=A6 bk h;apply AWp.skip;exact ah _ h _ _ (mp [] _ _ hB)
def A0s (a0:(List A2)) (a1:Bool) (p:Int×(List Int)):Option (List Int⊕(Int×(List Int))):=
 (if (decide (p.1<(a0.length:Int)))=true then
 (idx a0 p.1).bind fun i=>
 jn (fun u:(List Int)=>
 some (.inr (w64 (p.1+1),u))) (fun t=>
 (if (i.fAddr.fV6==a1)=true then
 chk (decide ((p.2++([IntKind.u8.wrap i.fLen]:List Int)).length≤LIM))<|
 (Q0 i.fAddr).bind fun s=>
 chk (decide (0≤(w64 (Int.tdiv (w64 (i.fLen+7)) 8)))&&decide (0≤(w64 (Int.tdiv (w64 (i.fLen+7)) 8)).toNat)&&decide ((w64 (Int.tdiv (w64 (i.fLen+7)) 8)).toNat≤s.length))<|
 chk (decide (((p.2++([IntKind.u8.wrap i.fLen]:List Int))++((s.take ((w64 (Int.tdiv (w64 (i.fLen+7)) 8)).toNat)).drop 0)).length≤LIM))<|
 t ((p.2++([IntKind.u8.wrap i.fLen]:List Int))++((s.take ((w64 (Int.tdiv (w64 (i.fLen+7)) 8)).toNat)).drop 0))
 else
 t p.2))
 else
 some (.inl p.2))
def J9 (a0:(List A2)) (a1:Bool):Option (List Int):=
 (loop (A0s a0 a1) (0,([]:List Int))).bind fun i=>
 some i
theorem A2o (a0:(List A2)) (a1:Bool) (r:(List Int)) (h:J9 a0 a1=some r):AC Tryz.prog 94 [.d (.list 4 (a0.map B0)),.d (.bool a1)] [] (.d (.list 1 (r.map (eI .u8)))) []:=by
 refine ac2 Tryz.func94 rfl rfl fun B hB hN L => ?_;delta J9 at h;refine sr (SQ tt) ?_;refine sr (SQ tt) ?_;apply seq;refine sr (SQ tt) ?_;apply block;obtain⟨i,G,h⟩:=bindS h;refine lg (A0s a0 a1) (fun p:Int×(List Int)=>([(1,bo a1),(5,.sref 3005 1 0 p.2.length),(8,F8 a0),(9,i6 (a0.length:Int)),(10,i6 p.1)]:EL)) (fun p:Int×(List Int)=>([(3005,some (.row 5 1 (p.2.map (eI .u8))))]:OL)) (fun(i:(List Int)) e t u=>e = .exit 0∧Mat B t u ([(5,.sref 3005 1 0 i.length)]:EL) ([(3005,some (.row 5 1 (i.map (eI .u8))))]:OL)) G (Mat.trans (Mat.beginP (n:=3005) (e:=5) (sz:=1) (Ts:=[(5,.sref 3005 1 0 0)]) (Bs:=[]) hB (by decide) (by rfl) (by decide) (TwT.cons (x:=.nils) (by rfl) (Tw.leaf ⟨rfl,rfl⟩) TwT.nil) TwB.nil) (mp [] _ _ hB)) (fun p y h => ?_) (fun e t u hR => ?_)
 ·unfold A0s at h;refine sr (SQ tt) ?_;apply seq;apply AWp.cond rfl<;>intro C
  ·have h:=A5 C h;apply AWp.skip;apply A0;apply seq;apply block;obtain⟨H,I,h⟩:=bindS h;refine sr (SQ (fa I tt)) ?_;refine sr (SQ tt) ?_;refine gh [(1,_),(5,_),(7,_),(8,_),(9,_),(10,_),(18,_)] [(1007,some _),(3005,some _)] hB rfl rfl (by rfl) ?_;refine AWp.cut h (fun s:(List Int)=>([(1,bo a1),(5,.sref 3005 1 0 s.length),(8,F8 a0),(9,i6 (a0.length:Int)),(10,i6 p.1)]:EL)) (fun s:(List Int)=>([(3005,some (.row 5 1 (s.map (eI .u8))))]:OL)) (fun s h t u A => ?_) (fun P E h => ?_)
   ·apply D7;apply A0;refine ghost A ?_;refine rg (SQ tt) ?_;obtain rfl:=oi h;exact⟨rfl,mp [] _ _ hB⟩
   ·apply AWp.cond rfl<;>intro F
    ·have h:=A5 F h;obtain⟨J,h⟩:=B2 h;obtain⟨K,M,h⟩:=bindS h;obtain⟨N,h⟩:=B2 h;obtain⟨O,h⟩:=B2 h;refine drS (SQ (fa J (fa (cl [] (A5b H.fAddr K M)) (fa N (fa O tt))))) ?_;exact E _ h _ _ (mp [(3005,1033)] _ _ hB)
    ·have h:=A6 F h;apply AWp.skip;exact E _ h _ _ (mp [] _ _ hB)
  ·have h:=A6 C h;apply AWp.exit;apply D6;obtain rfl:=oi h;exact⟨nofun,rfl,mp [] _ _ hB⟩
 ·obtain⟨rfl,A⟩:=hR;apply B9;apply A0;refine ghost A ?_;refine sr (SQ tt) ?_;apply ret;obtain rfl:=oi h;exact rt (Mat.trans (Mat.freezeP (n:=3005) (e:=5) (sz:=1) (es:=i.map (eI .u8)) (Ts:=[(4,.d (.list 1 (i.map (eI .u8))))]) (Bs:=[]) (by rfl) (TwT.cons (x:=(.sref 3005 1 0 i.length)) (by rfl) (FrzL.all (by first | rfl | (simp;done) | (simp;omega) | omega)) TwT.nil) TwB.nil) (mp [] [(4,.d (.list 1 (i.map (eI .u8))))] [] hB)) [.d (.list 1 (i.map (eI .u8)))] (rT rN) rfl
def A4o (a0:(List A3)) (a1:A3) (i:Int):Option (Int⊕Int):=
 jn (fun s:Bool=>
 (if s=true then
 some (.inr (w64 (i+1)))
 else
 some (.inl i))) (fun p=>
 (if (decide (i<(a0.length:Int)))=true then
 (idx a0 i).bind fun t=>
 p (decide (t.fType<a1.fType))
 else
 p false))
def A4h (a0:(List A3)) (a1:A3):Option (List A3):=
 (loop (A4o a0 a1) 0).bind fun i=>
 chk (decide (0≤i)&&decide (0≤i.toNat)&&decide (i.toNat≤a0.length))<|
 chk (decide (((a0.take i.toNat).drop 0).length≤LIM))<|
 chk (decide ((((a0.take i.toNat).drop 0)++[a1]).length≤LIM))<|
 chk (decide (0≤i)&&decide (i.toNat≤a0.length)&&decide (a0.length≤a0.length))<|
 chk (decide (((((a0.take i.toNat).drop 0)++[a1])++((a0.take a0.length).drop i.toNat)).length≤LIM))<|
 some ((((a0.take i.toNat).drop 0)++[a1])++((a0.take a0.length).drop i.toNat))
theorem A9j (a0:(List A3)) (a1:A3) (r:(List A3)) (h:A4h a0 a1=some r):AC Tryz.prog 95 [.d (.list 3 (a0.map B6)),.d (B6 a1)] [] (.d (.list 3 (r.map B6))) []:=by
 refine ac2 Tryz.func95 rfl rfl fun B hB hN L => ?_;delta A4h at h;refine sr (SQ tt) ?_;refine sr (SQ tt) ?_;apply seq;apply block;obtain⟨i,G,h⟩:=bindS h;refine lg (A4o a0 a1) (fun p:Int=>([(0,C6 a0),(3,pt 1003),(5,i6 p)]:EL)) (fun p:Int=>([(1003,bd 78 (B6 a1))]:OL)) (fun(i:(Int)) e t u=>e = .exit 0∧Mat B t u ([(0,C6 a0),(3,pt 1003),(5,i6 i)]:EL) ([(1003,bd 78 (B6 a1))]:OL)) G (mp [] _ _ hB) (fun p y h => ?_) (fun e t u hR => ?_)
 ·unfold A4o at h;apply seq;apply seq;refine AWp.cut h (fun A:Bool=>([(0,C6 a0),(3,pt 1003),(5,i6 p),(19,bo A)]:EL)) (fun A:Bool=>([(1003,bd 78 (B6 a1))]:OL)) (fun A h t u C => ?_) (fun O E h => ?_)
  ·apply A0;refine ghost C ?_;apply AWp.cond rfl<;>intro F
   ·have h:=A5 F h;apply AWp.skip;apply A0;apply block;refine rg (SQ tt) ?_;apply D7;obtain rfl:=oi h;exact⟨rfl,mp [] _ _ hB⟩
   ·have h:=A6 F h;apply AWp.exit;apply D6;obtain rfl:=oi h;exact⟨nofun,rfl,mp [] _ _ hB⟩
  ·rcases bft (decide (p<(a0.length:Int))) with s | s
   ·have h:=A5 s h;obtain⟨_,H,h⟩:=bindS h;refine drS (SQ (fa s (fa H tt))) ?_;exact E _ h _ _ (mp [] _ _ hB)
   ·have h:=A6 s h;refine drS (SQ (fa s tt)) ?_;exact E _ h _ _ (mp [] _ _ hB)
 ·obtain⟨rfl,C⟩:=hR;apply B9;apply A0;refine ghost C ?_;obtain⟨I,h⟩:=B2 h;obtain⟨J,h⟩:=B2 h;obtain⟨K,h⟩:=B2 h;obtain⟨M,h⟩:=B2 h;obtain⟨N,h⟩:=B2 h;refine sdS (SQ (fa I (fa J (fa K (fa M (fa N tt)))))) ?_;apply ret;obtain rfl:=oi h;exact rt (Mat.trans (Mat.freezeP (n:=1032) (e:=78) (sz:=3) (es:=((((a0.take i.toNat).drop 0)++[a1])++((a0.take a0.length).drop i.toNat)).map B6) (Ts:=[(4,C6 ((((a0.take i.toNat).drop 0)++[a1])++((a0.take a0.length).drop i.toNat)))]) (Bs:=[]) (by rfl) (TwT.cons (x:=(.sref 1032 3 0 (((((a0.take i.toNat).drop 0)++[a1])++((a0.take a0.length).drop i.toNat)).length))) (by rfl) (FrzL.all (by first | rfl | (simp;done) | (simp;omega) | omega)) TwT.nil) TwB.nil) (mp [] [(4,C6 ((((a0.take i.toNat).drop 0)++[a1])++((a0.take a0.length).drop i.toNat)))] [] hB)) [C6 ((((a0.take i.toNat).drop 0)++[a1])++((a0.take a0.length).drop i.toNat))] (rT rN) rfl
def A1l (a0:(List A3)) (p:Int):Option ((Unit⊕Unit)⊕Int):=
 (if (decide (p<(a0.length:Int)))=true then
 (idx a0 p).bind fun i=>
 (if (((((decide (i.fFlags<0)) || (decide (255<i.fFlags))) || (decide (i.fType<0))) || (decide (255<i.fType))) || (decide (65535<(i.fData.length:Int))))=true then
 some (.inl (.inl ()))
 else
 some (.inr (w64 (p+1))))
 else
 some (.inl (.inr ())))
def A1m (a0:(List A3)) (p:Int×(List Int)):Option (List Int⊕(Int×(List Int))):=
 (if (decide (p.1<(a0.length:Int)))=true then
 (idx a0 p.1).bind fun i=>
 jn (fun s:(List Int)=>
 chk (decide ((s++i.fData).length≤LIM))<|
 some (.inr (w64 (p.1+1),(s++i.fData)))) (fun t=>
 (if (decide (255<(i.fData.length:Int)))=true then
 chk (decide ((p.2++([bitI .or .u8 (bitI .and .u8 (IntKind.u8.wrap i.fFlags) 224) 16,IntKind.u8.wrap i.fType,IntKind.u8.wrap (shrI .i64 (i.fData.length:Int) 8),IntKind.u8.wrap (i.fData.length:Int)]:List Int)).length≤LIM))<|
 t (p.2++([bitI .or .u8 (bitI .and .u8 (IntKind.u8.wrap i.fFlags) 224) 16,IntKind.u8.wrap i.fType,IntKind.u8.wrap (shrI .i64 (i.fData.length:Int) 8),IntKind.u8.wrap (i.fData.length:Int)]:List Int))
 else
 chk (decide ((p.2++([bitI .and .u8 (IntKind.u8.wrap i.fFlags) 224,IntKind.u8.wrap i.fType,IntKind.u8.wrap (i.fData.length:Int)]:List Int)).length≤LIM))<|
 t (p.2++([bitI .and .u8 (IntKind.u8.wrap i.fFlags) 224,IntKind.u8.wrap i.fType,IntKind.u8.wrap (i.fData.length:Int)]:List Int))))
 else
 some (.inl p.2))
def A3b (a0:(List A3)):Option ((List Int)×Int):=
 (loop (A1l a0) 0).bind fun p=>match p with
 | (.inl _)=>
  some (([]:List Int),1)
 | (.inr _)=>
  (loop (A1m a0) (0,([]:List Int))).bind fun i=>
  (if (decide (2048<(i.length:Int)))=true then
  some (([]:List Int),3)
  else
  some (i,0))
theorem B3a (a0:(List A3)) (r:(List Int)×Int) (h:A3b a0=some r):AC Tryz.prog 97 [.d (.list 3 (a0.map B6))] [] (.tup [.d (.list 1 (r.1.map (eI .u8))),.d (.int .i64 r.2)]) []:=by
 refine ac2 Tryz.func97 rfl rfl fun B hB hN L => ?_;delta A3b at h;refine sr (SQ tt) ?_;apply seq;refine sr (SQ tt) ?_;apply block;obtain⟨K,M,h⟩:=bindS h;refine lg (A1l a0) (fun C:Int=>([(0,C6 a0),(10,C6 a0),(11,i6 (a0.length:Int)),(12,i6 C)]:EL)) (fun C:Int=>([]:OL)) (fun(x:(Unit)⊕Unit) e p s=>match x with | (.inl _p)=>e = .ret∧Mat B p s ([(2,.nils),(3,i6 1)]:EL) ([]:OL) | (.inr _p)=>e = .exit 0∧Mat B p s ([(0,C6 a0)]:EL) ([]:OL)) M (mp [] _ _ hB) (fun C y h => ?_) (fun e p s hR => ?_)
 ·unfold A1l at h;refine sr (SQ tt) ?_;apply seq;apply AWp.cond rfl<;>intro E
  ·have h:=A5 E h;apply AWp.skip;apply A0;apply seq;apply block;obtain⟨_,N,h⟩:=bindS h;refine sr (SQ (fa N tt)) ?_;refine sr (SQ tt) ?_;apply AWp.cond rfl<;>intro F
   ·have h:=A5 F h;refine sr (SQ tt) ?_;apply ret;apply D8;apply B8;obtain rfl:=oi h;exact⟨nofun,rfl,mp [] _ _ hB⟩
   ·have h:=A6 F h;apply AWp.skip;apply D7;apply A0;refine rg (SQ tt) ?_;obtain rfl:=oi h;exact⟨rfl,mp [] _ _ hB⟩
  ·have h:=A6 E h;apply AWp.exit;apply D6;obtain rfl:=oi h;exact⟨nofun,rfl,mp [] _ _ hB⟩
 ·rcases K with _ | _
  ·obtain⟨rfl,t⟩:=hR;apply D8;apply B8;obtain rfl:=oi h;exact rt (Mat.trans t (Mat.trans (Mat.coeP (Ts:=[(2,.d (.list 1 (([]:List Int).map (eI .u8))))]) (Bs:=[]) (TwT.cons (x:=.nils) (by rfl) (Tw.leaf ⟨_,Co.nils 1,rfl⟩) TwT.nil) TwB.nil) (mp [] [(2,.d (.list 1 (([]:List Int).map (eI .u8)))),(3,i6 1)] [] hB))) [.d (.list 1 (([]:List Int).map (eI .u8))),i6 1] (rT (rT rN)) rfl
  ·obtain⟨rfl,t⟩:=hR;apply B9;apply A0;refine ghost t ?_;refine sr (SQ tt) ?_;apply seq;refine sr (SQ tt) ?_;apply block;obtain⟨i,O,h⟩:=bindS h;refine lg (A1m a0) (fun u:Int×(List Int)=>([(6,.sref 3006 1 0 u.2.length),(41,C6 a0),(42,i6 (a0.length:Int)),(43,i6 u.1)]:EL)) (fun u:Int×(List Int)=>([(3006,some (.row 5 1 (u.2.map (eI .u8))))]:OL)) (fun(i:(List Int)) e p s=>e = .exit 2∧Mat B p s ([(6,.sref 3006 1 0 i.length)]:EL) ([(3006,some (.row 5 1 (i.map (eI .u8))))]:OL)) O (Mat.trans (Mat.beginP (n:=3006) (e:=5) (sz:=1) (Ts:=[(6,.sref 3006 1 0 0)]) (Bs:=[]) hB (by decide) (by rfl) (by decide) (TwT.cons (x:=.nils) (by rfl) (Tw.leaf ⟨rfl,rfl⟩) TwT.nil) TwB.nil) (mp [] _ _ hB)) (fun u y h => ?_) (fun e p s hR => ?_)
   ·unfold A1m at h;refine sr (SQ tt) ?_;apply seq;apply AWp.cond rfl<;>intro G
    ·have h:=A5 G h;apply AWp.skip;apply A0;apply seq;apply block;obtain⟨P,Q,h⟩:=bindS h;refine sr (SQ (fa Q tt)) ?_;refine sr (SQ tt) ?_;apply seq;refine sr (SQ tt) ?_;refine gh [(6,_),(8,_),(9,_),(41,_),(42,_),(43,_),(51,_)] [(1008,some _),(3006,some _)] hB rfl rfl (by rfl) ?_;refine AWp.cut h (fun A:(List Int)=>([(6,.sref 3006 1 0 A.length),(8,pt 1008),(41,C6 a0),(42,i6 (a0.length:Int)),(43,i6 u.1)]:EL)) (fun A:(List Int)=>([(1008,bd 78 (B6 P)),(3006,some (.row 5 1 (A.map (eI .u8))))]:OL)) (fun A h p s t => ?_) (fun U H h => ?_)
     ·apply A0;refine ghost t ?_;obtain⟨R,h⟩:=B2 h;refine rg (SQ (fa R tt)) ?_;apply D7;apply A0;refine rg (SQ tt) ?_;obtain rfl:=oi h;exact⟨rfl,mp [(3006,1083)] _ _ hB⟩
     ·apply AWp.cond rfl<;>intro I
      ·have h:=A5 I h;obtain⟨S,h⟩:=B2 h;refine rg (SQ (fa S tt)) ?_;exact H _ h _ _ (mp [(3006,1067)] _ _ hB)
      ·have h:=A6 I h;obtain⟨T,h⟩:=B2 h;refine rg (SQ (fa T tt)) ?_;exact H _ h _ _ (mp [(3006,1079)] _ _ hB)
    ·have h:=A6 G h;apply AWp.exit;apply D6;obtain rfl:=oi h;exact⟨nofun,rfl,mp [] _ _ hB⟩
   ·obtain⟨rfl,t⟩:=hR;apply B9;apply A0;refine ghost t ?_;apply seq;refine sr (SQ tt) ?_;apply AWp.cond rfl<;>intro J
    ·have h:=A5 J h;refine sr (SQ tt) ?_;apply ret;apply B8;obtain rfl:=oi h;exact rt (Mat.trans (Mat.coeP (Ts:=[(2,.d (.list 1 (([]:List Int).map (eI .u8))))]) (Bs:=[]) (TwT.cons (x:=.nils) (by rfl) (Tw.leaf ⟨_,Co.nils 1,rfl⟩) TwT.nil) TwB.nil) (mp [] [(2,.d (.list 1 (([]:List Int).map (eI .u8)))),(3,i6 3)] [] hB)) [.d (.list 1 (([]:List Int).map (eI .u8))),i6 3] (rT (rT rN)) rfl
    ·have h:=A6 J h;apply AWp.skip;apply A0;refine sr (SQ tt) ?_;apply ret;obtain rfl:=oi h;exact rt (Mat.trans (Mat.freezeP (n:=3006) (e:=5) (sz:=1) (es:=i.map (eI .u8)) (Ts:=[(2,.d (.list 1 (i.map (eI .u8))))]) (Bs:=[]) (by rfl) (TwT.cons (x:=(.sref 3006 1 0 i.length)) (by rfl) (FrzL.all (by first | rfl | (simp;done) | (simp;omega) | omega)) TwT.nil) TwB.nil) (mp [] [(2,.d (.list 1 (i.map (eI .u8)))),(3,i6 0)] [] hB)) [.d (.list 1 (i.map (eI .u8))),i6 0] (rT (rT rN)) rfl
def A0e (a0:A7):Option ((List Int)×Int):=
 jn (fun C:(List A3)=>
 (J9 a0.fAnnounce true).bind fun t=>
 jn (fun E:(List A3)=>
 (J9 a0.fWithdraw true).bind fun u=>
 jn (fun J:(List A3)=>
 (A3b J).bind fun p=>
 (if (p.2 != 0)=true then
 some (([]:List Int),p.2)
 else
 (J9 a0.fWithdraw false).bind fun i=>
 chk (decide ((([IntKind.u8.wrap (shrI .i64 (i.length:Int) 8),IntKind.u8.wrap (i.length:Int)]:List Int)++i).length≤LIM))<|
 chk (decide (((([IntKind.u8.wrap (shrI .i64 (i.length:Int) 8),IntKind.u8.wrap (i.length:Int)]:List Int)++i)++([IntKind.u8.wrap (shrI .i64 (p.1.length:Int) 8),IntKind.u8.wrap (p.1.length:Int)]:List Int)).length≤LIM))<|
 chk (decide ((((([IntKind.u8.wrap (shrI .i64 (i.length:Int) 8),IntKind.u8.wrap (i.length:Int)]:List Int)++i)++([IntKind.u8.wrap (shrI .i64 (p.1.length:Int) 8),IntKind.u8.wrap (p.1.length:Int)]:List Int))++p.1).length≤LIM))<|
 (J9 a0.fAnnounce false).bind fun F=>
 chk (decide (((((([IntKind.u8.wrap (shrI .i64 (i.length:Int) 8),IntKind.u8.wrap (i.length:Int)]:List Int)++i)++([IntKind.u8.wrap (shrI .i64 (p.1.length:Int) 8),IntKind.u8.wrap (p.1.length:Int)]:List Int))++p.1)++F).length≤LIM))<|
 some (((((([IntKind.u8.wrap (shrI .i64 (i.length:Int) 8),IntKind.u8.wrap (i.length:Int)]:List Int)++i)++([IntKind.u8.wrap (shrI .i64 (p.1.length:Int) 8),IntKind.u8.wrap (p.1.length:Int)]:List Int))++p.1)++F),0))) (fun G=>
 (if (decide (0<(u.length:Int)))=true then
 chk (decide ((([0,2,1]:List Int)++u).length≤LIM))<|
 (A4h E (A3.mk 128 15 (([0,2,1]:List Int)++u))).bind fun K=>
 G K
 else
 G E))) (fun H=>
 (if (decide (0<(t.length:Int)))=true then
 (Q0 a0.fAttrs.fNext).bind fun s=>
 chk (decide ((([0,2,1,16]:List Int)++s).length≤LIM))<|
 chk (decide (((([0,2,1,16]:List Int)++s)++([0]:List Int)).length≤LIM))<|
 chk (decide ((((([0,2,1,16]:List Int)++s)++([0]:List Int))++t).length≤LIM))<|
 (A4h C (A3.mk 128 14 (((([0,2,1,16]:List Int)++s)++([0]:List Int))++t))).bind fun M=>
 H M
 else
 H C))) (fun I=>
 (if (decide (0<(a0.fAnnounce.length:Int)))=true then
 (A46 a0.fAttrs).bind fun A=>
 (if (A.2 != 0)=true then
 some (([]:List Int),A.2)
 else
 I A.1)
 else
 I ([]:List A3)))
theorem B1x (a0:A7) (r:(List Int)×Int) (h:A0e a0=some r):AC Tryz.prog 65 [.d (E6 a0)] [] (.tup [.d (.list 1 (r.1.map (eI .u8))),.d (.int .i64 r.2)]) []:=by
 refine ac2 Tryz.func65 rfl rfl fun B hB hN L => ?_;delta A0e at h;refine sr (SQ tt) ?_;refine sr (SQ tt) ?_;apply seq;refine sr (SQ tt) ?_;refine gh [(1,_),(4,_),(16,_)] [(1001,some _)] hB rfl rfl (by rfl) ?_;refine AWp.cut h (fun E:(List A3)=>([(1,pt 1001),(4,C6 E)]:EL)) (fun E:(List A3)=>([(1001,bd 71 (E6 a0))]:OL)) (fun E h I J C => ?_) (fun j5 K h => ?_)
 ·apply A0;refine ghost C ?_;apply seq;obtain⟨t,T,h⟩:=bindS h;refine sr (SQ (fa (cl [] (A2o a0.fAnnounce true t T)) tt)) ?_;refine sr (SQ tt) ?_;refine gh [(1,_),(4,_),(7,_),(32,_)] [(1001,some _)] hB rfl rfl (by rfl) ?_;refine AWp.cut h (fun F:(List A3)=>([(1,pt 1001),(4,C6 F)]:EL)) (fun F:(List A3)=>([(1001,bd 71 (E6 a0))]:OL)) (fun F h I J C => ?_) (fun ap M h => ?_)
  ·apply A0;refine ghost C ?_;apply seq;obtain⟨u,U,h⟩:=bindS h;refine sr (SQ (fa (cl [] (A2o a0.fWithdraw true u U)) tt)) ?_;refine sr (SQ tt) ?_;refine gh [(1,_),(4,_),(8,_),(51,_)] [(1001,some _)] hB rfl rfl (by rfl) ?_;refine AWp.cut h (fun G:(List A3)=>([(1,pt 1001),(4,C6 G)]:EL)) (fun G:(List A3)=>([(1001,bd 71 (E6 a0))]:OL)) (fun G h I J C => ?_) (fun aq N h => ?_)
   ·apply A0;refine ghost C ?_;obtain⟨p,W,h⟩:=bindS h;refine sr (SQ (fa (cl [] (B3a G p W)) tt)) ?_;apply seq;refine sr (SQ tt) ?_;apply AWp.cond rfl<;>intro O
    ·have h:=A5 O h;refine sr (SQ tt) ?_;apply ret;apply B8;obtain rfl:=oi h;exact rt (Mat.trans (Mat.coeP (Ts:=[(2,.d (.list 1 (([]:List Int).map (eI .u8))))]) (Bs:=[]) (TwT.cons (x:=.nils) (by rfl) (Tw.leaf ⟨_,Co.nils 1,rfl⟩) TwT.nil) TwB.nil) (mp [] [(2,.d (.list 1 (([]:List Int).map (eI .u8)))),(3,i6 p.2)] [] hB)) [.d (.list 1 (([]:List Int).map (eI .u8))),i6 p.2] (rT (rT rN)) rfl
    ·have h:=A6 O h;apply AWp.skip;apply A0;obtain⟨i,X,h⟩:=bindS h;refine sr (SQ (fa (cl [] (A2o a0.fWithdraw false i X)) tt)) ?_;obtain⟨Y,h⟩:=B2 h;apply sr (c (mv hN (q 11)) rfl (c (OpJ.val (v':=(i6 (i.length:Int))) (by simp) (lenD underlying76 (L rfl) (q 69))) rfl (c (OpJ.shr (L rfl) (q 70) (Opd.int .u64 (8)) (by decide)) rfl (c (OpJ.conv underlying3 underlying5 (L rfl) (q 71)) rfl (c (mv hN (q 11)) rfl (c (OpJ.val (v':=(i6 (i.length:Int))) (by simp) (lenD underlying76 (L rfl) (q 73))) rfl (c (OpJ.conv underlying3 underlying5 (L rfl) (q 74)) rfl (cg (OpJ.buildSliceR underlying76 tyS5 tyZD5 (by rfl) (by decide) (by decide) hB (nm:=1076) (by decide) (len:=([IntKind.u8.wrap (shrI .i64 (i.length:Int) 8),IntKind.u8.wrap (i.length:Int)]:List Int).length) (by rfl) (Opds.cons (q 72) (Opds.cons (q 75) Opds.nil)) (by kernel_rfl) (es:=([IntKind.u8.wrap (shrI .i64 (i.length:Int) 8),IntKind.u8.wrap (i.length:Int)]:List Int).map (eI .u8)) (by rfl) (by rfl) (by kernel_rfl) (by simp) (L rfl)) rfl (c (mv hN (q 11)) rfl (cg (apd hB underlying76 tyE5 1078 (eI .u8) ([IntKind.u8.wrap (shrI .i64 (i.length:Int) 8),IntKind.u8.wrap (i.length:Int)]:List Int) i Y (L rfl) (q 76) (q 77)) rfl (c (assign (L rfl) (q 78)) rfl cn)))))))))));obtain⟨Z,h⟩:=B2 h;obtain⟨aa,h⟩:=B2 h;refine sr (SQ (fa Z (fa aa tt))) ?_;obtain⟨A,ab,h⟩:=bindS h;obtain⟨ac,h⟩:=B2 h;refine sr (SQ (fa (cl [] (A2o a0.fAnnounce false A ab)) (fa ac tt))) ?_;apply ret;obtain rfl:=oi h;exact rt (Mat.trans (Mat.freezeP (n:=1095) (e:=5) (sz:=1) (es:=((((([IntKind.u8.wrap (shrI .i64 (i.length:Int) 8),IntKind.u8.wrap (i.length:Int)]:List Int)++i)++([IntKind.u8.wrap (shrI .i64 (p.1.length:Int) 8),IntKind.u8.wrap (p.1.length:Int)]:List Int))++p.1)++A).map (eI .u8)) (Ts:=[(2,.d (.list 1 (((((([IntKind.u8.wrap (shrI .i64 (i.length:Int) 8),IntKind.u8.wrap (i.length:Int)]:List Int)++i)++([IntKind.u8.wrap (shrI .i64 (p.1.length:Int) 8),IntKind.u8.wrap (p.1.length:Int)]:List Int))++p.1)++A).map (eI .u8))))]) (Bs:=[]) (by rfl) (TwT.cons (x:=(.sref 1095 1 0 (((((([IntKind.u8.wrap (shrI .i64 (i.length:Int) 8),IntKind.u8.wrap (i.length:Int)]:List Int)++i)++([IntKind.u8.wrap (shrI .i64 (p.1.length:Int) 8),IntKind.u8.wrap (p.1.length:Int)]:List Int))++p.1)++A).length))) (by rfl) (FrzL.all (by first | rfl | (simp;done) | (simp;omega) | omega)) TwT.nil) TwB.nil) (mp [] [(2,.d (.list 1 (((((([IntKind.u8.wrap (shrI .i64 (i.length:Int) 8),IntKind.u8.wrap (i.length:Int)]:List Int)++i)++([IntKind.u8.wrap (shrI .i64 (p.1.length:Int) 8),IntKind.u8.wrap (p.1.length:Int)]:List Int))++p.1)++A).map (eI .u8)))),(3,i6 0)] [] hB)) [.d (.list 1 (((((([IntKind.u8.wrap (shrI .i64 (i.length:Int) 8),IntKind.u8.wrap (i.length:Int)]:List Int)++i)++([IntKind.u8.wrap (shrI .i64 (p.1.length:Int) 8),IntKind.u8.wrap (p.1.length:Int)]:List Int))++p.1)++A).map (eI .u8))),i6 0] (rT (rT rN)) rfl
   ·apply AWp.cond rfl<;>intro P
    ·have h:=A5 P h;obtain⟨ae,h⟩:=B2 h;obtain⟨af,ag,h⟩:=bindS h;apply rg (c (mv hN (q 4)) rfl (cg (OpJ.buildSliceR underlying76 tyS5 tyZD5 (by rfl) (by decide) (by decide) hB (nm:=1053) (by decide) (len:=([0,2,1]:List Int).length) (by rfl) (Opds.cons (Opd.int .u8 (0)) (Opds.cons (Opd.int .u8 (2)) (Opds.cons (Opd.int .u8 (1)) Opds.nil))) (by kernel_rfl) (es:=([0,2,1]:List Int).map (eI .u8)) (by rfl) (by rfl) (by kernel_rfl) (by simp) (L rfl)) rfl (c (mv hN (q 8)) rfl (cg (OpJ.frz (apd hB underlying76 tyE5 1055 (eI .u8) ([0,2,1]:List Int) u ae (L rfl) (q 53) (q 54)) (by simp)) rfl (c (OpJ.coe (v:=(.st [i6 128,i6 15,.d (.list 1 ((([0,2,1]:List Int)++u).map (eI .u8)))])) (y:=(.st [.int .i64 128,.int .i64 15,.list 1 ((([0,2,1]:List Int)++u).map (eI .u8))])) (Co.st (CoL.cons (Co.d _) (CoL.cons (Co.d _) (CoL.cons (Co.d _) CoL.nil)))) rfl (OpJ.build (places:=[(0,1),(1,1),(2,1)]) ⟨underlying78,fun w=>by kernel_rfl⟩ tyZS78 (Opds.cons (ii 128) (Opds.cons (ii 15) (Opds.cons (q 55) Opds.nil))) (by kernel_rfl) (r:=(.st [i6 128,i6 15,.d (.list 1 ((([0,2,1]:List Int)++u).map (eI .u8)))])) (by rfl) (L rfl))) rfl (cg (OpJ.callFn hB fnOk95 (A9j F (A3.mk 128 15 (([0,2,1]:List Int)++u)) af ag) [] (by kernel_rfl) (L rfl) (by kernel_rfl) (OpdL.cons (q 52) (OpdL.cons (q 56) OpdL.nil))) rfl (c (assign (L rfl) (q 57)) rfl cn)))))));exact N _ h _ _ (mp [] _ _ hB)
    ·have h:=A6 P h;apply AWp.skip;exact N _ h _ _ (mp [] _ _ hB)
  ·apply AWp.cond rfl<;>intro Q
   ·have h:=A5 Q h;obtain⟨s,ah,h⟩:=bindS h;obtain⟨ai,h⟩:=B2 h;obtain⟨aj,h⟩:=B2 h;obtain⟨ak,h⟩:=B2 h;obtain⟨al,am,h⟩:=bindS h;apply rg (c (mv hN (q 4)) rfl (cg (OpJ.buildSliceR underlying76 tyS5 tyZD5 (by rfl) (by decide) (by decide) hB (nm:=1034) (by decide) (len:=([0,2,1,16]:List Int).length) (by rfl) (Opds.cons (Opd.int .u8 (0)) (Opds.cons (Opd.int .u8 (2)) (Opds.cons (Opd.int .u8 (1)) (Opds.cons (Opd.int .u8 (16)) Opds.nil)))) (by kernel_rfl) (es:=([0,2,1,16]:List Int).map (eI .u8)) (by rfl) (by rfl) (by kernel_rfl) (by simp) (L rfl)) rfl (c (fo 1001 1 [1] hN underlying71 1 tyS39 (q 1)) rfl (c (fo 1001 3 [1,2] hN underlying39 2 tyS31 (q 35)) rfl (c (lb hN 71 _ _ tyS31 (At.dst1 (by rfl) (by rfl) (ad _) (by first | rfl | omega)) (q 36)) rfl (cg (cf hB fnOk96 (A5b a0.fAttrs.fNext s ah) (L rfl) (OpdL.cons (q 37) OpdL.nil)) rfl (cg (apd hB underlying76 tyE5 1039 (eI .u8) ([0,2,1,16]:List Int) s ai (L rfl) (q 34) (q 38)) rfl (c (buildSlice underlying76 tyS5 tyZD5 (by rfl) (by decide) (by decide) (Opds.cons (Opd.int .u8 (0)) Opds.nil) (by kernel_rfl) (es:=([.int .u8 0]:List D)) (by rfl) (by rfl) (by kernel_rfl) (by simp) (L rfl)) rfl (cg (apd hB underlying76 tyE5 1041 (eI .u8) (([0,2,1,16]:List Int)++s) ([0]:List Int) aj (L rfl) (q 39) (q 40)) rfl (c (mv hN (q 7)) rfl (cg (OpJ.frz (apd hB underlying76 tyE5 1043 (eI .u8) ((([0,2,1,16]:List Int)++s)++([0]:List Int)) t ak (L rfl) (q 41) (q 42)) (by simp)) rfl (c (OpJ.coe (v:=(.st [i6 128,i6 14,.d (.list 1 ((((([0,2,1,16]:List Int)++s)++([0]:List Int))++t).map (eI .u8)))])) (y:=(.st [.int .i64 128,.int .i64 14,.list 1 ((((([0,2,1,16]:List Int)++s)++([0]:List Int))++t).map (eI .u8))])) (Co.st (CoL.cons (Co.d _) (CoL.cons (Co.d _) (CoL.cons (Co.d _) CoL.nil)))) rfl (OpJ.build (places:=[(0,1),(1,1),(2,1)]) ⟨underlying78,fun w=>by kernel_rfl⟩ tyZS78 (Opds.cons (ii 128) (Opds.cons (ii 14) (Opds.cons (q 43) Opds.nil))) (by kernel_rfl) (r:=(.st [i6 128,i6 14,.d (.list 1 ((((([0,2,1,16]:List Int)++s)++([0]:List Int))++t).map (eI .u8)))])) (by rfl) (L rfl))) rfl (cg (OpJ.callFn hB fnOk95 (A9j E (A3.mk 128 14 (((([0,2,1,16]:List Int)++s)++([0]:List Int))++t)) al am) [] (by kernel_rfl) (L rfl) (by kernel_rfl) (OpdL.cons (q 33) (OpdL.cons (q 44) OpdL.nil))) rfl (c (assign (L rfl) (q 45)) rfl cn))))))))))))))
    exact M _ h _ _ (mp [] _ _ hB)
   ·have h:=A6 Q h;apply AWp.skip;exact M _ h _ _ (mp [] _ _ hB)
 ·apply AWp.cond rfl<;>intro R
  ·have h:=A5 R h;obtain⟨H,an,h⟩:=bindS h;refine sr (SQ (fa (cl [] (B1w a0.fAttrs H an)) tt)) ?_;apply seq;refine sr (SQ tt) ?_;apply AWp.cond rfl<;>intro S
   ·have h:=A5 S h;refine sr (SQ tt) ?_;apply ret;apply B8;apply B8;obtain rfl:=oi h;exact rt (Mat.trans (Mat.coeP (Ts:=[(2,.d (.list 1 (([]:List Int).map (eI .u8))))]) (Bs:=[]) (TwT.cons (x:=.nils) (by rfl) (Tw.leaf ⟨_,Co.nils 1,rfl⟩) TwT.nil) TwB.nil) (mp [] [(2,.d (.list 1 (([]:List Int).map (eI .u8)))),(3,i6 H.2)] [] hB)) [.d (.list 1 (([]:List Int).map (eI .u8))),i6 H.2] (rT (rT rN)) rfl
   ·have h:=A6 S h;apply AWp.skip;apply A0;refine rg (SQ tt) ?_;exact K _ h _ _ (mp [] _ _ hB)
  ·have h:=A6 R h;apply AWp.skip;exact K _ h _ _ (Mat.trans (Mat.coeP (Ts:=[(4,C6 ([]:List A3))]) (Bs:=[]) (TwT.cons (x:=.nils) (by rfl) (Tw.leaf ⟨_,Co.nils 3,rfl⟩) TwT.nil) TwB.nil) (mp [] _ _ hB))
def V2 (a0:A7) (i:Int):Option ((Unit⊕Unit)⊕Int):=
 (if (decide (i<((a0.fWithdraw++a0.fAnnounce).length:Int)))=true then
 (idx (a0.fWithdraw++a0.fAnnounce) i).bind fun _=>
 (idx (a0.fWithdraw++a0.fAnnounce) i).bind fun p=>
 (A25 p).bind fun s=>
 (if (!s)=true then
 some (.inl (.inl ()))
 else
 some (.inr (w64 (i+1))))
 else
 some (.inl (.inr ())))
def V3 (a0:A7) (i:Int):Option ((Unit⊕Unit)⊕Int):=
 (if (decide (i<(a0.fAnnounce.length:Int)))=true then
 (idx a0.fAnnounce i).bind fun s=>
 jn (fun t:Bool=>
 (if t=true then
 some (.inl (.inl ()))
 else
 some (.inr (w64 (i+1))))) (fun p=>
 (if (((s.fAddr.fV6 != a0.fAttrs.fNext.fV6) || (a0.fAttrs.fOrigin==(-1))) || ((a0.fAttrs.fNext.fV6==false)&&((a0.fAttrs.fNext.fHi==0)&&((a0.fAttrs.fNext.fLo==0)&&true))))=true then
 p true
 else
 (M0 a0.fAttrs).bind fun u=>
 p (!u)))
 else
 some (.inl (.inr ())))
def Q1 (a0:A7):Option (Bool):=
 (if ((decide (256<(a0.fWithdraw.length:Int))) || (decide (256<(a0.fAnnounce.length:Int))))=true then
 some false
 else
 chk (decide (a0.fWithdraw.length≤LIM))<|
 chk (decide ((a0.fWithdraw++a0.fAnnounce).length≤LIM))<|
 (loop (V2 a0) 0).bind fun s=>match s with
 | (.inl _)=>
  some false
 | (.inr _)=>
  jn (fun t:Bool=>
  (if t=true then
  some false
  else
  (loop (V3 a0) 0).bind fun u=>match u with
  | (.inl _)=>
   some false
  | (.inr _)=>
   (A0e a0).bind fun i=>
   some ((i.2==0)&&(decide ((i.1.length:Int)≤4077))))) (fun p=>
  (if ((a0.fAnnounce.length:Int)==0)=true then
  (A23).bind fun A=>
  (A3a a0.fAttrs A).bind fun C=>
  p (!C)
  else
  p false)))
theorem A7z (a0:A7) (r:Bool) (h:Q1 a0=some r):AC Tryz.prog 29 [.d (E6 a0)] [] (.d (.bool r)) []:=by
 refine ac2 Tryz.func29 rfl rfl fun B hB hN L => ?_;delta Q1 at h;refine sr (SQ tt) ?_;apply seq;refine sr (SQ tt) ?_;apply AWp.cond rfl<;>intro H
 ·have h:=A5 H h;refine sr (SQ tt) ?_;apply ret;apply B8;obtain rfl:=oi h;exact rt (kp [(2,_)] [] hB rfl rfl (by rfl)) [bo false] (rT rN) rfl
 ·have h:=A6 H h;apply AWp.skip;apply A0;apply seq;obtain⟨R,h⟩:=B2 h;obtain⟨S,h⟩:=B2 h;refine sdS (SQ (fa R (fa S tt))) ?_;apply block;obtain⟨T,U,h⟩:=bindS h;refine lg (V2 a0) (fun C:Int=>([(1,pt 1001),(24,.sref 1024 4 0 ((a0.fWithdraw++a0.fAnnounce).length)),(25,i6 ((a0.fWithdraw++a0.fAnnounce).length:Int)),(26,i6 C)]:EL)) (fun C:Int=>([(1001,bd 71 (E6 a0)),(1024,some (G0 (a0.fWithdraw++a0.fAnnounce)))]:OL)) (fun(x:(Unit)⊕Unit) e p s=>match x with | (.inl _p)=>e = .ret∧Mat B p s ([(2,bo false)]:EL) ([]:OL) | (.inr _p)=>e = .exit 0∧Mat B p s ([(1,pt 1001)]:EL) ([(1001,bd 71 (E6 a0))]:OL)) U (mp [] _ _ hB) (fun C y h => ?_) (fun e p s hR => ?_)
  ·unfold V2 at h;refine sr (SQ tt) ?_;apply seq;apply AWp.cond rfl<;>intro I
   ·have h:=A5 I h;apply AWp.skip;apply A0;apply seq;apply block;obtain⟨_,W,h⟩:=bindS h;obtain⟨X,Y,h⟩:=bindS h;refine sr (SQ (fa W (fa Y tt))) ?_;obtain⟨Z,aa,h⟩:=bindS h;refine sr (SQ (fa (cl [] (A7w X Z aa)) tt)) ?_;apply AWp.cond rfl<;>intro J
    ·have h:=A5 J h;refine sr (SQ tt) ?_;apply ret;apply D8;apply B8;obtain rfl:=oi h;exact⟨nofun,rfl,mp [] _ _ hB⟩
    ·have h:=A6 J h;apply AWp.skip;apply D7;apply A0;refine rg (SQ tt) ?_;obtain rfl:=oi h;exact⟨rfl,mp [] _ _ hB⟩
   ·have h:=A6 I h;apply AWp.exit;apply D6;obtain rfl:=oi h;exact⟨nofun,rfl,mp [] _ _ hB⟩
  ·rcases T with _ | _
   ·obtain⟨rfl,i⟩:=hR;apply D8;apply B8;obtain rfl:=oi h;exact rt (Mat.trans i (mp [] [(2,bo false)] [] hB)) [bo false] (rT rN) rfl
   ·obtain⟨rfl,i⟩:=hR;apply B9;apply A0;refine ghost i ?_;apply seq;apply seq;refine AWp.cut h (fun E:Bool=>([(1,pt 1001),(44,bo E)]:EL)) (fun E:Bool=>([(1001,bd 71 (E6 a0))]:OL)) (fun E h p s i => ?_) (fun am K h => ?_)
    ·apply A0;refine ghost i ?_;apply AWp.cond rfl<;>intro M
     ·have h:=A5 M h;refine sr (SQ tt) ?_;apply ret;apply B8;obtain rfl:=oi h;exact rt (kp [(2,_)] [] hB rfl rfl (by rfl)) [bo false] (rT rN) rfl
     ·have h:=A6 M h;apply AWp.skip;apply A0;apply seq;refine sr (SQ tt) ?_;apply block;obtain⟨ab,ac,h⟩:=bindS h;refine lg (V3 a0) (fun A:Int=>([(1,pt 1001),(46,F8 a0.fAnnounce),(47,i6 (a0.fAnnounce.length:Int)),(48,i6 A)]:EL)) (fun A:Int=>([(1001,bd 71 (E6 a0))]:OL)) (fun(x:(Unit)⊕Unit) e p s=>match x with | (.inl _p)=>e = .ret∧Mat B p s ([(2,bo false)]:EL) ([]:OL) | (.inr _p)=>e = .exit 2∧Mat B p s ([(1,pt 1001)]:EL) ([(1001,bd 71 (E6 a0))]:OL)) ac (mp [] _ _ hB) (fun A y h => ?_) (fun e p s hR => ?_)
      ·unfold V3 at h;refine sr (SQ tt) ?_;apply seq;apply AWp.cond rfl<;>intro N
       ·have h:=A5 N h;apply AWp.skip;apply A0;apply seq;apply block;obtain⟨ae,af,h⟩:=bindS h;refine sr (SQ (fa af tt)) ?_;apply seq;refine AWp.cut h (fun F:Bool=>([(1,pt 1001),(46,F8 a0.fAnnounce),(47,i6 (a0.fAnnounce.length:Int)),(48,i6 A),(78,bo F)]:EL)) (fun F:Bool=>([(1001,bd 71 (E6 a0))]:OL)) (fun F h p s i => ?_) (fun an O h => ?_)
        ·apply A0;refine ghost i ?_;apply AWp.cond rfl<;>intro P
         ·have h:=A5 P h;refine sr (SQ tt) ?_;apply ret;apply D8;apply B8;obtain rfl:=oi h;exact⟨nofun,rfl,mp [] _ _ hB⟩
         ·have h:=A6 P h;apply AWp.skip;apply D7;apply A0;refine rg (SQ tt) ?_;obtain rfl:=oi h;exact⟨rfl,mp [] _ _ hB⟩
        ·rcases bft (((ae.fAddr.fV6 != a0.fAttrs.fNext.fV6) || (a0.fAttrs.fOrigin==(-1))) || ((a0.fAttrs.fNext.fV6==false)&&((a0.fAttrs.fNext.fHi==0)&&((a0.fAttrs.fNext.fLo==0)&&true)))) with t | t
         ·have h:=A5 t h;refine rg (SQ (fa t tt)) ?_;exact O _ h _ _ (mp [] _ _ hB)
         ·have h:=A6 t h;obtain⟨ag,ah,h⟩:=bindS h;refine rg (SQ (fa t (fa (cl [] (A7y a0.fAttrs ag ah)) tt))) ?_;exact O _ h _ _ (mp [] _ _ hB)
       ·have h:=A6 N h;apply AWp.exit;apply D6;obtain rfl:=oi h;exact⟨nofun,rfl,mp [] _ _ hB⟩
      ·rcases ab with _ | _
       ·obtain⟨rfl,i⟩:=hR;apply D8;apply B8;obtain rfl:=oi h;exact rt (Mat.trans i (mp [] [(2,bo false)] [] hB)) [bo false] (rT rN) rfl
       ·obtain⟨rfl,i⟩:=hR;apply B9;apply A0;refine ghost i ?_;obtain⟨G,ai,h⟩:=bindS h;refine sr (SQ (fa (cl [] (B1x a0 G ai)) tt)) ?_;refine sr (SQ tt) ?_;apply ret;obtain rfl:=oi h;exact rt (kp [(2,_)] [] hB rfl rfl (by rfl)) [bo ((G.2==0)&&(decide ((G.1.length:Int)≤4077)))] (rT rN) rfl
    ·rcases bft ((a0.fAnnounce.length:Int)==0) with u | u
     ·have h:=A5 u h;obtain⟨Q,aj,h⟩:=bindS h;obtain⟨ak,al,h⟩:=bindS h;refine drS (SQ (fa u (fa (cl [] (A5a Q aj)) (fa (cl [] (B38 a0.fAttrs Q ak al)) tt)))) ?_;exact K _ h _ _ (mp [] _ _ hB)
     ·have h:=A6 u h;refine drS (SQ (fa u tt)) ?_;exact K _ h _ _ (mp [] _ _ hB)
def A1n (a0:A1):Option (Bool):=
 (A25 a0.fPrefix).bind fun p=>
 (if (!p)=true then
 some false
 else
 jn (fun s:Bool=>
 some s) (fun i=>
 (if (!a0.fHas)=true then
 i true
 else
 (if (((a0.fRoute.fPrefix.fAddr.fV6==a0.fPrefix.fAddr.fV6)&&((a0.fRoute.fPrefix.fAddr.fHi==a0.fPrefix.fAddr.fHi)&&((a0.fRoute.fPrefix.fAddr.fLo==a0.fPrefix.fAddr.fLo)&&true)))&&((a0.fRoute.fPrefix.fLen==a0.fPrefix.fLen)&&true))=true then
 (Q1 (A7.mk ([]:List A2) a0.fRoute.fAttrs [a0.fPrefix])).bind fun t=>
 i t
 else
 i false))))
theorem A1o (a0:A1) (r:Bool) (h:A1n a0=some r):AC Tryz.prog 33 [.d (A8 a0)] [] (.d (.bool r)) []:=by
 refine ac2 Tryz.func33 rfl rfl fun B hB hN L => ?_;delta A1n at h;refine sr (SQ tt) ?_;apply seq;obtain⟨A,C,h⟩:=bindS h;refine sr (SQ (fa (cl [] (A7w a0.fPrefix A C)) tt)) ?_;apply AWp.cond rfl<;>intro u
 ·have h:=A5 u h;refine sr (SQ tt) ?_;apply ret;apply B8;obtain rfl:=oi h;exact rt (kp [(2,_)] [] hB rfl rfl (by rfl)) [bo false] (rT rN) rfl
 ·have h:=A6 u h;apply AWp.skip;apply A0;apply seq;refine AWp.cut h (fun s:Bool=>([(2,bo s)]:EL)) (fun s:Bool=>([]:OL)) (fun s h H I E => ?_) (fun J t h => ?_)
  ·apply A0;refine ghost E ?_;apply ret;obtain rfl:=oi h;exact rt (kp [(2,_)] [] hB rfl rfl (by rfl)) [bo s] (rT rN) rfl
  ·rcases bft (!a0.fHas) with i | i
   ·have h:=A5 i h;refine rg (SQ (fa i tt)) ?_;exact t _ h _ _ (mp [] _ _ hB)
   ·have h:=A6 i h;rcases bft (((a0.fRoute.fPrefix.fAddr.fV6==a0.fPrefix.fAddr.fV6)&&((a0.fRoute.fPrefix.fAddr.fHi==a0.fPrefix.fAddr.fHi)&&((a0.fRoute.fPrefix.fAddr.fLo==a0.fPrefix.fAddr.fLo)&&true)))&&((a0.fRoute.fPrefix.fLen==a0.fPrefix.fLen)&&true)) with p | p
    ·have h:=A5 p h;obtain⟨F,G,h⟩:=bindS h;refine rg (SQ (fa i (fa p (fa (cl [] (A7z (A7.mk ([]:List A2) a0.fRoute.fAttrs [a0.fPrefix]) F G)) tt)))) ?_;exact t _ h _ _ (mp [] _ _ hB)
    ·have h:=A6 p h;refine rg (SQ (fa i (fa p tt))) ?_;exact t _ h _ _ (mp [] _ _ hB)
end
end Go.Proofs.YtplbaenjbihekaaGreatDoor
