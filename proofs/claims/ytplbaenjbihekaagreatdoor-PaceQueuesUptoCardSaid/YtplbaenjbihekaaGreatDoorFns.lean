/- Printed by gen.py: the Go functions as plain functions, and that the code does what they say. -/
import Derived.Test.YtplbaenjbihekaaGreatDoorChecked
import Derived.Test.YtplbaenjbihekaaGreatDoorVcYB
import Derived.Test.YtplbaenjbihekaaGreatDoorVcZ
import Derived.Test.YtplbaenjbihekaaGreatDoorVcGC
import Derived.KernelRfl
import Derived.Test.YtplbaenjbihekaaGreatDoorVcMD
import Derived.Test.YtplbaenjbihekaaGreatDoorVcMQ
import Derived.Test.YtplbaenjbihekaaGreatDoorVcSG
import Derived.Test.YtplbaenjbihekaaGreatDoorFnsD
import Derived.Test.YtplbaenjbihekaaGreatDoorExt
import Derived.Test.YtplbaenjbihekaaGreatDoorVcPm
import Derived.Test.YtplbaenjbihekaaGreatDoorVcRg
import Derived.Test.YtplbaenjbihekaaGreatDoorVcSt
import Derived.Test.YtplbaenjbihekaaGreatDoorVcMR
namespace Go.Proofs.YtplbaenjbihekaaGreatDoor
open Go Go.Vc
open Tryz
open Go.Vc.OpJ (assign alloc lss pickT pickF extract lenD indexD loadD eqlI gtr callVal leq geq loadR nilP indexS buildSlice lenS fieldD neqI pickAnd pickOr)
open Go.Vc.AWp (seq ghost ret block)
set_option maxHeartbeats 4000000
set_option maxRecDepth 100000
noncomputable section
def A0t (a0:C3) (t:Int) (i:A1) (s:Int):Option ((Unit⊕Unit)⊕Int):=
 (if (decide (s<(((a0.fPending.take t.toNat).drop 0).length:Int)))=true then
 (idx ((a0.fPending.take t.toNat).drop 0) s).bind fun p=>
 (if (((p.fPrefix.fAddr.fV6==i.fPrefix.fAddr.fV6)&&((p.fPrefix.fAddr.fHi==i.fPrefix.fAddr.fHi)&&((p.fPrefix.fAddr.fLo==i.fPrefix.fAddr.fLo)&&true)))&&((p.fPrefix.fLen==i.fPrefix.fLen)&&true))=true then
 some (.inl (.inl ()))
 else
 some (.inr (w64 (s+1))))
 else
 some (.inl (.inr ())))
def A0u (a0:C3) (i:Int):Option ((Unit⊕Unit)⊕Int):=
 (if (decide (i<(a0.fPending.length:Int)))=true then
 (idx a0.fPending i).bind fun p=>
 (A1n p).bind fun s=>
 (if (!s)=true then
 some (.inl (.inl ()))
 else
 chk (decide (0≤i)&&decide (0≤i.toNat)&&decide (i.toNat≤a0.fPending.length))<|
 (loop (A0t a0 i p) 0).bind fun t=>match t with
 | (.inl _)=>
  some (.inl (.inl ()))
 | (.inr _)=>
  some (.inr (w64 (i+1))))
 else
 some (.inl (.inr ())))
def A0f (a0:C3):Option (Bool):=
 (A5l a0.fBucket).bind fun i=>
 (if ((!i) || (decide (4096<(a0.fPending.length:Int))))=true then
 some false
 else
 (loop (A0u a0) 0).bind fun p=>match p with
 | (.inl _)=>
  some false
 | (.inr _)=>
  some true)
theorem A2p (a0:C3) (r:Bool) (h:A0f a0=some r):AC Tryz.prog 12 [.d (D4 a0)] [] (.d (.bool r)) []:=by
 refine ac2 Tryz.func12 rfl rfl fun B hB hN L => ?_;delta A0f at h;refine sr (SQ tt) ?_;apply seq;obtain⟨I,J,h⟩:=bindS h;refine sr (SQ (fa (cl [] (B1u a0.fBucket I J)) tt)) ?_;apply AWp.cond rfl<;>intro C
 ·have h:=A5 C h;refine sr (SQ tt) ?_;apply ret;apply B8;obtain rfl:=oi h;exact rt (kp [(2,_)] [] hB rfl rfl (by rfl)) [bo false] (rT rN) rfl
 ·have h:=A6 C h;apply AWp.skip;apply A0;apply seq;refine sr (SQ tt) ?_;apply block;obtain⟨K,M,h⟩:=bindS h;refine lg (A0u a0) (fun i:Int=>([(1,pt 1001),(18,A4 a0.fPending),(19,i6 (a0.fPending.length:Int)),(20,i6 i)]:EL)) (fun i:Int=>([(1001,bd 26 (D4 a0))]:OL)) (fun(x:(Unit)⊕Unit) e p s=>match x with | (.inl _p)=>e = .ret∧Mat B p s ([(2,bo false)]:EL) ([]:OL) | (.inr _p)=>e = .exit 0∧Mat B p s ([]:EL) ([]:OL)) M (mp [] _ _ hB) (fun i y h => ?_) (fun e p s hR => ?_)
  ·unfold A0u at h;refine sr (SQ tt) ?_;apply seq;apply AWp.cond rfl<;>intro E
   ·have h:=A5 E h;apply AWp.skip;apply A0;apply seq;apply block;obtain⟨u,N,h⟩:=bindS h;refine sr (SQ (fa N tt)) ?_;apply seq;obtain⟨O,P,h⟩:=bindS h;refine sr (SQ (fa (cl [] (A1o u O P)) tt)) ?_;apply AWp.cond rfl<;>intro F
    ·have h:=A5 F h;refine sr (SQ tt) ?_;apply ret;apply B8;apply D8;apply B8;obtain rfl:=oi h;exact⟨nofun,rfl,mp [] _ _ hB⟩
    ·have h:=A6 F h;apply AWp.skip;apply A0;obtain⟨Q,h⟩:=B2 h;refine sr (SQ (fa Q tt)) ?_;apply block;obtain⟨R,S,h⟩:=bindS h;refine lg (A0t a0 i u) (fun A:Int=>([(1,pt 1001),(4,pt 1004),(18,A4 a0.fPending),(19,i6 (a0.fPending.length:Int)),(20,i6 i),(31,A4 ((a0.fPending.take i.toNat).drop 0)),(32,i6 (((a0.fPending.take i.toNat).drop 0).length:Int)),(33,i6 A)]:EL)) (fun A:Int=>([(1001,bd 26 (D4 a0)),(1004,bd 43 (A8 u))]:OL)) (fun(x:(Unit)⊕Unit) e p s=>match x with | (.inl _p)=>e = .ret∧Mat B p s ([(2,bo false)]:EL) ([]:OL) | (.inr _p)=>e = .exit 2∧Mat B p s ([(1,pt 1001),(18,A4 a0.fPending),(19,i6 (a0.fPending.length:Int)),(20,i6 i)]:EL) ([(1001,bd 26 (D4 a0))]:OL)) S (mp [] _ _ hB) (fun A y h => ?_) (fun e p s hR => ?_)
     ·unfold A0t at h;refine sr (SQ tt) ?_;apply seq;apply AWp.cond rfl<;>intro G
      ·have h:=A5 G h;apply AWp.skip;apply A0;apply seq;apply block;obtain⟨_,T,h⟩:=bindS h;refine sr (SQ (fa T tt)) ?_;refine sr (SQ tt) ?_;apply AWp.cond rfl<;>intro H
       ·have h:=A5 H h;refine sr (SQ tt) ?_;apply ret;apply D8;apply B8;obtain rfl:=oi h;exact⟨nofun,rfl,mp [] _ _ hB⟩
       ·have h:=A6 H h;apply AWp.skip;apply D7;apply A0;refine rg (SQ tt) ?_;obtain rfl:=oi h;exact⟨rfl,mp [] _ _ hB⟩
      ·have h:=A6 G h;apply AWp.exit;apply D6;obtain rfl:=oi h;exact⟨nofun,rfl,mp [] _ _ hB⟩
     ·rcases R with _ | _
      ·obtain⟨rfl,t⟩:=hR;apply D8;apply D8;apply B8;obtain rfl:=oi h;exact⟨nofun,rfl,Mat.trans t (mp [] _ _ hB)⟩
      ·obtain⟨rfl,t⟩:=hR;apply B9;apply D7;apply A0;refine ghost t ?_;refine rg (SQ tt) ?_;obtain rfl:=oi h;exact⟨rfl,mp [] _ _ hB⟩
   ·have h:=A6 E h;apply AWp.exit;apply D6;obtain rfl:=oi h;exact⟨nofun,rfl,mp [] _ _ hB⟩
  ·rcases K with _ | _
   ·obtain⟨rfl,t⟩:=hR;apply D8;apply B8;obtain rfl:=oi h;exact rt (Mat.trans t (mp [] [(2,bo false)] [] hB)) [bo false] (rT rN) rfl
   ·obtain⟨rfl,t⟩:=hR;apply B9;apply A0;refine ghost t ?_;refine sr (SQ tt) ?_;apply ret;obtain rfl:=oi h;exact rt (kp [(2,_)] [] hB rfl rfl (by rfl)) [bo true] (rT rN) rfl
def Z4 (a0:(List A1)) (p:Int×(List A1)):Option (List A1⊕(Int×(List A1))):=
 (if (decide (p.1<(a0.length:Int)))=true then
 (idx a0 p.1).bind fun i=>
 (L2 i.fRoute.fAttrs).bind fun s=>
 chk (decide ((p.2++[A1.mk i.fTo i.fPrefix i.fHas (D5.mk i.fRoute.fPrefix i.fRoute.fFrom s)]).length≤LIM))<|
 some (.inr (w64 (p.1+1),(p.2++[A1.mk i.fTo i.fPrefix i.fHas (D5.mk i.fRoute.fPrefix i.fRoute.fFrom s)])))
 else
 some (.inl p.2))
def T1 (a0:(List A1)):Option (List A1):=
 (loop (Z4 a0) (0,([]:List A1))).bind fun i=>
 some i
theorem A27 (a0:(List A1)) (r:(List A1)) (h:T1 a0=some r):AC Tryz.prog 41 [.d (.list 22 (a0.map A8))] [] (.d (.list 22 (r.map A8))) []:=by
 refine ac2 Tryz.func41 rfl rfl fun B hB hN L => ?_;delta T1 at h;refine sr (SQ tt) ?_;refine sr (SQ tt) ?_;apply seq;refine sr (SQ tt) ?_;apply block;obtain⟨i,A,h⟩:=bindS h;refine lg (Z4 a0) (fun p:Int×(List A1)=>([(3,.sref 3003 22 0 p.2.length),(6,A4 a0),(7,i6 (a0.length:Int)),(8,i6 p.1)]:EL)) (fun p:Int×(List A1)=>([(3003,some (B3 p.2))]:OL)) (fun(i:(List A1)) e s t=>e = .exit 0∧Mat B s t ([(3,.sref 3003 22 0 i.length)]:EL) ([(3003,some (B3 i))]:OL)) A (Mat.trans (Mat.beginP (n:=3003) (e:=43) (sz:=22) (Ts:=[(3,.sref 3003 22 0 0)]) (Bs:=[]) hB (by decide) (by rfl) (by decide) (TwT.cons (x:=.nils) (by rfl) (Tw.leaf ⟨rfl,rfl⟩) TwT.nil) TwB.nil) (mp [] _ _ hB)) (fun p y h => ?_) (fun e s t hR => ?_)
 ·unfold Z4 at h;refine sr (SQ tt) ?_;apply seq;apply AWp.cond rfl<;>intro u
  ·have h:=A5 u h;apply AWp.skip;apply A0;apply seq;apply block;obtain⟨C,E,h⟩:=bindS h;refine sr (SQ (fa E tt)) ?_;obtain⟨F,G,h⟩:=bindS h;refine sr (SQ (fa (cl [] (Y2 C.fRoute.fAttrs F G)) tt)) ?_;obtain⟨H,h⟩:=B2 h;refine rg (SQ (fa H tt)) ?_;apply D7;apply A0;refine rg (SQ tt) ?_;obtain rfl:=oi h;exact⟨rfl,mp [(3003,1021)] _ _ hB⟩
  ·have h:=A6 u h;apply AWp.exit;apply D6;obtain rfl:=oi h;exact⟨nofun,rfl,mp [] _ _ hB⟩
 ·obtain⟨rfl,I⟩:=hR;apply B9;apply A0;refine ghost I ?_;refine sr (SQ tt) ?_;apply ret;obtain rfl:=oi h;exact rt (Mat.trans (Mat.freezeP (n:=3003) (e:=43) (sz:=22) (es:=i.map A8) (Ts:=[(2,A4 i)]) (Bs:=[]) (by rfl) (TwT.cons (x:=(.sref 3003 22 0 i.length)) (by rfl) (FrzL.all (by first | rfl | (simp;done) | (simp;omega) | omega)) TwT.nil) TwB.nil) (mp [] [(2,A4 i)] [] hB)) [A4 i] (rT rN) rfl
def A31 (a0:(List A1)) (p:Int×(List A1)):Option (List A1⊕(Int×(List A1))):=
 (if (decide (p.1<(a0.length:Int)))=true then
 (idx a0 p.1).bind fun i=>
 (L2 i.fRoute.fAttrs).bind fun s=>
 chk (decide ((p.2++[A1.mk i.fTo i.fPrefix i.fHas (D5.mk i.fRoute.fPrefix i.fRoute.fFrom s)]).length≤LIM))<|
 some (.inr (w64 (p.1+1),(p.2++[A1.mk i.fTo i.fPrefix i.fHas (D5.mk i.fRoute.fPrefix i.fRoute.fFrom s)])))
 else
 some (.inl p.2))
def A2q (a0:(List A1)):Option (List A1):=
 (loop (A31 a0) (0,([]:List A1))).bind fun i=>
 some i
theorem A9r (a0:(List A1)) (r:(List A1)) (h:A2q a0=some r):AC Tryz.prog 41 [.d (.list 22 (a0.map A8))] [] (.sref 900000 22 0 r.length) [(900000,some (.row 43 22 (r.map A8)))]:=by
 refine ac2 Tryz.func41 rfl rfl fun B hB hN L => ?_;delta A2q at h;refine sr (SQ tt) ?_;refine sr (SQ tt) ?_;apply seq;refine sr (SQ tt) ?_;apply block;obtain⟨i,A,h⟩:=bindS h;refine lg (A31 a0) (fun p:Int×(List A1)=>([(3,.sref 3003 22 0 p.2.length),(6,A4 a0),(7,i6 (a0.length:Int)),(8,i6 p.1)]:EL)) (fun p:Int×(List A1)=>([(3003,some (B3 p.2))]:OL)) (fun(i:(List A1)) e s t=>e = .exit 0∧Mat B s t ([(3,.sref 3003 22 0 i.length)]:EL) ([(3003,some (B3 i))]:OL)) A (Mat.trans (Mat.beginP (n:=3003) (e:=43) (sz:=22) (Ts:=[(3,.sref 3003 22 0 0)]) (Bs:=[]) hB (by decide) (by rfl) (by decide) (TwT.cons (x:=.nils) (by rfl) (Tw.leaf ⟨rfl,rfl⟩) TwT.nil) TwB.nil) (mp [] _ _ hB)) (fun p y h => ?_) (fun e s t hR => ?_)
 ·unfold A31 at h;refine sr (SQ tt) ?_;apply seq;apply AWp.cond rfl<;>intro u
  ·have h:=A5 u h;apply AWp.skip;apply A0;apply seq;apply block;obtain⟨C,E,h⟩:=bindS h;refine sr (SQ (fa E tt)) ?_;obtain⟨F,G,h⟩:=bindS h;refine sr (SQ (fa (cl [] (Y2 C.fRoute.fAttrs F G)) tt)) ?_;obtain⟨H,h⟩:=B2 h;refine rg (SQ (fa H tt)) ?_;apply D7;apply A0;refine rg (SQ tt) ?_;obtain rfl:=oi h;exact⟨rfl,mp [(3003,1021)] _ _ hB⟩
  ·have h:=A6 u h;apply AWp.exit;apply D6;obtain rfl:=oi h;exact⟨nofun,rfl,mp [] _ _ hB⟩
 ·obtain⟨rfl,I⟩:=hR;apply B9;apply A0;refine ghost I ?_;refine sr (SQ tt) ?_;apply ret;obtain rfl:=oi h;exact rt (mp [(900000,3003)] [(2,.sref 900000 22 0 i.length)] [(900000,some (B3 i))] hB) [.sref 900000 22 0 i.length] (rT rN) rfl
def A1p (a1:(List A1)) (i:Int):Option ((Unit⊕Unit)⊕Int):=
 (if (decide (i<(a1.length:Int)))=true then
 (idx a1 i).bind fun p=>
 (A1n p).bind fun s=>
 (if (!s)=true then
 some (.inl (.inl ()))
 else
 some (.inr (w64 (i+1))))
 else
 some (.inl (.inr ())))
def A47 (t:Int×(List A1)) (p:A1) (i:Int):Option (Int⊕Int):=
 jn (fun A:Bool=>
 (if A=true then
 some (.inr (w64 (i+1)))
 else
 some (.inl i))) (fun u=>
 (if (decide (i<(t.2.length:Int)))=true then
 (idx t.2 i).bind fun _=>
 (idx t.2 i).bind fun s=>
 u (!(((s.fPrefix.fAddr.fV6==p.fPrefix.fAddr.fV6)&&((s.fPrefix.fAddr.fHi==p.fPrefix.fAddr.fHi)&&((s.fPrefix.fAddr.fLo==p.fPrefix.fAddr.fLo)&&true)))&&((s.fPrefix.fLen==p.fPrefix.fLen)&&true)))
 else
 u false))
def A1q (u:(List A1)) (i:Int×(List A1)):Option (List A1⊕(Int×(List A1))):=
 (if (decide (i.1<(u.length:Int)))=true then
 (idx u i.1).bind fun p=>
 (loop (A47 i p) 0).bind fun s=>
 jn (fun t:(List A1)=>
 (idx t s).bind fun _=>
 (idx t s).bind fun _=>
 some (.inr (w64 (i.1+1),t.set s.toNat p))) (fun A=>
 (if (s==(i.2.length:Int))=true then
 chk (decide ((i.2++[p]).length≤LIM))<|
 A (i.2++[p])
 else
 A i.2))
 else
 some (.inl i.2))
def A3c (a0:C3) (a1:(List A1)):Option (C3×Int):=
 (A0f a0).bind fun p=>
 (if (!p)=true then
 some (C3.mk ([]:List A1) (D9.mk 0 0 0),1)
 else
 (loop (A1p a1) 0).bind fun s=>match s with
 | (.inl _)=>
  some (C3.mk ([]:List A1) (D9.mk 0 0 0),1)
 | (.inr _)=>
  (A2q a0.fPending).bind fun t=>
  (T1 a1).bind fun u=>
  (loop (A1q u) (0,t)).bind fun i=>
  (if (decide (4096<(i.length:Int)))=true then
  some (C3.mk ([]:List A1) (D9.mk 0 0 0),3)
  else
  some (C3.mk i a0.fBucket,0)))
theorem A8w (a0:C3) (a1:(List A1)) (r:C3×Int) (h:A3c a0 a1=some r):AC Tryz.prog 17 [.d (D4 a0),.d (.list 22 (a1.map A8))] [] (.tup [.d (D4 r.1),.d (.int .i64 r.2)]) []:=by
 refine ac2 Tryz.func17 rfl rfl fun B hB hN L => ?_;delta A3c at h;refine sr (SQ tt) ?_;apply seq;obtain⟨W,X,h⟩:=bindS h;refine sr (SQ (fa (cl [] (A2p a0 W X)) tt)) ?_;apply AWp.cond rfl<;>intro M
 ·have h:=A5 M h;refine sr (SQ tt) ?_;apply ret;apply B8;obtain rfl:=oi h;exact rt (Mat.trans (Mat.coeP (Ts:=[]) (Bs:=[(1004,bd 26 (.st Zz5))]) TwT.nil (TwB.cons (x:=(.st Zz8)) (by rfl) (Tw.leaf ⟨_,Co.st (CoL.cons (Co.nils 22) (CoL.cons (Co.d _) CoL.nil)),rfl⟩) TwB.nil)) (mp [] [(4,pt 1004),(5,i6 1)] [(1004,bd 26 (.st Zz5))] hB)) [.d (.st Zz5),i6 1] (Res.cell (c:=(.d (.st Zz5))) (by rfl) (by rfl) tyS26 (by rfl) (by rfl) (by rfl) (rT rN)) rfl
 ·have h:=A6 M h;apply AWp.skip;apply A0;apply seq;refine sr (SQ tt) ?_;apply block;obtain⟨Y,Z,h⟩:=bindS h;refine lg (A1p a1) (fun I:Int=>([(1,A4 a1),(2,pt 1002),(4,pt 1004),(16,A4 a1),(17,i6 (a1.length:Int)),(18,i6 I)]:EL)) (fun I:Int=>([(1002,bd 26 (D4 a0)),(1004,some (.box 26 (.st Zz8)))]:OL)) (fun(x:(Unit)⊕Unit) e s t=>match x with | (.inl _p)=>e = .ret∧Mat B s t ([(4,pt 1004),(5,i6 1)]:EL) ([(1004,some (.box 26 (.st Zz8)))]:OL) | (.inr _p)=>e = .exit 0∧Mat B s t ([(1,A4 a1),(2,pt 1002),(4,pt 1004)]:EL) ([(1002,bd 26 (D4 a0)),(1004,some (.box 26 (.st Zz8)))]:OL)) Z (mp [] _ _ hB) (fun I y h => ?_) (fun e s t hR => ?_)
  ·unfold A1p at h;refine sr (SQ tt) ?_;apply seq;apply AWp.cond rfl<;>intro N
   ·have h:=A5 N h;apply AWp.skip;apply A0;apply seq;apply block;obtain⟨aa,ab,h⟩:=bindS h;refine sr (SQ (fa ab tt)) ?_;obtain⟨ac,ae,h⟩:=bindS h;refine sr (SQ (fa (cl [] (A1o aa ac ae)) tt)) ?_;apply AWp.cond rfl<;>intro O
    ·have h:=A5 O h;refine sr (SQ tt) ?_;apply ret;apply D8;apply B8;obtain rfl:=oi h;exact⟨nofun,rfl,mp [] _ _ hB⟩
    ·have h:=A6 O h;apply AWp.skip;apply D7;apply A0;refine rg (SQ tt) ?_;obtain rfl:=oi h;exact⟨rfl,mp [] _ _ hB⟩
   ·have h:=A6 N h;apply AWp.exit;apply D6;obtain rfl:=oi h;exact⟨nofun,rfl,mp [] _ _ hB⟩
  ·rcases Y with _ | _
   ·obtain⟨rfl,u⟩:=hR;apply D8;apply B8;obtain rfl:=oi h;exact rt (Mat.trans u (Mat.trans (Mat.coeP (Ts:=[]) (Bs:=[(1004,bd 26 (.st Zz5))]) TwT.nil (TwB.cons (x:=(.st Zz8)) (by rfl) (Tw.leaf ⟨_,Co.st (CoL.cons (Co.nils 22) (CoL.cons (Co.d _) CoL.nil)),rfl⟩) TwB.nil)) (mp [] [(4,pt 1004),(5,i6 1)] [(1004,bd 26 (.st Zz5))] hB))) [.d (.st Zz5),i6 1] (Res.cell (c:=(.d (.st Zz5))) (by rfl) (by rfl) tyS26 (by rfl) (by rfl) (by rfl) (rT rN)) rfl
   ·obtain⟨rfl,u⟩:=hR;apply B9;apply A0;refine ghost u ?_;apply seq;obtain⟨J,af,h⟩:=bindS h;refine drS (SQ (fa (cl [(900000,100200)] (A9r a0.fPending J af)) tt)) ?_;apply A0;refine ghost (mp [] [(1,A4 a1),(4,pt 1004),(8,pt 1008)] [(1004,some (.box 26 (.st Zz8))),(1008,some (.box 26 (.st [.sref 100200 22 0 J.length,.d (C1 a0.fBucket)]))),(100200,some (B3 J))] hB) ?_;apply seq;obtain⟨p,ag,h⟩:=bindS h;refine sr (SQ (fa (cl [] (A27 a1 p ag)) tt)) ?_;apply block;obtain⟨A,ah,h⟩:=bindS h;refine lg (A1q p) (fun i:Int×(List A1)=>([(4,pt 1004),(8,pt 1008),(34,A4 p),(35,i6 (p.length:Int)),(36,i6 i.1)]:EL)) (fun i:Int×(List A1)=>([(1004,some (.box 26 (.st Zz8))),(1008,some (.box 26 (.st [.sref 13080 22 0 i.2.length,.d (C1 a0.fBucket)]))),(13080,some (B3 i.2))]:OL)) (fun(A:(List A1)) e s t=>e = .exit 2∧Mat B s t ([(4,pt 1004),(8,pt 1008)]:EL) ([(1004,some (.box 26 (.st Zz8))),(1008,some (.box 26 (.st [.sref 13080 22 0 A.length,.d (C1 a0.fBucket)]))),(13080,some (B3 A))]:OL)) ah (mp [(13080,100200)] _ _ hB) (fun i y h => ?_) (fun e s t hR => ?_)
    ·unfold A1q at h;refine sr (SQ tt) ?_;apply seq;apply AWp.cond rfl<;>intro P
     ·have h:=A5 P h;apply AWp.skip;apply A0;apply seq;apply block;obtain⟨C,ai,h⟩:=bindS h;refine sr (SQ (fa ai tt)) ?_;refine sr (SQ tt) ?_;apply seq;apply block;obtain⟨F,aj,h⟩:=bindS h;refine lg (A47 i C) (fun G:Int=>([(4,pt 1004),(8,pt 1008),(10,pt 1010),(11,i6 G),(34,A4 p),(35,i6 (p.length:Int)),(36,i6 i.1)]:EL)) (fun G:Int=>([(1004,some (.box 26 (.st Zz8))),(1008,some (.box 26 (.st [.sref 13080 22 0 i.2.length,.d (C1 a0.fBucket)]))),(1010,bd 43 (A8 C)),(13080,some (B3 i.2))]:OL)) (fun(F:(Int)) e s t=>e = .exit 4∧Mat B s t ([(4,pt 1004),(8,pt 1008),(10,pt 1010),(11,i6 F),(34,A4 p),(35,i6 (p.length:Int)),(36,i6 i.1)]:EL) ([(1004,some (.box 26 (.st Zz8))),(1008,some (.box 26 (.st [.sref 13080 22 0 i.2.length,.d (C1 a0.fBucket)]))),(1010,bd 43 (A8 C)),(13080,some (B3 i.2))]:OL)) aj (mp [] _ _ hB) (fun G y h => ?_) (fun e s t hR => ?_)
      ·unfold A47 at h;apply seq;apply seq;refine AWp.cut h (fun K:Bool=>([(4,pt 1004),(8,pt 1008),(10,pt 1010),(11,i6 G),(34,A4 p),(35,i6 (p.length:Int)),(36,i6 i.1),(55,bo K)]:EL)) (fun K:Bool=>([(1004,some (.box 26 (.st Zz8))),(1008,some (.box 26 (.st [.sref 13080 22 0 i.2.length,.d (C1 a0.fBucket)]))),(1010,bd 43 (A8 C)),(13080,some (B3 i.2))]:OL)) (fun K h s t u => ?_) (fun ap Q h => ?_)
       ·apply A0;refine ghost u ?_;apply AWp.cond rfl<;>intro R
        ·have h:=A5 R h;apply AWp.skip;apply A0;apply block;refine rg (SQ tt) ?_;apply D7;obtain rfl:=oi h;exact⟨rfl,mp [] _ _ hB⟩
        ·have h:=A6 R h;apply AWp.exit;apply D6;obtain rfl:=oi h;exact⟨nofun,rfl,mp [] _ _ hB⟩
       ·rcases bft (decide (G<(i.2.length:Int))) with H | H
        ·have h:=A5 H h;obtain⟨_,ak,h⟩:=bindS h;obtain⟨_,al,h⟩:=bindS h;refine drS (SQ (fa H (fa ak (fa al tt)))) ?_;exact Q _ h _ _ (mp [] _ _ hB)
        ·have h:=A6 H h;refine drS (SQ (fa H tt)) ?_;exact Q _ h _ _ (mp [] _ _ hB)
      ·obtain⟨rfl,u⟩:=hR;apply B9;apply A0;refine ghost u ?_;apply seq;refine sr (SQ tt) ?_;refine gh [(4,_),(8,_),(10,_),(11,_),(34,_),(35,_),(36,_),(62,_)] [(1004,some _),(1008,some _),(1010,some _),(13080,some _)] hB rfl rfl (by rfl) ?_;refine AWp.cut h (fun E:(List A1)=>([(4,pt 1004),(8,pt 1008),(10,pt 1010),(11,i6 F),(34,A4 p),(35,i6 (p.length:Int)),(36,i6 i.1)]:EL)) (fun E:(List A1)=>([(1004,some (.box 26 (.st Zz8))),(1008,some (.box 26 (.st [.sref 13080 22 0 E.length,.d (C1 a0.fBucket)]))),(1010,bd 43 (A8 C)),(13080,some (B3 E))]:OL)) (fun E h s t u => ?_) (fun aq S h => ?_)
       ·apply A0;refine ghost u ?_;obtain⟨_,am,h⟩:=bindS h;obtain⟨_,an,h⟩:=bindS h;refine rg (SQ (fa am (fa an (fa (sv C) tt)))) ?_;apply D7;apply A0;refine rg (SQ tt) ?_;obtain rfl:=oi h;exact⟨rfl,Mat.trans (mp [] [(4,pt 1004),(8,pt 1008),(34,A4 p),(35,i6 (p.length:Int)),(36,i6 (w64 (i.1+1)))] [(1004,some (.box 26 (.st Zz8))),(1008,some (.box 26 (.st [.sref 13080 22 0 E.length,.d (C1 a0.fBucket)]))),(13080,some (B3 (E.set F.toNat C)))] hB) (Mat.trans (Mat.lenP (Ts:=[]) (Bs:=[(1008,some (.box 26 (.st [.sref 13080 22 0 ((E.set F.toNat C).length),.d (C1 a0.fBucket)])))]) TwT.nil (TwB.cons (x:=(.st [.sref 13080 22 0 E.length,.d (C1 a0.fBucket)])) (by rfl) (Tw.st (TwL.cons (Tw.leaf ⟨_,_,_,_,_,rfl,rfl,(by first | rfl | (simp;done) | (simp;omega) | omega)⟩) (TwL.cons (Tw.same _) TwL.nil))) TwB.nil)) (mp [] _ _ hB))⟩
       ·apply AWp.cond rfl<;>intro T
        ·have h:=A5 T h;obtain⟨ao,h⟩:=B2 h;refine rg (SQ (fa ao tt)) ?_;exact S _ h _ _ (mp [(13080,1067)] _ _ hB)
        ·have h:=A6 T h;apply AWp.skip;exact S _ h _ _ (mp [] _ _ hB)
     ·have h:=A6 P h;apply AWp.exit;apply D6;obtain rfl:=oi h;exact⟨nofun,rfl,mp [] _ _ hB⟩
    ·obtain⟨rfl,u⟩:=hR;apply B9;apply A0;refine ghost u ?_;apply seq;refine sr (SQ tt) ?_;apply AWp.cond rfl<;>intro U
     ·have h:=A5 U h;refine sr (SQ tt) ?_;apply ret;apply B8;obtain rfl:=oi h;exact rt (Mat.trans (Mat.coeP (Ts:=[]) (Bs:=[(1004,bd 26 (.st Zz5))]) TwT.nil (TwB.cons (x:=(.st Zz8)) (by rfl) (Tw.leaf ⟨_,Co.st (CoL.cons (Co.nils 22) (CoL.cons (Co.d _) CoL.nil)),rfl⟩) TwB.nil)) (mp [] [(4,pt 1004),(5,i6 3)] [(1004,bd 26 (.st Zz5))] hB)) [.d (.st Zz5),i6 3] (Res.cell (c:=(.d (.st Zz5))) (by rfl) (by rfl) tyS26 (by rfl) (by rfl) (by rfl) (rT rN)) rfl
     ·have h:=A6 U h;apply AWp.skip;apply A0;refine sr (SQ tt) ?_;apply ret;obtain rfl:=oi h;exact rt (Mat.trans (Mat.freezeP (n:=13080) (e:=43) (sz:=22) (es:=A.map A8) (Ts:=[]) (Bs:=[(1004,some (.box 26 (.st [A4 A,.d (C1 a0.fBucket)])))]) (by rfl) TwT.nil (TwB.cons (x:=(.st [.sref 13080 22 0 A.length,.d (C1 a0.fBucket)])) (by rfl) (Tw.st (TwL.cons (FrzL.all (by first | rfl | (simp;done) | (simp;omega) | omega)) (TwL.cons (Tw.same _) TwL.nil))) TwB.nil)) (Mat.trans (Mat.coeP (Ts:=[]) (Bs:=[(1004,bd 26 (.st [.list 22 (A.map A8),C1 a0.fBucket]))]) TwT.nil (TwB.cons (x:=(.st [A4 A,.d (C1 a0.fBucket)])) (by rfl) (Tw.leaf ⟨_,Co.st (CoL.cons (Co.d _) (CoL.cons (Co.d _) CoL.nil)),rfl⟩) TwB.nil)) (mp [] [(4,pt 1004),(5,i6 0)] [(1004,bd 26 (.st [.list 22 (A.map A8),C1 a0.fBucket]))] hB))) [.d (.st [.list 22 (A.map A8),C1 a0.fBucket]),i6 0] (Res.cell (c:=(.d (.st [.list 22 (A.map A8),C1 a0.fBucket]))) (by rfl) (by rfl) tyS26 (by rfl) (by rfl) (by rfl) (rT rN)) rfl
def H3 (a0:(List A7)) (a1:A7) (a2:A2) (a3:Bool):Option (List A7):=
 jn (fun _:Unit=>
 chk (decide ((a0++[a1]).length≤LIM))<|
 some (a0++[a1])) (fun s=>
 (if (!a3)=true then
 (idx a0 (w64 ((a0.length:Int)-1))).bind fun _=>
 (idx a0 (w64 ((a0.length:Int)-1))).bind fun i=>
 chk (decide (i.fWithdraw.length≤LIM))<|
 chk (decide (i.fAnnounce.length≤LIM))<|
 jn (fun p:(List A2)×(List A2)=>
 (Q1 (A7.mk p.2 i.fAttrs p.1)).bind fun u=>
 (if u=true then
 (idx a0 (w64 ((a0.length:Int)-1))).bind fun _=>
 (idx a0 (w64 ((a0.length:Int)-1))).bind fun _=>
 some (a0.set (w64 ((a0.length:Int)-1)).toNat (A7.mk p.2 i.fAttrs p.1))
 else
 s ())) (fun t=>
 (if (decide (0<(i.fWithdraw.length:Int)))=true then
 chk (decide ((i.fWithdraw++[a2]).length≤LIM))<|
 t (i.fAnnounce,(i.fWithdraw++[a2]))
 else
 chk (decide ((i.fAnnounce++[a2]).length≤LIM))<|
 t ((i.fAnnounce++[a2]),i.fWithdraw)))
 else
 s ()))
theorem A64 (a0:(List A7)) (a1:A7) (a2:A2) (a3:Bool) (r:(List A7)) (h:H3 a0 a1 a2 a3=some r):AC Tryz.prog 81 [.sref 0 13 0 a0.length,.d (E6 a1),.d (B0 a2),.d (.bool a3)] [(0,.row 71 13 (a0.map E6))] (.sref 900000 13 0 r.length) [(0,none),(900000,some (.row 71 13 (r.map E6)))]:=by
 refine ac2 Tryz.func81 rfl rfl fun B hB hN L => ?_;delta H3 at h;refine sr (SQ tt) ?_;apply seq;refine sr (SQ tt) ?_;refine gh [(0,_),(5,_),(6,_),(11,_)] [(0,some _),(1005,some _),(1006,some _)] hB rfl rfl (by rfl) ?_;refine AWp.cut h (fun _:Unit=>([(0,.sref 0 13 0 a0.length),(5,pt 1005)]:EL)) (fun _:Unit=>([(0,some (C4 a0)),(1005,bd 71 (E6 a1))]:OL)) (fun _m h M N s => ?_) (fun T t h => ?_)
 ·apply A0;refine ghost s ?_;obtain⟨u,h⟩:=B2 h;have hc20_o:=u;simp only [decide_eq_true_eq] at hc20_o;refine sr (SQ (fa u tt)) ?_;apply ret;obtain rfl:=oi h;exact rt (mp [(900000,1054)] [(8,.sref 900000 13 0 ((a0++[a1]).length))] [(900000,some (C4 (a0++[a1])))] hB) [.sref 900000 13 0 ((a0++[a1]).length)] (rT rN) rfl
 ·apply AWp.cond rfl<;>intro A
  ·have h:=A5 A h;obtain⟨_,O,h⟩:=bindS h;obtain⟨p,P,h⟩:=bindS h;refine sr (SQ (fa O (fa P tt))) ?_;obtain⟨C,h⟩:=B2 h;have hc24_o:=C;simp only [decide_eq_true_eq] at hc24_o;obtain⟨E,h⟩:=B2 h;have hc25_o:=E;simp only [decide_eq_true_eq] at hc25_o;refine sdS (SQ (fa C (fa E tt))) ?_;apply seq;refine sr (SQ tt) ?_;refine gh [(0,_),(5,_),(6,_),(9,_),(29,_)] [(0,some _),(1005,some _),(1006,some _),(1009,some _),(1020,some _),(1023,some _)] hB rfl rfl (by rfl) ?_;refine AWp.cut h (fun i:(List A2)×(List A2)=>([(0,.sref 0 13 0 a0.length),(5,pt 1005),(9,pt 1009)]:EL)) (fun i:(List A2)×(List A2)=>([(0,some (C4 a0)),(1005,bd 71 (E6 a1)),(1009,some (.box 71 (.st [.sref 13090 4 0 i.2.length,.d (C8 p.fAttrs),.sref 13092 4 0 i.1.length]))),(13090,some (G0 i.2)),(13092,some (G0 i.1))]:OL)) (fun i h M N s => ?_) (fun U F h => ?_)
   ·apply A0;refine ghost s ?_;apply seq;refine ghost (Mat.freezeP (n:=13090) (e:=33) (sz:=4) (es:=i.2.map B0) (Ts:=[]) (Bs:=[(1009,some (.box 71 (.st [F8 i.2,.d (C8 p.fAttrs),.sref 13092 4 0 i.1.length])))]) (by rfl) TwT.nil (TwB.cons (x:=(.st [.sref 13090 4 0 i.2.length,.d (C8 p.fAttrs),.sref 13092 4 0 i.1.length])) (by rfl) (Tw.st (TwL.cons (FrzL.all (by first | rfl | (simp;done) | (simp;omega) | omega)) (TwL.cons (Tw.same _) (TwL.cons (Tw.same _) TwL.nil)))) TwB.nil)) ?_
    refine ghost (Mat.freezeP (n:=13092) (e:=33) (sz:=4) (es:=i.1.map B0) (Ts:=[]) (Bs:=[(1009,some (.box 71 (.st [F8 i.2,.d (C8 p.fAttrs),F8 i.1])))]) (by rfl) TwT.nil (TwB.cons (x:=(.st [F8 i.2,.d (C8 p.fAttrs),.sref 13092 4 0 i.1.length])) (by rfl) (Tw.st (TwL.cons (Tw.same _) (TwL.cons (Tw.same _) (TwL.cons (FrzL.all (by first | rfl | (simp;done) | (simp;omega) | omega)) TwL.nil)))) TwB.nil)) ?_
    obtain⟨Q,R,h⟩:=bindS h;refine rg (SQ (fa (cl [] (A7z (A7.mk i.2 p.fAttrs i.1) Q R)) tt)) ?_;apply A0;apply AWp.cond rfl<;>intro G
    ·have h:=A5 G h;obtain⟨_,H,h⟩:=bindS h;obtain⟨_,S,h⟩:=bindS h;apply sr (c (mv hN (q 0)) rfl (c (mv hN (q 0)) rfl (c (lenS underlying57 (L rfl) (q 45)) rfl (c (sub6 (L rfl) (q 46) (ii 1)) rfl (c (lb hN 71 _ _ tyS71 (At.here _) (q 9)) rfl (c (OpJ.val (v':=(.ptr 0 ((w64 ((a0.length:Int)-1)).toNat*13) [(w64 ((a0.length:Int)-1)).toNat])) (by simp) (indexS underlying57 tyS71 (G3 H).1 (by have:=B52 H;first | (simpa using this) | ((try simp only [List.length_map] at this);(try simp only [List.length_map]);omega)) (L rfl) (q 44) (q 47))) rfl (cg (OpJ.storeR (e:=71) (sz:=13) (es':=(a0.set (w64 ((a0.length:Int)-1)).toNat (A7.mk i.2 p.fAttrs i.1)).map E6) tyS71 (X8 E6 (G3 S).2) (o:=0) (SetAt.here _ _) (by rfl) (B22 _ _ _ _) (by rfl) (by rfl) (q 49) (Opd.co (Co.st (CoL.cons (Co.d _) (CoL.cons (Co.d _) (CoL.cons (Co.d _) CoL.nil)))) (q 48))) rfl cn)))))))
     refine sr (SQ tt) ?_;apply ret;apply B8;obtain rfl:=oi h;exact rt (Mat.trans (Mat.lenP (Ts:=[(8,.sref 0 13 0 ((a0.set (w64 ((a0.length:Int)-1)).toNat (A7.mk i.2 p.fAttrs i.1)).length))]) (Bs:=[]) (TwT.cons (x:=(.sref 0 13 0 a0.length)) (by rfl) (Tw.leaf ⟨_,_,_,_,_,rfl,rfl,(by first | rfl | (simp;done) | (simp;omega) | omega)⟩) TwT.nil) TwB.nil) (mp [(900000,0)] [(8,.sref 900000 13 0 ((a0.set (w64 ((a0.length:Int)-1)).toNat (A7.mk i.2 p.fAttrs i.1)).length))] [(900000,some (C4 (a0.set (w64 ((a0.length:Int)-1)).toNat (A7.mk i.2 p.fAttrs i.1))))] hB)) [.sref 900000 13 0 ((a0.set (w64 ((a0.length:Int)-1)).toNat (A7.mk i.2 p.fAttrs i.1)).length)] (rT rN) rfl
    ·have h:=A6 G h;apply AWp.skip;exact t _ h _ _ (mp [] _ _ hB)
   ·apply AWp.cond rfl<;>intro I
    ·have h:=A5 I h;obtain⟨J,h⟩:=B2 h;have hc36_o:=J;simp only [decide_eq_true_eq] at hc36_o;refine rg (SQ (fa J tt)) ?_;exact F _ h _ _ (mp [(13090,1034),(13092,1023)] _ _ hB)
    ·have h:=A6 I h;obtain⟨K,h⟩:=B2 h;have hc37_o:=K;simp only [decide_eq_true_eq] at hc37_o;refine rg (SQ (fa K tt)) ?_;exact F _ h _ _ (mp [(13090,1020),(13092,1040)] _ _ hB)
  ·have h:=A6 A h;apply AWp.skip;exact t _ h _ _ (mp [] _ _ hB)
def Z5 (a0:(List A1)) (i:Int):Option ((Unit⊕Unit)⊕Int):=
 (if (decide (i<(a0.length:Int)))=true then
 (idx a0 i).bind fun s=>
 jn (fun t:Bool=>
 (if t=true then
 some (.inl (.inl ()))
 else
 some (.inr (w64 (i+1))))) (fun p=>
 (A1n s).bind fun u=>
 (if (!u)=true then
 p true
 else
 (if (decide (0<i))=true then
 (idx a0 (w64 (i-1))).bind fun A=>
 (A30 A.fPrefix s.fPrefix).bind fun C=>
 p (decide (0≤C))
 else
 p false)))
 else
 some (.inl (.inr ())))
def Z6 (a0:(List A1)) (i:Int×(List A7)):Option (List A7⊕(Int×(List A7))):=
 (if (decide (i.1<(a0.length:Int)))=true then
 (idx a0 i.1).bind fun p=>
 jn (fun t:(List A7)=>
 some (.inr (w64 (i.1+1),t))) (fun s=>
 (if (!p.fHas)=true then
 (A23).bind fun u=>
 (H3 i.2 (A7.mk [p.fPrefix] u ([]:List A2)) p.fPrefix ((i.2.length:Int)==0)).bind fun A=>
 s A
 else
 s i.2))
 else
 some (.inl i.2))
def Z7 (a0:(List A1)) (A:A1) (i:Bool×Int×(List Bool)×(List A7)):Option (((List Bool)×(List A7))⊕(Bool×Int×(List Bool)×(List A7))):=
 (if (decide (i.2.1<(a0.length:Int)))=true then
 (idx a0 i.2.1).bind fun p=>
 jn (fun C:Bool=>
 jn (fun s:Bool×(List Bool)×(List A7)=>
 some (.inr (s.1,w64 (i.2.1+1),s.2.1,s.2.2))) (fun t=>
 (if C=true then
 (L2 p.fRoute.fAttrs).bind fun E=>
 (H3 i.2.2.2 (A7.mk ([]:List A2) E [p.fPrefix]) p.fPrefix i.1).bind fun F=>
 (idx i.2.2.1 i.2.1).bind fun _=>
 (idx i.2.2.1 i.2.1).bind fun _=>
 t (false,i.2.2.1.set i.2.1.toNat true,F)
 else
 t (i.1,i.2.2.1,i.2.2.2)))) (fun u=>
 (if p.fHas=true then
 (J8 p.fRoute.fAttrs A.fRoute.fAttrs).bind fun G=>
 u G
 else
 u false))
 else
 some (.inl (i.2.2.1,i.2.2.2)))
def A1r (a0:(List A1)) (i:Int×(List Bool)×(List A7)):Option (List A7⊕(Int×(List Bool)×(List A7))):=
 (if (decide (i.1<(a0.length:Int)))=true then
 jn (fun p:(List Bool)×(List A7)=>
 some (.inr (w64 (i.1+1),p.1,p.2))) (fun s=>
 (idx a0 i.1).bind fun t=>
 jn (fun C:Bool=>
 (if C=true then
 s (i.2.1,i.2.2)
 else
 (loop (Z7 a0 t) (true,i.1,i.2.1,i.2.2)).bind fun u=>
 s (u.1,u.2))) (fun A=>
 (if (!t.fHas)=true then
 A true
 else
 (idx i.2.1 i.1).bind fun _=>
 (idx i.2.1 i.1).bind fun E=>
 A E)))
 else
 some (.inl i.2.2))
def A52 (a0:(List A1)):Option ((List A7)×Int):=
 (loop (Z5 a0) 0).bind fun i=>match i with
 | (.inl _)=>
  some (([]:List A7),1)
 | (.inr _)=>
  (loop (Z6 a0) (0,([]:List A7))).bind fun p=>
  chk (decide (0≤(a0.length:Int))&&decide ((a0.length:Int)≤(a0.length:Int))&&decide ((a0.length:Int)≤(LIM:Int)))<|
  (loop (A1r a0) (0,List.replicate (a0.length:Int).toNat false,p)).bind fun s=>
  some (s,0)
theorem B3b (a0:(List A1)) (r:(List A7)×Int) (h:A52 a0=some r):AC Tryz.prog 52 [.d (.list 22 (a0.map A8))] [] (.tup [.d (.list 13 (r.1.map E6)),.d (.int .i64 r.2)]) []:=by
 refine ac2 Tryz.func52 rfl rfl fun B hB hN L => ?_;delta A52 at h;refine sr (SQ tt) ?_;apply seq;refine sr (SQ tt) ?_;apply block;obtain⟨ar,au,h⟩:=bindS h;refine lg (Z5 a0) (fun J:Int=>([(0,A4 a0),(15,A4 a0),(16,i6 (a0.length:Int)),(17,i6 J)]:EL)) (fun J:Int=>([]:OL)) (fun(x:(Unit)⊕Unit) e t u=>match x with | (.inl _p)=>e = .ret∧Mat B t u ([(2,.nils),(3,i6 1)]:EL) ([]:OL) | (.inr _p)=>e = .exit 0∧Mat B t u ([(0,A4 a0)]:EL) ([]:OL)) au (mp [] _ _ hB) (fun J y h => ?_) (fun e t u hR => ?_)
 ·unfold Z5 at h;refine sr (SQ tt) ?_;apply seq;apply AWp.cond rfl<;>intro aa
  ·have h:=A5 aa h;apply AWp.skip;apply A0;apply seq;apply block;obtain⟨Q,av,h⟩:=bindS h;refine sr (SQ (fa av tt)) ?_;apply seq;refine AWp.cut h (fun T:Bool=>([(0,A4 a0),(15,A4 a0),(16,i6 (a0.length:Int)),(17,i6 J),(40,bo T)]:EL)) (fun T:Bool=>([]:OL)) (fun T h t u p => ?_) (fun bp U h => ?_)
   ·apply A0;refine ghost p ?_;apply AWp.cond rfl<;>intro ab
    ·have h:=A5 ab h;refine sr (SQ tt) ?_;apply ret;apply D8;apply B8;obtain rfl:=oi h;exact⟨nofun,rfl,mp [] _ _ hB⟩
    ·have h:=A6 ab h;apply AWp.skip;apply D7;apply A0;refine rg (SQ tt) ?_;obtain rfl:=oi h;exact⟨rfl,mp [] _ _ hB⟩
   ·obtain⟨R,W,h⟩:=bindS h;rcases bft (!R) with G | G
    ·have h:=A5 G h;refine drS (SQ (fa (cl [] (A1o Q R W)) (fa G tt))) ?_;exact U _ h _ _ (mp [] _ _ hB)
    ·have h:=A6 G h;rcases bft (decide (0<J)) with K | K
     ·have h:=A5 K h;obtain⟨aw,ax,h⟩:=bindS h;obtain⟨ay,az,h⟩:=bindS h;refine drS (SQ (fa (cl [] (A1o Q R W)) (fa G (fa K (fa ax (fa (cl [] (A6y aw.fPrefix Q.fPrefix ay az)) tt)))))) ?_;exact U _ h _ _ (mp [] _ _ hB)
     ·have h:=A6 K h;refine drS (SQ (fa (cl [] (A1o Q R W)) (fa G (fa K tt)))) ?_;exact U _ h _ _ (mp [] _ _ hB)
  ·have h:=A6 aa h;apply AWp.exit;apply D6;obtain rfl:=oi h;exact⟨nofun,rfl,mp [] _ _ hB⟩
 ·rcases ar with _ | _
  ·obtain⟨rfl,p⟩:=hR;apply D8;apply B8;obtain rfl:=oi h;exact rt (Mat.trans p (Mat.trans (Mat.coeP (Ts:=[(2,D1 ([]:List A7))]) (Bs:=[]) (TwT.cons (x:=.nils) (by rfl) (Tw.leaf ⟨_,Co.nils 13,rfl⟩) TwT.nil) TwB.nil) (mp [] [(2,D1 ([]:List A7)),(3,i6 1)] [] hB))) [D1 ([]:List A7),i6 1] (rT (rT rN)) rfl
  ·obtain⟨rfl,p⟩:=hR;apply B9;apply A0;refine ghost p ?_;refine sr (SQ tt) ?_;apply seq;refine sr (SQ tt) ?_;apply block;obtain⟨X,a5,h⟩:=bindS h;refine lg (Z6 a0) (fun C:Int×(List A7)=>([(0,A4 a0),(6,.sref 3006 13 0 C.2.length),(42,A4 a0),(43,i6 (a0.length:Int)),(44,i6 C.1)]:EL)) (fun C:Int×(List A7)=>([(3006,some (C4 C.2))]:OL)) (fun(X:(List A7)) e t u=>e = .exit 2∧Mat B t u ([(0,A4 a0),(6,.sref 3006 13 0 X.length)]:EL) ([(3006,some (C4 X))]:OL)) a5 (Mat.trans (Mat.beginP (n:=3006) (e:=71) (sz:=13) (Ts:=[(6,.sref 3006 13 0 0)]) (Bs:=[]) hB (by decide) (by rfl) (by decide) (TwT.cons (x:=.nils) (by rfl) (Tw.leaf ⟨rfl,rfl⟩) TwT.nil) TwB.nil) (mp [] _ _ hB)) (fun C y h => ?_) (fun e t u hR => ?_)
   ·unfold Z6 at h;refine sr (SQ tt) ?_;apply seq;apply AWp.cond rfl<;>intro ac
    ·have h:=A5 ac h;apply AWp.skip;apply A0;apply seq;apply block;obtain⟨ae,a6,h⟩:=bindS h;refine sr (SQ (fa a6 tt)) ?_;refine sr (SQ tt) ?_;refine gh [(0,_),(6,_),(8,_),(42,_),(43,_),(44,_),(50,_)] [(1008,some _),(3006,some _)] hB rfl rfl (by rfl) ?_;refine AWp.cut h (fun S:(List A7)=>([(0,A4 a0),(6,.sref 3006 13 0 S.length),(42,A4 a0),(43,i6 (a0.length:Int)),(44,i6 C.1)]:EL)) (fun S:(List A7)=>([(3006,some (C4 S))]:OL)) (fun S h t u p => ?_) (fun bq af h => ?_)
     ·apply D7;apply A0;refine ghost p ?_;refine rg (SQ tt) ?_;obtain rfl:=oi h;exact⟨rfl,mp [] _ _ hB⟩
     ·apply AWp.cond rfl<;>intro ag
      ·have h:=A5 ag h;obtain⟨ah,a7,h⟩:=bindS h;obtain⟨a8,a9,h⟩:=bindS h;refine drS (SQ (fa (cl [] (A5a  ah a7)) (fa (cl [(0,3006),(900000,100300)] (A64 C.2 (A7.mk [ae.fPrefix] ah ([]:List A2)) ae.fPrefix ((C.2.length:Int)==0) a8 a9)) tt))) ?_;exact af _ h _ _ (mp [(3006,100300)] _ _ hB)
      ·have h:=A6 ag h;apply AWp.skip;exact af _ h _ _ (mp [] _ _ hB)
    ·have h:=A6 ac h;apply AWp.exit;apply D6;obtain rfl:=oi h;exact⟨nofun,rfl,mp [] _ _ hB⟩
   ·obtain⟨rfl,p⟩:=hR;apply B9;apply A0;refine ghost p ?_;obtain⟨ba,h⟩:=B2 h;refine sr (SQ (fa ba tt)) ?_;apply seq;refine sr (SQ tt) ?_;apply block;obtain⟨E,bb,h⟩:=bindS h;refine lg (A1r a0) (fun s:Int×(List Bool)×(List A7)=>([(0,A4 a0),(6,.sref 3006 13 0 s.2.2.length),(9,.sref 1066 1 0 s.2.1.length),(67,A4 a0),(68,i6 (a0.length:Int)),(69,i6 s.1)]:EL)) (fun s:Int×(List Bool)×(List A7)=>([(1066,some (.row 4 1 (s.2.1.map eB))),(3006,some (C4 s.2.2))]:OL)) (fun(E:(List A7)) e t u=>e = .exit 4∧Mat B t u ([(6,.sref 3006 13 0 E.length)]:EL) ([(3006,some (C4 E))]:OL)) bb (mp [] _ _ hB) (fun s y h => ?_) (fun e t u hR => ?_)
    ·unfold A1r at h;refine sr (SQ tt) ?_;apply seq;apply AWp.cond rfl<;>intro ai
     ·have h:=A5 ai h;apply AWp.skip;apply A0;apply seq;refine AWp.cut h (fun H:(List Bool)×(List A7)=>([(0,A4 a0),(6,.sref 3006 13 0 H.2.length),(9,.sref 1066 1 0 H.1.length),(67,A4 a0),(68,i6 (a0.length:Int)),(69,i6 s.1)]:EL)) (fun H:(List Bool)×(List A7)=>([(1066,some (.row 4 1 (H.1.map eB))),(3006,some (C4 H.2))]:OL)) (fun H h t u p => ?_) (fun br aj h => ?_)
      ·apply A0;refine ghost p ?_;refine rg (SQ tt) ?_;obtain rfl:=oi h;exact⟨rfl,mp [] _ _ hB⟩
      ·apply block;obtain⟨A,bc,h⟩:=bindS h;refine sr (SQ (fa bc tt)) ?_;apply seq;apply seq;refine AWp.cut h (fun Y:Bool=>([(0,A4 a0),(6,.sref 3006 13 0 s.2.2.length),(9,.sref 1066 1 0 s.2.1.length),(10,i6 s.1),(11,pt 1011),(67,A4 a0),(68,i6 (a0.length:Int)),(69,i6 s.1),(82,bo Y)]:EL)) (fun Y:Bool=>([(1011,bd 43 (A8 A)),(1066,some (.row 4 1 (s.2.1.map eB))),(3006,some (C4 s.2.2))]:OL)) (fun Y h t u p => ?_) (fun bs ak h => ?_)
       ·apply A0;refine ghost p ?_;apply AWp.cond rfl<;>intro al
        ·have h:=A5 al h;apply AWp.exit;apply D6;apply B9;exact aj _ h _ _ (mp [] _ _ hB)
        ·have h:=A6 al h;apply AWp.skip;apply A0;refine sr (SQ tt) ?_;refine sr (SQ tt) ?_;apply block;obtain⟨M,be,h⟩:=bindS h;refine lg (Z7 a0 A) (fun i:Bool×Int×(List Bool)×(List A7)=>([(0,A4 a0),(6,.sref 3006 13 0 i.2.2.2.length),(9,.sref 1066 1 0 i.2.2.1.length),(11,pt 1011),(12,bo i.1),(13,i6 i.2.1),(67,A4 a0),(68,i6 (a0.length:Int)),(69,i6 s.1)]:EL)) (fun i:Bool×Int×(List Bool)×(List A7)=>([(1011,bd 43 (A8 A)),(1066,some (.row 4 1 (i.2.2.1.map eB))),(3006,some (C4 i.2.2.2))]:OL)) (fun(M:((List Bool)×(List A7))) e t u=>e = .exit 6∧Mat B t u ([(0,A4 a0),(6,.sref 3006 13 0 M.2.length),(9,.sref 1066 1 0 M.1.length),(67,A4 a0),(68,i6 (a0.length:Int)),(69,i6 s.1)]:EL) ([(1066,some (.row 4 1 (M.1.map eB))),(3006,some (C4 M.2))]:OL)) be (mp [] _ _ hB) (fun i y h => ?_) (fun e t u hR => ?_)
         ·unfold Z7 at h;apply seq;refine sr (SQ tt) ?_;apply AWp.cond rfl<;>intro am
          ·have h:=A5 am h;apply AWp.skip;apply A0;apply seq;apply block;obtain⟨I,bf,h⟩:=bindS h;refine sr (SQ (fa bf tt)) ?_;apply seq;refine AWp.cut h (fun Z:Bool=>([(0,A4 a0),(6,.sref 3006 13 0 i.2.2.2.length),(9,.sref 1066 1 0 i.2.2.1.length),(11,pt 1011),(12,bo i.1),(13,i6 i.2.1),(14,pt 1014),(67,A4 a0),(68,i6 (a0.length:Int)),(69,i6 s.1),(104,bo Z)]:EL)) (fun Z:Bool=>([(1011,bd 43 (A8 A)),(1014,bd 43 (A8 I)),(1066,some (.row 4 1 (i.2.2.1.map eB))),(3006,some (C4 i.2.2.2))]:OL)) (fun Z h t u p => ?_) (fun bu an h => ?_)
           ·apply A0;refine ghost p ?_;refine AWp.cut h (fun F:Bool×(List Bool)×(List A7)=>([(0,A4 a0),(6,.sref 3006 13 0 F.2.2.length),(9,.sref 1066 1 0 F.2.1.length),(11,pt 1011),(12,bo F.1),(13,i6 i.2.1),(67,A4 a0),(68,i6 (a0.length:Int)),(69,i6 s.1)]:EL)) (fun F:Bool×(List Bool)×(List A7)=>([(1011,bd 43 (A8 A)),(1066,some (.row 4 1 (F.2.1.map eB))),(3006,some (C4 F.2.2))]:OL)) (fun F h t u p => ?_) (fun bv ao h => ?_)
            ·apply D7;apply A0;refine ghost p ?_;refine rg (SQ tt) ?_;obtain rfl:=oi h;exact⟨rfl,mp [] _ _ hB⟩
            ·apply AWp.cond rfl<;>intro ap
             ·have h:=A5 ap h;apply seq;obtain⟨aq,bg,h⟩:=bindS h;obtain⟨N,bh,h⟩:=bindS h;refine drS (SQ (fa (cl [] (Y2 I.fRoute.fAttrs aq bg)) (fa (cl [(0,3006),(900000,100600)] (A64 i.2.2.2 (A7.mk ([]:List A2) aq [I.fPrefix]) I.fPrefix i.1 N bh)) tt))) ?_;apply A0;refine ghost (mp [] [(0,A4 a0),(6,.sref 100600 13 0 N.length),(9,.sref 1066 1 0 i.2.2.1.length),(11,pt 1011),(13,i6 i.2.1),(67,A4 a0),(68,i6 (a0.length:Int)),(69,i6 s.1)] [(1011,bd 43 (A8 A)),(1066,some (.row 4 1 (i.2.2.1.map eB))),(100600,some (C4 N))] hB) ?_;obtain⟨_,bi,h⟩:=bindS h;obtain⟨_,bj,h⟩:=bindS h;refine rg (SQ (fa bi (fa bj (fa (sv true) tt)))) ?_;exact ao _ h _ _ (Mat.trans (mp [] [(0,A4 a0),(6,.sref 100600 13 0 N.length),(9,.sref 1066 1 0 i.2.2.1.length),(11,pt 1011),(12,bo false),(13,i6 i.2.1),(67,A4 a0),(68,i6 (a0.length:Int)),(69,i6 s.1)] [(1011,bd 43 (A8 A)),(1066,some (.row 4 1 ((i.2.2.1.set i.2.1.toNat true).map eB))),(100600,some (C4 N))] hB) (Mat.trans (Mat.lenP (Ts:=[(9,.sref 1066 1 0 ((i.2.2.1.set i.2.1.toNat true).length))]) (Bs:=[]) (TwT.cons (x:=(.sref 1066 1 0 i.2.2.1.length)) (by rfl) (Tw.leaf ⟨_,_,_,_,_,rfl,rfl,(by first | rfl | (simp;done) | (simp;omega) | omega)⟩) TwT.nil) TwB.nil) (mp [(3006,100600)] _ _ hB)))
             ·have h:=A6 ap h;apply AWp.skip;exact ao _ h _ _ (mp [] _ _ hB)
           ·rcases bft I.fHas with O | O
            ·have h:=A5 O h;obtain⟨bk,bl,h⟩:=bindS h;refine rg (SQ (fa O (fa (cl [] (A2a I.fRoute.fAttrs A.fRoute.fAttrs bk bl)) tt))) ?_;exact an _ h _ _ (mp [] _ _ hB)
            ·have h:=A6 O h;refine rg (SQ (fa O tt)) ?_;exact an _ h _ _ (mp [] _ _ hB)
          ·have h:=A6 am h;apply AWp.exit;apply D6;obtain rfl:=oi h;exact⟨nofun,rfl,mp [] _ _ hB⟩
         ·obtain⟨rfl,p⟩:=hR;apply B9;apply D7;exact aj _ h _ _ (Mat.trans p (mp [] _ _ hB))
       ·rcases bft (!A.fHas) with P | P
        ·have h:=A5 P h;refine rg (SQ (fa P tt)) ?_;exact ak _ h _ _ (mp [] _ _ hB)
        ·have h:=A6 P h;obtain⟨_,bm,h⟩:=bindS h;obtain⟨_,bn,h⟩:=bindS h;refine rg (SQ (fa P (fa bm (fa bn tt)))) ?_;exact ak _ h _ _ (mp [] _ _ hB)
     ·have h:=A6 ai h;apply AWp.exit;apply D6;obtain rfl:=oi h;exact⟨nofun,rfl,mp [] _ _ hB⟩
    ·obtain⟨rfl,p⟩:=hR;apply B9;apply A0;refine ghost p ?_;refine sr (SQ tt) ?_;apply ret;obtain rfl:=oi h;exact rt (Mat.trans (Mat.freezeP (n:=3006) (e:=71) (sz:=13) (es:=E.map E6) (Ts:=[(2,D1 E)]) (Bs:=[]) (by rfl) (TwT.cons (x:=(.sref 3006 13 0 E.length)) (by rfl) (FrzL.all (by first | rfl | (simp;done) | (simp;omega) | omega)) TwT.nil) TwB.nil) (mp [] [(2,D1 E),(3,i6 0)] [] hB)) [D1 E,i6 0] (rT (rT rN)) rfl
def A6j (a0:D9):Option (D9×Bool):=
 (if (decide (a0.fLevel≤0))=true then
 some (a0,false)
 else
 some (D9.mk (w64 (a0.fLevel-1)) a0.fRate a0.fBurst,true))
theorem B3c (a0:D9) (r:D9×Bool) (h:A6j a0=some r):AC Tryz.prog 53 [.d (C1 a0)] [] (.tup [.d (C1 r.1),.d (.bool r.2)]) []:=by
 refine AC.of_code2 Tryz.func53 rfl rfl (Nat.le_of_ble_eq_true (by rfl)) fun B hB hN => ?_;delta A6j at h;refine sr (SQ tt) ?_;apply seq;refine sr (SQ tt) ?_;apply AWp.cond rfl<;>intro i
 ·have h:=A5 i h;refine sr (SQ tt) ?_;apply ret;apply B8;obtain rfl:=oi h;exact rt (kp [(2,_),(3,_)] [(1002,some _)] hB rfl rfl (by rfl)) [.d (C1 a0),bo false] (Res.cell (c:=(.d (C1 a0))) (by rfl) (by rfl) tyS24 (by rfl) (by rfl) (by rfl) (rT rN)) rfl
 ·have h:=A6 i h;apply AWp.skip;apply A0;refine sr (SQ tt) ?_;refine sr (SQ tt) ?_;apply ret;obtain rfl:=oi h;exact rt (kp [(2,_),(3,_)] [(1002,some _)] hB rfl rfl (by rfl)) [.d (.st [.int .i64 (w64 (a0.fLevel-1)),.int .i64 a0.fRate,.int .i64 a0.fBurst]),bo true] (Res.cell (c:=(.d (.st [.int .i64 (w64 (a0.fLevel-1)),.int .i64 a0.fRate,.int .i64 a0.fBurst]))) (by rfl) (by rfl) tyS24 (by rfl) (by rfl) (by rfl) (rT rN)) rfl
def A48 (p:Int×(List A1)) (t:A1) (i:Int):Option (Int⊕Int):=
 jn (fun u:Bool=>
 (if u=true then
 some (.inr (w64 (i-1)))
 else
 some (.inl i))) (fun s=>
 (if (decide (0<i))=true then
 (idx p.2 (w64 (i-1))).bind fun _=>
 (idx p.2 (w64 (i-1))).bind fun A=>
 (A30 A.fPrefix t.fPrefix).bind fun C=>
 s (decide (0<C))
 else
 s false))
def Z8 (t:(List A1)) (i:Int×(List A1)):Option (List A1⊕(Int×(List A1))):=
 (if (decide (i.1<(t.length:Int)))=true then
 (idx t i.1).bind fun s=>
 (loop (A48 i s) (i.2.length:Int)).bind fun p=>
 chk (decide (0≤p)&&decide (p.toNat≤i.2.length)&&decide (i.2.length≤i.2.length))<|
 chk (decide (p.toNat+(i.2.length-p.toNat)≤i.2.length))<|
 chk (decide (((i.2.drop p.toNat).take (i.2.length-p.toNat)).length≤LIM))<|
 chk (decide (0≤p)&&decide (0≤p.toNat)&&decide (p.toNat≤i.2.length))<|
 chk (decide (((i.2.take p.toNat)++[s]).length≤LIM))<|
 chk (decide ((((i.2.take p.toNat)++[s])++((i.2.drop p.toNat).take (i.2.length-p.toNat))).length≤LIM))<|
 some (.inr (w64 (i.1+1),(((i.2.take p.toNat)++[s])++((i.2.drop p.toNat).take (i.2.length-p.toNat)))))
 else
 some (.inl i.2))
def A1s (i:A7) (p:Int×(List (A2×Bool))):Option ((List (A2×Bool))⊕(Int×(List (A2×Bool)))):=
 (if (decide (p.1<((i.fWithdraw++i.fAnnounce).length:Int)))=true then
 (idx (i.fWithdraw++i.fAnnounce) p.1).bind fun _=>
 (idx (i.fWithdraw++i.fAnnounce) p.1).bind fun s=>
 some (.inr (w64 (p.1+1),mput keq33 p.2 s true))
 else
 some (.inl p.2))
def A1t (s:(List A7)×Int) (i:Int×(List (A2×Bool))×(List A7)×D9):Option (((List (A2×Bool))×(List A7)×D9)⊕(Int×(List (A2×Bool))×(List A7)×D9)):=
 (if (decide (i.1<(s.1.length:Int)))=true then
 (idx s.1 i.1).bind fun p=>
 (A6j i.2.2.2).bind fun t=>
 (if (!t.2)=true then
 some (.inl (i.2.1,i.2.2.1,i.2.2.2))
 else
 chk (decide ((i.2.2.1++[p]).length≤LIM))<|
 chk (decide (p.fWithdraw.length≤LIM))<|
 chk (decide ((p.fWithdraw++p.fAnnounce).length≤LIM))<|
 (loop (A1s p) (0,i.2.1)).bind fun u=>
 some (.inr (w64 (i.1+1),u,(i.2.2.1++[p]),t.1)))
 else
 some (.inl (i.2.1,i.2.2.1,i.2.2.2)))
def Z9 (u:(List (A2×Bool))×(List A7)×D9) (s:(List A1)) (i:Int×(List A1)):Option (List A1⊕(Int×(List A1))):=
 (if (decide (i.1<(s.length:Int)))=true then
 (idx s i.1).bind fun p=>
 jn (fun A:(List A1)=>
 some (.inr (w64 (i.1+1),A))) (fun t=>
 (if (!((mget keq33 u.1 p.fPrefix).getD false))=true then
 chk (decide ((i.2++[p]).length≤LIM))<|
 t (i.2++[p])
 else
 t i.2))
 else
 some (.inl i.2))
def A3d (a0:C3):Option (C3×(List A7)×Int):=
 (A0f a0).bind fun s=>
 (if (!s)=true then
 some (C3.mk ([]:List A1) (D9.mk 0 0 0),([]:List A7),1)
 else
 chk (decide (0≤(minI (a0.fPending.length:Int) 64))&&decide (0≤(minI (a0.fPending.length:Int) 64).toNat)&&decide ((minI (a0.fPending.length:Int) 64).toNat≤a0.fPending.length))<|
 (T1 ((a0.fPending.take ((minI (a0.fPending.length:Int) 64).toNat)).drop 0)).bind fun t=>
 (loop (Z8 t) (0,([]:List A1))).bind fun u=>
 (A52 u).bind fun i=>
 (if (i.2 != 0)=true then
 some (C3.mk ([]:List A1) (D9.mk 0 0 0),([]:List A7),i.2)
 else
 (loop (A1t i) (0,([]:List (A2×Bool)),([]:List A7),a0.fBucket)).bind fun p=>
 (T1 a0.fPending).bind fun A=>
 (loop (Z9 p A) (0,([]:List A1))).bind fun C=>
 some (C3.mk C p.2.2,p.2.1,0)))
theorem A8x (a0:C3) (r:C3×(List A7)×Int) (h:A3d a0=some r):AC Tryz.prog 20 [.d (D4 a0)] [] (.tup [.d (D4 r.1),.d (.list 13 (r.2.1.map E6)),.d (.int .i64 r.2.2)]) []:=by
 refine ac2 Tryz.func20 rfl rfl fun B hB hN L => ?_;delta A3d at h;refine sr (SQ tt) ?_;apply seq;obtain⟨r1,al,h⟩:=bindS h;refine sr (SQ (fa (cl [] (A2p a0 r1 al)) tt)) ?_;apply AWp.cond rfl<;>intro W
 ·have h:=A5 W h;refine sr (SQ tt) ?_;apply ret;apply B8;obtain rfl:=oi h;exact rt (Mat.trans (Mat.coeP (Ts:=[]) (Bs:=[(1002,bd 26 (.st Zz5))]) TwT.nil (TwB.cons (x:=(.st Zz8)) (by rfl) (Tw.leaf ⟨_,Co.st (CoL.cons (Co.nils 22) (CoL.cons (Co.d _) CoL.nil)),rfl⟩) TwB.nil)) (Mat.trans (Mat.coeP (Ts:=[(3,D1 ([]:List A7))]) (Bs:=[]) (TwT.cons (x:=.nils) (by rfl) (Tw.leaf ⟨_,Co.nils 13,rfl⟩) TwT.nil) TwB.nil) (mp [] [(2,pt 1002),(3,D1 ([]:List A7)),(4,i6 1)] [(1002,bd 26 (.st Zz5))] hB))) [.d (.st Zz5),D1 ([]:List A7),i6 1] (Res.cell (c:=(.d (.st Zz5))) (by rfl) (by rfl) tyS26 (by rfl) (by rfl) (by rfl) (rT (rT rN))) rfl
 ·have h:=A6 W h;apply AWp.skip;apply A0;refine sr (SQ tt) ?_;apply seq;obtain⟨am,h⟩:=B2 h;obtain⟨G,an,h⟩:=bindS h;refine sr (SQ (fa am (fa (cl [] (A27 ((a0.fPending.take ((minI (a0.fPending.length:Int) 64).toNat)).drop 0) G an)) tt))) ?_;apply block;obtain⟨J,ao,h⟩:=bindS h;refine lg (Z8 G) (fun i:Int×(List A1)=>([(1,pt 1001),(2,pt 1002),(5,.sref 3005 22 0 i.2.length),(34,A4 G),(35,i6 (G.length:Int)),(36,i6 i.1)]:EL)) (fun i:Int×(List A1)=>([(1001,bd 26 (D4 a0)),(1002,some (.box 26 (.st Zz8))),(3005,some (B3 i.2))]:OL)) (fun(J:(List A1)) e t u=>e = .exit 0∧Mat B t u ([(1,pt 1001),(2,pt 1002),(5,.sref 3005 22 0 J.length)]:EL) ([(1001,bd 26 (D4 a0)),(1002,some (.box 26 (.st Zz8))),(3005,some (B3 J))]:OL)) ao (Mat.trans (Mat.beginP (n:=3005) (e:=43) (sz:=22) (Ts:=[(5,.sref 3005 22 0 0)]) (Bs:=[]) hB (by decide) (by rfl) (by decide) (TwT.cons (x:=.nils) (by rfl) (Tw.leaf ⟨rfl,rfl⟩) TwT.nil) TwB.nil) (mp [] _ _ hB)) (fun i y h => ?_) (fun e t u hR => ?_)
  ·unfold Z8 at h;refine sr (SQ tt) ?_;apply seq;apply AWp.cond rfl<;>intro X
   ·have h:=A5 X h;apply AWp.skip;apply A0;apply seq;apply block;obtain⟨I,ap,h⟩:=bindS h;refine sr (SQ (fa ap tt)) ?_;refine sr (SQ tt) ?_;apply seq;apply block;obtain⟨s,aq,h⟩:=bindS h;refine lg (A48 i I) (fun N:Int=>([(1,pt 1001),(2,pt 1002),(5,.sref 3005 22 0 i.2.length),(7,pt 1007),(8,i6 N),(34,A4 G),(35,i6 (G.length:Int)),(36,i6 i.1)]:EL)) (fun N:Int=>([(1001,bd 26 (D4 a0)),(1002,some (.box 26 (.st Zz8))),(1007,bd 43 (A8 I)),(3005,some (B3 i.2))]:OL)) (fun(s:(Int)) e t u=>e = .exit 2∧Mat B t u ([(1,pt 1001),(2,pt 1002),(5,.sref 3005 22 0 i.2.length),(7,pt 1007),(8,i6 s),(34,A4 G),(35,i6 (G.length:Int)),(36,i6 i.1)]:EL) ([(1001,bd 26 (D4 a0)),(1002,some (.box 26 (.st Zz8))),(1007,bd 43 (A8 I)),(3005,some (B3 i.2))]:OL)) aq (mp [] _ _ hB) (fun N y h => ?_) (fun e t u hR => ?_)
    ·unfold A48 at h;apply seq;apply seq;refine AWp.cut h (fun S:Bool=>([(1,pt 1001),(2,pt 1002),(5,.sref 3005 22 0 i.2.length),(7,pt 1007),(8,i6 N),(34,A4 G),(35,i6 (G.length:Int)),(36,i6 i.1),(55,bo S)]:EL)) (fun S:Bool=>([(1001,bd 26 (D4 a0)),(1002,some (.box 26 (.st Zz8))),(1007,bd 43 (A8 I)),(3005,some (B3 i.2))]:OL)) (fun S h t u C => ?_) (fun bn Y h => ?_)
     ·apply A0;refine ghost C ?_;apply AWp.cond rfl<;>intro Z
      ·have h:=A5 Z h;apply AWp.skip;apply A0;apply block;refine rg (SQ tt) ?_;apply D7;obtain rfl:=oi h;exact⟨rfl,mp [] _ _ hB⟩
      ·have h:=A6 Z h;apply AWp.exit;apply D6;obtain rfl:=oi h;exact⟨nofun,rfl,mp [] _ _ hB⟩
     ·rcases bft (decide (0<N)) with O | O
      ·have h:=A5 O h;obtain⟨_,ar,h⟩:=bindS h;obtain⟨au,av,h⟩:=bindS h;obtain⟨aw,ax,h⟩:=bindS h;refine drS (SQ (fa O (fa ar (fa av (fa (cl [] (A6y au.fPrefix I.fPrefix aw ax)) tt))))) ?_;exact Y _ h _ _ (mp [] _ _ hB)
      ·have h:=A6 O h;refine drS (SQ (fa O tt)) ?_;exact Y _ h _ _ (mp [] _ _ hB)
    ·obtain⟨rfl,C⟩:=hR;apply B9;apply A0;refine ghost C ?_;obtain⟨T,h⟩:=B2 h;obtain⟨ay,h⟩:=B2 h;obtain⟨aa,h⟩:=B2 h;apply sr (c (mv hN (q 5)) rfl (c (mv hN (q 8)) rfl (c (OpJ.cutS underlying22 tyS43 (l:=s.toNat) (h:=i.2.length) (off':=s.toNat) (len':=(i.2.length-s.toNat)) (.inr ⟨_,_,_,rfl,ot 59 (i6 s),of_decide_eq_true (X6 (X6 T)),rfl⟩) (.inl ⟨rfl,rfl,rfl⟩) (of_decide_eq_true (A04 (X6 T))) (of_decide_eq_true (A04 T)) (by simp) (by simp) (L rfl) (q 58)) rfl (cg (OpJ.appendNS hB underlying22 tyE43 (nm:=1061) (by decide) (es:=i.2.map A8) (ys:=((i.2.drop s.toNat).take (i.2.length-s.toNat)).map A8) (by rw [List.length_map];exact of_decide_eq_true ay) (by first | rw [List.map_drop,List.map_take] | (simp [List.map_take,List.map_drop];done) | simp [List.take_of_length_le]) (len:=((i.2.drop s.toNat).take (i.2.length-s.toNat)).length) (by simp) (A5t (f:=A8) (fun _=>rfl)) (by rw [List.length_map];exact A0i aa (by decide)) (by rw [List.length_map];exact A3g aa) (L rfl) Opd.nils (q 60)) rfl (c (assign (L rfl) (q 61)) rfl cn)))))
     refine gh [(1,_),(2,_),(5,_),(7,_),(8,_),(9,_),(34,_),(35,_),(36,_)] [(1001,some _),(1002,some _),(1007,some _),(1061,some _),(3005,some _)] hB rfl rfl (by rfl) ?_;refine ghost (Mat.freezeP (n:=1061) (e:=43) (sz:=22) (es:=((i.2.drop s.toNat).take (i.2.length-s.toNat)).map A8) (Ts:=[(9,A4 ((i.2.drop s.toNat).take (i.2.length-s.toNat)))]) (Bs:=[]) (by rfl) (TwT.cons (x:=(.sref 1061 22 0 (((i.2.drop s.toNat).take (i.2.length-s.toNat)).length))) (by rfl) (FrzL.all (by first | rfl | (simp;done) | (simp;omega) | omega)) TwT.nil) TwB.nil) ?_
     obtain⟨P,h⟩:=B2 h;obtain⟨az,h⟩:=B2 h;obtain⟨a5,h⟩:=B2 h;apply dr (c (mv hN (q 5)) rfl (c (mv hN (q 8)) rfl (cg (OpJ.val (v':=(.sref 3005 22 0 ((i.2.take s.toNat).length))) (by rw [List.length_take,Nat.min_eq_left (of_decide_eq_true (A04 P))]) (OpJ.shrS (OpJ.cutS underlying22 tyS43 (l:=0) (h:=s.toNat) (off':=0) (len':=s.toNat) (.inl ⟨rfl,rfl,rfl⟩) (.inr ⟨_,_,_,rfl,ot 63 (i6 s),of_decide_eq_true (X6 (X6 P)),rfl⟩) (of_decide_eq_true (A04 (X6 P))) (of_decide_eq_true (A04 P)) (by simp) (by simp) (L rfl) (q 62)) (es':=(i.2.take s.toNat).map A8) (by rw [List.length_map];exact(of_decide_eq_true (A04 P))) (by rw [List.map_take]))) rfl (c (lb hN 43 _ _ tyS43 (At.here _) (q 7)) rfl (c (buildSlice underlying22 tyS43 tyZD43 (by rfl) (by decide) (by decide) (Opds.cons (q 65) Opds.nil) (by kernel_rfl) (es:=([A8 I]:List D)) (by rfl) (by rfl) (by kernel_rfl) (by simp) (L rfl)) rfl (cg (apd hB underlying22 tyE43 1067 A8 (i.2.take s.toNat) [I] az (L rfl) (q 64) (q 66)) rfl (c (mv hN (q 9)) rfl (cg (apd hB underlying22 tyE43 1069 A8 ((i.2.take s.toNat)++[I]) ((i.2.drop s.toNat).take (i.2.length-s.toNat)) a5 (L rfl) (q 67) (q 68)) rfl (c (assign (L rfl) (q 69)) rfl cn))))))))) (by kernel_rfl) (by kernel_rfl);apply D7;apply A0;refine rg (SQ tt) ?_;obtain rfl:=oi h;exact⟨rfl,mp [(3005,1069)] _ _ hB⟩
   ·have h:=A6 X h;apply AWp.exit;apply D6;obtain rfl:=oi h;exact⟨nofun,rfl,mp [] _ _ hB⟩
  ·obtain⟨rfl,C⟩:=hR;apply B9;apply A0;refine ghost C ?_;apply seq;refine ghost (Mat.freezeP (n:=3005) (e:=43) (sz:=22) (es:=J.map A8) (Ts:=[(5,A4 J)]) (Bs:=[]) (by rfl) (TwT.cons (x:=(.sref 3005 22 0 J.length)) (by rfl) (FrzL.all (by first | rfl | (simp;done) | (simp;omega) | omega)) TwT.nil) TwB.nil) ?_
   obtain⟨H,a6,h⟩:=bindS h;refine rg (SQ (fa (cl [] (B3b J H a6)) tt)) ?_;apply A0;apply seq;refine sr (SQ tt) ?_;apply AWp.cond rfl<;>intro ab
   ·have h:=A5 ab h;refine sr (SQ tt) ?_;apply ret;apply B8;obtain rfl:=oi h;exact rt (Mat.trans (Mat.coeP (Ts:=[]) (Bs:=[(1002,bd 26 (.st Zz5))]) TwT.nil (TwB.cons (x:=(.st Zz8)) (by rfl) (Tw.leaf ⟨_,Co.st (CoL.cons (Co.nils 22) (CoL.cons (Co.d _) CoL.nil)),rfl⟩) TwB.nil)) (Mat.trans (Mat.coeP (Ts:=[(3,D1 ([]:List A7))]) (Bs:=[]) (TwT.cons (x:=.nils) (by rfl) (Tw.leaf ⟨_,Co.nils 13,rfl⟩) TwT.nil) TwB.nil) (mp [] [(2,pt 1002),(3,D1 ([]:List A7)),(4,i6 H.2)] [(1002,bd 26 (.st Zz5))] hB))) [.d (.st Zz5),D1 ([]:List A7),i6 H.2] (Res.cell (c:=(.d (.st Zz5))) (by rfl) (by rfl) tyS26 (by rfl) (by rfl) (by rfl) (rT (rT rN))) rfl
   ·have h:=A6 ab h;apply AWp.skip;apply A0;refine sr (SQ tt) ?_;refine sr (SQ tt) ?_;apply sr (cg (OpJ.mkmapQ hB (nm:=1083) (by decide) (L rfl)) rfl (c (assign (L rfl) (q 83)) rfl cn));apply seq;refine sr (SQ tt) ?_;apply block;obtain⟨p,a7,h⟩:=bindS h;refine lg (A1t H) (fun A:Int×(List (A2×Bool))×(List A7)×D9=>([(1,pt 1001),(2,pt 1002),(12,pt 1012),(13,.sref 3013 13 0 A.2.2.1.length),(14,.mref 1083),(84,D1 H.1),(85,i6 (H.1.length:Int)),(86,i6 A.1)]:EL)) (fun A:Int×(List (A2×Bool))×(List A7)×D9=>([(1001,bd 26 (D4 a0)),(1002,some (.box 26 (.st Zz8))),(1012,some (.box 26 (.st [.nils,.d (C1 A.2.2.2)]))),(1083,some (.blk (mapQ (mpairs B0 eB A.2.1)))),(3013,some (C4 A.2.2.1))]:OL)) (fun(p:((List (A2×Bool))×(List A7)×D9)) e t u=>e = .exit 4∧Mat B t u ([(1,pt 1001),(2,pt 1002),(12,pt 1012),(13,.sref 3013 13 0 p.2.1.length),(14,.mref 1083)]:EL) ([(1001,bd 26 (D4 a0)),(1002,some (.box 26 (.st Zz8))),(1012,some (.box 26 (.st [.nils,.d (C1 p.2.2)]))),(1083,some (.blk (mapQ (mpairs B0 eB p.1)))),(3013,some (C4 p.2.1))]:OL)) a7 (Mat.trans (Mat.beginP (n:=3013) (e:=71) (sz:=13) (Ts:=[(13,.sref 3013 13 0 0)]) (Bs:=[]) hB (by decide) (by rfl) (by decide) (TwT.cons (x:=.nils) (by rfl) (Tw.leaf ⟨rfl,rfl⟩) TwT.nil) TwB.nil) (mp [] _ _ hB)) (fun A y h => ?_) (fun e t u hR => ?_)
    ·unfold A1t at h;refine sr (SQ tt) ?_;apply seq;apply AWp.cond rfl<;>intro ac
     ·have h:=A5 ac h;apply AWp.skip;apply A0;apply seq;apply block;obtain⟨E,a8,h⟩:=bindS h;refine sr (SQ (fa a8 tt)) ?_;obtain⟨U,a9,h⟩:=bindS h;refine sr (SQ (fa (cl [] (B3c A.2.2.2 U a9)) tt)) ?_;apply seq;refine sr (SQ tt) ?_;apply AWp.cond rfl<;>intro ae
      ·have h:=A5 ae h;apply AWp.exit;apply D6;refine B49 (by rfl) ?_;apply D6;obtain rfl:=oi h;exact⟨nofun,rfl,mp [] _ _ hB⟩
      ·have h:=A6 ae h;apply AWp.skip;apply A0;obtain⟨ba,h⟩:=B2 h;refine sdS (SQ (fa ba tt)) ?_;obtain⟨bb,h⟩:=B2 h;obtain⟨bc,h⟩:=B2 h;refine sdS (SQ (fa bb (fa bc tt))) ?_;apply block;obtain⟨af,be,h⟩:=bindS h;refine lg (A1s E) (fun Q:Int×(List (A2×Bool))=>([(1,pt 1001),(2,pt 1002),(12,pt 1012),(13,.sref 1102 13 0 ((A.2.2.1++[E]).length)),(14,.mref 1083),(84,D1 H.1),(85,i6 (H.1.length:Int)),(86,i6 A.1),(109,.sref 1109 4 0 ((E.fWithdraw++E.fAnnounce).length)),(110,i6 ((E.fWithdraw++E.fAnnounce).length:Int)),(111,i6 Q.1)]:EL)) (fun Q:Int×(List (A2×Bool))=>([(1001,bd 26 (D4 a0)),(1002,some (.box 26 (.st Zz8))),(1012,some (.box 26 (.st [.nils,.d (C1 U.1)]))),(1083,some (.blk (mapQ (mpairs B0 eB Q.2)))),(1102,some (C4 (A.2.2.1++[E]))),(1109,some (G0 (E.fWithdraw++E.fAnnounce)))]:OL)) (fun(af:(List (A2×Bool))) e t u=>e = .exit 6∧Mat B t u ([(1,pt 1001),(2,pt 1002),(12,pt 1012),(13,.sref 1102 13 0 ((A.2.2.1++[E]).length)),(14,.mref 1083),(84,D1 H.1),(85,i6 (H.1.length:Int)),(86,i6 A.1)]:EL) ([(1001,bd 26 (D4 a0)),(1002,some (.box 26 (.st Zz8))),(1012,some (.box 26 (.st [.nils,.d (C1 U.1)]))),(1083,some (.blk (mapQ (mpairs B0 eB af)))),(1102,some (C4 (A.2.2.1++[E])))]:OL)) be (mp [] _ _ hB) (fun Q y h => ?_) (fun e t u hR => ?_)
       ·unfold A1s at h;refine sr (SQ tt) ?_;apply seq;apply AWp.cond rfl<;>intro ag
        ·have h:=A5 ag h;apply AWp.skip;apply A0;apply seq;apply block;obtain⟨_,bf,h⟩:=bindS h;obtain⟨bg,bh,h⟩:=bindS h;refine sr (SQ (fa bf (fa bh tt))) ?_;apply rg (c (mv hN (q 14)) rfl (c (lb hN 33 _ _ tyS33 (At.here _) (q 20)) rfl (cg (OpJ.mputQ (g:=eB) (v:=true) (l:=Q.2) (k:=bg) tyU82 underlying33 keyEq33 (q 115) (q 116) (Opd.bool true)) rfl cn)));apply D7;apply A0;refine rg (SQ tt) ?_;obtain rfl:=oi h;exact⟨rfl,mp [] _ _ hB⟩
        ·have h:=A6 ag h;apply AWp.exit;apply D6;obtain rfl:=oi h;exact⟨nofun,rfl,mp [] _ _ hB⟩
       ·obtain⟨rfl,C⟩:=hR;apply B9;apply D7;apply A0;refine ghost C ?_;refine rg (SQ tt) ?_;obtain rfl:=oi h;exact⟨rfl,mp [(3013,1102)] _ _ hB⟩
     ·have h:=A6 ac h;apply AWp.exit;apply D6;obtain rfl:=oi h;exact⟨nofun,rfl,mp [] _ _ hB⟩
    ·obtain⟨rfl,C⟩:=hR;apply B9;apply A0;refine ghost C ?_;apply seq;obtain⟨K,bi,h⟩:=bindS h;refine sr (SQ (fa (cl [] (A27 a0.fPending K bi)) tt)) ?_;apply block;obtain⟨F,bj,h⟩:=bindS h;refine lg (Z9 p K) (fun M:Int×(List A1)=>([(2,pt 1002),(12,pt 1012),(13,.sref 3013 13 0 p.2.1.length),(14,.mref 1083),(121,A4 K),(122,i6 (K.length:Int)),(123,i6 M.1)]:EL)) (fun M:Int×(List A1)=>([(1002,some (.box 26 (.st Zz8))),(1012,some (.box 26 (.st [.sref 13120 22 0 M.2.length,.d (C1 p.2.2)]))),(1083,some (.blk (mapQ (mpairs B0 eB p.1)))),(3013,some (C4 p.2.1)),(13120,some (B3 M.2))]:OL)) (fun(F:(List A1)) e t u=>e = .exit 8∧Mat B t u ([(2,pt 1002),(12,pt 1012),(13,.sref 3013 13 0 p.2.1.length)]:EL) ([(1002,some (.box 26 (.st Zz8))),(1012,some (.box 26 (.st [.sref 13120 22 0 F.length,.d (C1 p.2.2)]))),(3013,some (C4 p.2.1)),(13120,some (B3 F))]:OL)) bj (Mat.trans (Mat.beginP (n:=13120) (e:=43) (sz:=22) (Ts:=[]) (Bs:=[(1012,some (.box 26 (.st [.sref 13120 22 0 0,.d (C1 p.2.2)])))]) hB (by decide) (by rfl) (by decide) TwT.nil (TwB.cons (x:=(.st [.nils,.d (C1 p.2.2)])) (by rfl) (Tw.st (TwL.cons (Tw.leaf ⟨rfl,rfl⟩) (TwL.cons (Tw.same _) TwL.nil))) TwB.nil)) (mp [] _ _ hB)) (fun M y h => ?_) (fun e t u hR => ?_)
     ·unfold Z9 at h;refine sr (SQ tt) ?_;apply seq;apply AWp.cond rfl<;>intro ah
      ·have h:=A5 ah h;apply AWp.skip;apply A0;apply seq;apply block;obtain⟨bk,bl,h⟩:=bindS h;refine sr (SQ (fa bl tt)) ?_;apply sr (c (mv hN (q 14)) rfl (c (fo 1022 1 [1] hN underlying43 1 tyS33 (q 22)) rfl (c (la hN 43 tyS33 (q 128)) rfl (cg (OpJ.mlookQ (g:=eB) (l:=p.1) (k:=bk.fPrefix) tyU82 underlying33 keyEq33 (z:=false) tyZD4 (L rfl) (q 127) (q 129)) rfl (c (OpJ.not (L rfl) (q 130)) rfl cn)))));refine gh [(2,_),(12,_),(13,_),(14,_),(22,_),(121,_),(122,_),(123,_),(131,_)] [(1002,some _),(1012,some _),(1022,some _),(1083,some _),(3013,some _),(13120,some _)] hB rfl rfl (by rfl) ?_;refine AWp.cut h (fun R:(List A1)=>([(2,pt 1002),(12,pt 1012),(13,.sref 3013 13 0 p.2.1.length),(14,.mref 1083),(121,A4 K),(122,i6 (K.length:Int)),(123,i6 M.1)]:EL)) (fun R:(List A1)=>([(1002,some (.box 26 (.st Zz8))),(1012,some (.box 26 (.st [.sref 13120 22 0 R.length,.d (C1 p.2.2)]))),(1083,some (.blk (mapQ (mpairs B0 eB p.1)))),(3013,some (C4 p.2.1)),(13120,some (B3 R))]:OL)) (fun R h t u C => ?_) (fun bp ai h => ?_)
       ·apply D7;apply A0;refine ghost C ?_;refine rg (SQ tt) ?_;obtain rfl:=oi h;exact⟨rfl,mp [] _ _ hB⟩
       ·apply AWp.cond rfl<;>intro aj
        ·have h:=A5 aj h;obtain⟨bm,h⟩:=B2 h;refine rg (SQ (fa bm tt)) ?_;exact ai _ h _ _ (mp [(13120,1136)] _ _ hB)
        ·have h:=A6 aj h;apply AWp.skip;exact ai _ h _ _ (mp [] _ _ hB)
      ·have h:=A6 ah h;apply AWp.exit;apply D6;obtain rfl:=oi h;exact⟨nofun,rfl,mp [] _ _ hB⟩
     ·obtain⟨rfl,C⟩:=hR;apply B9;apply A0;refine ghost C ?_;refine sr (SQ tt) ?_;apply ret;obtain rfl:=oi h;exact rt (Mat.trans (Mat.freezeP (n:=13120) (e:=43) (sz:=22) (es:=F.map A8) (Ts:=[]) (Bs:=[(1002,some (.box 26 (.st [A4 F,.d (C1 p.2.2)])))]) (by rfl) TwT.nil (TwB.cons (x:=(.st [.sref 13120 22 0 F.length,.d (C1 p.2.2)])) (by rfl) (Tw.st (TwL.cons (FrzL.all (by first | rfl | (simp;done) | (simp;omega) | omega)) (TwL.cons (Tw.same _) TwL.nil))) TwB.nil)) (Mat.trans (Mat.freezeP (n:=3013) (e:=71) (sz:=13) (es:=p.2.1.map E6) (Ts:=[(3,D1 p.2.1)]) (Bs:=[]) (by rfl) (TwT.cons (x:=(.sref 3013 13 0 p.2.1.length)) (by rfl) (FrzL.all (by first | rfl | (simp;done) | (simp;omega) | omega)) TwT.nil) TwB.nil) (Mat.trans (Mat.coeP (Ts:=[]) (Bs:=[(1002,bd 26 (.st [.list 22 (F.map A8),C1 p.2.2]))]) TwT.nil (TwB.cons (x:=(.st [A4 F,.d (C1 p.2.2)])) (by rfl) (Tw.leaf ⟨_,Co.st (CoL.cons (Co.d _) (CoL.cons (Co.d _) CoL.nil)),rfl⟩) TwB.nil)) (mp [] [(2,pt 1002),(3,D1 p.2.1),(4,i6 0)] [(1002,bd 26 (.st [.list 22 (F.map A8),C1 p.2.2]))] hB)))) [.d (.st [.list 22 (F.map A8),C1 p.2.2]),D1 p.2.1,i6 0] (Res.cell (c:=(.d (.st [.list 22 (F.map A8),C1 p.2.2]))) (by rfl) (by rfl) tyS26 (by rfl) (by rfl) (by rfl) (rT (rT rN))) rfl
def A2r (i:Int×C3×A9):Option ((A9×C3)⊕(Int×C3×A9)):=
 (if (decide (0<i.1))=true then
 (G5 i.2.2 5).bind fun p=>
 (A3c i.2.1 p.1).bind fun s=>
 jn (fun t:C3=>
 (F6 p.2 3).bind fun u=>
 jn (fun E:C3=>
 some (.inr (w64 (i.1-1),E,u.2))) (fun A=>
 (if (u.1==0)=true then
 (A3d t).bind fun F=>
 A F.1
 else
 A t))) (fun C=>
 (if (s.2==0)=true then
 C s.1
 else
 C i.2.1))
 else
 some (.inl (i.2.2,i.2.1)))
def A49 (a0:A9):Option (C3×A9):=
 (F6 a0 4).bind fun i=>
 (F6 i.2 (w64 ((w64 (1+i.1))+1))).bind fun p=>
 (F6 p.2 (w64 ((w64 (1+i.1))+1))).bind fun s=>
 (F6 s.2 4).bind fun t=>
 (loop (A2r) (t.1,C3.mk ([]:List A1) (D9.mk p.1 s.1 (w64 (1+i.1))),t.2)).bind fun u=>
 some (u.2,u.1)
theorem B1y (a0:A9) (r:C3×A9) (h:A49 a0=some r):AC Tryz.prog 9 [pt 0] [(0,.box 80 (.d (B7 a0)))] (.d (D4 r.1)) [(0,bd 80 (B7 r.2))]:=by
 refine ac2 Tryz.func9 rfl rfl fun B hB hN L => ?_;delta A49 at h;refine sr (SQ tt) ?_;apply seq;obtain⟨p,R,h⟩:=bindS h;refine rg (SQ (fa (cl [(0,0)] (G2 a0 4 p R)) tt)) ?_;apply A0;refine ghost (mp [] [(0,pt 0),(2,pt 1002),(3,i6 (w64 (1+p.1)))] [(0,bd 80 (B7 p.2)),(1002,some (.box 26 (.st Zz8)))] hB) ?_;apply seq;obtain⟨t,S,h⟩:=bindS h;obtain⟨s,T,h⟩:=bindS h;refine rg (SQ (fa (cl [(0,0)] (G2 p.2 (w64 ((w64 (1+p.1))+1)) t S)) (fa (cl [(0,0)] (G2 t.2 (w64 ((w64 (1+p.1))+1)) s T)) tt))) ?_;apply A0;refine ghost (mp [] [(0,pt 0),(2,pt 1002),(4,pt 1004)] [(0,bd 80 (B7 s.2)),(1002,some (.box 26 (.st Zz8))),(1004,some (.box 26 (.st [.nils,.d (.st [.int .i64 t.1,.int .i64 s.1,.int .i64 (w64 (1+p.1))])])))] hB) ?_;apply seq;apply seq;obtain⟨I,U,h⟩:=bindS h;refine rg (SQ (fa (cl [(0,0)] (G2 s.2 4 I U)) tt)) ?_;apply A0;refine ghost (mp [] [(0,pt 0),(2,pt 1002),(4,pt 1004),(5,i6 I.1)] [(0,bd 80 (B7 I.2)),(1002,some (.box 26 (.st Zz8))),(1004,some (.box 26 (.st [.nils,.d (.st [.int .i64 t.1,.int .i64 s.1,.int .i64 (w64 (1+p.1))])])))] hB) ?_;apply block;obtain⟨u,W,h⟩:=bindS h;refine lg (A2r) (fun i:Int×C3×A9=>([(0,pt 0),(2,pt 1002),(4,pt 1004),(5,i6 i.1)]:EL)) (fun i:Int×C3×A9=>([(0,bd 80 (B7 i.2.2)),(1002,some (.box 26 (.st Zz8))),(1004,bd 26 (D4 i.2.1))]:OL)) (fun(u:(A9×C3)) e F G=>e = .exit 0∧Mat B F G ([(2,pt 1002),(4,pt 1004)]:EL) ([(0,bd 80 (B7 u.1)),(1002,some (.box 26 (.st Zz8))),(1004,bd 26 (D4 u.2))]:OL)) W (Mat.trans (Mat.coeP (Ts:=[]) (Bs:=[(1004,some (.box 26 (.d (.st [.list 22 (([]:List A1).map A8),.st [.int .i64 t.1,.int .i64 s.1,.int .i64 (w64 (1+p.1))]]))))]) TwT.nil (TwB.cons (x:=(.st [.nils,.d (.st [.int .i64 t.1,.int .i64 s.1,.int .i64 (w64 (1+p.1))])])) (by rfl) (Tw.leaf ⟨_,Co.st (CoL.cons (Co.nils 22) (CoL.cons (Co.d _) CoL.nil)),rfl⟩) TwB.nil)) (mp [] _ _ hB)) (fun i y h => ?_) (fun e F G hR => ?_)
 ·unfold A2r at h;apply seq;refine sr (SQ tt) ?_;apply AWp.cond rfl<;>intro M
  ·have h:=A5 M h;apply AWp.skip;apply A0;apply seq;apply block;apply seq;obtain⟨A,X,h⟩:=bindS h;obtain⟨J,Y,h⟩:=bindS h;refine drS (SQ (fa (cl [(0,0)] (U4 i.2.2 5 A X)) (fa (cl [] (A8w i.2.1 A.1 J Y)) tt))) ?_;apply A0;refine ghost (mp [] [(0,pt 0),(2,pt 1002),(4,pt 1004),(5,i6 i.1),(6,pt 1006),(7,i6 J.2)] [(0,bd 80 (B7 A.2)),(1002,some (.box 26 (.st Zz8))),(1004,bd 26 (D4 i.2.1)),(1006,bd 26 (D4 J.1))] hB) ?_;apply seq;refine sr (SQ tt) ?_;refine gh [(0,_),(2,_),(4,_),(5,_),(6,_),(36,_)] [(0,some _),(1002,some _),(1004,some _),(1006,some _)] hB rfl rfl (by rfl) ?_;refine AWp.cut h (fun C:C3=>([(0,pt 0),(2,pt 1002),(4,pt 1004),(5,i6 i.1)]:EL)) (fun C:C3=>([(0,bd 80 (B7 A.2)),(1002,some (.box 26 (.st Zz8))),(1004,bd 26 (D4 C))]:OL)) (fun C h F G E => ?_) (fun ac N h => ?_)
   ·apply A0;refine ghost E ?_;apply seq;obtain⟨H,Z,h⟩:=bindS h;refine rg (SQ (fa (cl [(0,0)] (G2 A.2 3 H Z)) tt)) ?_;apply A0;refine ghost (mp [] [(0,pt 0),(2,pt 1002),(4,pt 1004),(5,i6 i.1),(40,bo (H.1==0))] [(0,bd 80 (B7 H.2)),(1002,some (.box 26 (.st Zz8))),(1004,bd 26 (D4 C))] hB) ?_;refine AWp.cut h (fun K:C3=>([(0,pt 0),(2,pt 1002),(4,pt 1004),(5,i6 i.1)]:EL)) (fun K:C3=>([(0,bd 80 (B7 H.2)),(1002,some (.box 26 (.st Zz8))),(1004,bd 26 (D4 K))]:OL)) (fun K h F G E => ?_) (fun ae O h => ?_)
    ·apply D7;apply A0;refine ghost E ?_;refine rg (SQ tt) ?_;obtain rfl:=oi h;exact⟨rfl,mp [] _ _ hB⟩
    ·apply AWp.cond rfl<;>intro P
     ·have h:=A5 P h;obtain⟨aa,ab,h⟩:=bindS h;refine rg (SQ (fa (cl [] (A8x C aa ab)) tt)) ?_;exact O _ h _ _ (mp [] _ _ hB)
     ·have h:=A6 P h;apply AWp.skip;exact O _ h _ _ (mp [] _ _ hB)
   ·apply AWp.cond rfl<;>intro Q
    ·have h:=A5 Q h;refine rg (SQ tt) ?_;exact N _ h _ _ (mp [] _ _ hB)
    ·have h:=A6 Q h;apply AWp.skip;exact N _ h _ _ (mp [] _ _ hB)
  ·have h:=A6 M h;apply AWp.exit;apply D6;obtain rfl:=oi h;exact⟨nofun,rfl,mp [] _ _ hB⟩
 ·obtain⟨rfl,E⟩:=hR;apply B9;apply A0;refine ghost E ?_;refine sr (SQ tt) ?_;apply ret;obtain rfl:=oi h;exact rt (kp [(2,_)] [(0,some _),(1002,some _)] hB rfl rfl (by rfl)) [.d (D4 u.2)] (Res.cell (c:=(.d (D4 u.2))) (by rfl) (by rfl) tyS26 (by rfl) (by rfl) (by rfl) rN) rfl
def A6k (a0:C3):Option (Bool):=
 some ((a0.fPending.length:Int)==0)
theorem B3d (a0:C3) (r:Bool) (h:A6k a0=some r):AC Tryz.prog 14 [.d (D4 a0)] [] (.d (.bool r)) []:=by
 refine AC.of_code2 Tryz.func14 rfl rfl (Nat.le_of_ble_eq_true (by rfl)) fun B hB hN => ?_;delta A6k at h;refine sr (SQ tt) ?_;refine sr (SQ tt) ?_;apply ret;obtain rfl:=oi h;exact rt (kp [(2,_)] [] hB rfl rfl (by rfl)) [bo ((a0.fPending.length:Int)==0)] (rT rN) rfl
def P3 (a0:(List A1)) (a1:(List A1)) (i:Int):Option ((Unit⊕Unit)⊕Int):=
 (if (decide (i<(a0.length:Int)))=true then
 jn (fun u:Bool=>
 (if u=true then
 some (.inl (.inl ()))
 else
 some (.inr (w64 (i+1))))) (fun p=>
 (idx a0 i).bind fun A=>
 (idx a1 i).bind fun C=>
 (if (A.fTo != C.fTo)=true then
 p true
 else
 (idx a0 i).bind fun s=>
 (idx a1 i).bind fun t=>
 (if (!(((s.fPrefix.fAddr.fV6==t.fPrefix.fAddr.fV6)&&((s.fPrefix.fAddr.fHi==t.fPrefix.fAddr.fHi)&&((s.fPrefix.fAddr.fLo==t.fPrefix.fAddr.fLo)&&true)))&&((s.fPrefix.fLen==t.fPrefix.fLen)&&true)))=true then
 p true
 else
 (idx a0 i).bind fun E=>
 (idx a1 i).bind fun F=>
 (if (E.fHas != F.fHas)=true then
 p true
 else
 (idx a0 i).bind fun G=>
 (idx a1 i).bind fun H=>
 (L1 G.fRoute H.fRoute).bind fun I=>
 p (!I)))))
 else
 some (.inl (.inr ())))
def U2 (a0:(List A1)) (a1:(List A1)):Option (Bool):=
 (if ((a0.length:Int) != (a1.length:Int))=true then
 some false
 else
 (loop (P3 a0 a1) 0).bind fun i=>match i with
 | (.inl _)=>
  some false
 | (.inr _)=>
  some true)
theorem A85 (a0:(List A1)) (a1:(List A1)) (r:Bool) (h:U2 a0 a1=some r):AC Tryz.prog 42 [.d (.list 22 (a0.map A8)),.d (.list 22 (a1.map A8))] [] (.d (.bool r)) []:=by
 refine ac2 Tryz.func42 rfl rfl fun B hB hN L => ?_;delta U2 at h;refine sr (SQ tt) ?_;apply seq;refine sr (SQ tt) ?_;apply AWp.cond rfl<;>intro N
 ·have h:=A5 N h;refine sr (SQ tt) ?_;apply ret;apply B8;obtain rfl:=oi h;exact rt (kp [(4,_)] [] hB rfl rfl (by rfl)) [bo false] (rT rN) rfl
 ·have h:=A6 N h;apply AWp.skip;apply A0;apply seq;refine sr (SQ tt) ?_;apply block;obtain⟨S,T,h⟩:=bindS h;refine lg (P3 a0 a1) (fun u:Int=>([(0,A4 a0),(1,A4 a1),(12,i6 (a0.length:Int)),(13,i6 u)]:EL)) (fun u:Int=>([]:OL)) (fun(x:(Unit)⊕Unit) e A C=>match x with | (.inl _p)=>e = .ret∧Mat B A C ([(4,bo false)]:EL) ([]:OL) | (.inr _p)=>e = .exit 0∧Mat B A C ([]:EL) ([]:OL)) T (mp [] _ _ hB) (fun u y h => ?_) (fun e A C hR => ?_)
  ·unfold P3 at h;refine sr (SQ tt) ?_;apply seq;apply AWp.cond rfl<;>intro O
   ·have h:=A5 O h;apply AWp.skip;apply A0;apply seq;apply block;refine sr (SQ tt) ?_;apply seq;refine AWp.cut h (fun J:Bool=>([(0,A4 a0),(1,A4 a1),(12,i6 (a0.length:Int)),(13,i6 u),(66,bo J)]:EL)) (fun J:Bool=>([]:OL)) (fun J h A C s => ?_) (fun ag E h => ?_)
    ·apply A0;refine ghost s ?_;apply AWp.cond rfl<;>intro P
     ·have h:=A5 P h;refine sr (SQ tt) ?_;apply ret;apply D8;apply B8;obtain rfl:=oi h;exact⟨nofun,rfl,mp [] _ _ hB⟩
     ·have h:=A6 P h;apply AWp.skip;apply D7;apply A0;refine rg (SQ tt) ?_;obtain rfl:=oi h;exact⟨rfl,mp [] _ _ hB⟩
    ·obtain⟨U,F,h⟩:=bindS h;obtain⟨W,G,h⟩:=bindS h;rcases bft (U.fTo != W.fTo) with i | i
     ·have h:=A5 i h;refine drS (SQ (fa F (fa G (fa i tt)))) ?_;exact E _ h _ _ (mp [] _ _ hB)
     ·have h:=A6 i h;obtain⟨H,K,h⟩:=bindS h;obtain⟨I,M,h⟩:=bindS h;rcases bft (!(((H.fPrefix.fAddr.fV6==I.fPrefix.fAddr.fV6)&&((H.fPrefix.fAddr.fHi==I.fPrefix.fAddr.fHi)&&((H.fPrefix.fAddr.fLo==I.fPrefix.fAddr.fLo)&&true)))&&((H.fPrefix.fLen==I.fPrefix.fLen)&&true))) with p | p
      ·have h:=A5 p h;refine drS (SQ (fa F (fa G (fa i (fa K (fa M (fa p tt))))))) ?_;exact E _ h _ _ (mp [] _ _ hB)
      ·have h:=A6 p h;obtain⟨X,Q,h⟩:=bindS h;obtain⟨Y,R,h⟩:=bindS h;rcases bft (X.fHas != Y.fHas) with t | t
       ·have h:=A5 t h;refine drS (SQ (fa F (fa G (fa i (fa K (fa M (fa p (fa Q (fa R (fa t tt)))))))))) ?_;exact E _ h _ _ (mp [] _ _ hB)
       ·have h:=A6 t h;obtain⟨Z,aa,h⟩:=bindS h;obtain⟨ab,ac,h⟩:=bindS h;obtain⟨ae,af,h⟩:=bindS h;refine drS (SQ (fa F (fa G (fa i (fa K (fa M (fa p (fa Q (fa R (fa t (fa aa (fa ac (fa (cl [] (A5g Z.fRoute ab.fRoute ae af)) tt))))))))))))) ?_;exact E _ h _ _ (mp [] _ _ hB)
   ·have h:=A6 O h;apply AWp.exit;apply D6;obtain rfl:=oi h;exact⟨nofun,rfl,mp [] _ _ hB⟩
  ·rcases S with _ | _
   ·obtain⟨rfl,s⟩:=hR;apply D8;apply B8;obtain rfl:=oi h;exact rt (Mat.trans s (mp [] [(4,bo false)] [] hB)) [bo false] (rT rN) rfl
   ·obtain⟨rfl,s⟩:=hR;apply B9;apply A0;refine ghost s ?_;refine sr (SQ tt) ?_;apply ret;obtain rfl:=oi h;exact rt (kp [(4,_)] [] hB rfl rfl (by rfl)) [bo true] (rT rN) rfl
def A1u (a0:C3) (a1:C3):Option (Bool):=
 jn (fun p:Bool=>
 some p) (fun i=>
 (if ((a0.fBucket.fLevel==a1.fBucket.fLevel)&&((a0.fBucket.fRate==a1.fBucket.fRate)&&((a0.fBucket.fBurst==a1.fBucket.fBurst)&&true)))=true then
 (U2 a0.fPending a1.fPending).bind fun s=>
 i s
 else
 i false))
theorem A1v (a0:C3) (a1:C3) (r:Bool) (h:A1u a0 a1=some r):AC Tryz.prog 18 [.d (D4 a0),.d (D4 a1)] [] (.d (.bool r)) []:=by
 refine ac2 Tryz.func18 rfl rfl fun B hB hN L => ?_;delta A1u at h;refine sr (SQ tt) ?_;apply seq;refine AWp.cut h (fun p:Bool=>([(4,bo p)]:EL)) (fun p:Bool=>([]:OL)) (fun p h C E t => ?_) (fun F s h => ?_)
 ·apply A0;refine ghost t ?_;apply ret;obtain rfl:=oi h;exact rt (kp [(4,_)] [] hB rfl rfl (by rfl)) [bo p] (rT rN) rfl
 ·rcases bft ((a0.fBucket.fLevel==a1.fBucket.fLevel)&&((a0.fBucket.fRate==a1.fBucket.fRate)&&((a0.fBucket.fBurst==a1.fBucket.fBurst)&&true))) with i | i
  ·have h:=A5 i h;obtain⟨u,A,h⟩:=bindS h;refine rg (SQ (fa i (fa (cl [] (A85 a0.fPending a1.fPending u A)) tt))) ?_;exact s _ h _ _ (mp [] _ _ hB)
  ·have h:=A6 i h;refine rg (SQ (fa i tt)) ?_;exact s _ h _ _ (mp [] _ _ hB)
def M2 (a0:(List A2)) (a1:(List A2)) (i:Int):Option ((Unit⊕Unit)⊕Int):=
 (if (decide (i<(a0.length:Int)))=true then
 (idx a0 i).bind fun p=>
 (idx a1 i).bind fun s=>
 (if (!(((p.fAddr.fV6==s.fAddr.fV6)&&((p.fAddr.fHi==s.fAddr.fHi)&&((p.fAddr.fLo==s.fAddr.fLo)&&true)))&&((p.fLen==s.fLen)&&true)))=true then
 some (.inl (.inl ()))
 else
 some (.inr (w64 (i+1))))
 else
 some (.inl (.inr ())))
def N6 (a0:(List A2)) (a1:(List A2)):Option (Bool):=
 (if ((a0.length:Int) != (a1.length:Int))=true then
 some false
 else
 (loop (M2 a0 a1) 0).bind fun i=>match i with
 | (.inl _)=>
  some false
 | (.inr _)=>
  some true)
theorem M9 (a0:(List A2)) (a1:(List A2)) (r:Bool) (h:N6 a0 a1=some r):AC Tryz.prog 54 [.d (.list 4 (a0.map B0)),.d (.list 4 (a1.map B0))] [] (.d (.bool r)) []:=by
 refine ac2 Tryz.func54 rfl rfl fun B hB hN L => ?_;delta N6 at h;refine sr (SQ tt) ?_;apply seq;refine sr (SQ tt) ?_;apply AWp.cond rfl<;>intro u
 ·have h:=A5 u h;refine sr (SQ tt) ?_;apply ret;apply B8;obtain rfl:=oi h;exact rt (kp [(4,_)] [] hB rfl rfl (by rfl)) [bo false] (rT rN) rfl
 ·have h:=A6 u h;apply AWp.skip;apply A0;apply seq;refine sr (SQ tt) ?_;apply block;obtain⟨E,F,h⟩:=bindS h;refine lg (M2 a0 a1) (fun i:Int=>([(0,F8 a0),(1,F8 a1),(12,i6 (a0.length:Int)),(13,i6 i)]:EL)) (fun i:Int=>([]:OL)) (fun(x:(Unit)⊕Unit) e p s=>match x with | (.inl _p)=>e = .ret∧Mat B p s ([(4,bo false)]:EL) ([]:OL) | (.inr _p)=>e = .exit 0∧Mat B p s ([]:EL) ([]:OL)) F (mp [] _ _ hB) (fun i y h => ?_) (fun e p s hR => ?_)
  ·unfold M2 at h;refine sr (SQ tt) ?_;apply seq;apply AWp.cond rfl<;>intro A
   ·have h:=A5 A h;apply AWp.skip;apply A0;apply seq;apply block;refine sr (SQ tt) ?_;obtain⟨_,G,h⟩:=bindS h;obtain⟨_,H,h⟩:=bindS h;refine sdS (SQ (fa G (fa H tt))) ?_;apply AWp.cond rfl<;>intro C
    ·have h:=A5 C h;refine sr (SQ tt) ?_;apply ret;apply D8;apply B8;obtain rfl:=oi h;exact⟨nofun,rfl,mp [] _ _ hB⟩
    ·have h:=A6 C h;apply AWp.skip;apply D7;apply A0;refine rg (SQ tt) ?_;obtain rfl:=oi h;exact⟨rfl,mp [] _ _ hB⟩
   ·have h:=A6 A h;apply AWp.exit;apply D6;obtain rfl:=oi h;exact⟨nofun,rfl,mp [] _ _ hB⟩
  ·rcases E with _ | _
   ·obtain⟨rfl,t⟩:=hR;apply D8;apply B8;obtain rfl:=oi h;exact rt (Mat.trans t (mp [] [(4,bo false)] [] hB)) [bo false] (rT rN) rfl
   ·obtain⟨rfl,t⟩:=hR;apply B9;apply A0;refine ghost t ?_;refine sr (SQ tt) ?_;apply ret;obtain rfl:=oi h;exact rt (kp [(4,_)] [] hB rfl rfl (by rfl)) [bo true] (rT rN) rfl
def A1w (a0:(List A7)) (a1:(List A7)) (i:Int):Option ((Unit⊕Unit)⊕Int):=
 (if (decide (i<(a0.length:Int)))=true then
 jn (fun s:Bool=>
 (if s=true then
 some (.inl (.inl ()))
 else
 some (.inr (w64 (i+1))))) (fun p=>
 (idx a0 i).bind fun t=>
 (idx a1 i).bind fun u=>
 (N6 t.fWithdraw u.fWithdraw).bind fun A=>
 (if (!A)=true then
 p true
 else
 (idx a0 i).bind fun C=>
 (idx a1 i).bind fun E=>
 (N6 C.fAnnounce E.fAnnounce).bind fun F=>
 (if (!F)=true then
 p true
 else
 (idx a0 i).bind fun G=>
 (idx a1 i).bind fun H=>
 (J8 G.fAttrs H.fAttrs).bind fun I=>
 p (!I))))
 else
 some (.inl (.inr ())))
def A3e (a0:(List A7)) (a1:(List A7)):Option (Bool):=
 (if ((a0.length:Int) != (a1.length:Int))=true then
 some false
 else
 (loop (A1w a0 a1) 0).bind fun i=>match i with
 | (.inl _)=>
  some false
 | (.inr _)=>
  some true)
theorem B3e (a0:(List A7)) (a1:(List A7)) (r:Bool) (h:A3e a0 a1=some r):AC Tryz.prog 21 [.d (.list 13 (a0.map E6)),.d (.list 13 (a1.map E6))] [] (.d (.bool r)) []:=by
 refine ac2 Tryz.func21 rfl rfl fun B hB hN L => ?_;delta A3e at h;refine sr (SQ tt) ?_;apply seq;refine sr (SQ tt) ?_;apply AWp.cond rfl<;>intro N
 ·have h:=A5 N h;refine sr (SQ tt) ?_;apply ret;apply B8;obtain rfl:=oi h;exact rt (kp [(4,_)] [] hB rfl rfl (by rfl)) [bo false] (rT rN) rfl
 ·have h:=A6 N h;apply AWp.skip;apply A0;apply seq;refine sr (SQ tt) ?_;apply block;obtain⟨W,X,h⟩:=bindS h;refine lg (A1w a0 a1) (fun t:Int=>([(0,D1 a0),(1,D1 a1),(12,i6 (a0.length:Int)),(13,i6 t)]:EL)) (fun t:Int=>([]:OL)) (fun(x:(Unit)⊕Unit) e u A=>match x with | (.inl _p)=>e = .ret∧Mat B u A ([(4,bo false)]:EL) ([]:OL) | (.inr _p)=>e = .exit 0∧Mat B u A ([]:EL) ([]:OL)) X (mp [] _ _ hB) (fun t y h => ?_) (fun e u A hR => ?_)
  ·unfold A1w at h;refine sr (SQ tt) ?_;apply seq;apply AWp.cond rfl<;>intro O
   ·have h:=A5 O h;apply AWp.skip;apply A0;apply seq;apply block;refine sr (SQ tt) ?_;apply seq;refine AWp.cut h (fun E:Bool=>([(0,D1 a0),(1,D1 a1),(12,i6 (a0.length:Int)),(13,i6 t),(55,bo E)]:EL)) (fun E:Bool=>([]:OL)) (fun E h u A p => ?_) (fun af F h => ?_)
    ·apply A0;refine ghost p ?_;apply AWp.cond rfl<;>intro P
     ·have h:=A5 P h;refine sr (SQ tt) ?_;apply ret;apply D8;apply B8;obtain rfl:=oi h;exact⟨nofun,rfl,mp [] _ _ hB⟩
     ·have h:=A6 P h;apply AWp.skip;apply D7;apply A0;refine rg (SQ tt) ?_;obtain rfl:=oi h;exact⟨rfl,mp [] _ _ hB⟩
    ·obtain⟨G,H,h⟩:=bindS h;obtain⟨I,J,h⟩:=bindS h;obtain⟨C,K,h⟩:=bindS h;rcases bft (!C) with i | i
     ·have h:=A5 i h;refine drS (SQ (fa H (fa J (fa (cl [] (M9 G.fWithdraw I.fWithdraw C K)) (fa i tt))))) ?_;exact F _ h _ _ (mp [] _ _ hB)
     ·have h:=A6 i h;obtain⟨Q,R,h⟩:=bindS h;obtain⟨S,T,h⟩:=bindS h;obtain⟨M,U,h⟩:=bindS h;rcases bft (!M) with s | s
      ·have h:=A5 s h;refine drS (SQ (fa H (fa J (fa (cl [] (M9 G.fWithdraw I.fWithdraw C K)) (fa i (fa R (fa T (fa (cl [] (M9 Q.fAnnounce S.fAnnounce M U)) (fa s tt))))))))) ?_;exact F _ h _ _ (mp [] _ _ hB)
      ·have h:=A6 s h;obtain⟨Y,Z,h⟩:=bindS h;obtain⟨aa,ab,h⟩:=bindS h;obtain⟨ac,ae,h⟩:=bindS h;refine drS (SQ (fa H (fa J (fa (cl [] (M9 G.fWithdraw I.fWithdraw C K)) (fa i (fa R (fa T (fa (cl [] (M9 Q.fAnnounce S.fAnnounce M U)) (fa s (fa Z (fa ab (fa (cl [] (A2a Y.fAttrs aa.fAttrs ac ae)) tt)))))))))))) ?_;exact F _ h _ _ (mp [] _ _ hB)
   ·have h:=A6 O h;apply AWp.exit;apply D6;obtain rfl:=oi h;exact⟨nofun,rfl,mp [] _ _ hB⟩
  ·rcases W with _ | _
   ·obtain⟨rfl,p⟩:=hR;apply D8;apply B8;obtain rfl:=oi h;exact rt (Mat.trans p (mp [] [(4,bo false)] [] hB)) [bo false] (rT rN) rfl
   ·obtain⟨rfl,p⟩:=hR;apply B9;apply A0;refine ghost p ?_;refine sr (SQ tt) ?_;apply ret;obtain rfl:=oi h;exact rt (kp [(4,_)] [] hB rfl rfl (by rfl)) [bo true] (rT rN) rfl
def A9s (a0:D9):Option (D9):=
 some (D9.mk (minI (w64 (a0.fLevel+a0.fRate)) a0.fBurst) a0.fRate a0.fBurst)
theorem B43 (a0:D9) (r:D9) (h:A9s a0=some r):AC Tryz.prog 56 [.d (C1 a0)] [] (.d (C1 r)) []:=by
 refine AC.of_code2 Tryz.func56 rfl rfl (Nat.le_of_ble_eq_true (by rfl)) fun B hB hN => ?_;delta A9s at h;refine sr (SQ tt) ?_;refine sr (SQ tt) ?_;refine sr (SQ tt) ?_;apply ret;obtain rfl:=oi h;exact rt (kp [(2,_)] [(1002,some _)] hB rfl rfl (by rfl)) [.d (.st [.int .i64 (minI (w64 (a0.fLevel+a0.fRate)) a0.fBurst),.int .i64 a0.fRate,.int .i64 a0.fBurst])] (Res.cell (c:=(.d (.st [.int .i64 (minI (w64 (a0.fLevel+a0.fRate)) a0.fBurst),.int .i64 a0.fRate,.int .i64 a0.fBurst]))) (by rfl) (by rfl) tyS24 (by rfl) (by rfl) (by rfl) rN) rfl
def A7b (a0:C3):Option (C3):=
 (A0y a0.fPending).bind fun i=>
 (A9s a0.fBucket).bind fun p=>
 some (C3.mk i p)
theorem B0c (a0:C3) (r:C3) (h:A7b a0=some r):AC Tryz.prog 22 [.d (D4 a0)] [] (.d (D4 r)) []:=by
 refine AC.of_code2 Tryz.func22 rfl rfl (Nat.le_of_ble_eq_true (by rfl)) fun B hB hN => ?_;delta A7b at h;refine sr (SQ tt) ?_;obtain⟨i,s,h⟩:=bindS h;obtain⟨p,t,h⟩:=bindS h;refine sdS (SQ (fa (cl [] (A7a a0.fPending i s)) (fa (cl [] (B43 a0.fBucket p t)) tt))) ?_;apply ret;obtain rfl:=oi h;exact rt (kp [(2,_)] [(1002,some _)] hB rfl rfl (by rfl)) [.d (.st [.list 22 (i.map A8),C1 p])] (Res.cell (c:=(.d (.st [.list 22 (i.map A8),C1 p]))) (by rfl) (by rfl) tyS26 (by rfl) (by rfl) (by rfl) rN) rfl
def A8y (a0:D9):Option (D9):=
 some (D9.mk (minI (w64 (a0.fLevel+a0.fRate)) a0.fBurst) a0.fRate a0.fBurst)
theorem B3f (a0:D9) (r:D9) (h:A8y a0=some r):AC Tryz.prog 57 [.d (C1 a0)] [] (.d (C1 r)) []:=by
 refine AC.of_code2 Tryz.func57 rfl rfl (Nat.le_of_ble_eq_true (by rfl)) fun B hB hN => ?_;delta A8y at h;refine sr (SQ tt) ?_;refine sr (SQ tt) ?_;refine sr (SQ tt) ?_;apply ret;obtain rfl:=oi h;exact rt (kp [(2,_)] [(1002,some _)] hB rfl rfl (by rfl)) [.d (.st [.int .i64 (minI (w64 (a0.fLevel+a0.fRate)) a0.fBurst),.int .i64 a0.fRate,.int .i64 a0.fBurst])] (Res.cell (c:=(.d (.st [.int .i64 (minI (w64 (a0.fLevel+a0.fRate)) a0.fBurst),.int .i64 a0.fRate,.int .i64 a0.fBurst]))) (by rfl) (by rfl) tyS24 (by rfl) (by rfl) (by rfl) rN) rfl
def A53 (a0:C3):Option (C3):=
 (T1 a0.fPending).bind fun i=>
 (A8y a0.fBucket).bind fun p=>
 some (C3.mk i p)
theorem A8z (a0:C3) (r:C3) (h:A53 a0=some r):AC Tryz.prog 23 [.d (D4 a0)] [] (.d (D4 r)) []:=by
 refine AC.of_code2 Tryz.func23 rfl rfl (Nat.le_of_ble_eq_true (by rfl)) fun B hB hN => ?_;delta A53 at h;refine sr (SQ tt) ?_;obtain⟨i,s,h⟩:=bindS h;obtain⟨p,t,h⟩:=bindS h;refine sdS (SQ (fa (cl [] (A27 a0.fPending i s)) (fa (cl [] (B3f a0.fBucket p t)) tt))) ?_;apply ret;obtain rfl:=oi h;exact rt (kp [(2,_)] [(1002,some _)] hB rfl rfl (by rfl)) [.d (.st [.list 22 (i.map A8),C1 p])] (Res.cell (c:=(.d (.st [.list 22 (i.map A8),C1 p]))) (by rfl) (by rfl) tyS26 (by rfl) (by rfl) (by rfl) rN) rfl
def Q7 (a0:C3) (a1:(List A1)) (i:Int):Option ((Bool⊕Unit)⊕Int):=
 (if (decide (i<((a0.fPending++a1).length:Int)))=true then
 (idx (a0.fPending++a1) i).bind fun _=>
 (idx (a0.fPending++a1) i).bind fun p=>
 (L0 p.fRoute.fAttrs).bind fun s=>
 (if (!s)=true then
 (A0b).bind fun t=>
 some (.inl (.inl t))
 else
 some (.inr (w64 (i+1))))
 else
 some (.inl (.inr ())))
def J2 (a1:(List A1)) (p:C3) (s:(List A1)×A9) (i:Int):Option ((Unit⊕Unit)⊕Int):=
 (if (decide (i<(([s.1,a1]:List (List A1)).length:Int)))=true then
 (idx ([s.1,a1]:List (List A1)) i).bind fun t=>
 (A5q p t).bind fun u=>
 (A3c p t).bind fun A=>
 jn (fun E:Bool=>
 (if E=true then
 some (.inl (.inl ()))
 else
 some (.inr (w64 (i+1))))) (fun C=>
 (if (u.2 != A.2)=true then
 C true
 else
 (A1u u.1 A.1).bind fun F=>
 C (!F)))
 else
 some (.inl (.inr ())))
def J3 (a0:C3) (a1:(List A1)) (C:C3×A9) (p:D9×(List A1)) (s:Int×A9):Option ((Unit⊕Unit)⊕(Int×A9)):=
 (if (decide (s.1<([C.1,a0,C3.mk p.2 p.1].length:Int)))=true then
 (idx [C.1,a0,C3.mk p.2 p.1] s.1).bind fun i=>
 jn (fun G:Bool=>
 (if G=true then
 some (.inl (.inl ()))
 else
 (G5 s.2 5).bind fun E=>
 (loop (J2 a1 i E) 0).bind fun H=>match H with
 | (.inl _)=>
  some (.inl (.inl ()))
 | (.inr _)=>
  (A5r i).bind fun t=>
  (A3d i).bind fun u=>
  jn (fun I:Bool=>
  (if I=true then
  some (.inl (.inl ()))
  else
  some (.inr (w64 (s.1+1),E.2)))) (fun A=>
  (if (t.2.2 != u.2.2)=true then
  A true
  else
  (A1u t.1 u.1).bind fun J=>
  (if (!J)=true then
  A true
  else
  (A3e t.2.1 u.2.1).bind fun K=>
  A (!K)))))) (fun F=>
 (A2x i).bind fun M=>
 (A0f i).bind fun N=>
 (if (M != N)=true then
 F true
 else
 (A38 i).bind fun O=>
 (A6k i).bind fun P=>
 F (O != P)))
 else
 some (.inl (.inr ())))
def A12 (a0:C3) (a1:(List A1)) (a2:(List Int)) (a3:Int) (a4:Int):Option (Bool):=
 (if ((decide (40<(a0.fPending.length:Int))) || (decide (40<(a1.length:Int))))=true then
 (A0b).bind fun A=>
 some A
 else
 chk (decide (a0.fPending.length≤LIM))<|
 chk (decide ((a0.fPending++a1).length≤LIM))<|
 (loop (Q7 a0 a1) 0).bind fun C=>match C with
 | (.inl E)=>
  some E
 | (.inr _)=>
  (A11 a2).bind fun F=>
  (A49 F).bind fun i=>
  chk (decide (i.1.fPending.length≤LIM))<|
  (H2 a3 3).bind fun G=>
  jn (fun H:D9×(List A1)=>
  (loop (J3 a0 a1 i H) (0,i.2)).bind fun I=>match I with
  | (.inl _)=>
   some false
  | (.inr _)=>
   jn (fun J:Bool=>
   some J) (fun s=>
   (A7b i.1).bind fun K=>
   (A53 i.1).bind fun M=>
   (A1u K M).bind fun N=>
   (if N=true then
   (A0b).bind fun O=>
   s O
   else
   s false))) (fun p=>
  (if (G==0)=true then
  (H2 a4 7).bind fun P=>
  p (D9.mk (w64 (P-1)) i.1.fBucket.fRate i.1.fBucket.fBurst,i.1.fPending)
  else
  (if (decide (0<(i.1.fPending.length:Int)))=true then
  (H2 a4 (i.1.fPending.length:Int)).bind fun t=>
  (idx i.1.fPending t).bind fun _=>
  (idx i.1.fPending t).bind fun u=>
  chk (decide ((i.1.fPending++[u]).length≤LIM))<|
  p (i.1.fBucket,(i.1.fPending++[u]))
  else
  p (i.1.fBucket,i.1.fPending)))))
theorem A90 (a0:C3) (a1:(List A1)) (a2:(List Int)) (a3:Int) (a4:Int) (r:Bool) (h:A12 a0 a1 a2 a3 a4=some r):AC Tryz.prog 3 [.d (D4 a0),.d (.list 22 (a1.map A8)),.d (.list 1 (a2.map (eI .i64))),.d (.int .i64 a3),.d (.int .i64 a4)] Zz10 (.d (.bool r)) Zz3:=by
 refine ac2 Tryz.func3 rfl rfl fun B hB hN L => ?_;delta A12 at h;refine sr (SQ tt) ?_;apply seq;refine sr (SQ tt) ?_;apply AWp.cond rfl<;>intro aj
 ·have h:=A5 aj h;apply seq;obtain⟨T,ba,h⟩:=bindS h;refine rg (SQ (fa (cl [(500,500)] (A59  T ba)) tt)) ?_;apply A0;refine ghost (mp [] [(10,bo T)] Zz3 hB) ?_;apply ret;apply B8;obtain rfl:=oi h;exact rt (kp [(10,_)] [(500,some _)] hB rfl rfl (by rfl)) [bo T] (rT rN) rfl
 ·have h:=A6 aj h;apply AWp.skip;apply A0;apply seq;obtain⟨bb,h⟩:=B2 h;obtain⟨bc,h⟩:=B2 h;refine sr (SQ (fa bb (fa bc tt))) ?_;apply block;obtain⟨be,bf,h⟩:=bindS h;refine lg (Q7 a0 a1) (fun U:Int=>([(1,A4 a1),(2,qI_1 a2),(3,i6 a3),(4,i6 a4),(5,pt 1005),(44,.sref 1044 22 0 ((a0.fPending++a1).length)),(45,i6 ((a0.fPending++a1).length:Int)),(46,i6 U)]:EL)) (fun U:Int=>([(500,some (.know (globD 0 (.imap gv0)))),(1005,bd 26 (D4 a0)),(1044,some (B3 (a0.fPending++a1)))]:OL)) (fun(x:(Bool)⊕Unit) e A C=>match x with | (.inl P)=>e = .ret∧Mat B A C ([(10,bo P)]:EL) (Zz3:OL) | (.inr _p)=>e = .exit 0∧Mat B A C ([(1,A4 a1),(2,qI_1 a2),(3,i6 a3),(4,i6 a4),(5,pt 1005)]:EL) ([(500,some (.know (globD 0 (.imap gv0)))),(1005,bd 26 (D4 a0))]:OL)) bf (mp [] _ _ hB) (fun U y h => ?_) (fun e A C hR => ?_)
  ·unfold Q7 at h;refine sr (SQ tt) ?_;apply seq;apply AWp.cond rfl<;>intro ak
   ·have h:=A5 ak h;apply AWp.skip;apply A0;apply seq;apply block;obtain⟨_,bg,h⟩:=bindS h;obtain⟨bh,bi,h⟩:=bindS h;refine sr (SQ (fa bg (fa bi tt))) ?_;obtain⟨bj,bk,h⟩:=bindS h;refine sr (SQ (fa (cl [] (A5z bh.fRoute.fAttrs bj bk)) tt)) ?_;apply AWp.cond rfl<;>intro al
    ·have h:=A5 al h;apply seq;obtain⟨am,bl,h⟩:=bindS h;refine rg (SQ (fa (cl [(500,500)] (A59  am bl)) tt)) ?_;apply A0;refine ghost (mp [] [(10,bo am)] Zz3 hB) ?_;apply ret;apply D8;apply B8;obtain rfl:=oi h;exact⟨nofun,rfl,mp [] _ _ hB⟩
    ·have h:=A6 al h;apply AWp.skip;apply D7;apply A0;refine rg (SQ tt) ?_;obtain rfl:=oi h;exact⟨rfl,mp [] _ _ hB⟩
   ·have h:=A6 ak h;apply AWp.exit;apply D6;obtain rfl:=oi h;exact⟨nofun,rfl,mp [] _ _ hB⟩
  ·rcases be with P | _
   ·obtain⟨rfl,s⟩:=hR;apply D8;apply B8;obtain rfl:=oi h;exact rt (Mat.trans s (mp [] [(10,bo P)] Zz3 hB)) [bo P] (rT rN) rfl
   ·obtain⟨rfl,s⟩:=hR;apply B9;apply A0;refine ghost s ?_;apply seq;obtain⟨W,bm,h⟩:=bindS h;refine rg (SQ (fa (cl [(1005,100300)] (A6x a2 W bm)) tt)) ?_;apply A0;refine ghost (mp [] [(1,A4 a1),(3,i6 a3),(4,i6 a4),(5,pt 1005),(13,pt 100300)] [(500,some (.know (globD 0 (.imap gv0)))),(1005,bd 26 (D4 a0)),(100300,bd 80 (B7 W))] hB) ?_;apply seq;obtain⟨p,bn,h⟩:=bindS h;refine rg (SQ (fa (cl [(0,100300)] (B1y W p bn)) tt)) ?_;apply A0;refine ghost (mp [] [(1,A4 a1),(3,i6 a3),(4,i6 a4),(5,pt 1005),(13,pt 100300),(14,pt 1014)] [(500,some (.know (globD 0 (.imap gv0)))),(1005,bd 26 (D4 a0)),(1014,bd 26 (D4 p.1)),(100300,bd 80 (B7 p.2))] hB) ?_;obtain⟨bp,h⟩:=B2 h;refine sdS (SQ (fa bp tt)) ?_;apply seq;apply block;obtain⟨bq,br,h⟩:=bindS h;refine sr (SQ (fa (cl [] (P9 a3 3 bq br)) tt)) ?_;refine gh [(1,_),(4,_),(5,_),(13,_),(14,_),(15,_),(67,_)] [(500,some _),(1005,some _),(1014,some _),(1015,some _),(1063,some _),(100300,some _)] hB rfl rfl (by rfl) ?_;refine AWp.cut h (fun i:D9×(List A1)=>([(1,A4 a1),(5,pt 1005),(13,pt 100300),(14,pt 1014),(15,pt 1015)]:EL)) (fun i:D9×(List A1)=>([(500,some (.know (globD 0 (.imap gv0)))),(1005,bd 26 (D4 a0)),(1014,bd 26 (D4 p.1)),(1015,some (.box 26 (.st [.sref 13150 22 0 i.2.length,.d (C1 i.1)]))),(13150,some (B3 i.2)),(100300,bd 80 (B7 p.2))]:OL)) (fun i h A C s => ?_) (fun cr X h => ?_)
    ·apply D7;apply A0;refine ghost s ?_;apply seq;apply seq;refine ghost (Mat.freezeP (n:=13150) (e:=43) (sz:=22) (es:=i.2.map A8) (Ts:=[]) (Bs:=[(1015,some (.box 26 (.st [A4 i.2,.d (C1 i.1)])))]) (by rfl) TwT.nil (TwB.cons (x:=(.st [.sref 13150 22 0 i.2.length,.d (C1 i.1)])) (by rfl) (Tw.st (TwL.cons (FrzL.all (by first | rfl | (simp;done) | (simp;omega) | omega)) (TwL.cons (Tw.same _) TwL.nil))) TwB.nil)) ?_
     refine rg (SQ tt) ?_;apply A0;apply block;obtain⟨bs,bu,h⟩:=bindS h;refine lg (J3 a0 a1 p i) (fun E:Int×A9=>([(1,A4 a1),(13,pt 100300),(14,pt 1014),(98,V6 [p.1,a0,C3.mk i.2 i.1]),(99,i6 ([p.1,a0,C3.mk i.2 i.1].length:Int)),(100,i6 E.1)]:EL)) (fun E:Int×A9=>([(500,some (.know (globD 0 (.imap gv0)))),(1014,bd 26 (D4 p.1)),(100300,bd 80 (B7 E.2))]:OL)) (fun(x:(Unit)⊕Unit) e A C=>match x with | (.inl _p)=>e = .ret∧Mat B A C ([(10,bo false)]:EL) (Zz3:OL) | (.inr _p)=>e = .exit 3∧Mat B A C ([(14,pt 1014)]:EL) ([(500,some (.know (globD 0 (.imap gv0)))),(1014,bd 26 (D4 p.1))]:OL)) bu (mp [] _ _ hB) (fun E y h => ?_) (fun e A C hR => ?_)
     ·unfold J3 at h;refine sr (SQ tt) ?_;apply seq;apply AWp.cond rfl<;>intro an
      ·have h:=A5 an h;apply AWp.skip;apply A0;apply seq;apply block;obtain⟨t,bv,h⟩:=bindS h;refine sr (SQ (fa bv tt)) ?_;apply seq;apply seq;refine AWp.cut h (fun Y:Bool=>([(1,A4 a1),(13,pt 100300),(14,pt 1014),(17,pt 1017),(98,V6 [p.1,a0,C3.mk i.2 i.1]),(99,i6 ([p.1,a0,C3.mk i.2 i.1].length:Int)),(100,i6 E.1),(115,bo Y)]:EL)) (fun Y:Bool=>([(500,some (.know (globD 0 (.imap gv0)))),(1014,bd 26 (D4 p.1)),(1017,bd 26 (D4 t)),(100300,bd 80 (B7 E.2))]:OL)) (fun Y h A C s => ?_) (fun cs ao h => ?_)
       ·apply A0;refine ghost s ?_;apply AWp.cond rfl<;>intro ap
        ·have h:=A5 ap h;refine sr (SQ tt) ?_;apply ret;apply B8;apply D8;apply B8;obtain rfl:=oi h;exact⟨nofun,rfl,mp [] _ _ hB⟩
        ·have h:=A6 ap h;apply AWp.skip;apply A0;apply seq;apply seq;obtain⟨u,bw,h⟩:=bindS h;refine rg (SQ (fa (cl [(0,100300)] (U4 E.2 5 u bw)) tt)) ?_;apply A0;refine ghost (mp [] [(1,A4 a1),(13,pt 100300),(14,pt 1014),(17,pt 1017),(98,V6 [p.1,a0,C3.mk i.2 i.1]),(99,i6 ([p.1,a0,C3.mk i.2 i.1].length:Int)),(100,i6 E.1),(119,.d (.list 1 (([u.1,a1]:List (List A1)).map A2b))),(120,i6 (([u.1,a1]:List (List A1)).length:Int)),(121,i6 0)] [(500,some (.know (globD 0 (.imap gv0)))),(1014,bd 26 (D4 p.1)),(1017,bd 26 (D4 t)),(100300,bd 80 (B7 u.2))] hB) ?_;apply block;obtain⟨bx,bz,h⟩:=bindS h;refine lg (J2 a1 t u) (fun H:Int=>([(1,A4 a1),(13,pt 100300),(14,pt 1014),(17,pt 1017),(98,V6 [p.1,a0,C3.mk i.2 i.1]),(99,i6 ([p.1,a0,C3.mk i.2 i.1].length:Int)),(100,i6 E.1),(119,.d (.list 1 (([u.1,a1]:List (List A1)).map A2b))),(120,i6 (([u.1,a1]:List (List A1)).length:Int)),(121,i6 H)]:EL)) (fun H:Int=>([(500,some (.know (globD 0 (.imap gv0)))),(1014,bd 26 (D4 p.1)),(1017,bd 26 (D4 t)),(100300,bd 80 (B7 u.2))]:OL)) (fun(x:(Unit)⊕Unit) e A C=>match x with | (.inl _p)=>e = .ret∧Mat B A C ([(10,bo false)]:EL) (Zz3:OL) | (.inr _p)=>e = .exit 5∧Mat B A C ([(1,A4 a1),(13,pt 100300),(14,pt 1014),(17,pt 1017),(98,V6 [p.1,a0,C3.mk i.2 i.1]),(99,i6 ([p.1,a0,C3.mk i.2 i.1].length:Int)),(100,i6 E.1)]:EL) ([(500,some (.know (globD 0 (.imap gv0)))),(1014,bd 26 (D4 p.1)),(1017,bd 26 (D4 t)),(100300,bd 80 (B7 u.2))]:OL)) bz (mp [] _ _ hB) (fun H y h => ?_) (fun e A C hR => ?_)
         ·unfold J2 at h;refine sr (SQ tt) ?_;apply seq;apply AWp.cond rfl<;>intro aq
          ·have h:=A5 aq h;apply AWp.skip;apply A0;apply seq;apply block;obtain⟨Z,b0,h⟩:=bindS h;refine sr (SQ (fa b0 tt)) ?_;apply seq;obtain⟨I,b1,h⟩:=bindS h;refine rg (SQ (fa (cl [(500,500)] (B09 t Z I b1)) tt)) ?_;apply A0;refine ghost (mp [] [(1,A4 a1),(13,pt 100300),(14,pt 1014),(17,pt 1017),(19,A4 Z),(20,pt 1020),(21,i6 I.2),(98,V6 [p.1,a0,C3.mk i.2 i.1]),(99,i6 ([p.1,a0,C3.mk i.2 i.1].length:Int)),(100,i6 E.1),(119,.d (.list 1 (([u.1,a1]:List (List A1)).map A2b))),(120,i6 (([u.1,a1]:List (List A1)).length:Int)),(121,i6 H)] [(500,some (.know (globD 0 (.imap gv0)))),(1014,bd 26 (D4 p.1)),(1017,bd 26 (D4 t)),(1020,bd 26 (D4 I.1)),(100300,bd 80 (B7 u.2))] hB) ?_;obtain⟨aa,b2,h⟩:=bindS h;refine sr (SQ (fa (cl [] (A8w t Z aa b2)) tt)) ?_;apply seq;refine AWp.cut h (fun ab:Bool=>([(1,A4 a1),(13,pt 100300),(14,pt 1014),(17,pt 1017),(98,V6 [p.1,a0,C3.mk i.2 i.1]),(99,i6 ([p.1,a0,C3.mk i.2 i.1].length:Int)),(100,i6 E.1),(119,.d (.list 1 (([u.1,a1]:List (List A1)).map A2b))),(120,i6 (([u.1,a1]:List (List A1)).length:Int)),(121,i6 H),(145,bo ab)]:EL)) (fun ab:Bool=>([(500,some (.know (globD 0 (.imap gv0)))),(1014,bd 26 (D4 p.1)),(1017,bd 26 (D4 t)),(100300,bd 80 (B7 u.2))]:OL)) (fun ab h A C s => ?_) (fun ct ar h => ?_)
           ·apply A0;refine ghost s ?_;apply AWp.cond rfl<;>intro au
            ·have h:=A5 au h;refine sr (SQ tt) ?_;apply ret;apply D8;apply B8;obtain rfl:=oi h;exact⟨nofun,rfl,mp [] _ _ hB⟩
            ·have h:=A6 au h;apply AWp.skip;apply D7;apply A0;refine rg (SQ tt) ?_;obtain rfl:=oi h;exact⟨rfl,mp [] _ _ hB⟩
           ·rcases bft (I.2 != aa.2) with J | J
            ·have h:=A5 J h;refine rg (SQ (fa J tt)) ?_;exact ar _ h _ _ (mp [] _ _ hB)
            ·have h:=A6 J h;obtain⟨b3,b4,h⟩:=bindS h;refine rg (SQ (fa J (fa (cl [] (A1v I.1 aa.1 b3 b4)) tt))) ?_;exact ar _ h _ _ (mp [] _ _ hB)
          ·have h:=A6 aq h;apply AWp.exit;apply D6;obtain rfl:=oi h;exact⟨nofun,rfl,mp [] _ _ hB⟩
         ·rcases bx with _ | _
          ·obtain⟨rfl,s⟩:=hR;apply D8;apply B8;apply D8;apply B8;obtain rfl:=oi h;exact⟨nofun,rfl,Mat.trans s (mp [] _ _ hB)⟩
          ·obtain⟨rfl,s⟩:=hR;apply B9;apply A0;refine ghost s ?_;apply seq;obtain⟨F,b5,h⟩:=bindS h;refine rg (SQ (fa (cl [(500,500)] (B0a t F b5)) tt)) ?_;apply A0;refine ghost (mp [] [(1,A4 a1),(13,pt 100300),(14,pt 1014),(17,pt 1017),(24,pt 1024),(25,D1 F.2.1),(26,i6 F.2.2),(98,V6 [p.1,a0,C3.mk i.2 i.1]),(99,i6 ([p.1,a0,C3.mk i.2 i.1].length:Int)),(100,i6 E.1)] [(500,some (.know (globD 0 (.imap gv0)))),(1014,bd 26 (D4 p.1)),(1017,bd 26 (D4 t)),(1024,bd 26 (D4 F.1)),(100300,bd 80 (B7 u.2))] hB) ?_;obtain⟨K,b6,h⟩:=bindS h;refine sr (SQ (fa (cl [] (A8x t K b6)) tt)) ?_;apply seq;refine AWp.cut h (fun ac:Bool=>([(1,A4 a1),(13,pt 100300),(14,pt 1014),(98,V6 [p.1,a0,C3.mk i.2 i.1]),(99,i6 ([p.1,a0,C3.mk i.2 i.1].length:Int)),(100,i6 E.1),(173,bo ac)]:EL)) (fun ac:Bool=>([(500,some (.know (globD 0 (.imap gv0)))),(1014,bd 26 (D4 p.1)),(100300,bd 80 (B7 u.2))]:OL)) (fun ac h A C s => ?_) (fun cu ae h => ?_)
           ·apply A0;refine ghost s ?_;apply AWp.cond rfl<;>intro av
            ·have h:=A5 av h;refine sr (SQ tt) ?_;apply ret;apply D8;apply B8;obtain rfl:=oi h;exact⟨nofun,rfl,mp [] _ _ hB⟩
            ·have h:=A6 av h;apply AWp.skip;apply D7;apply A0;refine rg (SQ tt) ?_;obtain rfl:=oi h;exact⟨rfl,mp [] _ _ hB⟩
           ·rcases bft (F.2.2 != K.2.2) with G | G
            ·have h:=A5 G h;refine rg (SQ (fa G tt)) ?_;exact ae _ h _ _ (mp [] _ _ hB)
            ·have h:=A6 G h;obtain⟨af,aw,h⟩:=bindS h;rcases bft (!af) with M | M
             ·have h:=A5 M h;refine rg (SQ (fa G (fa (cl [] (A1v F.1 K.1 af aw)) (fa M tt)))) ?_;exact ae _ h _ _ (mp [] _ _ hB)
             ·have h:=A6 M h;obtain⟨b7,b8,h⟩:=bindS h;refine rg (SQ (fa G (fa (cl [] (A1v F.1 K.1 af aw)) (fa M (fa (cl [] (B3e F.2.1 K.2.1 b7 b8)) tt))))) ?_;exact ae _ h _ _ (mp [] _ _ hB)
       ·obtain⟨ag,ax,h⟩:=bindS h;obtain⟨ah,ay,h⟩:=bindS h;rcases bft (ag != ah) with N | N
        ·have h:=A5 N h;refine drS (SQ (fa (cl [(500,500)] (A2i t ag ax)) (fa (cl [] (A2p t ah ay)) (fa N tt)))) ?_;exact ao _ h _ _ (mp [] _ _ hB)
        ·have h:=A6 N h;obtain⟨b9,ca,h⟩:=bindS h;obtain⟨cb,cc,h⟩:=bindS h;refine drS (SQ (fa (cl [(500,500)] (A2i t ag ax)) (fa (cl [] (A2p t ah ay)) (fa N (fa (cl [] (A5k t b9 ca)) (fa (cl [] (B3d t cb cc)) tt)))))) ?_;exact ao _ h _ _ (mp [] _ _ hB)
      ·have h:=A6 an h;apply AWp.exit;apply D6;obtain rfl:=oi h;exact⟨nofun,rfl,mp [] _ _ hB⟩
     ·rcases bs with _ | _
      ·obtain⟨rfl,s⟩:=hR;apply D8;apply B8;obtain rfl:=oi h;exact rt (Mat.trans s (mp [] [(10,bo false)] Zz3 hB)) [bo false] (rT rN) rfl
      ·obtain⟨rfl,s⟩:=hR;apply B9;apply A0;refine ghost s ?_;apply seq;refine AWp.cut h (fun Q:Bool=>([(10,bo Q)]:EL)) (fun Q:Bool=>(Zz3:OL)) (fun Q h A C s => ?_) (fun cv az h => ?_)
       ·apply A0;refine ghost s ?_;apply ret;obtain rfl:=oi h;exact rt (kp [(10,_)] [(500,some _)] hB rfl rfl (by rfl)) [bo Q] (rT rN) rfl
       ·obtain⟨R,a5,h⟩:=bindS h;obtain⟨S,a6,h⟩:=bindS h;obtain⟨ai,a7,h⟩:=bindS h;rcases bft ai with O | O
        ·have h:=A5 O h;obtain⟨cd,ce,h⟩:=bindS h;refine drS (SQ (fa (cl [] (B0c p.1 R a5)) (fa (cl [] (A8z p.1 S a6)) (fa (cl [] (A1v R S ai a7)) (fa O (fa (cl [(500,500)] (A59  cd ce)) tt)))))) ?_;exact az _ h _ _ (mp [] _ _ hB)
        ·have h:=A6 O h;refine drS (SQ (fa (cl [] (B0c p.1 R a5)) (fa (cl [] (A8z p.1 S a6)) (fa (cl [] (A1v R S ai a7)) (fa O tt))))) ?_;exact az _ h _ _ (mp [] _ _ hB)
    ·apply AWp.cond rfl<;>intro a8
     ·have h:=A5 a8 h;obtain⟨ch,ci,h⟩:=bindS h;refine rg (SQ (fa (cl [] (P9 a4 7 ch ci)) tt)) ?_;exact X _ h _ _ (mp [(13150,1063)] _ _ hB)
     ·have h:=A6 a8 h;refine sr (SQ tt) ?_;apply AWp.cond rfl<;>intro a9
      ·have h:=A5 a9 h;obtain⟨cj,ck,h⟩:=bindS h;obtain⟨_,cm,h⟩:=bindS h;obtain⟨_,cp,h⟩:=bindS h;obtain⟨cq,h⟩:=B2 h;refine drS (SQ (fa (cl [] (P9 a4 (p.1.fPending.length:Int) cj ck)) (fa cm (fa cp (fa cq tt))))) ?_;exact X _ h _ _ (mp [(13150,1093)] _ _ hB)
      ·have h:=A6 a9 h;apply AWp.skip;exact X _ h _ _ (mp [(13150,1063)] _ _ hB)
end
end Go.Proofs.YtplbaenjbihekaaGreatDoor
