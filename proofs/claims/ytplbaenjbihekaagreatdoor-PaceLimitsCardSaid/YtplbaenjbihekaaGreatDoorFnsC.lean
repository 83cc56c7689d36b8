/- Printed by gen.py: the Go functions as plain functions, and that the code does what they say. -/
import Derived.Test.YtplbaenjbihekaaGreatDoorChecked
import Derived.Test.YtplbaenjbihekaaGreatDoorVcYB
import Derived.Test.YtplbaenjbihekaaGreatDoorVcZ
import Derived.Test.YtplbaenjbihekaaGreatDoorVcGC
import Derived.KernelRfl
import Derived.Test.YtplbaenjbihekaaGreatDoorVcMD
import Derived.Test.YtplbaenjbihekaaGreatDoorVcMQ
import Derived.Test.YtplbaenjbihekaaGreatDoorVcSG
import Derived.Test.YtplbaenjbihekaaGreatDoorFnsB
import Derived.Test.YtplbaenjbihekaaGreatDoorExt
import Derived.Test.YtplbaenjbihekaaGreatDoorVcPm
import Derived.Test.YtplbaenjbihekaaGreatDoorVcRg
import Derived.Test.YtplbaenjbihekaaGreatDoorVcSt
import Derived.Test.YtplbaenjbihekaaGreatDoorVcMR
namespace Go.Proofs.YtplbaenjbihekaaGreatDoor
open Go Go.Vc
open Tryz
open Go.Vc.OpJ (assign alloc lss pickT pickF extract lenD indexD loadD eqlI gtr callVal leq geq loadR nilP indexS buildSlice lenS fieldD neqI pickAnd pickOr)
open Go.Vc.AWp (seq ghost ret block)
set_option maxHeartbeats 4000000
set_option maxRecDepth 100000
noncomputable section
def Y3 (a0:E6) (t:Int) (i:A2) (s:Int):Option ((Unit⊕Unit)⊕Int):=
 (if (decide (s<(((a0.fPending.take t.toNat).drop 0).length:Int)))=true then
 (idx ((a0.fPending.take t.toNat).drop 0) s).bind fun p=>
 (if (((p.fPrefix.fAddr.fV6==i.fPrefix.fAddr.fV6)&&((p.fPrefix.fAddr.fHi==i.fPrefix.fAddr.fHi)&&((p.fPrefix.fAddr.fLo==i.fPrefix.fAddr.fLo)&&true)))&&((p.fPrefix.fLen==i.fPrefix.fLen)&&true))=true then
 some (.inl (.inl ()))
 else
 some (.inr (w64 (s+1))))
 else
 some (.inl (.inr ())))
def Y4 (a0:E6) (i:Int):Option ((Unit⊕Unit)⊕Int):=
 (if (decide (i<(a0.fPending.length:Int)))=true then
 (idx a0.fPending i).bind fun p=>
 (A0e p).bind fun s=>
 (if (!s)=true then
 some (.inl (.inl ()))
 else
 chk (decide (0≤i)&&decide (0≤i.toNat)&&decide (i.toNat≤a0.fPending.length))<|
 (loop (Y3 a0 i p) 0).bind fun t=>match t with
 | (.inl _)=>
  some (.inl (.inl ()))
 | (.inr _)=>
  some (.inr (w64 (i+1))))
 else
 some (.inl (.inr ())))
def A0v (a0:E6):Option (Bool):=
 (A4e a0.fBucket).bind fun i=>
 (if ((!i) || (decide (4096<(a0.fPending.length:Int))))=true then
 some false
 else
 (loop (Y4 a0) 0).bind fun p=>match p with
 | (.inl _)=>
  some false
 | (.inr _)=>
  some true)
theorem A6t (a0:E6) (r:Bool) (h:A0v a0=some r):AC Tryz.prog 12 [.d (F3 a0)] [] (.d (.bool r)) []:=by
 refine ac2 Tryz.func12 rfl rfl fun B hB hN L => ?_;delta A0v at h;refine sr (SQ tt) ?_;apply seq;obtain⟨I,J,h⟩:=bindS h;refine sr (SQ (fa (cl [] (B0n a0.fBucket I J)) tt)) ?_;apply AWp.cond rfl<;>intro C
 ·have h:=A4 C h;refine sr (SQ tt) ?_;apply ret;apply B6;obtain rfl:=oi h;exact rt (kp [(2,_)] [] hB rfl rfl (by rfl)) [bo false] (rT rN) rfl
 ·have h:=A5 C h;apply AWp.skip;apply A0;apply seq;refine sr (SQ tt) ?_;apply block;obtain⟨K,M,h⟩:=bindS h;refine lg (Y4 a0) (fun i:Int=>([(1,pt 1001),(18,A6 a0.fPending),(19,i6 (a0.fPending.length:Int)),(20,i6 i)]:EL)) (fun i:Int=>([(1001,bd 26 (F3 a0))]:OL)) (fun(x:(Unit)⊕Unit) e p s=>match x with | (.inl _p)=>e = .ret∧Mat B p s ([(2,bo false)]:EL) ([]:OL) | (.inr _p)=>e = .exit 0∧Mat B p s ([]:EL) ([]:OL)) M (mp [] _ _ hB) (fun i y h => ?_) (fun e p s hR => ?_)
  ·unfold Y4 at h;refine sr (SQ tt) ?_;apply seq;apply AWp.cond rfl<;>intro E
   ·have h:=A4 E h;apply AWp.skip;apply A0;apply seq;apply block;obtain⟨u,N,h⟩:=bindS h;refine sr (SQ (fa N tt)) ?_;apply seq;obtain⟨O,P,h⟩:=bindS h;refine sr (SQ (fa (cl [] (A0f u O P)) tt)) ?_;apply AWp.cond rfl<;>intro F
    ·have h:=A4 F h;refine sr (SQ tt) ?_;apply ret;apply B6;apply E0;apply B6;obtain rfl:=oi h;exact⟨nofun,rfl,mp [] _ _ hB⟩
    ·have h:=A5 F h;apply AWp.skip;apply A0;obtain⟨Q,h⟩:=B2 h;refine sr (SQ (fa Q tt)) ?_;apply block;obtain⟨R,S,h⟩:=bindS h;refine lg (Y3 a0 i u) (fun A:Int=>([(1,pt 1001),(4,pt 1004),(18,A6 a0.fPending),(19,i6 (a0.fPending.length:Int)),(20,i6 i),(31,A6 ((a0.fPending.take i.toNat).drop 0)),(32,i6 (((a0.fPending.take i.toNat).drop 0).length:Int)),(33,i6 A)]:EL)) (fun A:Int=>([(1001,bd 26 (F3 a0)),(1004,bd 43 (A8 u))]:OL)) (fun(x:(Unit)⊕Unit) e p s=>match x with | (.inl _p)=>e = .ret∧Mat B p s ([(2,bo false)]:EL) ([]:OL) | (.inr _p)=>e = .exit 2∧Mat B p s ([(1,pt 1001),(18,A6 a0.fPending),(19,i6 (a0.fPending.length:Int)),(20,i6 i)]:EL) ([(1001,bd 26 (F3 a0))]:OL)) S (mp [] _ _ hB) (fun A y h => ?_) (fun e p s hR => ?_)
     ·unfold Y3 at h;refine sr (SQ tt) ?_;apply seq;apply AWp.cond rfl<;>intro G
      ·have h:=A4 G h;apply AWp.skip;apply A0;apply seq;apply block;obtain⟨_,T,h⟩:=bindS h;refine sr (SQ (fa T tt)) ?_;refine sr (SQ tt) ?_;apply AWp.cond rfl<;>intro H
       ·have h:=A4 H h;refine sr (SQ tt) ?_;apply ret;apply E0;apply B6;obtain rfl:=oi h;exact⟨nofun,rfl,mp [] _ _ hB⟩
       ·have h:=A5 H h;apply AWp.skip;apply D9;apply A0;refine rg (SQ tt) ?_;obtain rfl:=oi h;exact⟨rfl,mp [] _ _ hB⟩
      ·have h:=A5 G h;apply AWp.exit;apply D7;obtain rfl:=oi h;exact⟨nofun,rfl,mp [] _ _ hB⟩
     ·rcases R with _ | _
      ·obtain⟨rfl,t⟩:=hR;apply E0;apply E0;apply B6;obtain rfl:=oi h;exact⟨nofun,rfl,Mat.trans t (mp [] _ _ hB)⟩
      ·obtain⟨rfl,t⟩:=hR;apply C0;apply D9;apply A0;refine ghost t ?_;refine rg (SQ tt) ?_;obtain rfl:=oi h;exact⟨rfl,mp [] _ _ hB⟩
   ·have h:=A5 E h;apply AWp.exit;apply D7;obtain rfl:=oi h;exact⟨nofun,rfl,mp [] _ _ hB⟩
  ·rcases K with _ | _
   ·obtain⟨rfl,t⟩:=hR;apply E0;apply B6;obtain rfl:=oi h;exact rt (Mat.trans t (mp [] [(2,bo false)] [] hB)) [bo false] (rT rN) rfl
   ·obtain⟨rfl,t⟩:=hR;apply C0;apply A0;refine ghost t ?_;refine sr (SQ tt) ?_;apply ret;obtain rfl:=oi h;exact rt (kp [(2,_)] [] hB rfl rfl (by rfl)) [bo true] (rT rN) rfl
def U2 (a0:(List A2)) (p:Int×(List A2)):Option (List A2⊕(Int×(List A2))):=
 (if (decide (p.1<(a0.length:Int)))=true then
 (idx a0 p.1).bind fun i=>
 (G8 i.fRoute.fAttrs).bind fun s=>
 chk (decide ((p.2++[A2.mk i.fTo i.fPrefix i.fHas (D4.mk i.fRoute.fPrefix i.fRoute.fFrom s)]).length≤LIM))<|
 some (.inr (w64 (p.1+1),(p.2++[A2.mk i.fTo i.fPrefix i.fHas (D4.mk i.fRoute.fPrefix i.fRoute.fFrom s)])))
 else
 some (.inl p.2))
def S8 (a0:(List A2)):Option (List A2):=
 (loop (U2 a0) (0,([]:List A2))).bind fun i=>
 some i
theorem A3a (a0:(List A2)) (r:(List A2)) (h:S8 a0=some r):AC Tryz.prog 41 [.d (.list 22 (a0.map A8))] [] (.d (.list 22 (r.map A8))) []:=by
 refine ac2 Tryz.func41 rfl rfl fun B hB hN L => ?_;delta S8 at h;refine sr (SQ tt) ?_;refine sr (SQ tt) ?_;apply seq;refine sr (SQ tt) ?_;apply block;obtain⟨i,A,h⟩:=bindS h;refine lg (U2 a0) (fun p:Int×(List A2)=>([(3,.sref 3003 22 0 p.2.length),(6,A6 a0),(7,i6 (a0.length:Int)),(8,i6 p.1)]:EL)) (fun p:Int×(List A2)=>([(3003,some (B3 p.2))]:OL)) (fun(i:(List A2)) e s t=>e = .exit 0∧Mat B s t ([(3,.sref 3003 22 0 i.length)]:EL) ([(3003,some (B3 i))]:OL)) A (Mat.trans (Mat.beginP (n:=3003) (e:=43) (sz:=22) (Ts:=[(3,.sref 3003 22 0 0)]) (Bs:=[]) hB (by decide) (by rfl) (by decide) (TwT.cons (x:=.nils) (by rfl) (Tw.leaf ⟨rfl,rfl⟩) TwT.nil) TwB.nil) (mp [] _ _ hB)) (fun p y h => ?_) (fun e s t hR => ?_)
 ·unfold U2 at h;refine sr (SQ tt) ?_;apply seq;apply AWp.cond rfl<;>intro u
  ·have h:=A4 u h;apply AWp.skip;apply A0;apply seq;apply block;obtain⟨C,E,h⟩:=bindS h;refine sr (SQ (fa E tt)) ?_;obtain⟨F,G,h⟩:=bindS h;refine sr (SQ (fa (cl [] (T1 C.fRoute.fAttrs F G)) tt)) ?_;obtain⟨H,h⟩:=B2 h;refine rg (SQ (fa H tt)) ?_;apply D9;apply A0;refine rg (SQ tt) ?_;obtain rfl:=oi h;exact⟨rfl,mp [(3003,1021)] _ _ hB⟩
  ·have h:=A5 u h;apply AWp.exit;apply D7;obtain rfl:=oi h;exact⟨nofun,rfl,mp [] _ _ hB⟩
 ·obtain⟨rfl,I⟩:=hR;apply C0;apply A0;refine ghost I ?_;refine sr (SQ tt) ?_;apply ret;obtain rfl:=oi h;exact rt (Mat.trans (Mat.freezeP (n:=3003) (e:=43) (sz:=22) (es:=i.map A8) (Ts:=[(2,A6 i)]) (Bs:=[]) (by rfl) (TwT.cons (x:=(.sref 3003 22 0 i.length)) (by rfl) (FrzL.all (by first | rfl | (simp;done) | (simp;omega) | omega)) TwT.nil) TwB.nil) (mp [] [(2,A6 i)] [] hB)) [A6 i] (rT rN) rfl
def A1o (a0:(List A2)) (p:Int×(List A2)):Option (List A2⊕(Int×(List A2))):=
 (if (decide (p.1<(a0.length:Int)))=true then
 (idx a0 p.1).bind fun i=>
 (G8 i.fRoute.fAttrs).bind fun s=>
 chk (decide ((p.2++[A2.mk i.fTo i.fPrefix i.fHas (D4.mk i.fRoute.fPrefix i.fRoute.fFrom s)]).length≤LIM))<|
 some (.inr (w64 (p.1+1),(p.2++[A2.mk i.fTo i.fPrefix i.fHas (D4.mk i.fRoute.fPrefix i.fRoute.fFrom s)])))
 else
 some (.inl p.2))
def A1l (a0:(List A2)):Option (List A2):=
 (loop (A1o a0) (0,([]:List A2))).bind fun i=>
 some i
theorem A8m (a0:(List A2)) (r:(List A2)) (h:A1l a0=some r):AC Tryz.prog 41 [.d (.list 22 (a0.map A8))] [] (.sref 900000 22 0 r.length) [(900000,some (.row 43 22 (r.map A8)))]:=by
 refine ac2 Tryz.func41 rfl rfl fun B hB hN L => ?_;delta A1l at h;refine sr (SQ tt) ?_;refine sr (SQ tt) ?_;apply seq;refine sr (SQ tt) ?_;apply block;obtain⟨i,A,h⟩:=bindS h;refine lg (A1o a0) (fun p:Int×(List A2)=>([(3,.sref 3003 22 0 p.2.length),(6,A6 a0),(7,i6 (a0.length:Int)),(8,i6 p.1)]:EL)) (fun p:Int×(List A2)=>([(3003,some (B3 p.2))]:OL)) (fun(i:(List A2)) e s t=>e = .exit 0∧Mat B s t ([(3,.sref 3003 22 0 i.length)]:EL) ([(3003,some (B3 i))]:OL)) A (Mat.trans (Mat.beginP (n:=3003) (e:=43) (sz:=22) (Ts:=[(3,.sref 3003 22 0 0)]) (Bs:=[]) hB (by decide) (by rfl) (by decide) (TwT.cons (x:=.nils) (by rfl) (Tw.leaf ⟨rfl,rfl⟩) TwT.nil) TwB.nil) (mp [] _ _ hB)) (fun p y h => ?_) (fun e s t hR => ?_)
 ·unfold A1o at h;refine sr (SQ tt) ?_;apply seq;apply AWp.cond rfl<;>intro u
  ·have h:=A4 u h;apply AWp.skip;apply A0;apply seq;apply block;obtain⟨C,E,h⟩:=bindS h;refine sr (SQ (fa E tt)) ?_;obtain⟨F,G,h⟩:=bindS h;refine sr (SQ (fa (cl [] (T1 C.fRoute.fAttrs F G)) tt)) ?_;obtain⟨H,h⟩:=B2 h;refine rg (SQ (fa H tt)) ?_;apply D9;apply A0;refine rg (SQ tt) ?_;obtain rfl:=oi h;exact⟨rfl,mp [(3003,1021)] _ _ hB⟩
  ·have h:=A5 u h;apply AWp.exit;apply D7;obtain rfl:=oi h;exact⟨nofun,rfl,mp [] _ _ hB⟩
 ·obtain⟨rfl,I⟩:=hR;apply C0;apply A0;refine ghost I ?_;refine sr (SQ tt) ?_;apply ret;obtain rfl:=oi h;exact rt (mp [(900000,3003)] [(2,.sref 900000 22 0 i.length)] [(900000,some (B3 i))] hB) [.sref 900000 22 0 i.length] (rT rN) rfl
def A0g (a1:(List A2)) (i:Int):Option ((Unit⊕Unit)⊕Int):=
 (if (decide (i<(a1.length:Int)))=true then
 (idx a1 i).bind fun p=>
 (A0e p).bind fun s=>
 (if (!s)=true then
 some (.inl (.inl ()))
 else
 some (.inr (w64 (i+1))))
 else
 some (.inl (.inr ())))
def A2f (t:Int×(List A2)) (p:A2) (i:Int):Option (Int⊕Int):=
 jn (fun A:Bool=>
 (if A=true then
 some (.inr (w64 (i+1)))
 else
 some (.inl i))) (fun u=>
 (if (decide (i<(t.2.length:Int)))=true then
 (idx t.2 i).bind fun _=>
 (idx t.2 i).bind fun s=>
 u (!(((s.fPrefix.fAddr.fV6==p.fPrefix.fAddr.fV6)&&((s.fPrefix.fAddr.fHi==p.fPrefix.fAddr.fHi)&&((s.fPrefix.fAddr.fLo==p.fPrefix.fAddr.fLo)&&true)))&&((s.fPrefix.fLen==p.fPrefix.fLen)&&true)))
 else
 u false))
def A0h (u:(List A2)) (i:Int×(List A2)):Option (List A2⊕(Int×(List A2))):=
 (if (decide (i.1<(u.length:Int)))=true then
 (idx u i.1).bind fun p=>
 (loop (A2f i p) 0).bind fun s=>
 jn (fun t:(List A2)=>
 (idx t s).bind fun _=>
 (idx t s).bind fun _=>
 some (.inr (w64 (i.1+1),t.set s.toNat p))) (fun A=>
 (if (s==(i.2.length:Int))=true then
 chk (decide ((i.2++[p]).length≤LIM))<|
 A (i.2++[p])
 else
 A i.2))
 else
 some (.inl i.2))
def A3u (a0:E6) (a1:(List A2)):Option (E6×Int):=
 (A0v a0).bind fun p=>
 (if (!p)=true then
 some (E6.mk ([]:List A2) (F4.mk 0 0 0),1)
 else
 (loop (A0g a1) 0).bind fun s=>match s with
 | (.inl _)=>
  some (E6.mk ([]:List A2) (F4.mk 0 0 0),1)
 | (.inr _)=>
  (A1l a0.fPending).bind fun t=>
  (S8 a1).bind fun u=>
  (loop (A0h u) (0,t)).bind fun i=>
  (if (decide (4096<(i.length:Int)))=true then
  some (E6.mk ([]:List A2) (F4.mk 0 0 0),3)
  else
  some (E6.mk i a0.fBucket,0)))
theorem B22 (a0:E6) (a1:(List A2)) (r:E6×Int) (h:A3u a0 a1=some r):AC Tryz.prog 17 [.d (F3 a0),.d (.list 22 (a1.map A8))] [] (.tup [.d (F3 r.1),.d (.int .i64 r.2)]) []:=by
 refine ac2 Tryz.func17 rfl rfl fun B hB hN L => ?_;delta A3u at h;refine sr (SQ tt) ?_;apply seq;obtain⟨W,X,h⟩:=bindS h;refine sr (SQ (fa (cl [] (A6t a0 W X)) tt)) ?_;apply AWp.cond rfl<;>intro M
 ·have h:=A4 M h;refine sr (SQ tt) ?_;apply ret;apply B6;obtain rfl:=oi h;exact rt (Mat.trans (Mat.coeP (Ts:=[]) (Bs:=[(1004,bd 26 (.st Zz6))]) TwT.nil (TwB.cons (x:=(.st Zz8)) (by rfl) (Tw.leaf ⟨_,Co.st (CoL.cons (Co.nils 22) (CoL.cons (Co.d _) CoL.nil)),rfl⟩) TwB.nil)) (mp [] [(4,pt 1004),(5,i6 1)] [(1004,bd 26 (.st Zz6))] hB)) [.d (.st Zz6),i6 1] (Res.cell (c:=(.d (.st Zz6))) (by rfl) (by rfl) tyS26 (by rfl) (by rfl) (by rfl) (rT rN)) rfl
 ·have h:=A5 M h;apply AWp.skip;apply A0;apply seq;refine sr (SQ tt) ?_;apply block;obtain⟨Y,Z,h⟩:=bindS h;refine lg (A0g a1) (fun I:Int=>([(1,A6 a1),(2,pt 1002),(4,pt 1004),(16,A6 a1),(17,i6 (a1.length:Int)),(18,i6 I)]:EL)) (fun I:Int=>([(1002,bd 26 (F3 a0)),(1004,some (.box 26 (.st Zz8)))]:OL)) (fun(x:(Unit)⊕Unit) e s t=>match x with | (.inl _p)=>e = .ret∧Mat B s t ([(4,pt 1004),(5,i6 1)]:EL) ([(1004,some (.box 26 (.st Zz8)))]:OL) | (.inr _p)=>e = .exit 0∧Mat B s t ([(1,A6 a1),(2,pt 1002),(4,pt 1004)]:EL) ([(1002,bd 26 (F3 a0)),(1004,some (.box 26 (.st Zz8)))]:OL)) Z (mp [] _ _ hB) (fun I y h => ?_) (fun e s t hR => ?_)
  ·unfold A0g at h;refine sr (SQ tt) ?_;apply seq;apply AWp.cond rfl<;>intro N
   ·have h:=A4 N h;apply AWp.skip;apply A0;apply seq;apply block;obtain⟨aa,ab,h⟩:=bindS h;refine sr (SQ (fa ab tt)) ?_;obtain⟨ac,ae,h⟩:=bindS h;refine sr (SQ (fa (cl [] (A0f aa ac ae)) tt)) ?_;apply AWp.cond rfl<;>intro O
    ·have h:=A4 O h;refine sr (SQ tt) ?_;apply ret;apply E0;apply B6;obtain rfl:=oi h;exact⟨nofun,rfl,mp [] _ _ hB⟩
    ·have h:=A5 O h;apply AWp.skip;apply D9;apply A0;refine rg (SQ tt) ?_;obtain rfl:=oi h;exact⟨rfl,mp [] _ _ hB⟩
   ·have h:=A5 N h;apply AWp.exit;apply D7;obtain rfl:=oi h;exact⟨nofun,rfl,mp [] _ _ hB⟩
  ·rcases Y with _ | _
   ·obtain⟨rfl,u⟩:=hR;apply E0;apply B6;obtain rfl:=oi h;exact rt (Mat.trans u (Mat.trans (Mat.coeP (Ts:=[]) (Bs:=[(1004,bd 26 (.st Zz6))]) TwT.nil (TwB.cons (x:=(.st Zz8)) (by rfl) (Tw.leaf ⟨_,Co.st (CoL.cons (Co.nils 22) (CoL.cons (Co.d _) CoL.nil)),rfl⟩) TwB.nil)) (mp [] [(4,pt 1004),(5,i6 1)] [(1004,bd 26 (.st Zz6))] hB))) [.d (.st Zz6),i6 1] (Res.cell (c:=(.d (.st Zz6))) (by rfl) (by rfl) tyS26 (by rfl) (by rfl) (by rfl) (rT rN)) rfl
   ·obtain⟨rfl,u⟩:=hR;apply C0;apply A0;refine ghost u ?_;apply seq;obtain⟨J,af,h⟩:=bindS h;refine drS (SQ (fa (cl [(900000,100200)] (A8m a0.fPending J af)) tt)) ?_;apply A0;refine ghost (mp [] [(1,A6 a1),(4,pt 1004),(8,pt 1008)] [(1004,some (.box 26 (.st Zz8))),(1008,some (.box 26 (.st [.sref 100200 22 0 J.length,.d (C8 a0.fBucket)]))),(100200,some (B3 J))] hB) ?_;apply seq;obtain⟨p,ag,h⟩:=bindS h;refine sr (SQ (fa (cl [] (A3a a1 p ag)) tt)) ?_;apply block;obtain⟨A,ah,h⟩:=bindS h;refine lg (A0h p) (fun i:Int×(List A2)=>([(4,pt 1004),(8,pt 1008),(34,A6 p),(35,i6 (p.length:Int)),(36,i6 i.1)]:EL)) (fun i:Int×(List A2)=>([(1004,some (.box 26 (.st Zz8))),(1008,some (.box 26 (.st [.sref 13080 22 0 i.2.length,.d (C8 a0.fBucket)]))),(13080,some (B3 i.2))]:OL)) (fun(A:(List A2)) e s t=>e = .exit 2∧Mat B s t ([(4,pt 1004),(8,pt 1008)]:EL) ([(1004,some (.box 26 (.st Zz8))),(1008,some (.box 26 (.st [.sref 13080 22 0 A.length,.d (C8 a0.fBucket)]))),(13080,some (B3 A))]:OL)) ah (mp [(13080,100200)] _ _ hB) (fun i y h => ?_) (fun e s t hR => ?_)
    ·unfold A0h at h;refine sr (SQ tt) ?_;apply seq;apply AWp.cond rfl<;>intro P
     ·have h:=A4 P h;apply AWp.skip;apply A0;apply seq;apply block;obtain⟨C,ai,h⟩:=bindS h;refine sr (SQ (fa ai tt)) ?_;refine sr (SQ tt) ?_;apply seq;apply block;obtain⟨F,aj,h⟩:=bindS h;refine lg (A2f i C) (fun G:Int=>([(4,pt 1004),(8,pt 1008),(10,pt 1010),(11,i6 G),(34,A6 p),(35,i6 (p.length:Int)),(36,i6 i.1)]:EL)) (fun G:Int=>([(1004,some (.box 26 (.st Zz8))),(1008,some (.box 26 (.st [.sref 13080 22 0 i.2.length,.d (C8 a0.fBucket)]))),(1010,bd 43 (A8 C)),(13080,some (B3 i.2))]:OL)) (fun(F:(Int)) e s t=>e = .exit 4∧Mat B s t ([(4,pt 1004),(8,pt 1008),(10,pt 1010),(11,i6 F),(34,A6 p),(35,i6 (p.length:Int)),(36,i6 i.1)]:EL) ([(1004,some (.box 26 (.st Zz8))),(1008,some (.box 26 (.st [.sref 13080 22 0 i.2.length,.d (C8 a0.fBucket)]))),(1010,bd 43 (A8 C)),(13080,some (B3 i.2))]:OL)) aj (mp [] _ _ hB) (fun G y h => ?_) (fun e s t hR => ?_)
      ·unfold A2f at h;apply seq;apply seq;refine AWp.cut h (fun K:Bool=>([(4,pt 1004),(8,pt 1008),(10,pt 1010),(11,i6 G),(34,A6 p),(35,i6 (p.length:Int)),(36,i6 i.1),(55,bo K)]:EL)) (fun K:Bool=>([(1004,some (.box 26 (.st Zz8))),(1008,some (.box 26 (.st [.sref 13080 22 0 i.2.length,.d (C8 a0.fBucket)]))),(1010,bd 43 (A8 C)),(13080,some (B3 i.2))]:OL)) (fun K h s t u => ?_) (fun ap Q h => ?_)
       ·apply A0;refine ghost u ?_;apply AWp.cond rfl<;>intro R
        ·have h:=A4 R h;apply AWp.skip;apply A0;apply block;refine rg (SQ tt) ?_;apply D9;obtain rfl:=oi h;exact⟨rfl,mp [] _ _ hB⟩
        ·have h:=A5 R h;apply AWp.exit;apply D7;obtain rfl:=oi h;exact⟨nofun,rfl,mp [] _ _ hB⟩
       ·rcases bft (decide (G<(i.2.length:Int))) with H | H
        ·have h:=A4 H h;obtain⟨_,ak,h⟩:=bindS h;obtain⟨_,al,h⟩:=bindS h;refine drS (SQ (fa H (fa ak (fa al tt)))) ?_;exact Q _ h _ _ (mp [] _ _ hB)
        ·have h:=A5 H h;refine drS (SQ (fa H tt)) ?_;exact Q _ h _ _ (mp [] _ _ hB)
      ·obtain⟨rfl,u⟩:=hR;apply C0;apply A0;refine ghost u ?_;apply seq;refine sr (SQ tt) ?_;refine gh [(4,_),(8,_),(10,_),(11,_),(34,_),(35,_),(36,_),(62,_)] [(1004,some _),(1008,some _),(1010,some _),(13080,some _)] hB rfl rfl (by rfl) ?_;refine AWp.cut h (fun E:(List A2)=>([(4,pt 1004),(8,pt 1008),(10,pt 1010),(11,i6 F),(34,A6 p),(35,i6 (p.length:Int)),(36,i6 i.1)]:EL)) (fun E:(List A2)=>([(1004,some (.box 26 (.st Zz8))),(1008,some (.box 26 (.st [.sref 13080 22 0 E.length,.d (C8 a0.fBucket)]))),(1010,bd 43 (A8 C)),(13080,some (B3 E))]:OL)) (fun E h s t u => ?_) (fun aq S h => ?_)
       ·apply A0;refine ghost u ?_;obtain⟨_,am,h⟩:=bindS h;obtain⟨_,an,h⟩:=bindS h;refine rg (SQ (fa am (fa an (fa (sv C) tt)))) ?_;apply D9;apply A0;refine rg (SQ tt) ?_;obtain rfl:=oi h;exact⟨rfl,Mat.trans (mp [] [(4,pt 1004),(8,pt 1008),(34,A6 p),(35,i6 (p.length:Int)),(36,i6 (w64 (i.1+1)))] [(1004,some (.box 26 (.st Zz8))),(1008,some (.box 26 (.st [.sref 13080 22 0 E.length,.d (C8 a0.fBucket)]))),(13080,some (B3 (E.set F.toNat C)))] hB) (Mat.trans (Mat.lenP (Ts:=[]) (Bs:=[(1008,some (.box 26 (.st [.sref 13080 22 0 ((E.set F.toNat C).length),.d (C8 a0.fBucket)])))]) TwT.nil (TwB.cons (x:=(.st [.sref 13080 22 0 E.length,.d (C8 a0.fBucket)])) (by rfl) (Tw.st (TwL.cons (Tw.leaf ⟨_,_,_,_,_,rfl,rfl,(by first | rfl | (simp;done) | (simp;omega) | omega)⟩) (TwL.cons (Tw.same _) TwL.nil))) TwB.nil)) (mp [] _ _ hB))⟩
       ·apply AWp.cond rfl<;>intro T
        ·have h:=A4 T h;obtain⟨ao,h⟩:=B2 h;refine rg (SQ (fa ao tt)) ?_;exact S _ h _ _ (mp [(13080,1067)] _ _ hB)
        ·have h:=A5 T h;apply AWp.skip;exact S _ h _ _ (mp [] _ _ hB)
     ·have h:=A5 P h;apply AWp.exit;apply D7;obtain rfl:=oi h;exact⟨nofun,rfl,mp [] _ _ hB⟩
    ·obtain⟨rfl,u⟩:=hR;apply C0;apply A0;refine ghost u ?_;apply seq;refine sr (SQ tt) ?_;apply AWp.cond rfl<;>intro U
     ·have h:=A4 U h;refine sr (SQ tt) ?_;apply ret;apply B6;obtain rfl:=oi h;exact rt (Mat.trans (Mat.coeP (Ts:=[]) (Bs:=[(1004,bd 26 (.st Zz6))]) TwT.nil (TwB.cons (x:=(.st Zz8)) (by rfl) (Tw.leaf ⟨_,Co.st (CoL.cons (Co.nils 22) (CoL.cons (Co.d _) CoL.nil)),rfl⟩) TwB.nil)) (mp [] [(4,pt 1004),(5,i6 3)] [(1004,bd 26 (.st Zz6))] hB)) [.d (.st Zz6),i6 3] (Res.cell (c:=(.d (.st Zz6))) (by rfl) (by rfl) tyS26 (by rfl) (by rfl) (by rfl) (rT rN)) rfl
     ·have h:=A5 U h;apply AWp.skip;apply A0;refine sr (SQ tt) ?_;apply ret;obtain rfl:=oi h;exact rt (Mat.trans (Mat.freezeP (n:=13080) (e:=43) (sz:=22) (es:=A.map A8) (Ts:=[]) (Bs:=[(1004,some (.box 26 (.st [A6 A,.d (C8 a0.fBucket)])))]) (by rfl) TwT.nil (TwB.cons (x:=(.st [.sref 13080 22 0 A.length,.d (C8 a0.fBucket)])) (by rfl) (Tw.st (TwL.cons (FrzL.all (by first | rfl | (simp;done) | (simp;omega) | omega)) (TwL.cons (Tw.same _) TwL.nil))) TwB.nil)) (Mat.trans (Mat.coeP (Ts:=[]) (Bs:=[(1004,bd 26 (.st [.list 22 (A.map A8),C8 a0.fBucket]))]) TwT.nil (TwB.cons (x:=(.st [A6 A,.d (C8 a0.fBucket)])) (by rfl) (Tw.leaf ⟨_,Co.st (CoL.cons (Co.d _) (CoL.cons (Co.d _) CoL.nil)),rfl⟩) TwB.nil)) (mp [] [(4,pt 1004),(5,i6 0)] [(1004,bd 26 (.st [.list 22 (A.map A8),C8 a0.fBucket]))] hB))) [.d (.st [.list 22 (A.map A8),C8 a0.fBucket]),i6 0] (Res.cell (c:=(.d (.st [.list 22 (A.map A8),C8 a0.fBucket]))) (by rfl) (by rfl) tyS26 (by rfl) (by rfl) (by rfl) (rT rN)) rfl
def H3 (a0:(List A7)) (a1:A7) (a2:A1) (a3:Bool):Option (List A7):=
 jn (fun _:Unit=>
 chk (decide ((a0++[a1]).length≤LIM))<|
 some (a0++[a1])) (fun s=>
 (if (!a3)=true then
 (idx a0 (w64 ((a0.length:Int)-1))).bind fun _=>
 (idx a0 (w64 ((a0.length:Int)-1))).bind fun i=>
 chk (decide (i.fWithdraw.length≤LIM))<|
 chk (decide (i.fAnnounce.length≤LIM))<|
 jn (fun p:(List A1)×(List A1)=>
 (J9 (A7.mk p.2 i.fAttrs p.1)).bind fun u=>
 (if u=true then
 (idx a0 (w64 ((a0.length:Int)-1))).bind fun _=>
 (idx a0 (w64 ((a0.length:Int)-1))).bind fun _=>
 some (a0.set (w64 ((a0.length:Int)-1)).toNat (A7.mk p.2 i.fAttrs p.1))
 else
 s ())) (fun t=>
 (if (decide (0<(i.fWithdraw.length:Int)))=true then
 chk (decide ((i.fWithdraw++[a2]).length≤LIM))<|
 t (i.fAnnounce,(i.fWithdraw++[a2]))
 else
 chk (decide ((i.fAnnounce++[a2]).length≤LIM))<|
 t ((i.fAnnounce++[a2]),i.fWithdraw)))
 else
 s ()))
theorem A4v (a0:(List A7)) (a1:A7) (a2:A1) (a3:Bool) (r:(List A7)) (h:H3 a0 a1 a2 a3=some r):AC Tryz.prog 81 [.sref 0 13 0 a0.length,.d (E5 a1),.d (B0 a2),.d (.bool a3)] [(0,.row 71 13 (a0.map E5))] (.sref 900000 13 0 r.length) [(0,none),(900000,some (.row 71 13 (r.map E5)))]:=by
 refine ac2 Tryz.func81 rfl rfl fun B hB hN L => ?_;delta H3 at h;refine sr (SQ tt) ?_;apply seq;refine sr (SQ tt) ?_;refine gh [(0,_),(5,_),(6,_),(11,_)] [(0,some _),(1005,some _),(1006,some _)] hB rfl rfl (by rfl) ?_;refine AWp.cut h (fun _:Unit=>([(0,.sref 0 13 0 a0.length),(5,pt 1005)]:EL)) (fun _:Unit=>([(0,some (C1 a0)),(1005,bd 71 (E5 a1))]:OL)) (fun _m h M N s => ?_) (fun T t h => ?_)
 ·apply A0;refine ghost s ?_;obtain⟨u,h⟩:=B2 h;have hc20_o:=u;simp only [decide_eq_true_eq] at hc20_o;refine sr (SQ (fa u tt)) ?_;apply ret;obtain rfl:=oi h;exact rt (mp [(900000,1054)] [(8,.sref 900000 13 0 ((a0++[a1]).length))] [(900000,some (C1 (a0++[a1])))] hB) [.sref 900000 13 0 ((a0++[a1]).length)] (rT rN) rfl
 ·apply AWp.cond rfl<;>intro A
  ·have h:=A4 A h;obtain⟨_,O,h⟩:=bindS h;obtain⟨p,P,h⟩:=bindS h;refine sr (SQ (fa O (fa P tt))) ?_;obtain⟨C,h⟩:=B2 h;have hc24_o:=C;simp only [decide_eq_true_eq] at hc24_o;obtain⟨E,h⟩:=B2 h;have hc25_o:=E;simp only [decide_eq_true_eq] at hc25_o;refine sdS (SQ (fa C (fa E tt))) ?_;apply seq;refine sr (SQ tt) ?_;refine gh [(0,_),(5,_),(6,_),(9,_),(29,_)] [(0,some _),(1005,some _),(1006,some _),(1009,some _),(1020,some _),(1023,some _)] hB rfl rfl (by rfl) ?_;refine AWp.cut h (fun i:(List A1)×(List A1)=>([(0,.sref 0 13 0 a0.length),(5,pt 1005),(9,pt 1009)]:EL)) (fun i:(List A1)×(List A1)=>([(0,some (C1 a0)),(1005,bd 71 (E5 a1)),(1009,some (.box 71 (.st [.sref 13090 4 0 i.2.length,.d (C7 p.fAttrs),.sref 13092 4 0 i.1.length]))),(13090,some (G0 i.2)),(13092,some (G0 i.1))]:OL)) (fun i h M N s => ?_) (fun U F h => ?_)
   ·apply A0;refine ghost s ?_;apply seq;refine ghost (Mat.freezeP (n:=13090) (e:=33) (sz:=4) (es:=i.2.map B0) (Ts:=[]) (Bs:=[(1009,some (.box 71 (.st [F7 i.2,.d (C7 p.fAttrs),.sref 13092 4 0 i.1.length])))]) (by rfl) TwT.nil (TwB.cons (x:=(.st [.sref 13090 4 0 i.2.length,.d (C7 p.fAttrs),.sref 13092 4 0 i.1.length])) (by rfl) (Tw.st (TwL.cons (FrzL.all (by first | rfl | (simp;done) | (simp;omega) | omega)) (TwL.cons (Tw.same _) (TwL.cons (Tw.same _) TwL.nil)))) TwB.nil)) ?_
    refine ghost (Mat.freezeP (n:=13092) (e:=33) (sz:=4) (es:=i.1.map B0) (Ts:=[]) (Bs:=[(1009,some (.box 71 (.st [F7 i.2,.d (C7 p.fAttrs),F7 i.1])))]) (by rfl) TwT.nil (TwB.cons (x:=(.st [F7 i.2,.d (C7 p.fAttrs),.sref 13092 4 0 i.1.length])) (by rfl) (Tw.st (TwL.cons (Tw.same _) (TwL.cons (Tw.same _) (TwL.cons (FrzL.all (by first | rfl | (simp;done) | (simp;omega) | omega)) TwL.nil)))) TwB.nil)) ?_
    obtain⟨Q,R,h⟩:=bindS h;refine rg (SQ (fa (cl [] (A46 (A7.mk i.2 p.fAttrs i.1) Q R)) tt)) ?_;apply A0;apply AWp.cond rfl<;>intro G
    ·have h:=A4 G h;obtain⟨_,H,h⟩:=bindS h;obtain⟨_,S,h⟩:=bindS h;apply sr (c (mv hN (q 0)) rfl (c (mv hN (q 0)) rfl (c (lenS underlying57 (L rfl) (q 45)) rfl (c (sub6 (L rfl) (q 46) (ii 1)) rfl (c (lb hN 71 _ _ tyS71 (At.here _) (q 9)) rfl (c (OpJ.val (v':=(.ptr 0 ((w64 ((a0.length:Int)-1)).toNat*13) [(w64 ((a0.length:Int)-1)).toNat])) (by simp) (indexS underlying57 tyS71 (G4 H).1 (by have:=B40 H;first | (simpa using this) | ((try simp only [List.length_map] at this);(try simp only [List.length_map]);omega)) (L rfl) (q 44) (q 47))) rfl (cg (OpJ.storeR (e:=71) (sz:=13) (es':=(a0.set (w64 ((a0.length:Int)-1)).toNat (A7.mk i.2 p.fAttrs i.1)).map E5) tyS71 (T0 E5 (G4 S).2) (o:=0) (SetAt.here _ _) (by rfl) (B16 _ _ _ _) (by rfl) (by rfl) (q 49) (Opd.co (Co.st (CoL.cons (Co.d _) (CoL.cons (Co.d _) (CoL.cons (Co.d _) CoL.nil)))) (q 48))) rfl cn)))))))
     refine sr (SQ tt) ?_;apply ret;apply B6;obtain rfl:=oi h;exact rt (Mat.trans (Mat.lenP (Ts:=[(8,.sref 0 13 0 ((a0.set (w64 ((a0.length:Int)-1)).toNat (A7.mk i.2 p.fAttrs i.1)).length))]) (Bs:=[]) (TwT.cons (x:=(.sref 0 13 0 a0.length)) (by rfl) (Tw.leaf ⟨_,_,_,_,_,rfl,rfl,(by first | rfl | (simp;done) | (simp;omega) | omega)⟩) TwT.nil) TwB.nil) (mp [(900000,0)] [(8,.sref 900000 13 0 ((a0.set (w64 ((a0.length:Int)-1)).toNat (A7.mk i.2 p.fAttrs i.1)).length))] [(900000,some (C1 (a0.set (w64 ((a0.length:Int)-1)).toNat (A7.mk i.2 p.fAttrs i.1))))] hB)) [.sref 900000 13 0 ((a0.set (w64 ((a0.length:Int)-1)).toNat (A7.mk i.2 p.fAttrs i.1)).length)] (rT rN) rfl
    ·have h:=A5 G h;apply AWp.skip;exact t _ h _ _ (mp [] _ _ hB)
   ·apply AWp.cond rfl<;>intro I
    ·have h:=A4 I h;obtain⟨J,h⟩:=B2 h;have hc36_o:=J;simp only [decide_eq_true_eq] at hc36_o;refine rg (SQ (fa J tt)) ?_;exact F _ h _ _ (mp [(13090,1034),(13092,1023)] _ _ hB)
    ·have h:=A5 I h;obtain⟨K,h⟩:=B2 h;have hc37_o:=K;simp only [decide_eq_true_eq] at hc37_o;refine rg (SQ (fa K tt)) ?_;exact F _ h _ _ (mp [(13090,1020),(13092,1040)] _ _ hB)
  ·have h:=A5 A h;apply AWp.skip;exact t _ h _ _ (mp [] _ _ hB)
def U3 (a0:(List A2)) (i:Int):Option ((Unit⊕Unit)⊕Int):=
 (if (decide (i<(a0.length:Int)))=true then
 (idx a0 i).bind fun s=>
 jn (fun t:Bool=>
 (if t=true then
 some (.inl (.inl ()))
 else
 some (.inr (w64 (i+1))))) (fun p=>
 (A0e s).bind fun u=>
 (if (!u)=true then
 p true
 else
 (if (decide (0<i))=true then
 (idx a0 (w64 (i-1))).bind fun A=>
 (A1n A.fPrefix s.fPrefix).bind fun C=>
 p (decide (0≤C))
 else
 p false)))
 else
 some (.inl (.inr ())))
def U4 (a0:(List A2)) (i:Int×(List A7)):Option (List A7⊕(Int×(List A7))):=
 (if (decide (i.1<(a0.length:Int)))=true then
 (idx a0 i.1).bind fun p=>
 jn (fun t:(List A7)=>
 some (.inr (w64 (i.1+1),t))) (fun s=>
 (if (!p.fHas)=true then
 (A0q).bind fun u=>
 (H3 i.2 (A7.mk [p.fPrefix] u ([]:List A1)) p.fPrefix ((i.2.length:Int)==0)).bind fun A=>
 s A
 else
 s i.2))
 else
 some (.inl i.2))
def U5 (a0:(List A2)) (A:A2) (i:Bool×Int×(List Bool)×(List A7)):Option (((List Bool)×(List A7))⊕(Bool×Int×(List Bool)×(List A7))):=
 (if (decide (i.2.1<(a0.length:Int)))=true then
 (idx a0 i.2.1).bind fun p=>
 jn (fun C:Bool=>
 jn (fun s:Bool×(List Bool)×(List A7)=>
 some (.inr (s.1,w64 (i.2.1+1),s.2.1,s.2.2))) (fun t=>
 (if C=true then
 (G8 p.fRoute.fAttrs).bind fun E=>
 (H3 i.2.2.2 (A7.mk ([]:List A1) E [p.fPrefix]) p.fPrefix i.1).bind fun F=>
 (idx i.2.2.1 i.2.1).bind fun _=>
 (idx i.2.2.1 i.2.1).bind fun _=>
 t (false,i.2.2.1.set i.2.1.toNat true,F)
 else
 t (i.1,i.2.2.1,i.2.2.2)))) (fun u=>
 (if p.fHas=true then
 (I1 p.fRoute.fAttrs A.fRoute.fAttrs).bind fun G=>
 u G
 else
 u false))
 else
 some (.inl (i.2.2.1,i.2.2.2)))
def A0i (a0:(List A2)) (i:Int×(List Bool)×(List A7)):Option (List A7⊕(Int×(List Bool)×(List A7))):=
 (if (decide (i.1<(a0.length:Int)))=true then
 jn (fun p:(List Bool)×(List A7)=>
 some (.inr (w64 (i.1+1),p.1,p.2))) (fun s=>
 (idx a0 i.1).bind fun t=>
 jn (fun C:Bool=>
 (if C=true then
 s (i.2.1,i.2.2)
 else
 (loop (U5 a0 t) (true,i.1,i.2.1,i.2.2)).bind fun u=>
 s (u.1,u.2))) (fun A=>
 (if (!t.fHas)=true then
 A true
 else
 (idx i.2.1 i.1).bind fun _=>
 (idx i.2.1 i.1).bind fun E=>
 A E)))
 else
 some (.inl i.2.2))
def A3v (a0:(List A2)):Option ((List A7)×Int):=
 (loop (U3 a0) 0).bind fun i=>match i with
 | (.inl _)=>
  some (([]:List A7),1)
 | (.inr _)=>
  (loop (U4 a0) (0,([]:List A7))).bind fun p=>
  chk (decide (0≤(a0.length:Int))&&decide ((a0.length:Int)≤(a0.length:Int))&&decide ((a0.length:Int)≤(LIM:Int)))<|
  (loop (A0i a0) (0,List.replicate (a0.length:Int).toNat false,p)).bind fun s=>
  some (s,0)
theorem B23 (a0:(List A2)) (r:(List A7)×Int) (h:A3v a0=some r):AC Tryz.prog 52 [.d (.list 22 (a0.map A8))] [] (.tup [.d (.list 13 (r.1.map E5)),.d (.int .i64 r.2)]) []:=by
 refine ac2 Tryz.func52 rfl rfl fun B hB hN L => ?_;delta A3v at h;refine sr (SQ tt) ?_;apply seq;refine sr (SQ tt) ?_;apply block;obtain⟨ar,au,h⟩:=bindS h;refine lg (U3 a0) (fun J:Int=>([(0,A6 a0),(15,A6 a0),(16,i6 (a0.length:Int)),(17,i6 J)]:EL)) (fun J:Int=>([]:OL)) (fun(x:(Unit)⊕Unit) e t u=>match x with | (.inl _p)=>e = .ret∧Mat B t u ([(2,.nils),(3,i6 1)]:EL) ([]:OL) | (.inr _p)=>e = .exit 0∧Mat B t u ([(0,A6 a0)]:EL) ([]:OL)) au (mp [] _ _ hB) (fun J y h => ?_) (fun e t u hR => ?_)
 ·unfold U3 at h;refine sr (SQ tt) ?_;apply seq;apply AWp.cond rfl<;>intro aa
  ·have h:=A4 aa h;apply AWp.skip;apply A0;apply seq;apply block;obtain⟨Q,av,h⟩:=bindS h;refine sr (SQ (fa av tt)) ?_;apply seq;refine AWp.cut h (fun T:Bool=>([(0,A6 a0),(15,A6 a0),(16,i6 (a0.length:Int)),(17,i6 J),(40,bo T)]:EL)) (fun T:Bool=>([]:OL)) (fun T h t u p => ?_) (fun bn U h => ?_)
   ·apply A0;refine ghost p ?_;apply AWp.cond rfl<;>intro ab
    ·have h:=A4 ab h;refine sr (SQ tt) ?_;apply ret;apply E0;apply B6;obtain rfl:=oi h;exact⟨nofun,rfl,mp [] _ _ hB⟩
    ·have h:=A5 ab h;apply AWp.skip;apply D9;apply A0;refine rg (SQ tt) ?_;obtain rfl:=oi h;exact⟨rfl,mp [] _ _ hB⟩
   ·obtain⟨R,W,h⟩:=bindS h;rcases bft (!R) with G | G
    ·have h:=A4 G h;refine drS (SQ (fa (cl [] (A0f Q R W)) (fa G tt))) ?_;exact U _ h _ _ (mp [] _ _ hB)
    ·have h:=A5 G h;rcases bft (decide (0<J)) with K | K
     ·have h:=A4 K h;obtain⟨aw,ax,h⟩:=bindS h;obtain⟨ay,az,h⟩:=bindS h;refine drS (SQ (fa (cl [] (A0f Q R W)) (fa G (fa K (fa ax (fa (cl [] (A5k aw.fPrefix Q.fPrefix ay az)) tt)))))) ?_;exact U _ h _ _ (mp [] _ _ hB)
     ·have h:=A5 K h;refine drS (SQ (fa (cl [] (A0f Q R W)) (fa G (fa K tt)))) ?_;exact U _ h _ _ (mp [] _ _ hB)
  ·have h:=A5 aa h;apply AWp.exit;apply D7;obtain rfl:=oi h;exact⟨nofun,rfl,mp [] _ _ hB⟩
 ·rcases ar with _ | _
  ·obtain⟨rfl,p⟩:=hR;apply E0;apply B6;obtain rfl:=oi h;exact rt (Mat.trans p (Mat.trans (Mat.coeP (Ts:=[(2,C9 ([]:List A7))]) (Bs:=[]) (TwT.cons (x:=.nils) (by rfl) (Tw.leaf ⟨_,Co.nils 13,rfl⟩) TwT.nil) TwB.nil) (mp [] [(2,C9 ([]:List A7)),(3,i6 1)] [] hB))) [C9 ([]:List A7),i6 1] (rT (rT rN)) rfl
  ·obtain⟨rfl,p⟩:=hR;apply C0;apply A0;refine ghost p ?_;refine sr (SQ tt) ?_;apply seq;refine sr (SQ tt) ?_;apply block;obtain⟨X,a4,h⟩:=bindS h;refine lg (U4 a0) (fun C:Int×(List A7)=>([(0,A6 a0),(6,.sref 3006 13 0 C.2.length),(42,A6 a0),(43,i6 (a0.length:Int)),(44,i6 C.1)]:EL)) (fun C:Int×(List A7)=>([(3006,some (C1 C.2))]:OL)) (fun(X:(List A7)) e t u=>e = .exit 2∧Mat B t u ([(0,A6 a0),(6,.sref 3006 13 0 X.length)]:EL) ([(3006,some (C1 X))]:OL)) a4 (Mat.trans (Mat.beginP (n:=3006) (e:=71) (sz:=13) (Ts:=[(6,.sref 3006 13 0 0)]) (Bs:=[]) hB (by decide) (by rfl) (by decide) (TwT.cons (x:=.nils) (by rfl) (Tw.leaf ⟨rfl,rfl⟩) TwT.nil) TwB.nil) (mp [] _ _ hB)) (fun C y h => ?_) (fun e t u hR => ?_)
   ·unfold U4 at h;refine sr (SQ tt) ?_;apply seq;apply AWp.cond rfl<;>intro ac
    ·have h:=A4 ac h;apply AWp.skip;apply A0;apply seq;apply block;obtain⟨ae,a5,h⟩:=bindS h;refine sr (SQ (fa a5 tt)) ?_;refine sr (SQ tt) ?_;refine gh [(0,_),(6,_),(8,_),(42,_),(43,_),(44,_),(50,_)] [(1008,some _),(3006,some _)] hB rfl rfl (by rfl) ?_;refine AWp.cut h (fun S:(List A7)=>([(0,A6 a0),(6,.sref 3006 13 0 S.length),(42,A6 a0),(43,i6 (a0.length:Int)),(44,i6 C.1)]:EL)) (fun S:(List A7)=>([(3006,some (C1 S))]:OL)) (fun S h t u p => ?_) (fun bp af h => ?_)
     ·apply D9;apply A0;refine ghost p ?_;refine rg (SQ tt) ?_;obtain rfl:=oi h;exact⟨rfl,mp [] _ _ hB⟩
     ·apply AWp.cond rfl<;>intro ag
      ·have h:=A4 ag h;obtain⟨ah,a6,h⟩:=bindS h;obtain⟨a7,a8,h⟩:=bindS h;refine drS (SQ (fa (cl [] (A43  ah a6)) (fa (cl [(0,3006),(900000,100300)] (A4v C.2 (A7.mk [ae.fPrefix] ah ([]:List A1)) ae.fPrefix ((C.2.length:Int)==0) a7 a8)) tt))) ?_;exact af _ h _ _ (mp [(3006,100300)] _ _ hB)
      ·have h:=A5 ag h;apply AWp.skip;exact af _ h _ _ (mp [] _ _ hB)
    ·have h:=A5 ac h;apply AWp.exit;apply D7;obtain rfl:=oi h;exact⟨nofun,rfl,mp [] _ _ hB⟩
   ·obtain⟨rfl,p⟩:=hR;apply C0;apply A0;refine ghost p ?_;obtain⟨a9,h⟩:=B2 h;refine sr (SQ (fa a9 tt)) ?_;apply seq;refine sr (SQ tt) ?_;apply block;obtain⟨E,ba,h⟩:=bindS h;refine lg (A0i a0) (fun s:Int×(List Bool)×(List A7)=>([(0,A6 a0),(6,.sref 3006 13 0 s.2.2.length),(9,.sref 1066 1 0 s.2.1.length),(67,A6 a0),(68,i6 (a0.length:Int)),(69,i6 s.1)]:EL)) (fun s:Int×(List Bool)×(List A7)=>([(1066,some (.row 4 1 (s.2.1.map eB))),(3006,some (C1 s.2.2))]:OL)) (fun(E:(List A7)) e t u=>e = .exit 4∧Mat B t u ([(6,.sref 3006 13 0 E.length)]:EL) ([(3006,some (C1 E))]:OL)) ba (mp [] _ _ hB) (fun s y h => ?_) (fun e t u hR => ?_)
    ·unfold A0i at h;refine sr (SQ tt) ?_;apply seq;apply AWp.cond rfl<;>intro ai
     ·have h:=A4 ai h;apply AWp.skip;apply A0;apply seq;refine AWp.cut h (fun H:(List Bool)×(List A7)=>([(0,A6 a0),(6,.sref 3006 13 0 H.2.length),(9,.sref 1066 1 0 H.1.length),(67,A6 a0),(68,i6 (a0.length:Int)),(69,i6 s.1)]:EL)) (fun H:(List Bool)×(List A7)=>([(1066,some (.row 4 1 (H.1.map eB))),(3006,some (C1 H.2))]:OL)) (fun H h t u p => ?_) (fun bq aj h => ?_)
      ·apply A0;refine ghost p ?_;refine rg (SQ tt) ?_;obtain rfl:=oi h;exact⟨rfl,mp [] _ _ hB⟩
      ·apply block;obtain⟨A,bb,h⟩:=bindS h;refine sr (SQ (fa bb tt)) ?_;apply seq;apply seq;refine AWp.cut h (fun Y:Bool=>([(0,A6 a0),(6,.sref 3006 13 0 s.2.2.length),(9,.sref 1066 1 0 s.2.1.length),(10,i6 s.1),(11,pt 1011),(67,A6 a0),(68,i6 (a0.length:Int)),(69,i6 s.1),(82,bo Y)]:EL)) (fun Y:Bool=>([(1011,bd 43 (A8 A)),(1066,some (.row 4 1 (s.2.1.map eB))),(3006,some (C1 s.2.2))]:OL)) (fun Y h t u p => ?_) (fun br ak h => ?_)
       ·apply A0;refine ghost p ?_;apply AWp.cond rfl<;>intro al
        ·have h:=A4 al h;apply AWp.exit;apply D7;apply C0;exact aj _ h _ _ (mp [] _ _ hB)
        ·have h:=A5 al h;apply AWp.skip;apply A0;refine sr (SQ tt) ?_;refine sr (SQ tt) ?_;apply block;obtain⟨M,bc,h⟩:=bindS h;refine lg (U5 a0 A) (fun i:Bool×Int×(List Bool)×(List A7)=>([(0,A6 a0),(6,.sref 3006 13 0 i.2.2.2.length),(9,.sref 1066 1 0 i.2.2.1.length),(11,pt 1011),(12,bo i.1),(13,i6 i.2.1),(67,A6 a0),(68,i6 (a0.length:Int)),(69,i6 s.1)]:EL)) (fun i:Bool×Int×(List Bool)×(List A7)=>([(1011,bd 43 (A8 A)),(1066,some (.row 4 1 (i.2.2.1.map eB))),(3006,some (C1 i.2.2.2))]:OL)) (fun(M:((List Bool)×(List A7))) e t u=>e = .exit 6∧Mat B t u ([(0,A6 a0),(6,.sref 3006 13 0 M.2.length),(9,.sref 1066 1 0 M.1.length),(67,A6 a0),(68,i6 (a0.length:Int)),(69,i6 s.1)]:EL) ([(1066,some (.row 4 1 (M.1.map eB))),(3006,some (C1 M.2))]:OL)) bc (mp [] _ _ hB) (fun i y h => ?_) (fun e t u hR => ?_)
         ·unfold U5 at h;apply seq;refine sr (SQ tt) ?_;apply AWp.cond rfl<;>intro am
          ·have h:=A4 am h;apply AWp.skip;apply A0;apply seq;apply block;obtain⟨I,be,h⟩:=bindS h;refine sr (SQ (fa be tt)) ?_;apply seq;refine AWp.cut h (fun Z:Bool=>([(0,A6 a0),(6,.sref 3006 13 0 i.2.2.2.length),(9,.sref 1066 1 0 i.2.2.1.length),(11,pt 1011),(12,bo i.1),(13,i6 i.2.1),(14,pt 1014),(67,A6 a0),(68,i6 (a0.length:Int)),(69,i6 s.1),(104,bo Z)]:EL)) (fun Z:Bool=>([(1011,bd 43 (A8 A)),(1014,bd 43 (A8 I)),(1066,some (.row 4 1 (i.2.2.1.map eB))),(3006,some (C1 i.2.2.2))]:OL)) (fun Z h t u p => ?_) (fun bs an h => ?_)
           ·apply A0;refine ghost p ?_;refine AWp.cut h (fun F:Bool×(List Bool)×(List A7)=>([(0,A6 a0),(6,.sref 3006 13 0 F.2.2.length),(9,.sref 1066 1 0 F.2.1.length),(11,pt 1011),(12,bo F.1),(13,i6 i.2.1),(67,A6 a0),(68,i6 (a0.length:Int)),(69,i6 s.1)]:EL)) (fun F:Bool×(List Bool)×(List A7)=>([(1011,bd 43 (A8 A)),(1066,some (.row 4 1 (F.2.1.map eB))),(3006,some (C1 F.2.2))]:OL)) (fun F h t u p => ?_) (fun bu ao h => ?_)
            ·apply D9;apply A0;refine ghost p ?_;refine rg (SQ tt) ?_;obtain rfl:=oi h;exact⟨rfl,mp [] _ _ hB⟩
            ·apply AWp.cond rfl<;>intro ap
             ·have h:=A4 ap h;apply seq;obtain⟨aq,bf,h⟩:=bindS h;obtain⟨N,bg,h⟩:=bindS h;refine drS (SQ (fa (cl [] (T1 I.fRoute.fAttrs aq bf)) (fa (cl [(0,3006),(900000,100600)] (A4v i.2.2.2 (A7.mk ([]:List A1) aq [I.fPrefix]) I.fPrefix i.1 N bg)) tt))) ?_;apply A0;refine ghost (mp [] [(0,A6 a0),(6,.sref 100600 13 0 N.length),(9,.sref 1066 1 0 i.2.2.1.length),(11,pt 1011),(13,i6 i.2.1),(67,A6 a0),(68,i6 (a0.length:Int)),(69,i6 s.1)] [(1011,bd 43 (A8 A)),(1066,some (.row 4 1 (i.2.2.1.map eB))),(100600,some (C1 N))] hB) ?_;obtain⟨_,bh,h⟩:=bindS h;obtain⟨_,bi,h⟩:=bindS h;refine rg (SQ (fa bh (fa bi (fa (sv true) tt)))) ?_;exact ao _ h _ _ (Mat.trans (mp [] [(0,A6 a0),(6,.sref 100600 13 0 N.length),(9,.sref 1066 1 0 i.2.2.1.length),(11,pt 1011),(12,bo false),(13,i6 i.2.1),(67,A6 a0),(68,i6 (a0.length:Int)),(69,i6 s.1)] [(1011,bd 43 (A8 A)),(1066,some (.row 4 1 ((i.2.2.1.set i.2.1.toNat true).map eB))),(100600,some (C1 N))] hB) (Mat.trans (Mat.lenP (Ts:=[(9,.sref 1066 1 0 ((i.2.2.1.set i.2.1.toNat true).length))]) (Bs:=[]) (TwT.cons (x:=(.sref 1066 1 0 i.2.2.1.length)) (by rfl) (Tw.leaf ⟨_,_,_,_,_,rfl,rfl,(by first | rfl | (simp;done) | (simp;omega) | omega)⟩) TwT.nil) TwB.nil) (mp [(3006,100600)] _ _ hB)))
             ·have h:=A5 ap h;apply AWp.skip;exact ao _ h _ _ (mp [] _ _ hB)
           ·rcases bft I.fHas with O | O
            ·have h:=A4 O h;obtain⟨bj,bk,h⟩:=bindS h;refine rg (SQ (fa O (fa (cl [] (A4a I.fRoute.fAttrs A.fRoute.fAttrs bj bk)) tt))) ?_;exact an _ h _ _ (mp [] _ _ hB)
            ·have h:=A5 O h;refine rg (SQ (fa O tt)) ?_;exact an _ h _ _ (mp [] _ _ hB)
          ·have h:=A5 am h;apply AWp.exit;apply D7;obtain rfl:=oi h;exact⟨nofun,rfl,mp [] _ _ hB⟩
         ·obtain⟨rfl,p⟩:=hR;apply C0;apply D9;exact aj _ h _ _ (Mat.trans p (mp [] _ _ hB))
       ·rcases bft (!A.fHas) with P | P
        ·have h:=A4 P h;refine rg (SQ (fa P tt)) ?_;exact ak _ h _ _ (mp [] _ _ hB)
        ·have h:=A5 P h;obtain⟨_,bl,h⟩:=bindS h;obtain⟨_,bm,h⟩:=bindS h;refine rg (SQ (fa P (fa bl (fa bm tt)))) ?_;exact ak _ h _ _ (mp [] _ _ hB)
     ·have h:=A5 ai h;apply AWp.exit;apply D7;obtain rfl:=oi h;exact⟨nofun,rfl,mp [] _ _ hB⟩
    ·obtain⟨rfl,p⟩:=hR;apply C0;apply A0;refine ghost p ?_;refine sr (SQ tt) ?_;apply ret;obtain rfl:=oi h;exact rt (Mat.trans (Mat.freezeP (n:=3006) (e:=71) (sz:=13) (es:=E.map E5) (Ts:=[(2,C9 E)]) (Bs:=[]) (by rfl) (TwT.cons (x:=(.sref 3006 13 0 E.length)) (by rfl) (FrzL.all (by first | rfl | (simp;done) | (simp;omega) | omega)) TwT.nil) TwB.nil) (mp [] [(2,C9 E),(3,i6 0)] [] hB)) [C9 E,i6 0] (rT (rT rN)) rfl
def A5b (a0:F4):Option (F4×Bool):=
 (if (decide (a0.fLevel≤0))=true then
 some (a0,false)
 else
 some (F4.mk (w64 (a0.fLevel-1)) a0.fRate a0.fBurst,true))
theorem B24 (a0:F4) (r:F4×Bool) (h:A5b a0=some r):AC Tryz.prog 53 [.d (C8 a0)] [] (.tup [.d (C8 r.1),.d (.bool r.2)]) []:=by
 refine AC.of_code2 Tryz.func53 rfl rfl (Nat.le_of_ble_eq_true (by rfl)) fun B hB hN => ?_;delta A5b at h;refine sr (SQ tt) ?_;apply seq;refine sr (SQ tt) ?_;apply AWp.cond rfl<;>intro i
 ·have h:=A4 i h;refine sr (SQ tt) ?_;apply ret;apply B6;obtain rfl:=oi h;exact rt (kp [(2,_),(3,_)] [(1002,some _)] hB rfl rfl (by rfl)) [.d (C8 a0),bo false] (Res.cell (c:=(.d (C8 a0))) (by rfl) (by rfl) tyS24 (by rfl) (by rfl) (by rfl) (rT rN)) rfl
 ·have h:=A5 i h;apply AWp.skip;apply A0;refine sr (SQ tt) ?_;refine sr (SQ tt) ?_;apply ret;obtain rfl:=oi h;exact rt (kp [(2,_),(3,_)] [(1002,some _)] hB rfl rfl (by rfl)) [.d (.st [.int .i64 (w64 (a0.fLevel-1)),.int .i64 a0.fRate,.int .i64 a0.fBurst]),bo true] (Res.cell (c:=(.d (.st [.int .i64 (w64 (a0.fLevel-1)),.int .i64 a0.fRate,.int .i64 a0.fBurst]))) (by rfl) (by rfl) tyS24 (by rfl) (by rfl) (by rfl) (rT rN)) rfl
def A2g (p:Int×(List A2)) (t:A2) (i:Int):Option (Int⊕Int):=
 jn (fun u:Bool=>
 (if u=true then
 some (.inr (w64 (i-1)))
 else
 some (.inl i))) (fun s=>
 (if (decide (0<i))=true then
 (idx p.2 (w64 (i-1))).bind fun _=>
 (idx p.2 (w64 (i-1))).bind fun A=>
 (A1n A.fPrefix t.fPrefix).bind fun C=>
 s (decide (0<C))
 else
 s false))
def U6 (t:(List A2)) (i:Int×(List A2)):Option (List A2⊕(Int×(List A2))):=
 (if (decide (i.1<(t.length:Int)))=true then
 (idx t i.1).bind fun s=>
 (loop (A2g i s) (i.2.length:Int)).bind fun p=>
 chk (decide (0≤p)&&decide (p.toNat≤i.2.length)&&decide (i.2.length≤i.2.length))<|
 chk (decide (p.toNat+(i.2.length-p.toNat)≤i.2.length))<|
 chk (decide (((i.2.drop p.toNat).take (i.2.length-p.toNat)).length≤LIM))<|
 chk (decide (0≤p)&&decide (0≤p.toNat)&&decide (p.toNat≤i.2.length))<|
 chk (decide (((i.2.take p.toNat)++[s]).length≤LIM))<|
 chk (decide ((((i.2.take p.toNat)++[s])++((i.2.drop p.toNat).take (i.2.length-p.toNat))).length≤LIM))<|
 some (.inr (w64 (i.1+1),(((i.2.take p.toNat)++[s])++((i.2.drop p.toNat).take (i.2.length-p.toNat)))))
 else
 some (.inl i.2))
def A0j (i:A7) (p:Int×(List (A1×Bool))):Option ((List (A1×Bool))⊕(Int×(List (A1×Bool)))):=
 (if (decide (p.1<((i.fWithdraw++i.fAnnounce).length:Int)))=true then
 (idx (i.fWithdraw++i.fAnnounce) p.1).bind fun _=>
 (idx (i.fWithdraw++i.fAnnounce) p.1).bind fun s=>
 some (.inr (w64 (p.1+1),mput keq33 p.2 s true))
 else
 some (.inl p.2))
def A0k (s:(List A7)×Int) (i:Int×(List (A1×Bool))×(List A7)×F4):Option (((List (A1×Bool))×(List A7)×F4)⊕(Int×(List (A1×Bool))×(List A7)×F4)):=
 (if (decide (i.1<(s.1.length:Int)))=true then
 (idx s.1 i.1).bind fun p=>
 (A5b i.2.2.2).bind fun t=>
 (if (!t.2)=true then
 some (.inl (i.2.1,i.2.2.1,i.2.2.2))
 else
 chk (decide ((i.2.2.1++[p]).length≤LIM))<|
 chk (decide (p.fWithdraw.length≤LIM))<|
 chk (decide ((p.fWithdraw++p.fAnnounce).length≤LIM))<|
 (loop (A0j p) (0,i.2.1)).bind fun u=>
 some (.inr (w64 (i.1+1),u,(i.2.2.1++[p]),t.1)))
 else
 some (.inl (i.2.1,i.2.2.1,i.2.2.2)))
def U7 (u:(List (A1×Bool))×(List A7)×F4) (s:(List A2)) (i:Int×(List A2)):Option (List A2⊕(Int×(List A2))):=
 (if (decide (i.1<(s.length:Int)))=true then
 (idx s i.1).bind fun p=>
 jn (fun A:(List A2)=>
 some (.inr (w64 (i.1+1),A))) (fun t=>
 (if (!((mget keq33 u.1 p.fPrefix).getD false))=true then
 chk (decide ((i.2++[p]).length≤LIM))<|
 t (i.2++[p])
 else
 t i.2))
 else
 some (.inl i.2))
def A3w (a0:E6):Option (E6×(List A7)×Int):=
 (A0v a0).bind fun s=>
 (if (!s)=true then
 some (E6.mk ([]:List A2) (F4.mk 0 0 0),([]:List A7),1)
 else
 chk (decide (0≤(minI (a0.fPending.length:Int) 64))&&decide (0≤(minI (a0.fPending.length:Int) 64).toNat)&&decide ((minI (a0.fPending.length:Int) 64).toNat≤a0.fPending.length))<|
 (S8 ((a0.fPending.take ((minI (a0.fPending.length:Int) 64).toNat)).drop 0)).bind fun t=>
 (loop (U6 t) (0,([]:List A2))).bind fun u=>
 (A3v u).bind fun i=>
 (if (i.2 != 0)=true then
 some (E6.mk ([]:List A2) (F4.mk 0 0 0),([]:List A7),i.2)
 else
 (loop (A0k i) (0,([]:List (A1×Bool)),([]:List A7),a0.fBucket)).bind fun p=>
 (S8 a0.fPending).bind fun A=>
 (loop (U7 p A) (0,([]:List A2))).bind fun C=>
 some (E6.mk C p.2.2,p.2.1,0)))
theorem B25 (a0:E6) (r:E6×(List A7)×Int) (h:A3w a0=some r):AC Tryz.prog 20 [.d (F3 a0)] [] (.tup [.d (F3 r.1),.d (.list 13 (r.2.1.map E5)),.d (.int .i64 r.2.2)]) []:=by
 refine ac2 Tryz.func20 rfl rfl fun B hB hN L => ?_;delta A3w at h;refine sr (SQ tt) ?_;apply seq;obtain⟨r1,al,h⟩:=bindS h;refine sr (SQ (fa (cl [] (A6t a0 r1 al)) tt)) ?_;apply AWp.cond rfl<;>intro W
 ·have h:=A4 W h;refine sr (SQ tt) ?_;apply ret;apply B6;obtain rfl:=oi h;exact rt (Mat.trans (Mat.coeP (Ts:=[]) (Bs:=[(1002,bd 26 (.st Zz6))]) TwT.nil (TwB.cons (x:=(.st Zz8)) (by rfl) (Tw.leaf ⟨_,Co.st (CoL.cons (Co.nils 22) (CoL.cons (Co.d _) CoL.nil)),rfl⟩) TwB.nil)) (Mat.trans (Mat.coeP (Ts:=[(3,C9 ([]:List A7))]) (Bs:=[]) (TwT.cons (x:=.nils) (by rfl) (Tw.leaf ⟨_,Co.nils 13,rfl⟩) TwT.nil) TwB.nil) (mp [] [(2,pt 1002),(3,C9 ([]:List A7)),(4,i6 1)] [(1002,bd 26 (.st Zz6))] hB))) [.d (.st Zz6),C9 ([]:List A7),i6 1] (Res.cell (c:=(.d (.st Zz6))) (by rfl) (by rfl) tyS26 (by rfl) (by rfl) (by rfl) (rT (rT rN))) rfl
 ·have h:=A5 W h;apply AWp.skip;apply A0;refine sr (SQ tt) ?_;apply seq;obtain⟨am,h⟩:=B2 h;obtain⟨G,an,h⟩:=bindS h;refine sr (SQ (fa am (fa (cl [] (A3a ((a0.fPending.take ((minI (a0.fPending.length:Int) 64).toNat)).drop 0) G an)) tt))) ?_;apply block;obtain⟨J,ao,h⟩:=bindS h;refine lg (U6 G) (fun i:Int×(List A2)=>([(1,pt 1001),(2,pt 1002),(5,.sref 3005 22 0 i.2.length),(34,A6 G),(35,i6 (G.length:Int)),(36,i6 i.1)]:EL)) (fun i:Int×(List A2)=>([(1001,bd 26 (F3 a0)),(1002,some (.box 26 (.st Zz8))),(3005,some (B3 i.2))]:OL)) (fun(J:(List A2)) e t u=>e = .exit 0∧Mat B t u ([(1,pt 1001),(2,pt 1002),(5,.sref 3005 22 0 J.length)]:EL) ([(1001,bd 26 (F3 a0)),(1002,some (.box 26 (.st Zz8))),(3005,some (B3 J))]:OL)) ao (Mat.trans (Mat.beginP (n:=3005) (e:=43) (sz:=22) (Ts:=[(5,.sref 3005 22 0 0)]) (Bs:=[]) hB (by decide) (by rfl) (by decide) (TwT.cons (x:=.nils) (by rfl) (Tw.leaf ⟨rfl,rfl⟩) TwT.nil) TwB.nil) (mp [] _ _ hB)) (fun i y h => ?_) (fun e t u hR => ?_)
  ·unfold U6 at h;refine sr (SQ tt) ?_;apply seq;apply AWp.cond rfl<;>intro X
   ·have h:=A4 X h;apply AWp.skip;apply A0;apply seq;apply block;obtain⟨I,ap,h⟩:=bindS h;refine sr (SQ (fa ap tt)) ?_;refine sr (SQ tt) ?_;apply seq;apply block;obtain⟨s,aq,h⟩:=bindS h;refine lg (A2g i I) (fun N:Int=>([(1,pt 1001),(2,pt 1002),(5,.sref 3005 22 0 i.2.length),(7,pt 1007),(8,i6 N),(34,A6 G),(35,i6 (G.length:Int)),(36,i6 i.1)]:EL)) (fun N:Int=>([(1001,bd 26 (F3 a0)),(1002,some (.box 26 (.st Zz8))),(1007,bd 43 (A8 I)),(3005,some (B3 i.2))]:OL)) (fun(s:(Int)) e t u=>e = .exit 2∧Mat B t u ([(1,pt 1001),(2,pt 1002),(5,.sref 3005 22 0 i.2.length),(7,pt 1007),(8,i6 s),(34,A6 G),(35,i6 (G.length:Int)),(36,i6 i.1)]:EL) ([(1001,bd 26 (F3 a0)),(1002,some (.box 26 (.st Zz8))),(1007,bd 43 (A8 I)),(3005,some (B3 i.2))]:OL)) aq (mp [] _ _ hB) (fun N y h => ?_) (fun e t u hR => ?_)
    ·unfold A2g at h;apply seq;apply seq;refine AWp.cut h (fun S:Bool=>([(1,pt 1001),(2,pt 1002),(5,.sref 3005 22 0 i.2.length),(7,pt 1007),(8,i6 N),(34,A6 G),(35,i6 (G.length:Int)),(36,i6 i.1),(55,bo S)]:EL)) (fun S:Bool=>([(1001,bd 26 (F3 a0)),(1002,some (.box 26 (.st Zz8))),(1007,bd 43 (A8 I)),(3005,some (B3 i.2))]:OL)) (fun S h t u C => ?_) (fun bm Y h => ?_)
     ·apply A0;refine ghost C ?_;apply AWp.cond rfl<;>intro Z
      ·have h:=A4 Z h;apply AWp.skip;apply A0;apply block;refine rg (SQ tt) ?_;apply D9;obtain rfl:=oi h;exact⟨rfl,mp [] _ _ hB⟩
      ·have h:=A5 Z h;apply AWp.exit;apply D7;obtain rfl:=oi h;exact⟨nofun,rfl,mp [] _ _ hB⟩
     ·rcases bft (decide (0<N)) with O | O
      ·have h:=A4 O h;obtain⟨_,ar,h⟩:=bindS h;obtain⟨au,av,h⟩:=bindS h;obtain⟨aw,ax,h⟩:=bindS h;refine drS (SQ (fa O (fa ar (fa av (fa (cl [] (A5k au.fPrefix I.fPrefix aw ax)) tt))))) ?_;exact Y _ h _ _ (mp [] _ _ hB)
      ·have h:=A5 O h;refine drS (SQ (fa O tt)) ?_;exact Y _ h _ _ (mp [] _ _ hB)
    ·obtain⟨rfl,C⟩:=hR;apply C0;apply A0;refine ghost C ?_;obtain⟨T,h⟩:=B2 h;obtain⟨ay,h⟩:=B2 h;obtain⟨aa,h⟩:=B2 h;apply sr (c (mv hN (q 5)) rfl (c (mv hN (q 8)) rfl (c (OpJ.cutS underlying22 tyS43 (l:=s.toNat) (h:=i.2.length) (off':=s.toNat) (len':=(i.2.length-s.toNat)) (.inr ⟨_,_,_,rfl,ot 59 (i6 s),of_decide_eq_true (S7 (S7 T)),rfl⟩) (.inl ⟨rfl,rfl,rfl⟩) (of_decide_eq_true (V5 (S7 T))) (of_decide_eq_true (V5 T)) (by simp) (by simp) (L rfl) (q 58)) rfl (cg (OpJ.appendNS hB underlying22 tyE43 (nm:=1061) (by decide) (es:=i.2.map A8) (ys:=((i.2.drop s.toNat).take (i.2.length-s.toNat)).map A8) (by rw [List.length_map];exact of_decide_eq_true ay) (by first | rw [List.map_drop,List.map_take] | (simp [List.map_take,List.map_drop];done) | simp [List.take_of_length_le]) (len:=((i.2.drop s.toNat).take (i.2.length-s.toNat)).length) (by simp) (A4o (f:=A8) (fun _=>rfl)) (by rw [List.length_map];exact X2 aa (by decide)) (by rw [List.length_map];exact A25 aa) (L rfl) Opd.nils (q 60)) rfl (c (assign (L rfl) (q 61)) rfl cn)))))
     refine gh [(1,_),(2,_),(5,_),(7,_),(8,_),(9,_),(34,_),(35,_),(36,_)] [(1001,some _),(1002,some _),(1007,some _),(1061,some _),(3005,some _)] hB rfl rfl (by rfl) ?_;refine ghost (Mat.freezeP (n:=1061) (e:=43) (sz:=22) (es:=((i.2.drop s.toNat).take (i.2.length-s.toNat)).map A8) (Ts:=[(9,A6 ((i.2.drop s.toNat).take (i.2.length-s.toNat)))]) (Bs:=[]) (by rfl) (TwT.cons (x:=(.sref 1061 22 0 (((i.2.drop s.toNat).take (i.2.length-s.toNat)).length))) (by rfl) (FrzL.all (by first | rfl | (simp;done) | (simp;omega) | omega)) TwT.nil) TwB.nil) ?_
     obtain⟨P,h⟩:=B2 h;obtain⟨az,h⟩:=B2 h;obtain⟨a4,h⟩:=B2 h;apply dr (c (mv hN (q 5)) rfl (c (mv hN (q 8)) rfl (cg (OpJ.val (v':=(.sref 3005 22 0 ((i.2.take s.toNat).length))) (by rw [List.length_take,Nat.min_eq_left (of_decide_eq_true (V5 P))]) (OpJ.shrS (OpJ.cutS underlying22 tyS43 (l:=0) (h:=s.toNat) (off':=0) (len':=s.toNat) (.inl ⟨rfl,rfl,rfl⟩) (.inr ⟨_,_,_,rfl,ot 63 (i6 s),of_decide_eq_true (S7 (S7 P)),rfl⟩) (of_decide_eq_true (V5 (S7 P))) (of_decide_eq_true (V5 P)) (by simp) (by simp) (L rfl) (q 62)) (es':=(i.2.take s.toNat).map A8) (by rw [List.length_map];exact(of_decide_eq_true (V5 P))) (by rw [List.map_take]))) rfl (c (lb hN 43 _ _ tyS43 (At.here _) (q 7)) rfl (c (buildSlice underlying22 tyS43 tyZD43 (by rfl) (by decide) (by decide) (Opds.cons (q 65) Opds.nil) (by kernel_rfl) (es:=([A8 I]:List D)) (by rfl) (by rfl) (by kernel_rfl) (by simp) (L rfl)) rfl (cg (apd hB underlying22 tyE43 1067 A8 (i.2.take s.toNat) [I] az (L rfl) (q 64) (q 66)) rfl (c (mv hN (q 9)) rfl (cg (apd hB underlying22 tyE43 1069 A8 ((i.2.take s.toNat)++[I]) ((i.2.drop s.toNat).take (i.2.length-s.toNat)) a4 (L rfl) (q 67) (q 68)) rfl (c (assign (L rfl) (q 69)) rfl cn))))))))) (by kernel_rfl) (by kernel_rfl);apply D9;apply A0;refine rg (SQ tt) ?_;obtain rfl:=oi h;exact⟨rfl,mp [(3005,1069)] _ _ hB⟩
   ·have h:=A5 X h;apply AWp.exit;apply D7;obtain rfl:=oi h;exact⟨nofun,rfl,mp [] _ _ hB⟩
  ·obtain⟨rfl,C⟩:=hR;apply C0;apply A0;refine ghost C ?_;apply seq;refine ghost (Mat.freezeP (n:=3005) (e:=43) (sz:=22) (es:=J.map A8) (Ts:=[(5,A6 J)]) (Bs:=[]) (by rfl) (TwT.cons (x:=(.sref 3005 22 0 J.length)) (by rfl) (FrzL.all (by first | rfl | (simp;done) | (simp;omega) | omega)) TwT.nil) TwB.nil) ?_
   obtain⟨H,a5,h⟩:=bindS h;refine rg (SQ (fa (cl [] (B23 J H a5)) tt)) ?_;apply A0;apply seq;refine sr (SQ tt) ?_;apply AWp.cond rfl<;>intro ab
   ·have h:=A4 ab h;refine sr (SQ tt) ?_;apply ret;apply B6;obtain rfl:=oi h;exact rt (Mat.trans (Mat.coeP (Ts:=[]) (Bs:=[(1002,bd 26 (.st Zz6))]) TwT.nil (TwB.cons (x:=(.st Zz8)) (by rfl) (Tw.leaf ⟨_,Co.st (CoL.cons (Co.nils 22) (CoL.cons (Co.d _) CoL.nil)),rfl⟩) TwB.nil)) (Mat.trans (Mat.coeP (Ts:=[(3,C9 ([]:List A7))]) (Bs:=[]) (TwT.cons (x:=.nils) (by rfl) (Tw.leaf ⟨_,Co.nils 13,rfl⟩) TwT.nil) TwB.nil) (mp [] [(2,pt 1002),(3,C9 ([]:List A7)),(4,i6 H.2)] [(1002,bd 26 (.st Zz6))] hB))) [.d (.st Zz6),C9 ([]:List A7),i6 H.2] (Res.cell (c:=(.d (.st Zz6))) (by rfl) (by rfl) tyS26 (by rfl) (by rfl) (by rfl) (rT (rT rN))) rfl
   ·have h:=A5 ab h;apply AWp.skip;apply A0;refine sr (SQ tt) ?_;refine sr (SQ tt) ?_;apply sr (cg (OpJ.mkmapQ hB (nm:=1083) (by decide) (L rfl)) rfl (c (assign (L rfl) (q 83)) rfl cn));apply seq;refine sr (SQ tt) ?_;apply block;obtain⟨p,a6,h⟩:=bindS h;refine lg (A0k H) (fun A:Int×(List (A1×Bool))×(List A7)×F4=>([(1,pt 1001),(2,pt 1002),(12,pt 1012),(13,.sref 3013 13 0 A.2.2.1.length),(14,.mref 1083),(84,C9 H.1),(85,i6 (H.1.length:Int)),(86,i6 A.1)]:EL)) (fun A:Int×(List (A1×Bool))×(List A7)×F4=>([(1001,bd 26 (F3 a0)),(1002,some (.box 26 (.st Zz8))),(1012,some (.box 26 (.st [.nils,.d (C8 A.2.2.2)]))),(1083,some (.blk (mapQ (mpairs B0 eB A.2.1)))),(3013,some (C1 A.2.2.1))]:OL)) (fun(p:((List (A1×Bool))×(List A7)×F4)) e t u=>e = .exit 4∧Mat B t u ([(1,pt 1001),(2,pt 1002),(12,pt 1012),(13,.sref 3013 13 0 p.2.1.length),(14,.mref 1083)]:EL) ([(1001,bd 26 (F3 a0)),(1002,some (.box 26 (.st Zz8))),(1012,some (.box 26 (.st [.nils,.d (C8 p.2.2)]))),(1083,some (.blk (mapQ (mpairs B0 eB p.1)))),(3013,some (C1 p.2.1))]:OL)) a6 (Mat.trans (Mat.beginP (n:=3013) (e:=71) (sz:=13) (Ts:=[(13,.sref 3013 13 0 0)]) (Bs:=[]) hB (by decide) (by rfl) (by decide) (TwT.cons (x:=.nils) (by rfl) (Tw.leaf ⟨rfl,rfl⟩) TwT.nil) TwB.nil) (mp [] _ _ hB)) (fun A y h => ?_) (fun e t u hR => ?_)
    ·unfold A0k at h;refine sr (SQ tt) ?_;apply seq;apply AWp.cond rfl<;>intro ac
     ·have h:=A4 ac h;apply AWp.skip;apply A0;apply seq;apply block;obtain⟨E,a7,h⟩:=bindS h;refine sr (SQ (fa a7 tt)) ?_;obtain⟨U,a8,h⟩:=bindS h;refine sr (SQ (fa (cl [] (B24 A.2.2.2 U a8)) tt)) ?_;apply seq;refine sr (SQ tt) ?_;apply AWp.cond rfl<;>intro ae
      ·have h:=A4 ae h;apply AWp.exit;apply D7;refine B3a (by rfl) ?_;apply D7;obtain rfl:=oi h;exact⟨nofun,rfl,mp [] _ _ hB⟩
      ·have h:=A5 ae h;apply AWp.skip;apply A0;obtain⟨a9,h⟩:=B2 h;refine sdS (SQ (fa a9 tt)) ?_;obtain⟨ba,h⟩:=B2 h;obtain⟨bb,h⟩:=B2 h;refine sdS (SQ (fa ba (fa bb tt))) ?_;apply block;obtain⟨af,bc,h⟩:=bindS h;refine lg (A0j E) (fun Q:Int×(List (A1×Bool))=>([(1,pt 1001),(2,pt 1002),(12,pt 1012),(13,.sref 1102 13 0 ((A.2.2.1++[E]).length)),(14,.mref 1083),(84,C9 H.1),(85,i6 (H.1.length:Int)),(86,i6 A.1),(109,.sref 1109 4 0 ((E.fWithdraw++E.fAnnounce).length)),(110,i6 ((E.fWithdraw++E.fAnnounce).length:Int)),(111,i6 Q.1)]:EL)) (fun Q:Int×(List (A1×Bool))=>([(1001,bd 26 (F3 a0)),(1002,some (.box 26 (.st Zz8))),(1012,some (.box 26 (.st [.nils,.d (C8 U.1)]))),(1083,some (.blk (mapQ (mpairs B0 eB Q.2)))),(1102,some (C1 (A.2.2.1++[E]))),(1109,some (G0 (E.fWithdraw++E.fAnnounce)))]:OL)) (fun(af:(List (A1×Bool))) e t u=>e = .exit 6∧Mat B t u ([(1,pt 1001),(2,pt 1002),(12,pt 1012),(13,.sref 1102 13 0 ((A.2.2.1++[E]).length)),(14,.mref 1083),(84,C9 H.1),(85,i6 (H.1.length:Int)),(86,i6 A.1)]:EL) ([(1001,bd 26 (F3 a0)),(1002,some (.box 26 (.st Zz8))),(1012,some (.box 26 (.st [.nils,.d (C8 U.1)]))),(1083,some (.blk (mapQ (mpairs B0 eB af)))),(1102,some (C1 (A.2.2.1++[E])))]:OL)) bc (mp [] _ _ hB) (fun Q y h => ?_) (fun e t u hR => ?_)
       ·unfold A0j at h;refine sr (SQ tt) ?_;apply seq;apply AWp.cond rfl<;>intro ag
        ·have h:=A4 ag h;apply AWp.skip;apply A0;apply seq;apply block;obtain⟨_,be,h⟩:=bindS h;obtain⟨bf,bg,h⟩:=bindS h;refine sr (SQ (fa be (fa bg tt))) ?_;apply rg (c (mv hN (q 14)) rfl (c (lb hN 33 _ _ tyS33 (At.here _) (q 20)) rfl (cg (OpJ.mputQ (g:=eB) (v:=true) (l:=Q.2) (k:=bf) tyU82 underlying33 keyEq33 (q 115) (q 116) (Opd.bool true)) rfl cn)));apply D9;apply A0;refine rg (SQ tt) ?_;obtain rfl:=oi h;exact⟨rfl,mp [] _ _ hB⟩
        ·have h:=A5 ag h;apply AWp.exit;apply D7;obtain rfl:=oi h;exact⟨nofun,rfl,mp [] _ _ hB⟩
       ·obtain⟨rfl,C⟩:=hR;apply C0;apply D9;apply A0;refine ghost C ?_;refine rg (SQ tt) ?_;obtain rfl:=oi h;exact⟨rfl,mp [(3013,1102)] _ _ hB⟩
     ·have h:=A5 ac h;apply AWp.exit;apply D7;obtain rfl:=oi h;exact⟨nofun,rfl,mp [] _ _ hB⟩
    ·obtain⟨rfl,C⟩:=hR;apply C0;apply A0;refine ghost C ?_;apply seq;obtain⟨K,bh,h⟩:=bindS h;refine sr (SQ (fa (cl [] (A3a a0.fPending K bh)) tt)) ?_;apply block;obtain⟨F,bi,h⟩:=bindS h;refine lg (U7 p K) (fun M:Int×(List A2)=>([(2,pt 1002),(12,pt 1012),(13,.sref 3013 13 0 p.2.1.length),(14,.mref 1083),(121,A6 K),(122,i6 (K.length:Int)),(123,i6 M.1)]:EL)) (fun M:Int×(List A2)=>([(1002,some (.box 26 (.st Zz8))),(1012,some (.box 26 (.st [.sref 13120 22 0 M.2.length,.d (C8 p.2.2)]))),(1083,some (.blk (mapQ (mpairs B0 eB p.1)))),(3013,some (C1 p.2.1)),(13120,some (B3 M.2))]:OL)) (fun(F:(List A2)) e t u=>e = .exit 8∧Mat B t u ([(2,pt 1002),(12,pt 1012),(13,.sref 3013 13 0 p.2.1.length)]:EL) ([(1002,some (.box 26 (.st Zz8))),(1012,some (.box 26 (.st [.sref 13120 22 0 F.length,.d (C8 p.2.2)]))),(3013,some (C1 p.2.1)),(13120,some (B3 F))]:OL)) bi (Mat.trans (Mat.beginP (n:=13120) (e:=43) (sz:=22) (Ts:=[]) (Bs:=[(1012,some (.box 26 (.st [.sref 13120 22 0 0,.d (C8 p.2.2)])))]) hB (by decide) (by rfl) (by decide) TwT.nil (TwB.cons (x:=(.st [.nils,.d (C8 p.2.2)])) (by rfl) (Tw.st (TwL.cons (Tw.leaf ⟨rfl,rfl⟩) (TwL.cons (Tw.same _) TwL.nil))) TwB.nil)) (mp [] _ _ hB)) (fun M y h => ?_) (fun e t u hR => ?_)
     ·unfold U7 at h;refine sr (SQ tt) ?_;apply seq;apply AWp.cond rfl<;>intro ah
      ·have h:=A4 ah h;apply AWp.skip;apply A0;apply seq;apply block;obtain⟨bj,bk,h⟩:=bindS h;refine sr (SQ (fa bk tt)) ?_;apply sr (c (mv hN (q 14)) rfl (c (fo 1022 1 [1] hN underlying43 1 tyS33 (q 22)) rfl (c (la hN 43 tyS33 (q 128)) rfl (cg (OpJ.mlookQ (g:=eB) (l:=p.1) (k:=bj.fPrefix) tyU82 underlying33 keyEq33 (z:=false) tyZD4 (L rfl) (q 127) (q 129)) rfl (c (OpJ.not (L rfl) (q 130)) rfl cn)))));refine gh [(2,_),(12,_),(13,_),(14,_),(22,_),(121,_),(122,_),(123,_),(131,_)] [(1002,some _),(1012,some _),(1022,some _),(1083,some _),(3013,some _),(13120,some _)] hB rfl rfl (by rfl) ?_;refine AWp.cut h (fun R:(List A2)=>([(2,pt 1002),(12,pt 1012),(13,.sref 3013 13 0 p.2.1.length),(14,.mref 1083),(121,A6 K),(122,i6 (K.length:Int)),(123,i6 M.1)]:EL)) (fun R:(List A2)=>([(1002,some (.box 26 (.st Zz8))),(1012,some (.box 26 (.st [.sref 13120 22 0 R.length,.d (C8 p.2.2)]))),(1083,some (.blk (mapQ (mpairs B0 eB p.1)))),(3013,some (C1 p.2.1)),(13120,some (B3 R))]:OL)) (fun R h t u C => ?_) (fun bn ai h => ?_)
       ·apply D9;apply A0;refine ghost C ?_;refine rg (SQ tt) ?_;obtain rfl:=oi h;exact⟨rfl,mp [] _ _ hB⟩
       ·apply AWp.cond rfl<;>intro aj
        ·have h:=A4 aj h;obtain⟨bl,h⟩:=B2 h;refine rg (SQ (fa bl tt)) ?_;exact ai _ h _ _ (mp [(13120,1136)] _ _ hB)
        ·have h:=A5 aj h;apply AWp.skip;exact ai _ h _ _ (mp [] _ _ hB)
      ·have h:=A5 ah h;apply AWp.exit;apply D7;obtain rfl:=oi h;exact⟨nofun,rfl,mp [] _ _ hB⟩
     ·obtain⟨rfl,C⟩:=hR;apply C0;apply A0;refine ghost C ?_;refine sr (SQ tt) ?_;apply ret;obtain rfl:=oi h;exact rt (Mat.trans (Mat.freezeP (n:=13120) (e:=43) (sz:=22) (es:=F.map A8) (Ts:=[]) (Bs:=[(1002,some (.box 26 (.st [A6 F,.d (C8 p.2.2)])))]) (by rfl) TwT.nil (TwB.cons (x:=(.st [.sref 13120 22 0 F.length,.d (C8 p.2.2)])) (by rfl) (Tw.st (TwL.cons (FrzL.all (by first | rfl | (simp;done) | (simp;omega) | omega)) (TwL.cons (Tw.same _) TwL.nil))) TwB.nil)) (Mat.trans (Mat.freezeP (n:=3013) (e:=71) (sz:=13) (es:=p.2.1.map E5) (Ts:=[(3,C9 p.2.1)]) (Bs:=[]) (by rfl) (TwT.cons (x:=(.sref 3013 13 0 p.2.1.length)) (by rfl) (FrzL.all (by first | rfl | (simp;done) | (simp;omega) | omega)) TwT.nil) TwB.nil) (Mat.trans (Mat.coeP (Ts:=[]) (Bs:=[(1002,bd 26 (.st [.list 22 (F.map A8),C8 p.2.2]))]) TwT.nil (TwB.cons (x:=(.st [A6 F,.d (C8 p.2.2)])) (by rfl) (Tw.leaf ⟨_,Co.st (CoL.cons (Co.d _) (CoL.cons (Co.d _) CoL.nil)),rfl⟩) TwB.nil)) (mp [] [(2,pt 1002),(3,C9 p.2.1),(4,i6 0)] [(1002,bd 26 (.st [.list 22 (F.map A8),C8 p.2.2]))] hB)))) [.d (.st [.list 22 (F.map A8),C8 p.2.2]),C9 p.2.1,i6 0] (Res.cell (c:=(.d (.st [.list 22 (F.map A8),C8 p.2.2]))) (by rfl) (by rfl) tyS26 (by rfl) (by rfl) (by rfl) (rT (rT rN))) rfl
def A1m (i:Int×E6×B1):Option ((B1×E6)⊕(Int×E6×B1)):=
 (if (decide (0<i.1))=true then
 (G6 i.2.2 5).bind fun p=>
 (A3u i.2.1 p.1).bind fun s=>
 jn (fun t:E6=>
 (F6 p.2 3).bind fun u=>
 jn (fun E:E6=>
 some (.inr (w64 (i.1-1),E,u.2))) (fun A=>
 (if (u.1==0)=true then
 (A3w t).bind fun F=>
 A F.1
 else
 A t))) (fun C=>
 (if (s.2==0)=true then
 C s.1
 else
 C i.2.1))
 else
 some (.inl (i.2.2,i.2.1)))
def A2h (a0:B1):Option (E6×B1):=
 (F6 a0 4).bind fun i=>
 (F6 i.2 (w64 ((w64 (1+i.1))+1))).bind fun p=>
 (F6 p.2 (w64 ((w64 (1+i.1))+1))).bind fun s=>
 (F6 s.2 4).bind fun t=>
 (loop (A1m) (t.1,E6.mk ([]:List A2) (F4.mk p.1 s.1 (w64 (1+i.1))),t.2)).bind fun u=>
 some (u.2,u.1)
theorem B0r (a0:B1) (r:E6×B1) (h:A2h a0=some r):AC Tryz.prog 9 [pt 0] [(0,.box 80 (.d (B8 a0)))] (.d (F3 r.1)) [(0,bd 80 (B8 r.2))]:=by
 refine ac2 Tryz.func9 rfl rfl fun B hB hN L => ?_;delta A2h at h;refine sr (SQ tt) ?_;apply seq;obtain⟨p,R,h⟩:=bindS h;refine rg (SQ (fa (cl [(0,0)] (G1 a0 4 p R)) tt)) ?_;apply A0;refine ghost (mp [] [(0,pt 0),(2,pt 1002),(3,i6 (w64 (1+p.1)))] [(0,bd 80 (B8 p.2)),(1002,some (.box 26 (.st Zz8)))] hB) ?_;apply seq;obtain⟨t,S,h⟩:=bindS h;obtain⟨s,T,h⟩:=bindS h;refine rg (SQ (fa (cl [(0,0)] (G1 p.2 (w64 ((w64 (1+p.1))+1)) t S)) (fa (cl [(0,0)] (G1 t.2 (w64 ((w64 (1+p.1))+1)) s T)) tt))) ?_;apply A0;refine ghost (mp [] [(0,pt 0),(2,pt 1002),(4,pt 1004)] [(0,bd 80 (B8 s.2)),(1002,some (.box 26 (.st Zz8))),(1004,some (.box 26 (.st [.nils,.d (.st [.int .i64 t.1,.int .i64 s.1,.int .i64 (w64 (1+p.1))])])))] hB) ?_;apply seq;apply seq;obtain⟨I,U,h⟩:=bindS h;refine rg (SQ (fa (cl [(0,0)] (G1 s.2 4 I U)) tt)) ?_;apply A0;refine ghost (mp [] [(0,pt 0),(2,pt 1002),(4,pt 1004),(5,i6 I.1)] [(0,bd 80 (B8 I.2)),(1002,some (.box 26 (.st Zz8))),(1004,some (.box 26 (.st [.nils,.d (.st [.int .i64 t.1,.int .i64 s.1,.int .i64 (w64 (1+p.1))])])))] hB) ?_;apply block;obtain⟨u,W,h⟩:=bindS h;refine lg (A1m) (fun i:Int×E6×B1=>([(0,pt 0),(2,pt 1002),(4,pt 1004),(5,i6 i.1)]:EL)) (fun i:Int×E6×B1=>([(0,bd 80 (B8 i.2.2)),(1002,some (.box 26 (.st Zz8))),(1004,bd 26 (F3 i.2.1))]:OL)) (fun(u:(B1×E6)) e F G=>e = .exit 0∧Mat B F G ([(2,pt 1002),(4,pt 1004)]:EL) ([(0,bd 80 (B8 u.1)),(1002,some (.box 26 (.st Zz8))),(1004,bd 26 (F3 u.2))]:OL)) W (Mat.trans (Mat.coeP (Ts:=[]) (Bs:=[(1004,some (.box 26 (.d (.st [.list 22 (([]:List A2).map A8),.st [.int .i64 t.1,.int .i64 s.1,.int .i64 (w64 (1+p.1))]]))))]) TwT.nil (TwB.cons (x:=(.st [.nils,.d (.st [.int .i64 t.1,.int .i64 s.1,.int .i64 (w64 (1+p.1))])])) (by rfl) (Tw.leaf ⟨_,Co.st (CoL.cons (Co.nils 22) (CoL.cons (Co.d _) CoL.nil)),rfl⟩) TwB.nil)) (mp [] _ _ hB)) (fun i y h => ?_) (fun e F G hR => ?_)
 ·unfold A1m at h;apply seq;refine sr (SQ tt) ?_;apply AWp.cond rfl<;>intro M
  ·have h:=A4 M h;apply AWp.skip;apply A0;apply seq;apply block;apply seq;obtain⟨A,X,h⟩:=bindS h;obtain⟨J,Y,h⟩:=bindS h;refine drS (SQ (fa (cl [(0,0)] (Q6 i.2.2 5 A X)) (fa (cl [] (B22 i.2.1 A.1 J Y)) tt))) ?_;apply A0;refine ghost (mp [] [(0,pt 0),(2,pt 1002),(4,pt 1004),(5,i6 i.1),(6,pt 1006),(7,i6 J.2)] [(0,bd 80 (B8 A.2)),(1002,some (.box 26 (.st Zz8))),(1004,bd 26 (F3 i.2.1)),(1006,bd 26 (F3 J.1))] hB) ?_;apply seq;refine sr (SQ tt) ?_;refine gh [(0,_),(2,_),(4,_),(5,_),(6,_),(36,_)] [(0,some _),(1002,some _),(1004,some _),(1006,some _)] hB rfl rfl (by rfl) ?_;refine AWp.cut h (fun C:E6=>([(0,pt 0),(2,pt 1002),(4,pt 1004),(5,i6 i.1)]:EL)) (fun C:E6=>([(0,bd 80 (B8 A.2)),(1002,some (.box 26 (.st Zz8))),(1004,bd 26 (F3 C))]:OL)) (fun C h F G E => ?_) (fun ac N h => ?_)
   ·apply A0;refine ghost E ?_;apply seq;obtain⟨H,Z,h⟩:=bindS h;refine rg (SQ (fa (cl [(0,0)] (G1 A.2 3 H Z)) tt)) ?_;apply A0;refine ghost (mp [] [(0,pt 0),(2,pt 1002),(4,pt 1004),(5,i6 i.1),(40,bo (H.1==0))] [(0,bd 80 (B8 H.2)),(1002,some (.box 26 (.st Zz8))),(1004,bd 26 (F3 C))] hB) ?_;refine AWp.cut h (fun K:E6=>([(0,pt 0),(2,pt 1002),(4,pt 1004),(5,i6 i.1)]:EL)) (fun K:E6=>([(0,bd 80 (B8 H.2)),(1002,some (.box 26 (.st Zz8))),(1004,bd 26 (F3 K))]:OL)) (fun K h F G E => ?_) (fun ae O h => ?_)
    ·apply D9;apply A0;refine ghost E ?_;refine rg (SQ tt) ?_;obtain rfl:=oi h;exact⟨rfl,mp [] _ _ hB⟩
    ·apply AWp.cond rfl<;>intro P
     ·have h:=A4 P h;obtain⟨aa,ab,h⟩:=bindS h;refine rg (SQ (fa (cl [] (B25 C aa ab)) tt)) ?_;exact O _ h _ _ (mp [] _ _ hB)
     ·have h:=A5 P h;apply AWp.skip;exact O _ h _ _ (mp [] _ _ hB)
   ·apply AWp.cond rfl<;>intro Q
    ·have h:=A4 Q h;refine rg (SQ tt) ?_;exact N _ h _ _ (mp [] _ _ hB)
    ·have h:=A5 Q h;apply AWp.skip;exact N _ h _ _ (mp [] _ _ hB)
  ·have h:=A5 M h;apply AWp.exit;apply D7;obtain rfl:=oi h;exact⟨nofun,rfl,mp [] _ _ hB⟩
 ·obtain⟨rfl,E⟩:=hR;apply C0;apply A0;refine ghost E ?_;refine sr (SQ tt) ?_;apply ret;obtain rfl:=oi h;exact rt (kp [(2,_)] [(0,some _),(1002,some _)] hB rfl rfl (by rfl)) [.d (F3 u.2)] (Res.cell (c:=(.d (F3 u.2))) (by rfl) (by rfl) tyS26 (by rfl) (by rfl) (by rfl) rN) rfl
def A3x (a0:F4):Option (Bool):=
 some ((((((decide (0≤a0.fBurst))&&(decide (a0.fBurst≤1048576)))&&(decide (0≤a0.fRate)))&&(decide (a0.fRate≤a0.fBurst)))&&(decide (0≤a0.fLevel)))&&(decide (a0.fLevel≤a0.fBurst)))
theorem B26 (a0:F4) (r:Bool) (h:A3x a0=some r):AC Tryz.prog 30 [.d (C8 a0)] [] (.d (.bool r)) []:=by
 refine ac2 Tryz.func30 rfl rfl fun B hB hN L => ?_;delta A3x at h;refine sr (SQ tt) ?_;refine sr (SQ tt) ?_;apply ret;obtain rfl:=oi h;exact rt (kp [(2,_)] [] hB rfl rfl (by rfl)) [bo ((((((decide (0≤a0.fBurst))&&(decide (a0.fBurst≤1048576)))&&(decide (0≤a0.fRate)))&&(decide (a0.fRate≤a0.fBurst)))&&(decide (0≤a0.fLevel)))&&(decide (a0.fLevel≤a0.fBurst)))] (rT rN) rfl
def V9 (a0:D1):Option (Bool):=
 jn (fun p:Bool=>
 some p) (fun i=>
 (if a0.fV6=true then
 i true
 else
 i ((a0.fHi==0)&&(decide (a0.fLo<4294967296)))))
theorem H5 (a0:D1) (r:Bool) (h:V9 a0=some r):AC Tryz.prog 141 [.d (E4 a0)] [] (.d (.bool r)) []:=by
 refine ac2 Tryz.func141 rfl rfl fun B hB hN L => ?_;delta V9 at h;refine sr (SQ tt) ?_;apply seq;refine AWp.cut h (fun p:Bool=>([(2,bo p)]:EL)) (fun p:Bool=>([]:OL)) (fun p h u A t => ?_) (fun C s h => ?_)
 ·apply A0;refine ghost t ?_;apply ret;obtain rfl:=oi h;exact rt (kp [(2,_)] [] hB rfl rfl (by rfl)) [bo p] (rT rN) rfl
 ·rcases bft a0.fV6 with i | i
  ·have h:=A4 i h;refine rg (SQ (fa i tt)) ?_;exact s _ h _ _ (mp [] _ _ hB)
  ·have h:=A5 i h;refine rg (SQ (fa i tt)) ?_;exact s _ h _ _ (mp [] _ _ hB)
def A0w (a0:D1):Option (Int):=
 (if a0.fV6=true then
 some 128
 else
 some 32)
theorem A47 (a0:D1) (r:Int) (h:A0w a0=some r):AC Tryz.prog 142 [.d (E4 a0)] [] (.d (.int .i64 r)) []:=by
 refine AC.of_code2 Tryz.func142 rfl rfl (Nat.le_of_ble_eq_true (by rfl)) fun B hB hN => ?_;delta A0w at h;refine sr (SQ tt) ?_;apply seq;refine sr (SQ tt) ?_;apply AWp.cond rfl<;>intro i
 ·have h:=A4 i h;refine sr (SQ tt) ?_;apply ret;apply B6;obtain rfl:=oi h;exact rt (kp [(2,_)] [] hB rfl rfl (by rfl)) [i6 128] (rT rN) rfl
 ·have h:=A5 i h;apply AWp.skip;apply A0;refine sr (SQ tt) ?_;apply ret;obtain rfl:=oi h;exact rt (kp [(2,_)] [] hB rfl rfl (by rfl)) [i6 32] (rT rN) rfl
def A2i (a0:Int):Option (Int×Int):=
 (if (decide (64<a0))=true then
 some (IntKind.u64.wrap ((shlI .u64 1 (IntKind.u64.wrap (w64 (a0-64))))-1),18446744073709551615)
 else
 some (0,IntKind.u64.wrap ((shlI .u64 1 (IntKind.u64.wrap a0))-1)))
theorem B0s (a0:Int) (r:Int×Int) (h:A2i a0=some r):AC Tryz.prog 150 [.d (.int .i64 a0)] [] (.tup [.d (.int .u64 r.1),.d (.int .u64 r.2)]) []:=by
 refine ac2 Tryz.func150 rfl rfl fun B hB hN L => ?_;delta A2i at h;refine sr (SQ tt) ?_;apply seq;refine sr (SQ tt) ?_;apply AWp.cond rfl<;>intro i
 ·have h:=A4 i h;refine sr (SQ tt) ?_;apply ret;apply B6;obtain rfl:=oi h;exact rt (kp [(2,_),(3,_)] [] hB rfl rfl (by rfl)) [.d (.int .u64 (IntKind.u64.wrap ((shlI .u64 1 (IntKind.u64.wrap (w64 (a0-64))))-1))),.d (.int .u64 18446744073709551615)] (rT (rT rN)) rfl
 ·have h:=A5 i h;apply AWp.skip;apply A0;refine sr (SQ tt) ?_;apply ret;obtain rfl:=oi h;exact rt (kp [(2,_),(3,_)] [] hB rfl rfl (by rfl)) [.d (.int .u64 0),.d (.int .u64 (IntKind.u64.wrap ((shlI .u64 1 (IntKind.u64.wrap a0))-1)))] (rT (rT rN)) rfl
def A2j (a0:D1) (a1:Int):Option (D1):=
 (A0w a0).bind fun p=>
 (A2i (w64 (p-a1))).bind fun i=>
 some (D1.mk a0.fV6 (bitI .andNot .u64 a0.fHi i.1) (bitI .andNot .u64 a0.fLo i.2))
theorem B0t (a0:D1) (a1:Int) (r:D1) (h:A2j a0 a1=some r):AC Tryz.prog 143 [.d (E4 a0),.d (.int .i64 a1)] [] (.d (E4 r)) []:=by
 refine AC.of_code2 Tryz.func143 rfl rfl (Nat.le_of_ble_eq_true (by rfl)) fun B hB hN => ?_;delta A2j at h;refine sr (SQ tt) ?_;obtain⟨p,s,h⟩:=bindS h;obtain⟨i,t,h⟩:=bindS h;refine sr (SQ (fa (cl [] (A47 a0 p s)) (fa (cl [] (B0s (w64 (p-a1)) i t)) tt))) ?_;refine sr (SQ tt) ?_;refine sr (SQ tt) ?_;refine sr (SQ tt) ?_;apply ret;obtain rfl:=oi h;exact rt (kp [(4,_)] [(1004,some _)] hB rfl rfl (by rfl)) [.d (.st [.bool a0.fV6,.int .u64 (bitI .andNot .u64 a0.fHi i.1),.int .u64 (bitI .andNot .u64 a0.fLo i.2)])] (Res.cell (c:=(.d (.st [.bool a0.fV6,.int .u64 (bitI .andNot .u64 a0.fHi i.1),.int .u64 (bitI .andNot .u64 a0.fLo i.2)]))) (by rfl) (by rfl) tyS31 (by rfl) (by rfl) (by rfl) rN) rfl
def A0x (a0:A1):Option (Bool):=
 jn (fun s:Bool=>
 some s) (fun i=>
 (V9 a0.fAddr).bind fun t=>
 (if (t&&(decide (0≤a0.fLen)))=true then
 (A0w a0.fAddr).bind fun u=>
 (if (decide (a0.fLen≤u))=true then
 (A2j a0.fAddr a0.fLen).bind fun p=>
 i ((p.fV6==a0.fAddr.fV6)&&((p.fHi==a0.fAddr.fHi)&&((p.fLo==a0.fAddr.fLo)&&true)))
 else
 i false)
 else
 i false))
theorem Y5 (a0:A1) (r:Bool) (h:A0x a0=some r):AC Tryz.prog 112 [.d (B0 a0)] [] (.d (.bool r)) []:=by
 refine ac2 Tryz.func112 rfl rfl fun B hB hN L => ?_;delta A0x at h;refine sr (SQ tt) ?_;apply seq;refine AWp.cut h (fun s:Bool=>([(2,bo s)]:EL)) (fun s:Bool=>([]:OL)) (fun s h I J F => ?_) (fun K u h => ?_)
 ·apply A0;refine ghost F ?_;apply ret;obtain rfl:=oi h;exact rt (kp [(2,_)] [] hB rfl rfl (by rfl)) [bo s] (rT rN) rfl
 ·obtain⟨t,A,h⟩:=bindS h;rcases bft (t&&(decide (0≤a0.fLen))) with i | i
  ·have h:=A4 i h;obtain⟨C,E,h⟩:=bindS h;rcases bft (decide (a0.fLen≤C)) with p | p
   ·have h:=A4 p h;obtain⟨G,H,h⟩:=bindS h;refine drS (SQ (fa (cl [] (H5 a0.fAddr t A)) (fa i (fa (cl [] (A47 a0.fAddr C E)) (fa p (fa (cl [] (B0t a0.fAddr a0.fLen G H)) tt)))))) ?_;exact u _ h _ _ (mp [] _ _ hB)
   ·have h:=A5 p h;refine drS (SQ (fa (cl [] (H5 a0.fAddr t A)) (fa i (fa (cl [] (A47 a0.fAddr C E)) (fa p tt))))) ?_;exact u _ h _ _ (mp [] _ _ hB)
  ·have h:=A5 i h;refine drS (SQ (fa (cl [] (H5 a0.fAddr t A)) (fa i tt))) ?_;exact u _ h _ _ (mp [] _ _ hB)
def A6h (a0:(List Int)):Option (List Int):=
 chk (decide (a0.length≤LIM))<|
 some a0
theorem B31 (a0:(List Int)) (r:(List Int)) (h:A6h a0=some r):AC Tryz.prog 131 [.d (.list 1 (a0.map (eI .i64)))] [] (.d (.list 1 (r.map (eI .i64)))) []:=by
 refine AC.of_code2 Tryz.func131 rfl rfl (Nat.le_of_ble_eq_true (by rfl)) fun B hB hN => ?_;delta A6h at h;refine sr (SQ tt) ?_;obtain⟨i,h⟩:=B2 h;refine sr (SQ (fa i tt)) ?_;apply ret;obtain rfl:=oi h;exact rt (Mat.trans (Mat.freezeP (n:=1004) (e:=3) (sz:=1) (es:=a0.map (eI .i64)) (Ts:=[(2,qI_1 a0)]) (Bs:=[]) (by rfl) (TwT.cons (x:=(.sref 1004 1 0 a0.length)) (by rfl) (FrzL.all (by first | rfl | (simp;done) | (simp;omega) | omega)) TwT.nil) TwB.nil) (mp [] [(2,qI_1 a0)] [] hB)) [qI_1 a0] (rT rN) rfl
def A6i (a0:(List Int)):Option (List Int):=
 chk (decide (a0.length≤LIM))<|
 some a0
theorem B0u (a0:(List Int)) (r:(List Int)) (h:A6i a0=some r):AC Tryz.prog 132 [.d (.list 1 (a0.map (eI .u8)))] [] (.d (.list 1 (r.map (eI .u8)))) []:=by
 refine AC.of_code2 Tryz.func132 rfl rfl (Nat.le_of_ble_eq_true (by rfl)) fun B hB hN => ?_;delta A6i at h;refine sr (SQ tt) ?_;obtain⟨i,h⟩:=B2 h;refine sr (SQ (fa i tt)) ?_;apply ret;obtain rfl:=oi h;exact rt (Mat.trans (Mat.freezeP (n:=1004) (e:=5) (sz:=1) (es:=a0.map (eI .u8)) (Ts:=[(2,.d (.list 1 (a0.map (eI .u8))))]) (Bs:=[]) (by rfl) (TwT.cons (x:=(.sref 1004 1 0 a0.length)) (by rfl) (FrzL.all (by first | rfl | (simp;done) | (simp;omega) | omega)) TwT.nil) TwB.nil) (mp [] [(2,.d (.list 1 (a0.map (eI .u8))))] [] hB)) [.d (.list 1 (a0.map (eI .u8)))] (rT rN) rfl
def A2k (a0:(List B7)):Option (List B7):=
 chk (decide (a0.length≤LIM))<|
 some a0
theorem B0v (a0:(List B7)) (r:(List B7)) (h:A2k a0=some r):AC Tryz.prog 133 [.d (.list 2 (a0.map C4))] [] (.d (.list 2 (r.map C4))) []:=by
 refine AC.of_code2 Tryz.func133 rfl rfl (Nat.le_of_ble_eq_true (by rfl)) fun B hB hN => ?_;delta A2k at h;refine sr (SQ tt) ?_;obtain⟨i,h⟩:=B2 h;refine sr (SQ (fa i tt)) ?_;apply ret;obtain rfl:=oi h;exact rt (Mat.trans (Mat.freezeP (n:=1004) (e:=132) (sz:=2) (es:=a0.map C4) (Ts:=[(2,C5 a0)]) (Bs:=[]) (by rfl) (TwT.cons (x:=(.sref 1004 2 0 a0.length)) (by rfl) (FrzL.all (by first | rfl | (simp;done) | (simp;omega) | omega)) TwT.nil) TwB.nil) (mp [] [(2,C5 a0)] [] hB)) [C5 a0] (rT rN) rfl
def A2l (a0:(List F5)):Option (List F5):=
 chk (decide (a0.length≤LIM))<|
 some a0
theorem B0w (a0:(List F5)) (r:(List F5)) (h:A2l a0=some r):AC Tryz.prog 134 [.d (.list 3 (a0.map E9))] [] (.d (.list 3 (r.map E9))) []:=by
 refine AC.of_code2 Tryz.func134 rfl rfl (Nat.le_of_ble_eq_true (by rfl)) fun B hB hN => ?_;delta A2l at h;refine sr (SQ tt) ?_;obtain⟨i,h⟩:=B2 h;refine sr (SQ (fa i tt)) ?_;apply ret;obtain rfl:=oi h;exact rt (Mat.trans (Mat.freezeP (n:=1004) (e:=134) (sz:=3) (es:=a0.map E9) (Ts:=[(2,E7 a0)]) (Bs:=[]) (by rfl) (TwT.cons (x:=(.sref 1004 3 0 a0.length)) (by rfl) (FrzL.all (by first | rfl | (simp;done) | (simp;omega) | omega)) TwT.nil) TwB.nil) (mp [] [(2,E7 a0)] [] hB)) [E7 a0] (rT rN) rfl
def U8 (a0:D3) (i:Int×(List B5)):Option (List B5⊕(Int×(List B5))):=
 (if (decide (i.1<(a0.fPath.length:Int)))=true then
 (idx a0.fPath i.1).bind fun p=>
 (A6h p.fASNs).bind fun s=>
 chk (decide ((i.2++[B5.mk p.fSet s]).length≤LIM))<|
 some (.inr (w64 (i.1+1),(i.2++[B5.mk p.fSet s])))
 else
 some (.inl i.2))
def A0l (a0:D3) (i:Int×(List A3)):Option (List A3⊕(Int×(List A3))):=
 (if (decide (i.1<(a0.fOther.length:Int)))=true then
 (idx a0.fOther i.1).bind fun p=>
 (A6i p.fData).bind fun s=>
 chk (decide ((i.2++[A3.mk p.fFlags p.fType s]).length≤LIM))<|
 some (.inr (w64 (i.1+1),(i.2++[A3.mk p.fFlags p.fType s])))
 else
 some (.inl i.2))
def V2 (a0:D3):Option (D3):=
 (loop (U8 a0) (0,([]:List B5))).bind fun i=>
 (loop (A0l a0) (0,([]:List A3))).bind fun p=>
 (A2k a0.fCommunities).bind fun s=>
 (A2l a0.fLarge).bind fun t=>
 some (D3.mk a0.fOrigin i a0.fNext a0.fMED a0.fPref a0.fOTC s t p)
theorem A7g (a0:D3) (r:D3) (h:V2 a0=some r):AC Tryz.prog 98 [.d (C7 a0)] [] (.d (C7 r)) []:=by
 refine ac2 Tryz.func98 rfl rfl fun B hB hN L => ?_;delta V2 at h;refine sr (SQ tt) ?_;refine sdS (SQ tt) ?_;refine sr (SQ tt) ?_;apply seq;refine sr (SQ tt) ?_;apply block;obtain⟨i,I,h⟩:=bindS h;refine lg (U8 a0) (fun u:Int×(List B5)=>([(1,pt 1001),(2,pt 1002),(4,C2 a0.fOther),(15,C6 a0.fPath),(16,i6 (a0.fPath.length:Int)),(17,i6 u.1)]:EL)) (fun u:Int×(List B5)=>([(1001,some (.box 39 (.st [i6 a0.fOrigin,.sref 13011 2 0 u.2.length,.d (E4 a0.fNext),i6 a0.fMED,i6 a0.fPref,i6 a0.fOTC,C5 a0.fCommunities,E7 a0.fLarge,.nils]))),(1002,some (.box 39 (.st Zz7))),(13011,some (K3 u.2))]:OL)) (fun(i:(List B5)) e A C=>e = .exit 0∧Mat B A C ([(1,pt 1001),(2,pt 1002),(4,C2 a0.fOther)]:EL) ([(1001,some (.box 39 (.st [i6 a0.fOrigin,.sref 13011 2 0 i.length,.d (E4 a0.fNext),i6 a0.fMED,i6 a0.fPref,i6 a0.fOTC,C5 a0.fCommunities,E7 a0.fLarge,.nils]))),(1002,some (.box 39 (.st Zz7))),(13011,some (K3 i))]:OL)) I (Mat.trans (Mat.beginP (n:=13011) (e:=75) (sz:=2) (Ts:=[]) (Bs:=[(1001,some (.box 39 (.st [i6 a0.fOrigin,.sref 13011 2 0 0,.d (E4 a0.fNext),i6 a0.fMED,i6 a0.fPref,i6 a0.fOTC,C5 a0.fCommunities,E7 a0.fLarge,.nils])))]) hB (by decide) (by rfl) (by decide) TwT.nil (TwB.cons (x:=(.st [i6 a0.fOrigin,.nils,.d (E4 a0.fNext),i6 a0.fMED,i6 a0.fPref,i6 a0.fOTC,C5 a0.fCommunities,E7 a0.fLarge,.nils])) (by rfl) (Tw.st (TwL.cons (Tw.same _) (TwL.cons (Tw.leaf ⟨rfl,rfl⟩) (TwL.cons (Tw.same _) (TwL.cons (Tw.same _) (TwL.cons (Tw.same _) (TwL.cons (Tw.same _) (TwL.cons (Tw.same _) (TwL.cons (Tw.same _) (TwL.cons (Tw.same _) TwL.nil)))))))))) TwB.nil)) (mp [] _ _ hB)) (fun u y h => ?_) (fun e A C hR => ?_)
 ·unfold U8 at h;refine sr (SQ tt) ?_;apply seq;apply AWp.cond rfl<;>intro G
  ·have h:=A4 G h;apply AWp.skip;apply A0;apply seq;apply block;obtain⟨J,K,h⟩:=bindS h;refine sr (SQ (fa K tt)) ?_;obtain⟨M,N,h⟩:=bindS h;obtain⟨O,h⟩:=B2 h;refine drS (SQ (fa (cl [] (B31 J.fASNs M N)) (fa O tt))) ?_;apply D9;apply A0;refine rg (SQ tt) ?_;obtain rfl:=oi h;exact⟨rfl,mp [(13011,1030)] _ _ hB⟩
  ·have h:=A5 G h;apply AWp.exit;apply D7;obtain rfl:=oi h;exact⟨nofun,rfl,mp [] _ _ hB⟩
 ·obtain⟨rfl,F⟩:=hR;apply C0;apply A0;refine ghost F ?_;apply seq;refine sr (SQ tt) ?_;apply block;obtain⟨p,P,h⟩:=bindS h;refine lg (A0l a0) (fun E:Int×(List A3)=>([(1,pt 1001),(2,pt 1002),(33,C2 a0.fOther),(34,i6 (a0.fOther.length:Int)),(35,i6 E.1)]:EL)) (fun E:Int×(List A3)=>([(1001,some (.box 39 (.st [i6 a0.fOrigin,.sref 13011 2 0 i.length,.d (E4 a0.fNext),i6 a0.fMED,i6 a0.fPref,i6 a0.fOTC,C5 a0.fCommunities,E7 a0.fLarge,.sref 13018 3 0 E.2.length]))),(1002,some (.box 39 (.st Zz7))),(13011,some (K3 i)),(13018,some (D8 E.2))]:OL)) (fun(p:(List A3)) e A C=>e = .exit 2∧Mat B A C ([(1,pt 1001),(2,pt 1002)]:EL) ([(1001,some (.box 39 (.st [i6 a0.fOrigin,.sref 13011 2 0 i.length,.d (E4 a0.fNext),i6 a0.fMED,i6 a0.fPref,i6 a0.fOTC,C5 a0.fCommunities,E7 a0.fLarge,.sref 13018 3 0 p.length]))),(1002,some (.box 39 (.st Zz7))),(13011,some (K3 i)),(13018,some (D8 p))]:OL)) P (Mat.trans (Mat.beginP (n:=13018) (e:=78) (sz:=3) (Ts:=[]) (Bs:=[(1001,some (.box 39 (.st [i6 a0.fOrigin,.sref 13011 2 0 i.length,.d (E4 a0.fNext),i6 a0.fMED,i6 a0.fPref,i6 a0.fOTC,C5 a0.fCommunities,E7 a0.fLarge,.sref 13018 3 0 0])))]) hB (by decide) (by rfl) (by decide) TwT.nil (TwB.cons (x:=(.st [i6 a0.fOrigin,.sref 13011 2 0 i.length,.d (E4 a0.fNext),i6 a0.fMED,i6 a0.fPref,i6 a0.fOTC,C5 a0.fCommunities,E7 a0.fLarge,.nils])) (by rfl) (Tw.st (TwL.cons (Tw.same _) (TwL.cons (Tw.same _) (TwL.cons (Tw.same _) (TwL.cons (Tw.same _) (TwL.cons (Tw.same _) (TwL.cons (Tw.same _) (TwL.cons (Tw.same _) (TwL.cons (Tw.same _) (TwL.cons (Tw.leaf ⟨rfl,rfl⟩) TwL.nil)))))))))) TwB.nil)) (mp [] _ _ hB)) (fun E y h => ?_) (fun e A C hR => ?_)
  ·unfold A0l at h;refine sr (SQ tt) ?_;apply seq;apply AWp.cond rfl<;>intro H
   ·have h:=A4 H h;apply AWp.skip;apply A0;apply seq;apply block;obtain⟨Q,R,h⟩:=bindS h;refine sr (SQ (fa R tt)) ?_;obtain⟨S,T,h⟩:=bindS h;obtain⟨U,h⟩:=B2 h;refine drS (SQ (fa (cl [] (B0u Q.fData S T)) (fa U tt))) ?_;apply D9;apply A0;refine rg (SQ tt) ?_;obtain rfl:=oi h;exact⟨rfl,mp [(13018,1050)] _ _ hB⟩
   ·have h:=A5 H h;apply AWp.exit;apply D7;obtain rfl:=oi h;exact⟨nofun,rfl,mp [] _ _ hB⟩
  ·obtain⟨rfl,F⟩:=hR;apply C0;apply A0;refine ghost F ?_;obtain⟨s,W,h⟩:=bindS h;obtain⟨t,X,h⟩:=bindS h;refine sdS (SQ (fa (cl [] (B0v a0.fCommunities s W)) (fa (cl [] (B0w a0.fLarge t X)) tt))) ?_;refine sr (SQ tt) ?_;apply ret;obtain rfl:=oi h;exact rt (Mat.trans (Mat.freezeP (n:=13011) (e:=75) (sz:=2) (es:=i.map D2) (Ts:=[]) (Bs:=[(1002,some (.box 39 (.st [i6 a0.fOrigin,C6 i,.d (E4 a0.fNext),i6 a0.fMED,i6 a0.fPref,i6 a0.fOTC,C5 s,E7 t,.sref 13018 3 0 p.length])))]) (by rfl) TwT.nil (TwB.cons (x:=(.st [i6 a0.fOrigin,.sref 13011 2 0 i.length,.d (E4 a0.fNext),i6 a0.fMED,i6 a0.fPref,i6 a0.fOTC,C5 s,E7 t,.sref 13018 3 0 p.length])) (by rfl) (Tw.st (TwL.cons (Tw.same _) (TwL.cons (FrzL.all (by first | rfl | (simp;done) | (simp;omega) | omega)) (TwL.cons (Tw.same _) (TwL.cons (Tw.same _) (TwL.cons (Tw.same _) (TwL.cons (Tw.same _) (TwL.cons (Tw.same _) (TwL.cons (Tw.same _) (TwL.cons (Tw.same _) TwL.nil)))))))))) TwB.nil)) (Mat.trans (Mat.freezeP (n:=13018) (e:=78) (sz:=3) (es:=p.map B4) (Ts:=[]) (Bs:=[(1002,some (.box 39 (.st [i6 a0.fOrigin,C6 i,.d (E4 a0.fNext),i6 a0.fMED,i6 a0.fPref,i6 a0.fOTC,C5 s,E7 t,C2 p])))]) (by rfl) TwT.nil (TwB.cons (x:=(.st [i6 a0.fOrigin,C6 i,.d (E4 a0.fNext),i6 a0.fMED,i6 a0.fPref,i6 a0.fOTC,C5 s,E7 t,.sref 13018 3 0 p.length])) (by rfl) (Tw.st (TwL.cons (Tw.same _) (TwL.cons (Tw.same _) (TwL.cons (Tw.same _) (TwL.cons (Tw.same _) (TwL.cons (Tw.same _) (TwL.cons (Tw.same _) (TwL.cons (Tw.same _) (TwL.cons (Tw.same _) (TwL.cons (FrzL.all (by first | rfl | (simp;done) | (simp;omega) | omega)) TwL.nil)))))))))) TwB.nil)) (Mat.trans (Mat.coeP (Ts:=[]) (Bs:=[(1002,bd 39 (.st [.int .i64 a0.fOrigin,.list 2 (i.map D2),E4 a0.fNext,.int .i64 a0.fMED,.int .i64 a0.fPref,.int .i64 a0.fOTC,.list 2 (s.map C4),.list 3 (t.map E9),.list 3 (p.map B4)]))]) TwT.nil (TwB.cons (x:=(.st [i6 a0.fOrigin,C6 i,.d (E4 a0.fNext),i6 a0.fMED,i6 a0.fPref,i6 a0.fOTC,C5 s,E7 t,C2 p])) (by rfl) (Tw.leaf ⟨_,Co.st (CoL.cons (Co.d _) (CoL.cons (Co.d _) (CoL.cons (Co.d _) (CoL.cons (Co.d _) (CoL.cons (Co.d _) (CoL.cons (Co.d _) (CoL.cons (Co.d _) (CoL.cons (Co.d _) (CoL.cons (Co.d _) CoL.nil))))))))),rfl⟩) TwB.nil)) (mp [] [(2,pt 1002)] [(1002,bd 39 (.st [.int .i64 a0.fOrigin,.list 2 (i.map D2),E4 a0.fNext,.int .i64 a0.fMED,.int .i64 a0.fPref,.int .i64 a0.fOTC,.list 2 (s.map C4),.list 3 (t.map E9),.list 3 (p.map B4)]))] hB)))) [.d (.st [.int .i64 a0.fOrigin,.list 2 (i.map D2),E4 a0.fNext,.int .i64 a0.fMED,.int .i64 a0.fPref,.int .i64 a0.fOTC,.list 2 (s.map C4),.list 3 (t.map E9),.list 3 (p.map B4)])] (Res.cell (c:=(.d (.st [.int .i64 a0.fOrigin,.list 2 (i.map D2),E4 a0.fNext,.int .i64 a0.fMED,.int .i64 a0.fPref,.int .i64 a0.fOTC,.list 2 (s.map C4),.list 3 (t.map E9),.list 3 (p.map B4)]))) (by rfl) (by rfl) tyS39 (by rfl) (by rfl) (by rfl) rN) rfl
def A0y (a0:(List A1)):Option (List A1):=
 chk (decide (a0.length≤LIM))<|
 some a0
theorem A6u (a0:(List A1)) (r:(List A1)) (h:A0y a0=some r):AC Tryz.prog 48 [.d (.list 4 (a0.map B0))] [] (.d (.list 4 (r.map B0))) []:=by
 refine AC.of_code2 Tryz.func48 rfl rfl (Nat.le_of_ble_eq_true (by rfl)) fun B hB hN => ?_;delta A0y at h;refine sr (SQ tt) ?_;obtain⟨i,h⟩:=B2 h;refine sr (SQ (fa i tt)) ?_;apply ret;obtain rfl:=oi h;exact rt (Mat.trans (Mat.freezeP (n:=1004) (e:=33) (sz:=4) (es:=a0.map B0) (Ts:=[(2,F7 a0)]) (Bs:=[]) (by rfl) (TwT.cons (x:=(.sref 1004 4 0 a0.length)) (by rfl) (FrzL.all (by first | rfl | (simp;done) | (simp;omega) | omega)) TwT.nil) TwB.nil) (mp [] [(2,F7 a0)] [] hB)) [F7 a0] (rT rN) rfl
def Y6:Option (D3):=
 some (D3.mk (-1) ([]:List B5) (D1.mk false 0 0) (-1) (-1) (-1) ([]:List B7) ([]:List F5) ([]:List A3))
theorem A4w (r:D3) (h:Y6=some r):AC Tryz.prog 148 [] [] (.d (C7 r)) []:=by
 refine AC.of_code2 Tryz.func148 rfl rfl (Nat.le_of_ble_eq_true (by rfl)) fun B hB hN => ?_;delta Y6 at h;refine sr (SQ tt) ?_;refine sr (SQ tt) ?_;apply ret;obtain rfl:=oi h;exact rt (Mat.trans (Mat.coeP (Ts:=[]) (Bs:=[(1000,bd 39 (.st Zz5))]) TwT.nil (TwB.cons (x:=(.st [i6 (-1),.nils,.d (.st Zz0),i6 (-1),i6 (-1),i6 (-1),.nils,.nils,.nils])) (by rfl) (Tw.leaf ⟨_,Co.st (CoL.cons (Co.d _) (CoL.cons (Co.nils 2) (CoL.cons (Co.d _) (CoL.cons (Co.d _) (CoL.cons (Co.d _) (CoL.cons (Co.d _) (CoL.cons (Co.nils 2) (CoL.cons (Co.nils 3) (CoL.cons (Co.nils 3) CoL.nil))))))))),rfl⟩) TwB.nil)) (mp [] [(0,pt 1000)] [(1000,bd 39 (.st Zz5))] hB)) [.d (.st Zz5)] (Res.cell (c:=(.d (.st Zz5))) (by rfl) (by rfl) tyS39 (by rfl) (by rfl) (by rfl) rN) rfl
def I3 (a0:D3) (a1:(List A1)) (a2:Bool):Option (A7):=
 (if a2=true then
 (V2 a0).bind fun i=>
 (A0y a1).bind fun p=>
 some (A7.mk ([]:List A1) i p)
 else
 (Y6).bind fun s=>
 (A0y a1).bind fun t=>
 some (A7.mk t s ([]:List A1)))
theorem Y7 (a0:D3) (a1:(List A1)) (a2:Bool) (r:A7) (h:I3 a0 a1 a2=some r):AC Tryz.prog 114 [.d (C7 a0),.d (.list 4 (a1.map B0)),.d (.bool a2)] [] (.d (E5 r)) []:=by
 refine AC.of_code2 Tryz.func114 rfl rfl (Nat.le_of_ble_eq_true (by rfl)) fun B hB hN => ?_;delta I3 at h;refine sr (SQ tt) ?_;apply seq;refine sr (SQ tt) ?_;apply AWp.cond rfl<;>intro u
 ·have h:=A4 u h;obtain⟨i,A,h⟩:=bindS h;obtain⟨p,C,h⟩:=bindS h;refine sr (SQ (fa (cl [] (A7g a0 i A)) (fa (cl [] (A6u a1 p C)) tt))) ?_;apply ret;apply B6;obtain rfl:=oi h;exact rt (Mat.trans (Mat.coeP (Ts:=[]) (Bs:=[(1006,bd 71 (.st [.list 4 (([]:List A1).map B0),C7 i,.list 4 (p.map B0)]))]) TwT.nil (TwB.cons (x:=(.st [.nils,.d (C7 i),F7 p])) (by rfl) (Tw.leaf ⟨_,Co.st (CoL.cons (Co.nils 4) (CoL.cons (Co.d _) (CoL.cons (Co.d _) CoL.nil))),rfl⟩) TwB.nil)) (mp [] [(6,pt 1006)] [(1006,bd 71 (.st [.list 4 (([]:List A1).map B0),C7 i,.list 4 (p.map B0)]))] hB)) [.d (.st [.list 4 (([]:List A1).map B0),C7 i,.list 4 (p.map B0)])] (Res.cell (c:=(.d (.st [.list 4 (([]:List A1).map B0),C7 i,.list 4 (p.map B0)]))) (by rfl) (by rfl) tyS71 (by rfl) (by rfl) (by rfl) rN) rfl
 ·have h:=A5 u h;apply AWp.skip;apply A0;obtain⟨s,E,h⟩:=bindS h;obtain⟨t,F,h⟩:=bindS h;refine sr (SQ (fa (cl [] (A4w s E)) (fa (cl [] (A6u a1 t F)) tt))) ?_;apply ret;obtain rfl:=oi h;exact rt (Mat.trans (Mat.coeP (Ts:=[]) (Bs:=[(1006,bd 71 (.st [.list 4 (t.map B0),C7 s,.list 4 (([]:List A1).map B0)]))]) TwT.nil (TwB.cons (x:=(.st [F7 t,.d (C7 s),.nils])) (by rfl) (Tw.leaf ⟨_,Co.st (CoL.cons (Co.d _) (CoL.cons (Co.d _) (CoL.cons (Co.nils 4) CoL.nil))),rfl⟩) TwB.nil)) (mp [] [(6,pt 1006)] [(1006,bd 71 (.st [.list 4 (t.map B0),C7 s,.list 4 (([]:List A1).map B0)]))] hB)) [.d (.st [.list 4 (t.map B0),C7 s,.list 4 (([]:List A1).map B0)])] (Res.cell (c:=(.d (.st [.list 4 (t.map B0),C7 s,.list 4 (([]:List A1).map B0)]))) (by rfl) (by rfl) tyS71 (by rfl) (by rfl) (by rfl) rN) rfl
def A2m (a0:A1):Option (Bool):=
 (A0x a0).bind fun i=>
 some (!i)
theorem A92 (a0:A1) (r:Bool) (h:A2m a0=some r):AC Tryz.prog 144 [.d (B0 a0)] [] (.d (.bool r)) []:=by
 refine AC.of_code2 Tryz.func144 rfl rfl (Nat.le_of_ble_eq_true (by rfl)) fun B hB hN => ?_;delta A2m at h;refine sr (SQ tt) ?_;obtain⟨i,p,h⟩:=bindS h;refine sr (SQ (fa (cl [] (Y5 a0 i p)) tt)) ?_;apply ret;obtain rfl:=oi h;exact rt (kp [(2,_)] [] hB rfl rfl (by rfl)) [bo (!i)] (rT rN) rfl
def P1 (a0:(List A1)) (i:Int):Option ((Int⊕Unit)⊕Int):=
 (if (decide (i<(a0.length:Int)))=true then
 (idx a0 i).bind fun p=>
 (A2m p).bind fun s=>
 (if s=true then
 some (.inl (.inl i))
 else
 some (.inr (w64 (i+1))))
 else
 some (.inl (.inr ())))
def A0z (a0:(List A1)):Option (Int):=
 (loop (P1 a0) 0).bind fun i=>match i with
 | (.inl p)=>
  some p
 | (.inr _)=>
  some (-1)
theorem A8a (a0:(List A1)) (r:Int) (h:A0z a0=some r):AC Tryz.prog 151 [.d (.list 4 (a0.map B0)),.func 144 []] [] (.d (.int .i64 r)) []:=by
 refine AC.of_code2 Tryz.func151 rfl rfl (Nat.le_of_ble_eq_true (by rfl)) fun B hB hN => ?_;delta A0z at h;refine sr (SQ tt) ?_;apply seq;refine sr (SQ tt) ?_;apply block;obtain⟨E,F,h⟩:=bindS h;refine lg (P1 a0) (fun p:Int=>([(0,F7 a0),(1,.func 144 []),(7,i6 (a0.length:Int)),(8,i6 p)]:EL)) (fun p:Int=>([]:OL)) (fun(x:(Int)⊕Unit) e s t=>match x with | (.inl i)=>e = .ret∧Mat B s t ([(4,i6 i)]:EL) ([]:OL) | (.inr _p)=>e = .exit 0∧Mat B s t ([]:EL) ([]:OL)) F (mp [] _ _ hB) (fun p y h => ?_) (fun e s t hR => ?_)
 ·unfold P1 at h;refine sr (SQ tt) ?_;apply seq;apply AWp.cond rfl<;>intro A
  ·have h:=A4 A h;apply AWp.skip;apply A0;apply seq;apply block;refine sr (SQ tt) ?_;obtain⟨G,H,h⟩:=bindS h;obtain⟨I,J,h⟩:=bindS h;refine sr (SQ (fa H (fa (cl [] (A92 G I J)) tt))) ?_;apply AWp.cond rfl<;>intro C
   ·have h:=A4 C h;refine sr (SQ tt) ?_;apply ret;apply E0;apply B6;obtain rfl:=oi h;exact⟨nofun,rfl,mp [] _ _ hB⟩
   ·have h:=A5 C h;apply AWp.skip;apply D9;apply A0;refine rg (SQ tt) ?_;obtain rfl:=oi h;exact⟨rfl,mp [] _ _ hB⟩
  ·have h:=A5 A h;apply AWp.exit;apply D7;obtain rfl:=oi h;exact⟨nofun,rfl,mp [] _ _ hB⟩
 ·rcases E with i | _
  ·obtain⟨rfl,u⟩:=hR;apply E0;apply B6;obtain rfl:=oi h;exact rt (Mat.trans u (mp [] [(4,i6 i)] [] hB)) [i6 i] (rT rN) rfl
  ·obtain⟨rfl,u⟩:=hR;apply C0;apply A0;refine ghost u ?_;refine sr (SQ tt) ?_;apply ret;obtain rfl:=oi h;exact rt (kp [(4,_)] [] hB rfl rfl (by rfl)) [i6 (-1)] (rT rN) rfl
def J1 (a0:(List A1)):Option (Bool):=
 (A0z a0).bind fun i=>
 some (decide (0≤i))
theorem K9 (a0:(List A1)) (r:Bool) (h:J1 a0=some r):AC Tryz.prog 145 [.d (.list 4 (a0.map B0)),.func 144 []] [] (.d (.bool r)) []:=by
 refine AC.of_code2 Tryz.func145 rfl rfl (Nat.le_of_ble_eq_true (by rfl)) fun B hB hN => ?_;delta J1 at h;refine sr (SQ tt) ?_;obtain⟨i,p,h⟩:=bindS h;refine sr (SQ (fa (cl [] (A8a a0 i p)) tt)) ?_;apply ret;obtain rfl:=oi h;exact rt (kp [(4,_)] [] hB rfl rfl (by rfl)) [bo (decide (0≤i))] (rT rN) rfl
def A2n (a0:D3):Option (Bool):=
 (Y6).bind fun i=>
 some ((((((a0.fOrigin==i.fOrigin)&&(a0.fMED==i.fMED))&&(a0.fPref==i.fPref))&&(a0.fOTC==i.fOTC))&&((a0.fNext.fV6==i.fNext.fV6)&&((a0.fNext.fHi==i.fNext.fHi)&&((a0.fNext.fLo==i.fNext.fLo)&&true))))&&((w64 ((w64 ((w64 ((a0.fPath.length:Int)+(a0.fCommunities.length:Int)))+(a0.fLarge.length:Int)))+(a0.fOther.length:Int)))==0))
theorem B0x (a0:D3) (r:Bool) (h:A2n a0=some r):AC Tryz.prog 152 [.d (C7 a0)] [] (.d (.bool r)) []:=by
 refine ac2 Tryz.func152 rfl rfl fun B hB hN L => ?_;delta A2n at h;refine sr (SQ tt) ?_;obtain⟨i,p,h⟩:=bindS h;refine sr (SQ (fa (cl [] (A4w i p)) tt)) ?_;refine sr (SQ tt) ?_;apply ret;obtain rfl:=oi h;exact rt (kp [(2,_)] [] hB rfl rfl (by rfl)) [bo ((((((a0.fOrigin==i.fOrigin)&&(a0.fMED==i.fMED))&&(a0.fPref==i.fPref))&&(a0.fOTC==i.fOTC))&&((a0.fNext.fV6==i.fNext.fV6)&&((a0.fNext.fHi==i.fNext.fHi)&&((a0.fNext.fLo==i.fNext.fLo)&&true))))&&((w64 ((w64 ((w64 ((a0.fPath.length:Int)+(a0.fCommunities.length:Int)))+(a0.fLarge.length:Int)))+(a0.fOther.length:Int)))==0))] (rT rN) rfl
def H4 (a0:Int) (a1:Int) (a2:Int):Option (Bool):=
 some ((decide (a1≤a0))&&(decide (a0≤a2)))
theorem C3 (a0:Int) (a1:Int) (a2:Int) (r:Bool) (h:H4 a0 a1 a2=some r):AC Tryz.prog 159 [.d (.int .i64 a0),.d (.int .i64 a1),.d (.int .i64 a2)] [] (.d (.bool r)) []:=by
 refine AC.of_code2 Tryz.func159 rfl rfl (Nat.le_of_ble_eq_true (by rfl)) fun B hB hN => ?_;delta H4 at h;refine sr (SQ tt) ?_;refine sr (SQ tt) ?_;apply ret;obtain rfl:=oi h;exact rt (kp [(6,_)] [] hB rfl rfl (by rfl)) [bo ((decide (a1≤a0))&&(decide (a0≤a2)))] (rT rN) rfl
def A18 (a0:Int):Option (Bool):=
 some ((decide (1≤a0))&&(decide (a0≤4294967295)))
theorem M4 (a0:Int) (r:Bool) (h:A18 a0=some r):AC Tryz.prog 161 [.d (.int .i64 a0)] [] (.d (.bool r)) []:=by
 refine AC.of_code2 Tryz.func161 rfl rfl (Nat.le_of_ble_eq_true (by rfl)) fun B hB hN => ?_;delta A18 at h;refine sr (SQ tt) ?_;refine sr (SQ tt) ?_;apply ret;obtain rfl:=oi h;exact rt (kp [(2,_)] [] hB rfl rfl (by rfl)) [bo ((decide (1≤a0))&&(decide (a0≤4294967295)))] (rT rN) rfl
def Y8 (p:B5) (i:Int):Option ((Unit⊕Unit)⊕Int):=
 (if (decide (i<(p.fASNs.length:Int)))=true then
 (idx p.fASNs i).bind fun t=>
 jn (fun u:Bool=>
 (if u=true then
 some (.inl (.inl ()))
 else
 some (.inr (w64 (i+1))))) (fun s=>
 (A18 t).bind fun A=>
 (if (!A)=true then
 s true
 else
 (if (p.fSet&&(decide (0<i)))=true then
 (idx p.fASNs (w64 (i-1))).bind fun C=>
 s (decide (t≤C))
 else
 s false)))
 else
 some (.inl (.inr ())))
def R0 (a0:(List B5)) (i:Int×Int):Option ((Unit⊕Int)⊕(Int×Int)):=
 (if (decide (i.2<(a0.length:Int)))=true then
 (idx a0 i.2).bind fun p=>
 jn (fun t:Bool=>
 (if t=true then
 some (.inl (.inl ()))
 else
 (loop (Y8 p) 0).bind fun u=>match u with
 | (.inl _)=>
  some (.inl (.inl ()))
 | (.inr _)=>
  some (.inr (w64 (i.1+(p.fASNs.length:Int)),w64 (i.2+1))))) (fun s=>
 (if ((p.fASNs.length:Int)==0)=true then
 s true
 else
 (if ((decide (0<i.2))&&(!p.fSet))=true then
 (idx a0 (w64 (i.2-1))).bind fun A=>
 s (!A.fSet)
 else
 s false)))
 else
 some (.inl (.inr i.1)))
def W4 (a0:(List B5)):Option (Bool):=
 (loop (R0 a0) (0,0)).bind fun i=>match i with
 | (.inl _)=>
  some false
 | (.inr p)=>
  some (decide (p≤64))
theorem H9 (a0:(List B5)) (r:Bool) (h:W4 a0=some r):AC Tryz.prog 160 [.d (.list 2 (a0.map D2))] [] (.d (.bool r)) []:=by
 refine ac2 Tryz.func160 rfl rfl fun B hB hN L => ?_;delta W4 at h;refine sr (SQ tt) ?_;refine sr (SQ tt) ?_;apply seq;refine sr (SQ tt) ?_;apply block;obtain⟨U,W,h⟩:=bindS h;refine lg (R0 a0) (fun i:Int×Int=>([(0,C6 a0),(3,i6 i.1),(8,C6 a0),(9,i6 (a0.length:Int)),(10,i6 i.2)]:EL)) (fun i:Int×Int=>([]:OL)) (fun(x:(Unit)⊕Int) e t u=>match x with | (.inl _p)=>e = .ret∧Mat B t u ([(2,bo false)]:EL) ([]:OL) | (.inr I)=>e = .exit 0∧Mat B t u ([(3,i6 I)]:EL) ([]:OL)) W (mp [] _ _ hB) (fun i y h => ?_) (fun e t u hR => ?_)
 ·unfold R0 at h;refine sr (SQ tt) ?_;apply seq;apply AWp.cond rfl<;>intro Q
  ·have h:=A4 Q h;apply AWp.skip;apply A0;apply seq;apply block;obtain⟨p,X,h⟩:=bindS h;refine sr (SQ (fa X tt)) ?_;apply seq;apply seq;refine AWp.cut h (fun J:Bool=>([(0,C6 a0),(3,i6 i.1),(5,pt 1005),(8,C6 a0),(9,i6 (a0.length:Int)),(10,i6 i.2),(36,bo J)]:EL)) (fun J:Bool=>([(1005,bd 75 (D2 p))]:OL)) (fun J h t u s => ?_) (fun ae K h => ?_)
   ·apply A0;refine ghost s ?_;apply AWp.cond rfl<;>intro R
    ·have h:=A4 R h;refine sr (SQ tt) ?_;apply ret;apply B6;apply E0;apply B6;obtain rfl:=oi h;exact⟨nofun,rfl,mp [] _ _ hB⟩
    ·have h:=A5 R h;apply AWp.skip;apply A0;apply seq;refine sr (SQ tt) ?_;apply block;obtain⟨Y,Z,h⟩:=bindS h;refine lg (Y8 p) (fun E:Int=>([(0,C6 a0),(3,i6 i.1),(5,pt 1005),(8,C6 a0),(9,i6 (a0.length:Int)),(10,i6 i.2),(38,qI_1 p.fASNs),(39,i6 (p.fASNs.length:Int)),(40,i6 E)]:EL)) (fun E:Int=>([(1005,bd 75 (D2 p))]:OL)) (fun(x:(Unit)⊕Unit) e t u=>match x with | (.inl _p)=>e = .ret∧Mat B t u ([(2,bo false)]:EL) ([]:OL) | (.inr _p)=>e = .exit 2∧Mat B t u ([(0,C6 a0),(3,i6 i.1),(5,pt 1005),(8,C6 a0),(9,i6 (a0.length:Int)),(10,i6 i.2)]:EL) ([(1005,bd 75 (D2 p))]:OL)) Z (mp [] _ _ hB) (fun E y h => ?_) (fun e t u hR => ?_)
     ·unfold Y8 at h;refine sr (SQ tt) ?_;apply seq;apply AWp.cond rfl<;>intro S
      ·have h:=A4 S h;apply AWp.skip;apply A0;apply seq;apply block;obtain⟨M,aa,h⟩:=bindS h;refine sr (SQ (fa aa tt)) ?_;apply seq;refine AWp.cut h (fun N:Bool=>([(0,C6 a0),(3,i6 i.1),(5,pt 1005),(8,C6 a0),(9,i6 (a0.length:Int)),(10,i6 i.2),(38,qI_1 p.fASNs),(39,i6 (p.fASNs.length:Int)),(40,i6 E),(65,bo N)]:EL)) (fun N:Bool=>([(1005,bd 75 (D2 p))]:OL)) (fun N h t u s => ?_) (fun af O h => ?_)
       ·apply A0;refine ghost s ?_;apply AWp.cond rfl<;>intro T
        ·have h:=A4 T h;refine sr (SQ tt) ?_;apply ret;apply E0;apply B6;obtain rfl:=oi h;exact⟨nofun,rfl,mp [] _ _ hB⟩
        ·have h:=A5 T h;apply AWp.skip;apply D9;apply A0;refine rg (SQ tt) ?_;obtain rfl:=oi h;exact⟨rfl,mp [] _ _ hB⟩
       ·obtain⟨H,P,h⟩:=bindS h;rcases bft (!H) with A | A
        ·have h:=A4 A h;refine rg (SQ (fa (cl [] (M4 M H P)) (fa A tt))) ?_;exact O _ h _ _ (mp [] _ _ hB)
        ·have h:=A5 A h;rcases bft (p.fSet&&(decide (0<E))) with F | F
         ·have h:=A4 F h;obtain⟨_,ab,h⟩:=bindS h;refine rg (SQ (fa (cl [] (M4 M H P)) (fa A (fa F (fa ab tt))))) ?_;exact O _ h _ _ (mp [] _ _ hB)
         ·have h:=A5 F h;refine rg (SQ (fa (cl [] (M4 M H P)) (fa A (fa F tt)))) ?_;exact O _ h _ _ (mp [] _ _ hB)
      ·have h:=A5 S h;apply AWp.exit;apply D7;obtain rfl:=oi h;exact⟨nofun,rfl,mp [] _ _ hB⟩
     ·rcases Y with _ | _
      ·obtain⟨rfl,s⟩:=hR;apply E0;apply B6;apply E0;apply B6;obtain rfl:=oi h;exact⟨nofun,rfl,Mat.trans s (mp [] _ _ hB)⟩
      ·obtain⟨rfl,s⟩:=hR;apply C0;apply A0;refine ghost s ?_;refine rg (SQ tt) ?_;apply D9;apply A0;refine rg (SQ tt) ?_;obtain rfl:=oi h;exact⟨rfl,mp [] _ _ hB⟩
   ·rcases bft ((p.fASNs.length:Int)==0) with C | C
    ·have h:=A4 C h;refine rg (SQ (fa C tt)) ?_;exact K _ h _ _ (mp [] _ _ hB)
    ·have h:=A5 C h;rcases bft ((decide (0<i.2))&&(!p.fSet)) with G | G
     ·have h:=A4 G h;obtain⟨_,ac,h⟩:=bindS h;refine rg (SQ (fa C (fa G (fa ac tt)))) ?_;exact K _ h _ _ (mp [] _ _ hB)
     ·have h:=A5 G h;refine rg (SQ (fa C (fa G tt))) ?_;exact K _ h _ _ (mp [] _ _ hB)
  ·have h:=A5 Q h;apply AWp.exit;apply D7;obtain rfl:=oi h;exact⟨nofun,rfl,mp [] _ _ hB⟩
 ·rcases U with _ | I
  ·obtain⟨rfl,s⟩:=hR;apply E0;apply B6;obtain rfl:=oi h;exact rt (Mat.trans s (mp [] [(2,bo false)] [] hB)) [bo false] (rT rN) rfl
  ·obtain⟨rfl,s⟩:=hR;apply C0;apply A0;refine ghost s ?_;refine sr (SQ tt) ?_;apply ret;obtain rfl:=oi h;exact rt (kp [(2,_)] [] hB rfl rfl (by rfl)) [bo (decide (I≤64))] (rT rN) rfl
def A5l (a0:(List Int)) (i:Int×Int):Option (Int⊕(Int×Int)):=
 (if (decide (i.2<(a0.length:Int)))=true then
 (idx a0 i.2).bind fun p=>
 some (.inr (minI i.1 p,w64 (i.2+1)))
 else
 some (.inl i.1))
def A8n (a0:(List Int)):Option (Int):=
 (if (decide ((a0.length:Int)<1))=true then
 none
 else
 (idx a0 0).bind fun i=>
 (loop (A5l a0) (i,1)).bind fun p=>
 some p)
theorem A8e (a0:(List Int)) (r:Int) (h:A8n a0=some r):AC Tryz.prog 193 [.d (.list 1 (a0.map (eI .i64)))] [] (.d (.int .i64 r)) []:=by
 refine ac2 Tryz.func193 rfl rfl fun B hB hN L => ?_;delta A8n at h;refine sr (SQ tt) ?_;apply seq;refine sr (SQ tt) ?_;apply AWp.cond rfl<;>intro s
 ·have h:=A4 s h;cases h
 ·have h:=A5 s h;apply AWp.skip;apply A0;obtain⟨_,C,h⟩:=bindS h;refine sr (SQ (fa C tt)) ?_;apply seq;refine sr (SQ tt) ?_;apply block;obtain⟨p,E,h⟩:=bindS h;refine lg (A5l a0) (fun i:Int×Int=>([(0,qI_1 a0),(3,i6 i.1),(4,i6 i.2)]:EL)) (fun i:Int×Int=>([]:OL)) (fun(p:(Int)) e t u=>e = .exit 0∧Mat B t u ([(3,i6 p)]:EL) ([]:OL)) E (mp [] _ _ hB) (fun i y h => ?_) (fun e t u hR => ?_)
  ·unfold A5l at h;apply seq;refine sr (SQ tt) ?_;apply AWp.cond rfl<;>intro A
   ·have h:=A4 A h;apply AWp.skip;apply A0;apply seq;apply block;obtain⟨_,F,h⟩:=bindS h;refine rg (SQ (fa F tt)) ?_;apply D9;apply A0;refine rg (SQ tt) ?_;obtain rfl:=oi h;exact⟨rfl,mp [] _ _ hB⟩
   ·have h:=A5 A h;apply AWp.exit;apply D7;obtain rfl:=oi h;exact⟨nofun,rfl,mp [] _ _ hB⟩
  ·obtain⟨rfl,G⟩:=hR;apply C0;apply A0;refine ghost G ?_;refine sr (SQ tt) ?_;apply ret;obtain rfl:=oi h;exact rt (kp [(2,_)] [] hB rfl rfl (by rfl)) [i6 p] (rT rN) rfl
def A5m (a0:(List Int)) (i:Int×Int):Option (Int⊕(Int×Int)):=
 (if (decide (i.2<(a0.length:Int)))=true then
 (idx a0 i.2).bind fun p=>
 some (.inr (maxI i.1 p,w64 (i.2+1)))
 else
 some (.inl i.1))
def A8o (a0:(List Int)):Option (Int):=
 (if (decide ((a0.length:Int)<1))=true then
 none
 else
 (idx a0 0).bind fun i=>
 (loop (A5m a0) (i,1)).bind fun p=>
 some p)
theorem B32 (a0:(List Int)) (r:Int) (h:A8o a0=some r):AC Tryz.prog 194 [.d (.list 1 (a0.map (eI .i64)))] [] (.d (.int .i64 r)) []:=by
 refine ac2 Tryz.func194 rfl rfl fun B hB hN L => ?_;delta A8o at h;refine sr (SQ tt) ?_;apply seq;refine sr (SQ tt) ?_;apply AWp.cond rfl<;>intro s
 ·have h:=A4 s h;cases h
 ·have h:=A5 s h;apply AWp.skip;apply A0;obtain⟨_,C,h⟩:=bindS h;refine sr (SQ (fa C tt)) ?_;apply seq;refine sr (SQ tt) ?_;apply block;obtain⟨p,E,h⟩:=bindS h;refine lg (A5m a0) (fun i:Int×Int=>([(0,qI_1 a0),(3,i6 i.1),(4,i6 i.2)]:EL)) (fun i:Int×Int=>([]:OL)) (fun(p:(Int)) e t u=>e = .exit 0∧Mat B t u ([(3,i6 p)]:EL) ([]:OL)) E (mp [] _ _ hB) (fun i y h => ?_) (fun e t u hR => ?_)
  ·unfold A5m at h;apply seq;refine sr (SQ tt) ?_;apply AWp.cond rfl<;>intro A
   ·have h:=A4 A h;apply AWp.skip;apply A0;apply seq;apply block;obtain⟨_,F,h⟩:=bindS h;refine rg (SQ (fa F tt)) ?_;apply D9;apply A0;refine rg (SQ tt) ?_;obtain rfl:=oi h;exact⟨rfl,mp [] _ _ hB⟩
   ·have h:=A5 A h;apply AWp.exit;apply D7;obtain rfl:=oi h;exact⟨nofun,rfl,mp [] _ _ hB⟩
  ·obtain⟨rfl,G⟩:=hR;apply C0;apply A0;refine ghost G ?_;refine sr (SQ tt) ?_;apply ret;obtain rfl:=oi h;exact rt (kp [(2,_)] [] hB rfl rfl (by rfl)) [i6 p] (rT rN) rfl
def A10 (a0:Int) (a1:(List Int)):Option (Bool):=
 jn (fun p:Bool=>
 some p) (fun i=>
 (A8n a1).bind fun s=>
 (if (decide (0≤s))=true then
 (A8o a1).bind fun t=>
 i (decide (t≤a0))
 else
 i false))
theorem A4c (a0:Int) (a1:(List Int)) (r:Bool) (h:A10 a0 a1=some r):AC Tryz.prog 184 [.d (.int .i64 a0),.d (.list 1 (a1.map (eI .i64)))] [] (.d (.bool r)) []:=by
 refine ac2 Tryz.func184 rfl rfl fun B hB hN L => ?_;delta A10 at h;refine sr (SQ tt) ?_;apply seq;refine AWp.cut h (fun p:Bool=>([(4,bo p)]:EL)) (fun p:Bool=>([]:OL)) (fun p h F G A => ?_) (fun H t h => ?_)
 ·apply A0;refine ghost A ?_;apply ret;obtain rfl:=oi h;exact rt (kp [(4,_)] [] hB rfl rfl (by rfl)) [bo p] (rT rN) rfl
 ·obtain⟨s,u,h⟩:=bindS h;rcases bft (decide (0≤s)) with i | i
  ·have h:=A4 i h;obtain⟨C,E,h⟩:=bindS h;refine rg (SQ (fa (cl [] (A8e a1 s u)) (fa i (fa (cl [] (B32 a1 C E)) tt)))) ?_;exact t _ h _ _ (mp [] _ _ hB)
  ·have h:=A5 i h;refine rg (SQ (fa (cl [] (A8e a1 s u)) (fa i tt))) ?_;exact t _ h _ _ (mp [] _ _ hB)
def A4x (a0:B7):Option (Bool):=
 (A10 65535 ([a0.fA,a0.fB]:List Int)).bind fun i=>
 some i
theorem A2o (a0:B7) (r:Bool) (h:A4x a0=some r):AC Tryz.prog 170 [.d (C4 a0)] [] (.d (.bool r)) []:=by
 refine AC.of_code2 Tryz.func170 rfl rfl (Nat.le_of_ble_eq_true (by rfl)) fun B hB hN => ?_;delta A4x at h;refine sr (SQ tt) ?_;obtain⟨i,p,h⟩:=bindS h;refine sr (SQ (fa (cl [] (A4c 65535 ([a0.fA,a0.fB]:List Int) i p)) tt)) ?_;apply ret;obtain rfl:=oi h;exact rt (kp [(2,_)] [] hB rfl rfl (by rfl)) [bo i] (rT rN) rfl
def A64 (a0:Int):Option (Bool):=
 some (a0 != a0)
theorem A93 (a0:Int) (r:Bool) (h:A64 a0=some r):AC Tryz.prog 111 [.d (.int .i64 a0)] [] (.d (.bool r)) []:=by
 refine AC.of_code2 Tryz.func111 rfl rfl (Nat.le_of_ble_eq_true (by rfl)) fun B hB hN => ?_;delta A64 at h;refine sr (SQ tt) ?_;refine sr (SQ tt) ?_;apply ret;obtain rfl:=oi h;exact rt (kp [(2,_)] [] hB rfl rfl (by rfl)) [bo (a0 != a0)] (rT rN) rfl
def J3 (a0:Int) (a1:Int):Option (Int):=
 (A64 a0).bind fun p=>
 (A64 a1).bind fun i=>
 (if p=true then
 (if i=true then
 some 0
 else
 some (-1))
 else
 (if i=true then
 some 1
 else
 (if (decide (a0<a1))=true then
 some (-1)
 else
 (if (decide (a1<a0))=true then
 some 1
 else
 some 0))))
theorem L0 (a0:Int) (a1:Int) (r:Int) (h:J3 a0 a1=some r):AC Tryz.prog 74 [.d (.int .i64 a0),.d (.int .i64 a1)] [] (.d (.int .i64 r)) []:=by
 refine ac2 Tryz.func74 rfl rfl fun B hB hN L => ?_;delta J3 at h;refine sr (SQ tt) ?_;obtain⟨A,C,h⟩:=bindS h;refine sr (SQ (fa (cl [] (A93 a0 A C)) tt)) ?_;obtain⟨E,F,h⟩:=bindS h;refine sr (SQ (fa (cl [] (A93 a1 E F)) tt)) ?_;apply seq;refine sr (SQ tt) ?_;apply AWp.cond rfl<;>intro i
 ·have h:=A4 i h;apply seq;refine sr (SQ tt) ?_;apply AWp.cond rfl<;>intro p
  ·have h:=A4 p h;refine sr (SQ tt) ?_;apply ret;apply B6;apply B6;obtain rfl:=oi h;exact rt (kp [(4,_)] [] hB rfl rfl (by rfl)) [i6 0] (rT rN) rfl
  ·have h:=A5 p h;apply AWp.skip;apply A0;refine sr (SQ tt) ?_;apply ret;apply B6;obtain rfl:=oi h;exact rt (kp [(4,_)] [] hB rfl rfl (by rfl)) [i6 (-1)] (rT rN) rfl
 ·have h:=A5 i h;apply AWp.skip;apply A0;apply seq;refine sr (SQ tt) ?_;apply AWp.cond rfl<;>intro s
  ·have h:=A4 s h;refine sr (SQ tt) ?_;apply ret;apply B6;obtain rfl:=oi h;exact rt (kp [(4,_)] [] hB rfl rfl (by rfl)) [i6 1] (rT rN) rfl
  ·have h:=A5 s h;apply AWp.skip;apply A0;apply seq;refine sr (SQ tt) ?_;apply AWp.cond rfl<;>intro t
   ·have h:=A4 t h;refine sr (SQ tt) ?_;apply ret;apply B6;obtain rfl:=oi h;exact rt (kp [(4,_)] [] hB rfl rfl (by rfl)) [i6 (-1)] (rT rN) rfl
   ·have h:=A5 t h;apply AWp.skip;apply A0;apply seq;refine sr (SQ tt) ?_;apply AWp.cond rfl<;>intro u
    ·have h:=A4 u h;refine sr (SQ tt) ?_;apply ret;apply B6;obtain rfl:=oi h;exact rt (kp [(4,_)] [] hB rfl rfl (by rfl)) [i6 1] (rT rN) rfl
    ·have h:=A5 u h;apply AWp.skip;apply A0;refine sr (SQ tt) ?_;apply ret;obtain rfl:=oi h;exact rt (kp [(4,_)] [] hB rfl rfl (by rfl)) [i6 0] (rT rN) rfl
def A65 (a0:(List Int)) (i:Int):Option ((Int⊕Unit)⊕Int):=
 (if (decide (i<(a0.length:Int)))=true then
 (idx a0 i).bind fun p=>
 (if (p != 0)=true then
 some (.inl (.inl p))
 else
 some (.inr (w64 (i+1))))
 else
 some (.inl (.inr ())))
def A7h (a0:(List Int)):Option (Int):=
 (loop (A65 a0) 0).bind fun i=>match i with
 | (.inl p)=>
  some p
 | (.inr _)=>
  some 0
theorem A81 (a0:(List Int)) (r:Int) (h:A7h a0=some r):AC Tryz.prog 72 [.d (.list 1 (a0.map (eI .i64)))] [] (.d (.int .i64 r)) []:=by
 refine AC.of_code2 Tryz.func72 rfl rfl (Nat.le_of_ble_eq_true (by rfl)) fun B hB hN => ?_;delta A7h at h;refine sr (SQ tt) ?_;refine sr (SQ tt) ?_;apply seq;refine sr (SQ tt) ?_;apply block;obtain⟨E,F,h⟩:=bindS h;refine lg (A65 a0) (fun p:Int=>([(3,i6 0),(6,qI_1 a0),(7,i6 (a0.length:Int)),(8,i6 p)]:EL)) (fun p:Int=>([]:OL)) (fun(x:(Int)⊕Unit) e s t=>match x with | (.inl i)=>e = .ret∧Mat B s t ([(2,i6 i)]:EL) ([]:OL) | (.inr _p)=>e = .exit 0∧Mat B s t ([(3,i6 0)]:EL) ([]:OL)) F (mp [] _ _ hB) (fun p y h => ?_) (fun e s t hR => ?_)
 ·unfold A65 at h;refine sr (SQ tt) ?_;apply seq;apply AWp.cond rfl<;>intro A
  ·have h:=A4 A h;apply AWp.skip;apply A0;apply seq;apply block;obtain⟨_,G,h⟩:=bindS h;refine sr (SQ (fa G tt)) ?_;refine sr (SQ tt) ?_;apply AWp.cond rfl<;>intro C
   ·have h:=A4 C h;refine sr (SQ tt) ?_;apply ret;apply E0;apply B6;obtain rfl:=oi h;exact⟨nofun,rfl,mp [] _ _ hB⟩
   ·have h:=A5 C h;apply AWp.skip;apply D9;apply A0;refine rg (SQ tt) ?_;obtain rfl:=oi h;exact⟨rfl,mp [] _ _ hB⟩
  ·have h:=A5 A h;apply AWp.exit;apply D7;obtain rfl:=oi h;exact⟨nofun,rfl,mp [] _ _ hB⟩
 ·rcases E with i | _
  ·obtain⟨rfl,u⟩:=hR;apply E0;apply B6;obtain rfl:=oi h;exact rt (Mat.trans u (mp [] [(2,i6 i)] [] hB)) [i6 i] (rT rN) rfl
  ·obtain⟨rfl,u⟩:=hR;apply C0;apply A0;refine ghost u ?_;refine sr (SQ tt) ?_;apply ret;obtain rfl:=oi h;exact rt (kp [(2,_)] [] hB rfl rfl (by rfl)) [i6 0] (rT rN) rfl
def A2p (a0:B7) (a1:B7):Option (Int):=
 (J3 a0.fA a1.fA).bind fun i=>
 (J3 a0.fB a1.fB).bind fun p=>
 (A7h ([i,p]:List Int)).bind fun s=>
 some s
theorem A7i (a0:B7) (a1:B7) (r:Int) (h:A2p a0 a1=some r):AC Tryz.prog 171 [.d (C4 a0),.d (C4 a1)] [] (.d (.int .i64 r)) []:=by
 refine AC.of_code2 Tryz.func171 rfl rfl (Nat.le_of_ble_eq_true (by rfl)) fun B hB hN => ?_;delta A2p at h;refine sr (SQ tt) ?_;obtain⟨i,t,h⟩:=bindS h;obtain⟨p,u,h⟩:=bindS h;obtain⟨s,A,h⟩:=bindS h;refine sdS (SQ (fa (cl [] (L0 a0.fA a1.fA i t)) (fa (cl [] (L0 a0.fB a1.fB p u)) (fa (cl [] (A81 ([i,p]:List Int) s A)) tt)))) ?_;apply ret;obtain rfl:=oi h;exact rt (kp [(4,_)] [] hB rfl rfl (by rfl)) [i6 s] (rT rN) rfl
def R9 (a0:(List B7)) (i:Int):Option ((Unit⊕Unit)⊕Int):=
 (if (decide (i<(a0.length:Int)))=true then
 (idx a0 i).bind fun s=>
 jn (fun t:Bool=>
 (if t=true then
 some (.inl (.inl ()))
 else
 some (.inr (w64 (i+1))))) (fun p=>
 (A4x s).bind fun u=>
 (if (!u)=true then
 p true
 else
 (if (decide (0<i))=true then
 (idx a0 (w64 (i-1))).bind fun A=>
 (A2p A s).bind fun C=>
 p (decide (0≤C))
 else
 p false)))
 else
 some (.inl (.inr ())))
def Z8 (a0:(List B7)):Option (Bool):=
 (loop (R9 a0) 0).bind fun i=>match i with
 | (.inl _)=>
  some false
 | (.inr _)=>
  some (decide ((a0.length:Int)≤64))
theorem A7j (a0:(List B7)) (r:Bool) (h:Z8 a0=some r):AC Tryz.prog 169 [.d (.list 2 (a0.map C4)),.func 170 [],.func 171 []] [] (.d (.bool r)) []:=by
 refine ac2 Tryz.func169 rfl rfl fun B hB hN L => ?_;delta Z8 at h;refine sr (SQ tt) ?_;apply seq;refine sr (SQ tt) ?_;apply block;obtain⟨K,M,h⟩:=bindS h;refine lg (R9 a0) (fun p:Int=>([(0,C5 a0),(1,.func 170 []),(2,.func 171 []),(9,C5 a0),(10,i6 (a0.length:Int)),(11,i6 p)]:EL)) (fun p:Int=>([]:OL)) (fun(x:(Unit)⊕Unit) e u A=>match x with | (.inl _p)=>e = .ret∧Mat B u A ([(6,bo false)]:EL) ([]:OL) | (.inr _p)=>e = .exit 0∧Mat B u A ([(0,C5 a0)]:EL) ([]:OL)) M (mp [] _ _ hB) (fun p y h => ?_) (fun e u A hR => ?_)
 ·unfold R9 at h;refine sr (SQ tt) ?_;apply seq;apply AWp.cond rfl<;>intro I
  ·have h:=A4 I h;apply AWp.skip;apply A0;apply seq;apply block;obtain⟨C,N,h⟩:=bindS h;refine sr (SQ (fa N tt)) ?_;apply seq;refine AWp.cut h (fun F:Bool=>([(0,C5 a0),(1,.func 170 []),(2,.func 171 []),(9,C5 a0),(10,i6 (a0.length:Int)),(11,i6 p),(34,bo F)]:EL)) (fun F:Bool=>([]:OL)) (fun F h u A s => ?_) (fun S G h => ?_)
   ·apply A0;refine ghost s ?_;apply AWp.cond rfl<;>intro J
    ·have h:=A4 J h;refine sr (SQ tt) ?_;apply ret;apply E0;apply B6;obtain rfl:=oi h;exact⟨nofun,rfl,mp [] _ _ hB⟩
    ·have h:=A5 J h;apply AWp.skip;apply D9;apply A0;refine rg (SQ tt) ?_;obtain rfl:=oi h;exact⟨rfl,mp [] _ _ hB⟩
   ·obtain⟨E,H,h⟩:=bindS h;rcases bft (!E) with i | i
    ·have h:=A4 i h;refine drS (SQ (fa (cl [] (A2o C E H)) (fa i tt))) ?_;exact G _ h _ _ (mp [] _ _ hB)
    ·have h:=A5 i h;rcases bft (decide (0<p)) with t | t
     ·have h:=A4 t h;obtain⟨O,P,h⟩:=bindS h;obtain⟨Q,R,h⟩:=bindS h;refine drS (SQ (fa (cl [] (A2o C E H)) (fa i (fa t (fa P (fa (cl [] (A7i O C Q R)) tt)))))) ?_;exact G _ h _ _ (mp [] _ _ hB)
     ·have h:=A5 t h;refine drS (SQ (fa (cl [] (A2o C E H)) (fa i (fa t tt)))) ?_;exact G _ h _ _ (mp [] _ _ hB)
  ·have h:=A5 I h;apply AWp.exit;apply D7;obtain rfl:=oi h;exact⟨nofun,rfl,mp [] _ _ hB⟩
 ·rcases K with _ | _
  ·obtain⟨rfl,s⟩:=hR;apply E0;apply B6;obtain rfl:=oi h;exact rt (Mat.trans s (mp [] [(6,bo false)] [] hB)) [bo false] (rT rN) rfl
  ·obtain⟨rfl,s⟩:=hR;apply C0;apply A0;refine ghost s ?_;refine sr (SQ tt) ?_;apply ret;obtain rfl:=oi h;exact rt (kp [(6,_)] [] hB rfl rfl (by rfl)) [bo (decide ((a0.length:Int)≤64))] (rT rN) rfl
def R1 (a0:(List B7)):Option (Bool):=
 (Z8 a0).bind fun i=>
 some i
theorem M5 (a0:(List B7)) (r:Bool) (h:R1 a0=some r):AC Tryz.prog 162 [.d (.list 2 (a0.map C4))] [] (.d (.bool r)) []:=by
 refine AC.of_code2 Tryz.func162 rfl rfl (Nat.le_of_ble_eq_true (by rfl)) fun B hB hN => ?_;delta R1 at h;refine sr (SQ tt) ?_;obtain⟨i,p,h⟩:=bindS h;refine sr (SQ (fa (cl [] (A7j a0 i p)) tt)) ?_;apply ret;obtain rfl:=oi h;exact rt (kp [(2,_)] [] hB rfl rfl (by rfl)) [bo i] (rT rN) rfl
def A14 (a0:F5):Option (Bool):=
 (A10 4294967295 ([a0.fA,a0.fB,a0.fC]:List Int)).bind fun i=>
 some i
theorem W5 (a0:F5) (r:Bool) (h:A14 a0=some r):AC Tryz.prog 173 [.d (E9 a0)] [] (.d (.bool r)) []:=by
 refine AC.of_code2 Tryz.func173 rfl rfl (Nat.le_of_ble_eq_true (by rfl)) fun B hB hN => ?_;delta A14 at h;refine sr (SQ tt) ?_;obtain⟨i,p,h⟩:=bindS h;refine sr (SQ (fa (cl [] (A4c 4294967295 ([a0.fA,a0.fB,a0.fC]:List Int) i p)) tt)) ?_;apply ret;obtain rfl:=oi h;exact rt (kp [(2,_)] [] hB rfl rfl (by rfl)) [bo i] (rT rN) rfl
def W6 (a0:F5) (a1:F5):Option (Int):=
 (J3 a0.fA a1.fA).bind fun i=>
 (J3 a0.fB a1.fB).bind fun p=>
 (J3 a0.fC a1.fC).bind fun s=>
 (A7h ([i,p,s]:List Int)).bind fun t=>
 some t
theorem A53 (a0:F5) (a1:F5) (r:Int) (h:W6 a0 a1=some r):AC Tryz.prog 174 [.d (E9 a0),.d (E9 a1)] [] (.d (.int .i64 r)) []:=by
 refine AC.of_code2 Tryz.func174 rfl rfl (Nat.le_of_ble_eq_true (by rfl)) fun B hB hN => ?_;delta W6 at h;refine sr (SQ tt) ?_;obtain⟨i,u,h⟩:=bindS h;obtain⟨p,A,h⟩:=bindS h;obtain⟨s,C,h⟩:=bindS h;obtain⟨t,E,h⟩:=bindS h;refine sdS (SQ (fa (cl [] (L0 a0.fA a1.fA i u)) (fa (cl [] (L0 a0.fB a1.fB p A)) (fa (cl [] (L0 a0.fC a1.fC s C)) (fa (cl [] (A81 ([i,p,s]:List Int) t E)) tt))))) ?_;apply ret;obtain rfl:=oi h;exact rt (kp [(4,_)] [] hB rfl rfl (by rfl)) [i6 t] (rT rN) rfl
end
end Go.Proofs.YtplbaenjbihekaaGreatDoor
