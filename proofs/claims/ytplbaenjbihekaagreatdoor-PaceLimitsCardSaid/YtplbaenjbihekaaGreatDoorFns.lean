/- Printed by gen.py: the Go functions as plain functions, and that the code does what they say. -/
import Derived.Test.YtplbaenjbihekaaGreatDoorChecked
import Derived.Test.YtplbaenjbihekaaGreatDoorVcYB
import Derived.Test.YtplbaenjbihekaaGreatDoorVcZ
import Derived.Test.YtplbaenjbihekaaGreatDoorVcGC
import Derived.KernelRfl
import Derived.Test.YtplbaenjbihekaaGreatDoorVcMD
import Derived.Test.YtplbaenjbihekaaGreatDoorVcMQ
import Derived.Test.YtplbaenjbihekaaGreatDoorVcSG
import Derived.Test.YtplbaenjbihekaaGreatDoorFnsD
import Derived.Test.YtplbaenjbihekaaGreatDoorExt
import Derived.Test.YtplbaenjbihekaaGreatDoorVcPm
import Derived.Test.YtplbaenjbihekaaGreatDoorVcRg
import Derived.Test.YtplbaenjbihekaaGreatDoorVcSt
import Derived.Test.YtplbaenjbihekaaGreatDoorVcMR
namespace Go.Proofs.YtplbaenjbihekaaGreatDoor
open Go Go.Vc
open Tryz
open Go.Vc.OpJ (assign alloc lss pickT pickF extract lenD indexD loadD eqlI gtr callVal leq geq loadR nilP indexS buildSlice lenS fieldD neqI pickAnd pickOr)
open Go.Vc.AWp (seq ghost ret block)
set_option maxHeartbeats 4000000
set_option maxRecDepth 100000
noncomputable section
def A11 (a0:(List A2)) (i:Int×(List D0)×(List A1)):Option ((Unit⊕((List D0)×(List A1)))⊕(Int×(List D0)×(List A1))):=
 (if (decide (i.1<(a0.length:Int)))=true then
 jn (fun u:(List D0)×(List A1)=>
 some (.inr (w64 (i.1+1),u.1,u.2))) (fun A=>
 (idx a0 i.1).bind fun p=>
 jn (fun G:Bool=>
 (if G=true then
 some (.inl (.inl ()))
 else
 (if (!p.fHas)=true then
 chk (decide ((i.2.2++[p.fPrefix]).length≤LIM))<|
 A (i.2.1,(i.2.2++[p.fPrefix]))
 else
 (Q1 i.2.1 p).bind fun C=>
 jn (fun s:Int×(List D0)=>
 (idx s.2 s.1).bind fun _=>
 (idx s.2 s.1).bind fun E=>
 chk (decide ((E.fprefixes++[p.fPrefix]).length≤LIM))<|
 (idx s.2 s.1).bind fun _=>
 (idx s.2 s.1).bind fun H=>
 A (s.2.set s.1.toNat (D0.mk H.fattrs (E.fprefixes++[p.fPrefix])),i.2.2)) (fun F=>
 (if (decide (C<0))=true then
 chk (decide ((i.2.1++([D0.mk p.fRoute.fAttrs ([]:List A1)]:List D0)).length≤LIM))<|
 F ((i.2.1.length:Int),(i.2.1++([D0.mk p.fRoute.fAttrs ([]:List A1)]:List D0)))
 else
 F (C,i.2.1)))))) (fun t=>
 (A4y p).bind fun I=>
 (if (!I)=true then
 t true
 else
 (if (decide (0<i.1))=true then
 (idx a0 (w64 (i.1-1))).bind fun J=>
 (A3b J.fPrefix p.fPrefix).bind fun K=>
 t (decide (0≤K))
 else
 t false))))
 else
 some (.inl (.inr (i.2.1,i.2.2))))
def A2x (p:(List D0)×(List A1)) (i:Int×(List A7)):Option (List A7⊕(Int×(List A7))):=
 (if (decide (i.1<(p.1.length:Int)))=true then
 (idx p.1 i.1).bind fun t=>
 (S3 t true).bind fun s=>
 chk (decide ((i.2++s).length≤LIM))<|
 some (.inr (w64 (i.1+1),(i.2++s)))
 else
 some (.inl i.2))
def A4j (a0:(List A2)):Option ((List A7)×Int):=
 (loop (A11 a0) (0,([]:List D0),([]:List A1))).bind fun p=>match p with
 | (.inl _)=>
  some (([]:List A7),1)
 | (.inr i)=>
  (A1c (D0.mk (D3.mk 0 ([]:List B5) (D1.mk false 0 0) 0 0 0 ([]:List B7) ([]:List F5) ([]:List A3)) i.2) false).bind fun s=>
  (loop (A2x i) (0,s)).bind fun t=>
  some (t,0)
theorem A97 (a0:(List A2)) (r:(List A7)×Int) (h:A4j a0=some r):AC Tryz.prog 46 [.d (.list 22 (a0.map A8))] Zz10 (.tup [.d (.list 13 (r.1.map E5)),.d (.int .i64 r.2)]) Zz4:=by
 refine ac2 Tryz.func46 rfl rfl fun B hB hN L => ?_;delta A4j at h;refine sr (SQ tt) ?_;refine sr (SQ tt) ?_;refine sr (SQ tt) ?_;apply seq;refine sr (SQ tt) ?_;apply block;obtain⟨ae,af,h⟩:=bindS h;refine lg (A11 a0) (fun i:Int×(List D0)×(List A1)=>([(0,A6 a0),(4,pt 1004),(5,.sref 3005 12 0 i.2.1.length),(12,A6 a0),(13,i6 (a0.length:Int)),(14,i6 i.1)]:EL)) (fun i:Int×(List D0)×(List A1)=>([(500,some (.know (globD 0 (.imap gv0)))),(1004,some (.box 123 (.st [.st Zz7,.sref 13041 4 0 i.2.2.length]))),(3005,some (.reg (nrow 123 12 1 33 4 (i.2.1.map F0) none))),(13041,some (G0 i.2.2))]:OL)) (fun(x:(Unit)⊕((List D0)×(List A1))) e A C=>match x with | (.inl _p)=>e = .ret∧Mat B A C ([(2,.nils),(3,i6 1)]:EL) (Zz4:OL) | (.inr t)=>e = .exit 0∧Mat B A C ([(4,pt 1004),(5,.sref 3005 12 0 t.1.length)]:EL) ([(500,some (.know (globD 0 (.imap gv0)))),(1004,some (.box 123 (.st [.st Zz7,.sref 13041 4 0 t.2.length]))),(3005,some (.reg (nrow 123 12 1 33 4 (t.1.map F0) none))),(13041,some (G0 t.2))]:OL)) af (Mat.trans (Mat.beginG (n:=3005) (e:=123) (sz:=12) (j:=1) (e2:=33) (sz2:=4) (Ts:=[(5,.sref 3005 12 0 0)]) (Bs:=[]) hB (by decide) (by decide) (by rfl) (by decide) (TwT.cons (x:=.nils) (by rfl) (Tw.leaf ⟨rfl,rfl⟩) TwT.nil) TwB.nil) (Mat.trans (Mat.beginP (n:=13041) (e:=33) (sz:=4) (Ts:=[]) (Bs:=[(1004,some (.box 123 (.st [.st Zz7,.sref 13041 4 0 0])))]) hB (by decide) (by rfl) (by decide) TwT.nil (TwB.cons (x:=(.st [.st Zz7,.nils])) (by rfl) (Tw.st (TwL.cons (Tw.same _) (TwL.cons (Tw.leaf ⟨rfl,rfl⟩) TwL.nil))) TwB.nil)) (mp [] _ _ hB))) (fun i y h => ?_) (fun e A C hR => ?_)
 ·unfold A11 at h;refine sr (SQ tt) ?_;apply seq;apply AWp.cond rfl<;>intro S
  ·have h:=A4 S h;apply AWp.skip;apply A0;apply seq;refine AWp.cut h (fun H:(List D0)×(List A1)=>([(0,A6 a0),(4,pt 1004),(5,.sref 3005 12 0 H.1.length),(12,A6 a0),(13,i6 (a0.length:Int)),(14,i6 i.1)]:EL)) (fun H:(List D0)×(List A1)=>([(500,some (.know (globD 0 (.imap gv0)))),(1004,some (.box 123 (.st [.st Zz7,.sref 13041 4 0 H.2.length]))),(3005,some (.reg (nrow 123 12 1 33 4 (H.1.map F0) none))),(13041,some (G0 H.2))]:OL)) (fun H h A C u => ?_) (fun az T h => ?_)
   ·apply A0;refine ghost u ?_;refine rg (SQ tt) ?_;obtain rfl:=oi h;exact⟨rfl,mp [] _ _ hB⟩
   ·apply block;obtain⟨s,ag,h⟩:=bindS h;refine sr (SQ (fa ag tt)) ?_;apply seq;apply seq;refine AWp.cut h (fun N:Bool=>([(0,A6 a0),(4,pt 1004),(5,.sref 3005 12 0 i.2.1.length),(7,pt 1007),(12,A6 a0),(13,i6 (a0.length:Int)),(14,i6 i.1),(37,bo N)]:EL)) (fun N:Bool=>([(500,some (.know (globD 0 (.imap gv0)))),(1004,some (.box 123 (.st [.st Zz7,.sref 13041 4 0 i.2.2.length]))),(1007,bd 43 (A8 s)),(3005,some (.reg (nrow 123 12 1 33 4 (i.2.1.map F0) none))),(13041,some (G0 i.2.2))]:OL)) (fun N h A C u => ?_) (fun a4 O h => ?_)
    ·apply A0;refine ghost u ?_;apply AWp.cond rfl<;>intro U
     ·have h:=A4 U h;refine sr (SQ tt) ?_;apply ret;apply B6;apply E0;apply B6;obtain rfl:=oi h;exact⟨nofun,rfl,mp [] _ _ hB⟩
     ·have h:=A5 U h;apply AWp.skip;apply A0;apply seq;refine sr (SQ tt) ?_;apply AWp.cond rfl<;>intro W
      ·have h:=A4 W h;obtain⟨ah,h⟩:=B2 h;refine sr (SQ (fa ah tt)) ?_;refine gh [(0,_),(4,_),(5,_),(12,_),(13,_),(14,_)] [(500,some _),(1004,some _),(1046,some _),(3005,some _)] hB rfl rfl (by rfl) ?_;apply AWp.exit;apply D7;apply C0;exact T _ h _ _ (mp [(13041,1046)] _ _ hB)
      ·have h:=A5 W h;apply AWp.skip;apply A0;obtain⟨ai,aj,h⟩:=bindS h;apply sr (c (mv hN (q 5)) rfl (cg (OpJ.makeF (OpdL.cons (q 7) OpdL.nil) rfl rfl (L rfl)) rfl (cg (OpJ.peek [(3005,.reg (nrow 123 12 1 33 4 (i.2.1.map F0) none)),(1007,.box 43 (.d (A8 s)))] fnOk76 (A6z i.2.1 s ai aj) rfl (L rfl) (by kernel_rfl) (OpdL.cons (q 48) (OpdL.cons (q 49) OpdL.nil)) (PkL.cons (Pk.reg (List.Mem.head _) (by simp)) (PkL.cons (Pk.fn (PkL.cons (Pk.box (List.Mem.tail _ (List.Mem.head _)) (Co.d _)) PkL.nil)) PkL.nil))) rfl (c (assign (L rfl) (q 50)) rfl cn))));apply seq;refine sr (SQ tt) ?_;refine gh [(0,_),(4,_),(5,_),(7,_),(8,_),(12,_),(13,_),(14,_),(52,_)] [(500,some _),(1004,some _),(1007,some _),(3005,some _),(13041,some _)] hB rfl rfl (by rfl) ?_;refine AWp.cut h (fun p:Int×(List D0)=>([(0,A6 a0),(4,pt 1004),(5,.sref 3005 12 0 p.2.length),(7,pt 1007),(8,i6 p.1),(12,A6 a0),(13,i6 (a0.length:Int)),(14,i6 i.1)]:EL)) (fun p:Int×(List D0)=>([(500,some (.know (globD 0 (.imap gv0)))),(1004,some (.box 123 (.st [.st Zz7,.sref 13041 4 0 i.2.2.length]))),(1007,bd 43 (A8 s)),(3005,some (.reg (nrow 123 12 1 33 4 (p.2.map F0) none))),(13041,some (G0 i.2.2))]:OL)) (fun p h A C u => ?_) (fun a5 X h => ?_)
       ·apply A0;refine ghost u ?_;obtain⟨_,Y,h⟩:=bindS h;obtain⟨E,ak,h⟩:=bindS h;obtain⟨al,h⟩:=B2 h;obtain⟨_,Z,h⟩:=bindS h;obtain⟨J,am,h⟩:=bindS h;apply dr (c (mv hN (q 5)) rfl (c (mv hN (q 8)) rfl (c (mv hN (q 5)) rfl (c (mv hN (q 8)) rfl (c (OpJ.val (v':=(.ptr 3005 (p.1.toNat*12) [p.1.toNat])) (by simp) (indexS underlying124 tyS123 (G4 Y).1 (by have:=B40 Y;first | (simpa using this) | ((try simp only [List.length_map] at this);(try simp only [List.length_map]);omega)) (L rfl) (q 64) (q 65))) rfl (c (ov (.ptr 3005 ((p.1.toNat*12)+11) [p.1.toNat,1]) (fp hN underlying123 11 tyS69 _ (q 66))) rfl (cg (OpJ.takeG hB (m:=1068) (e:=123) (sz:=12) (j:=1) (e2:=33) (sz2:=4) (len:=E.fprefixes.length) (es:=p.2.map F0) (pre:=([C7 E.fattrs]:List D)) (inner:=E.fprefixes.map B0) (post:=([]:List D)) tyS69 (by decide) (T0 F0 (G4 ak).2) (by rfl) (o:=11) (by rfl) (by rfl) (by simp) (L rfl) (q 67)) rfl (c (fo 1007 1 [1] hN underlying43 1 tyS33 (q 7)) rfl (c (la hN 43 tyS33 (q 69)) rfl (c (buildSlice underlying69 tyS33 tyZD33 (by rfl) (by decide) (by decide) (Opds.cons (q 70) Opds.nil) (by kernel_rfl) (es:=([B0 s.fPrefix]:List D)) (by rfl) (by rfl) (by kernel_rfl) (by simp) (L rfl)) rfl (cg (apd hB underlying69 tyE33 1072 B0 E.fprefixes [s.fPrefix] al (L rfl) (q 68) (q 71)) rfl (c (OpJ.val (v':=(.ptr 3005 (p.1.toNat*12) [p.1.toNat])) (by simp) (indexS underlying124 tyS123 (G4 Z).1 (by have:=B40 Z;first | (simpa using this) | ((try simp only [List.length_map] at this);(try simp only [List.length_map]);omega)) (L rfl) (q 62) (q 63))) rfl (c (ov (.ptr 3005 ((p.1.toNat*12)+11) [p.1.toNat,1]) (fp hN underlying123 11 tyS69 _ (q 73))) rfl (cg (OpJ.putG (e:=123) (sz:=12) (j:=1) (e2:=33) (sz2:=4) (es:=p.2.map F0) (es':=(p.2.set p.1.toNat (D0.mk J.fattrs (E.fprefixes++[s.fPrefix]))).map F0) (pre:=([C7 J.fattrs]:List D)) (inner0:=J.fprefixes.map B0) (inner:=(E.fprefixes++[s.fPrefix]).map B0) (post:=([]:List D)) tyS69 (T0 F0 (G4 am).2) (B16 _ _ _ _) (by rfl) (o:=11) (by rfl) (by rfl) (by simp) (q 74) (q 72)) rfl cn)))))))))))))) (by kernel_rfl) (by kernel_rfl)
        apply D9;exact T _ h _ _ (Mat.trans (mp [] [(0,A6 a0),(4,pt 1004),(5,.sref 3005 12 0 p.2.length),(12,A6 a0),(13,i6 (a0.length:Int)),(14,i6 i.1)] [(500,some (.know (globD 0 (.imap gv0)))),(1004,some (.box 123 (.st [.st Zz7,.sref 13041 4 0 i.2.2.length]))),(3005,some (.reg (nrow 123 12 1 33 4 ((p.2.set p.1.toNat (D0.mk J.fattrs (E.fprefixes++[s.fPrefix]))).map F0) none))),(13041,some (G0 i.2.2))] hB) (Mat.trans (Mat.lenP (Ts:=[(5,.sref 3005 12 0 ((p.2.set p.1.toNat (D0.mk J.fattrs (E.fprefixes++[s.fPrefix]))).length))]) (Bs:=[]) (TwT.cons (x:=(.sref 3005 12 0 p.2.length)) (by rfl) (Tw.leaf ⟨_,_,_,_,_,rfl,rfl,(by first | rfl | (simp;done) | (simp;omega) | omega)⟩) TwT.nil) TwB.nil) (mp [] _ _ hB)))
       ·apply AWp.cond rfl<;>intro aa
        ·have h:=A4 aa h;refine sr (SQ tt) ?_;obtain⟨ab,h⟩:=B2 h;apply rg (c (mv hN (q 5)) rfl (c (fo 1007 6 [3] hN underlying43 6 tyS41 (q 7)) rfl (c (fo 1007 11 [3,2] hN underlying41 5 tyS39 (q 56)) rfl (c (lb hN 43 _ _ tyS39 (At.dst1 (by rfl) (by rfl) (ad _) (by first | rfl | omega)) (q 57)) rfl (c (OpJ.build (places:=[(0,11),(11,1)]) ⟨underlying123,fun w=>by kernel_rfl⟩ tyZS123 (Opds.cons (q 58) Opds.nil) (by kernel_rfl) (r:=(.st [.d (C7 s.fRoute.fAttrs),.nils])) (by rfl) (L rfl)) rfl (cg (OpJ.buildSliceG (e:=123) (sz:=12) (j:=1) (e2:=33) (sz2:=4) (z:=(.st [.st Zz2,.list 4 (([]:List A1).map B0)])) underlying124 tyS123 tyZD123 (by rfl) (by decide) (by decide) (by decide) hB (nm:=1060) (by decide) (pre:=([C7 s.fRoute.fAttrs]:List D)) (post:=([]:List D)) (q 59) (by kernel_rfl) (es:=([D0.mk s.fRoute.fAttrs ([]:List A1)]:List D0).map F0) (by rfl) (by rfl) (by kernel_rfl) (L rfl)) rfl (cg (OpJ.appendG hB underlying124 tyE123 (nm:=1061) (by decide) (j:=1) (e2:=33) (sz2:=4) (es:=i.2.1.map F0) (ys:=([D0.mk s.fRoute.fAttrs ([]:List A1)]:List D0).map F0) (es':=(i.2.1++([D0.mk s.fRoute.fAttrs ([]:List A1)]:List D0)).map F0) (len:=(i.2.1++([D0.mk s.fRoute.fAttrs ([]:List A1)]:List D0)).length) (by rfl) (by simp) (by simp) (by simp) (by rw [List.length_map];exact X2 ab (by decide)) (by rw [List.length_map];exact A25 ab) (L rfl) (by simp) (by simp) (q 55) (q 60)) rfl (c (assign (L rfl) (q 61)) rfl cn))))))))
         exact X _ h _ _ (mp [(3005,1061)] _ _ hB)
        ·have h:=A5 aa h;apply AWp.skip;exact X _ h _ _ (mp [] _ _ hB)
    ·obtain⟨M,P,h⟩:=bindS h;rcases bft (!M) with I | I
     ·have h:=A4 I h;refine drS (SQ (fa (cl [(500,500)] (A5r s M P)) (fa I tt))) ?_;exact O _ h _ _ (mp [] _ _ hB)
     ·have h:=A5 I h;rcases bft (decide (0<i.1)) with K | K
      ·have h:=A4 K h;obtain⟨an,ao,h⟩:=bindS h;obtain⟨ap,aq,h⟩:=bindS h;refine drS (SQ (fa (cl [(500,500)] (A5r s M P)) (fa I (fa K (fa ao (fa (cl [] (A8f an.fPrefix s.fPrefix ap aq)) tt)))))) ?_;exact O _ h _ _ (mp [] _ _ hB)
      ·have h:=A5 K h;refine drS (SQ (fa (cl [(500,500)] (A5r s M P)) (fa I (fa K tt)))) ?_;exact O _ h _ _ (mp [] _ _ hB)
  ·have h:=A5 S h;apply AWp.exit;apply D7;obtain rfl:=oi h;exact⟨nofun,rfl,mp [] _ _ hB⟩
 ·rcases ae with _ | t
  ·obtain⟨rfl,u⟩:=hR;apply E0;apply B6;obtain rfl:=oi h;exact rt (Mat.trans u (Mat.trans (Mat.coeP (Ts:=[(2,C9 ([]:List A7))]) (Bs:=[]) (TwT.cons (x:=.nils) (by rfl) (Tw.leaf ⟨_,Co.nils 13,rfl⟩) TwT.nil) TwB.nil) (mp [] [(2,C9 ([]:List A7)),(3,i6 1)] Zz4 hB))) [C9 ([]:List A7),i6 1] (rT (rT rN)) rfl
  ·obtain⟨rfl,u⟩:=hR;apply C0;apply A0;refine ghost u ?_;apply seq;refine ghost (Mat.freezeP (n:=13041) (e:=33) (sz:=4) (es:=t.2.map B0) (Ts:=[]) (Bs:=[(1004,some (.box 123 (.st [.st Zz7,F7 t.2])))]) (by rfl) TwT.nil (TwB.cons (x:=(.st [.st Zz7,.sref 13041 4 0 t.2.length])) (by rfl) (Tw.st (TwL.cons (Tw.same _) (TwL.cons (FrzL.all (by first | rfl | (simp;done) | (simp;omega) | omega)) TwL.nil))) TwB.nil)) ?_
   obtain⟨Q,ar,h⟩:=bindS h;refine rg (SQ (fa (cl [(500,500),(900000,100300)] (A9s (D0.mk (D3.mk 0 ([]:List B5) (D1.mk false 0 0) 0 0 0 ([]:List B7) ([]:List F5) ([]:List A3)) t.2) false Q ar)) tt)) ?_;apply A0;refine ghost (mp [] [(5,.sref 3005 12 0 t.1.length),(9,.sref 100300 13 0 Q.length)] [(500,some (.know (globD 0 (.imap gv0)))),(3005,some (.reg (nrow 123 12 1 33 4 (t.1.map F0) none))),(100300,some (C1 Q))] hB) ?_;apply seq;refine sr (SQ tt) ?_;apply block;obtain⟨F,au,h⟩:=bindS h;refine lg (A2x t) (fun G:Int×(List A7)=>([(9,.sref 3009 13 0 G.2.length),(78,.d (.list 12 (t.1.map F0))),(79,i6 (t.1.length:Int)),(80,i6 G.1)]:EL)) (fun G:Int×(List A7)=>([(500,some (.know (globD 0 (.imap gv0)))),(3009,some (C1 G.2))]:OL)) (fun(F:(List A7)) e A C=>e = .exit 2∧Mat B A C ([(9,.sref 3009 13 0 F.length)]:EL) ([(500,some (.know (globD 0 (.imap gv0)))),(3009,some (C1 F))]:OL)) au (Mat.trans (Mat.freezeG (n:=3005) (e:=123) (sz:=12) (j:=1) (e2:=33) (sz2:=4) (es:=t.1.map F0) (Ts:=[(78,.d (.list 12 (t.1.map F0)))]) (Bs:=[]) (by rfl) (TwT.cons (x:=(.sref 3005 12 0 t.1.length)) (by rfl) (FrzL.all (by first | rfl | (simp;done) | (simp;omega) | omega)) TwT.nil) TwB.nil) (mp [(3009,100300)] _ _ hB)) (fun G y h => ?_) (fun e A C hR => ?_)
   ·unfold A2x at h;refine sr (SQ tt) ?_;apply seq;apply AWp.cond rfl<;>intro ac
    ·have h:=A4 ac h;apply AWp.skip;apply A0;apply seq;apply block;obtain⟨av,aw,h⟩:=bindS h;refine sr (SQ (fa aw tt)) ?_;obtain⟨R,ax,h⟩:=bindS h;obtain⟨ay,h⟩:=B2 h;refine rg (SQ (fa (cl [(500,500)] (B2b av true R ax)) (fa ay tt))) ?_;apply D9;apply A0;refine ghost (mp [] [(9,.sref 1087 13 0 ((G.2++R).length)),(78,.d (.list 12 (t.1.map F0))),(79,i6 (t.1.length:Int)),(80,i6 G.1)] [(500,some (.know (globD 0 (.imap gv0)))),(1087,some (C1 (G.2++R)))] hB) ?_;refine rg (SQ tt) ?_;obtain rfl:=oi h;exact⟨rfl,mp [(3009,1087)] _ _ hB⟩
    ·have h:=A5 ac h;apply AWp.exit;apply D7;obtain rfl:=oi h;exact⟨nofun,rfl,mp [] _ _ hB⟩
   ·obtain⟨rfl,u⟩:=hR;apply C0;apply A0;refine ghost u ?_;refine sr (SQ tt) ?_;apply ret;obtain rfl:=oi h;exact rt (Mat.trans (Mat.freezeP (n:=3009) (e:=71) (sz:=13) (es:=F.map E5) (Ts:=[(2,C9 F)]) (Bs:=[]) (by rfl) (TwT.cons (x:=(.sref 3009 13 0 F.length)) (by rfl) (FrzL.all (by first | rfl | (simp;done) | (simp;omega) | omega)) TwT.nil) TwB.nil) (mp [] [(2,C9 F),(3,i6 0)] Zz4 hB)) [C9 F,i6 0] (rT (rT rN)) rfl
def A12 (a0:A2):Option (Bool):=
 (A4j [a0]).bind fun i=>
 some (i.2==0)
theorem A6w (a0:A2) (r:Bool) (h:A12 a0=some r):AC Tryz.prog 31 [.d (A8 a0)] Zz10 (.d (.bool r)) Zz4:=by
 refine AC.of_code2 Tryz.func31 rfl rfl (Nat.le_of_ble_eq_true (by rfl)) fun B hB hN => ?_;delta A12 at h;refine sr (SQ tt) ?_;apply seq;obtain⟨i,p,h⟩:=bindS h;refine rg (SQ (fa (cl [(500,500)] (A97 [a0] i p)) tt)) ?_;apply A0;refine ghost (mp [] [(4,i6 i.2)] Zz4 hB) ?_;refine sr (SQ tt) ?_;apply ret;obtain rfl:=oi h;exact rt (kp [(2,_)] [(500,some _)] hB rfl rfl (by rfl)) [bo (i.2==0)] (rT rN) rfl
def A1d (a0:E6) (i:Int×(List (A1×Bool))):Option ((Unit⊕Unit)⊕(Int×(List (A1×Bool)))):=
 (if (decide (i.1<(a0.fPending.length:Int)))=true then
 (idx a0.fPending i.1).bind fun p=>
 jn (fun t:Bool=>
 (if t=true then
 some (.inl (.inl ()))
 else
 some (.inr (w64 (i.1+1),mput keq33 i.2 p.fPrefix true)))) (fun s=>
 (if ((mget keq33 i.2 p.fPrefix).getD false)=true then
 s true
 else
 (A12 p).bind fun u=>
 s (!u)))
 else
 some (.inl (.inr ())))
def A3e (a0:E6):Option (Bool):=
 (A3x a0.fBucket).bind fun i=>
 (if ((!i) || (decide (4096<(a0.fPending.length:Int))))=true then
 some false
 else
 (loop (A1d a0) (0,([]:List (A1×Bool)))).bind fun p=>match p with
 | (.inl _)=>
  some false
 | (.inr _)=>
  some true)
theorem A5t (a0:E6) (r:Bool) (h:A3e a0=some r):AC Tryz.prog 11 [.d (F3 a0)] Zz10 (.d (.bool r)) Zz4:=by
 refine ac2 Tryz.func11 rfl rfl fun B hB hN L => ?_;delta A3e at h;refine sr (SQ tt) ?_;apply seq;obtain⟨J,K,h⟩:=bindS h;refine sr (SQ (fa (cl [] (B26 a0.fBucket J K)) tt)) ?_;apply AWp.cond rfl<;>intro F
 ·have h:=A4 F h;refine sr (SQ tt) ?_;apply ret;apply B6;obtain rfl:=oi h;exact rt (kp [(2,_)] [(500,some _)] hB rfl rfl (by rfl)) [bo false] (rT rN) rfl
 ·have h:=A5 F h;apply AWp.skip;apply A0;apply sr (cg (OpJ.mkmapQ hB (nm:=1016) (by decide) (L rfl)) rfl (c (assign (L rfl) (q 16)) rfl cn));apply seq;refine sr (SQ tt) ?_;apply block;obtain⟨M,N,h⟩:=bindS h;refine lg (A1d a0) (fun p:Int×(List (A1×Bool))=>([(3,.mref 1016),(18,A6 a0.fPending),(19,i6 (a0.fPending.length:Int)),(20,i6 p.1)]:EL)) (fun p:Int×(List (A1×Bool))=>([(500,some (.know (globD 0 (.imap gv0)))),(1016,some (.blk (mapQ (mpairs B0 eB p.2))))]:OL)) (fun(x:(Unit)⊕Unit) e u A=>match x with | (.inl _p)=>e = .ret∧Mat B u A ([(2,bo false)]:EL) (Zz4:OL) | (.inr _p)=>e = .exit 0∧Mat B u A ([]:EL) (Zz4:OL)) N (mp [] _ _ hB) (fun p y h => ?_) (fun e u A hR => ?_)
  ·unfold A1d at h;refine sr (SQ tt) ?_;apply seq;apply AWp.cond rfl<;>intro G
   ·have h:=A4 G h;apply AWp.skip;apply A0;apply seq;apply block;obtain⟨i,O,h⟩:=bindS h;refine sr (SQ (fa O tt)) ?_;apply seq;apply seq;refine AWp.cut h (fun C:Bool=>([(3,.mref 1016),(5,pt 1005),(18,A6 a0.fPending),(19,i6 (a0.fPending.length:Int)),(20,i6 p.1),(32,bo C)]:EL)) (fun C:Bool=>([(500,some (.know (globD 0 (.imap gv0)))),(1005,bd 43 (A8 i)),(1016,some (.blk (mapQ (mpairs B0 eB p.2))))]:OL)) (fun C h u A s => ?_) (fun Q H h => ?_)
    ·apply A0;refine ghost s ?_;apply AWp.cond rfl<;>intro I
     ·have h:=A4 I h;refine sr (SQ tt) ?_;apply ret;apply B6;apply E0;apply B6;obtain rfl:=oi h;exact⟨nofun,rfl,mp [] _ _ hB⟩
     ·have h:=A5 I h;apply AWp.skip;apply A0;apply rg (c (mv hN (q 3)) rfl (c (fo 1005 1 [1] hN underlying43 1 tyS33 (q 5)) rfl (c (la hN 43 tyS33 (q 34)) rfl (cg (OpJ.mputQ (g:=eB) (v:=true) (l:=p.2) (k:=i.fPrefix) tyU82 underlying33 keyEq33 (q 33) (q 35) (Opd.bool true)) rfl cn))));apply D9;apply A0;refine rg (SQ tt) ?_;obtain rfl:=oi h;exact⟨rfl,mp [] _ _ hB⟩
    ·rcases bft ((mget keq33 p.2 i.fPrefix).getD false) with t | t
     ·have h:=A4 t h;apply rg (c (mv hN (q 3)) rfl (c (fo 1005 1 [1] hN underlying43 1 tyS33 (q 5)) rfl (c (la hN 43 tyS33 (q 25)) rfl (cg (OpJ.mlookQ (g:=eB) (l:=p.2) (k:=i.fPrefix) tyU82 underlying33 keyEq33 (z:=false) tyZD4 (L rfl) (q 24) (q 26)) rfl (c (OpJ.val (v':=.d (.bool true)) (by rw [t]<;>rfl) (mv hN (q 27))) rfl (ks 28 (L rfl) (ks 28 (L rfl) (ks 28 (L rfl) (c (pickT (L rfl) (q 28) (Opd.bool true)) rfl cn)))))))));exact H _ h _ _ (mp [] _ _ hB)
     ·have h:=A5 t h;obtain⟨E,P,h⟩:=bindS h;refine AWp.region (oc (mv hN (ot 3 (.mref 1016)))
       (oc (ov (.ptr 1005 1 [1]) (fp hN underlying43 1 tyS33 (.box 43 (.d (A8 i))) (ot 5 (pt 1005))))
       (oc (lb hN 43 (.d (A8 i)) (.d (B0 i.fPrefix)) tyS33 (ad (B0 i.fPrefix)) (ot 25 (.ptr 1005 1 [1])))
       (oc (OpJ.mlookQ (g:=eB) (l:=p.2) (k:=i.fPrefix) tyU82 underlying33 keyEq33 (z:=false) tyZD4 (L rfl) (ot 24 (.mref 1016)) (ot 26 (.d (B0 i.fPrefix))))
       (oc (OpJ.val (v':=.d (.bool false)) (by rw [t]<;>rfl) (mv hN (ot 27 (bo ((mget keq33 p.2 i.fPrefix).getD false)))))
       (oc (gd 28 (lb hN 43 (.d (A8 i)) (.d (A8 i)) tyS43 (At.here _) (ot 5 (pt 1005))))
       (oc (gd 28 (OpJ.callFn hB fnOk31 (A6w i E P) [(500,500)] (by kernel_rfl) (L rfl) (by kernel_rfl) (OpdL.cons (ot 29 (.d (A8 i))) OpdL.nil)))
       (oc (gd 28 (OpJ.not (L rfl) (ot 30 (bo E))))
       (oc (pickF (L rfl) (ot 28 (bo false)) (ot 31 (bo (!E))))
       (OpJs.nil)))))))))) (by rfl) (by rfl) ?_
      exact H _ h _ _ (mp [] _ _ hB)
   ·have h:=A5 G h;apply AWp.exit;apply D7;obtain rfl:=oi h;exact⟨nofun,rfl,mp [] _ _ hB⟩
  ·rcases M with _ | _
   ·obtain⟨rfl,s⟩:=hR;apply E0;apply B6;obtain rfl:=oi h;exact rt (Mat.trans s (mp [] [(2,bo false)] Zz4 hB)) [bo false] (rT rN) rfl
   ·obtain⟨rfl,s⟩:=hR;apply C0;apply A0;refine ghost s ?_;refine sr (SQ tt) ?_;apply ret;obtain rfl:=oi h;exact rt (kp [(2,_)] [(500,some _)] hB rfl rfl (by rfl)) [bo true] (rT rN) rfl
def A3z (a0:A2):Option (Bool):=
 (A12 a0).bind fun i=>
 some (!i)
theorem B2c (a0:A2) (r:Bool) (h:A3z a0=some r):AC Tryz.prog 39 [.d (A8 a0)] Zz10 (.d (.bool r)) Zz4:=by
 refine AC.of_code2 Tryz.func39 rfl rfl (Nat.le_of_ble_eq_true (by rfl)) fun B hB hN => ?_;delta A3z at h;refine sr (SQ tt) ?_;apply seq;obtain⟨i,p,h⟩:=bindS h;refine rg (SQ (fa (cl [(500,500)] (A6w a0 i p)) tt)) ?_;apply A0;refine ghost (mp [] [(2,bo (!i))] Zz4 hB) ?_;apply ret;obtain rfl:=oi h;exact rt (kp [(2,_)] [(500,some _)] hB rfl rfl (by rfl)) [bo (!i)] (rT rN) rfl
def M0 (a0:(List A2)) (i:Int):Option ((Int⊕Unit)⊕Int):=
 (if (decide (i<(a0.length:Int)))=true then
 (idx a0 i).bind fun p=>
 (A3z p).bind fun s=>
 (if s=true then
 some (.inl (.inl i))
 else
 some (.inr (w64 (i+1))))
 else
 some (.inl (.inr ())))
def X1 (a0:(List A2)):Option (Int):=
 (loop (M0 a0) 0).bind fun i=>match i with
 | (.inl p)=>
  some p
 | (.inr _)=>
  some (-1)
theorem A70 (a0:(List A2)) (r:Int) (h:X1 a0=some r):AC Tryz.prog 68 [.d (.list 22 (a0.map A8)),.func 39 []] Zz10 (.d (.int .i64 r)) Zz4:=by
 refine AC.of_code2 Tryz.func68 rfl rfl (Nat.le_of_ble_eq_true (by rfl)) fun B hB hN => ?_;delta X1 at h;refine sr (SQ tt) ?_;apply seq;refine sr (SQ tt) ?_;apply block;obtain⟨F,G,h⟩:=bindS h;refine lg (M0 a0) (fun i:Int=>([(0,A6 a0),(1,.func 39 []),(7,i6 (a0.length:Int)),(8,i6 i)]:EL)) (fun i:Int=>(Zz4:OL)) (fun(x:(Int)⊕Unit) e s t=>match x with | (.inl p)=>e = .ret∧Mat B s t ([(4,i6 p)]:EL) (Zz4:OL) | (.inr _p)=>e = .exit 0∧Mat B s t ([]:EL) (Zz4:OL)) G (mp [] _ _ hB) (fun i y h => ?_) (fun e s t hR => ?_)
 ·unfold M0 at h;refine sr (SQ tt) ?_;apply seq;apply AWp.cond rfl<;>intro A
  ·have h:=A4 A h;apply AWp.skip;apply A0;apply seq;apply block;refine sr (SQ tt) ?_;apply seq;obtain⟨H,I,h⟩:=bindS h;obtain⟨C,J,h⟩:=bindS h;refine rg (SQ (fa I (fa (cl [(500,500)] (B2c H C J)) tt))) ?_;apply A0;refine ghost (mp [] [(0,A6 a0),(1,.func 39 []),(5,i6 i),(7,i6 (a0.length:Int)),(8,i6 i),(16,bo C)] Zz4 hB) ?_;apply AWp.cond rfl<;>intro E
   ·have h:=A4 E h;refine sr (SQ tt) ?_;apply ret;apply E0;apply B6;obtain rfl:=oi h;exact⟨nofun,rfl,mp [] _ _ hB⟩
   ·have h:=A5 E h;apply AWp.skip;apply D9;apply A0;refine rg (SQ tt) ?_;obtain rfl:=oi h;exact⟨rfl,mp [] _ _ hB⟩
  ·have h:=A5 A h;apply AWp.exit;apply D7;obtain rfl:=oi h;exact⟨nofun,rfl,mp [] _ _ hB⟩
 ·rcases F with p | _
  ·obtain⟨rfl,u⟩:=hR;apply E0;apply B6;obtain rfl:=oi h;exact rt (Mat.trans u (mp [] [(4,i6 p)] Zz4 hB)) [i6 p] (rT rN) rfl
  ·obtain⟨rfl,u⟩:=hR;apply C0;apply A0;refine ghost u ?_;refine sr (SQ tt) ?_;apply ret;obtain rfl:=oi h;exact rt (kp [(4,_)] [(500,some _)] hB rfl rfl (by rfl)) [i6 (-1)] (rT rN) rfl
def M1 (a0:(List A2)):Option (Bool):=
 (X1 a0).bind fun i=>
 some (decide (0≤i))
theorem A5u (a0:(List A2)) (r:Bool) (h:M1 a0=some r):AC Tryz.prog 38 [.d (.list 22 (a0.map A8)),.func 39 []] Zz10 (.d (.bool r)) Zz4:=by
 refine AC.of_code2 Tryz.func38 rfl rfl (Nat.le_of_ble_eq_true (by rfl)) fun B hB hN => ?_;delta M1 at h;refine sr (SQ tt) ?_;apply seq;obtain⟨i,p,h⟩:=bindS h;refine rg (SQ (fa (cl [(500,500)] (A70 a0 i p)) tt)) ?_;apply A0;refine ghost (mp [] [(4,bo (decide (0≤i)))] Zz4 hB) ?_;apply ret;obtain rfl:=oi h;exact rt (kp [(4,_)] [(500,some _)] hB rfl rfl (by rfl)) [bo (decide (0≤i))] (rT rN) rfl
def A22 (a0:D4):Option (D4):=
 (V2 a0.fAttrs).bind fun i=>
 some (D4.mk a0.fPrefix a0.fFrom i)
theorem A7q (a0:D4) (r:D4) (h:A22 a0=some r):AC Tryz.prog 69 [.d (H1 a0)] [] (.d (H1 r)) []:=by
 refine AC.of_code2 Tryz.func69 rfl rfl (Nat.le_of_ble_eq_true (by rfl)) fun B hB hN => ?_;delta A22 at h;refine sr (SQ tt) ?_;obtain⟨i,p,h⟩:=bindS h;refine sr (SQ (fa (cl [] (A7g a0.fAttrs i p)) tt)) ?_;refine sr (SQ tt) ?_;apply ret;obtain rfl:=oi h;exact rt (kp [(2,_)] [(1002,some _)] hB rfl rfl (by rfl)) [.d (.st [B0 a0.fPrefix,.int .i64 a0.fFrom,C7 i])] (Res.cell (c:=(.d (.st [B0 a0.fPrefix,.int .i64 a0.fFrom,C7 i]))) (by rfl) (by rfl) tyS41 (by rfl) (by rfl) (by rfl) rN) rfl
def V0 (a0:(List A2)) (p:Int×(List A2)):Option (List A2⊕(Int×(List A2))):=
 (if (decide (p.1<(a0.length:Int)))=true then
 (idx a0 p.1).bind fun i=>
 (A22 i.fRoute).bind fun s=>
 chk (decide ((p.2++[A2.mk i.fTo i.fPrefix i.fHas s]).length≤LIM))<|
 some (.inr (w64 (p.1+1),(p.2++[A2.mk i.fTo i.fPrefix i.fHas s])))
 else
 some (.inl p.2))
def Z6 (a0:(List A2)):Option (List A2):=
 (loop (V0 a0) (0,([]:List A2))).bind fun i=>
 some i
theorem A67 (a0:(List A2)) (r:(List A2)) (h:Z6 a0=some r):AC Tryz.prog 40 [.d (.list 22 (a0.map A8))] [] (.d (.list 22 (r.map A8))) []:=by
 refine ac2 Tryz.func40 rfl rfl fun B hB hN L => ?_;delta Z6 at h;refine sr (SQ tt) ?_;refine sr (SQ tt) ?_;apply seq;refine sr (SQ tt) ?_;apply block;obtain⟨i,A,h⟩:=bindS h;refine lg (V0 a0) (fun p:Int×(List A2)=>([(3,.sref 3003 22 0 p.2.length),(6,A6 a0),(7,i6 (a0.length:Int)),(8,i6 p.1)]:EL)) (fun p:Int×(List A2)=>([(3003,some (B3 p.2))]:OL)) (fun(i:(List A2)) e s t=>e = .exit 0∧Mat B s t ([(3,.sref 3003 22 0 i.length)]:EL) ([(3003,some (B3 i))]:OL)) A (Mat.trans (Mat.beginP (n:=3003) (e:=43) (sz:=22) (Ts:=[(3,.sref 3003 22 0 0)]) (Bs:=[]) hB (by decide) (by rfl) (by decide) (TwT.cons (x:=.nils) (by rfl) (Tw.leaf ⟨rfl,rfl⟩) TwT.nil) TwB.nil) (mp [] _ _ hB)) (fun p y h => ?_) (fun e s t hR => ?_)
 ·unfold V0 at h;refine sr (SQ tt) ?_;apply seq;apply AWp.cond rfl<;>intro u
  ·have h:=A4 u h;apply AWp.skip;apply A0;apply seq;apply block;obtain⟨C,E,h⟩:=bindS h;refine sr (SQ (fa E tt)) ?_;obtain⟨F,G,h⟩:=bindS h;refine sr (SQ (fa (cl [] (A7q C.fRoute F G)) tt)) ?_;obtain⟨H,h⟩:=B2 h;refine rg (SQ (fa H tt)) ?_;apply D9;apply A0;refine rg (SQ tt) ?_;obtain rfl:=oi h;exact⟨rfl,mp [(3003,1019)] _ _ hB⟩
  ·have h:=A5 u h;apply AWp.exit;apply D7;obtain rfl:=oi h;exact⟨nofun,rfl,mp [] _ _ hB⟩
 ·obtain⟨rfl,I⟩:=hR;apply C0;apply A0;refine ghost I ?_;refine sr (SQ tt) ?_;apply ret;obtain rfl:=oi h;exact rt (Mat.trans (Mat.freezeP (n:=3003) (e:=43) (sz:=22) (es:=i.map A8) (Ts:=[(2,A6 i)]) (Bs:=[]) (by rfl) (TwT.cons (x:=(.sref 3003 22 0 i.length)) (by rfl) (FrzL.all (by first | rfl | (simp;done) | (simp;omega) | omega)) TwT.nil) TwB.nil) (mp [] [(2,A6 i)] [] hB)) [A6 i] (rT rN) rfl
def A1s (a0:(List A2)) (p:Int×(List A2)):Option (List A2⊕(Int×(List A2))):=
 (if (decide (p.1<(a0.length:Int)))=true then
 (idx a0 p.1).bind fun i=>
 (A22 i.fRoute).bind fun s=>
 chk (decide ((p.2++[A2.mk i.fTo i.fPrefix i.fHas s]).length≤LIM))<|
 some (.inr (w64 (p.1+1),(p.2++[A2.mk i.fTo i.fPrefix i.fHas s])))
 else
 some (.inl p.2))
def R3 (a0:(List A2)):Option (List A2):=
 (loop (A1s a0) (0,([]:List A2))).bind fun i=>
 some i
theorem A1t (a0:(List A2)) (r:(List A2)) (h:R3 a0=some r):AC Tryz.prog 40 [.d (.list 22 (a0.map A8))] [] (.sref 900000 22 0 r.length) [(900000,some (.row 43 22 (r.map A8)))]:=by
 refine ac2 Tryz.func40 rfl rfl fun B hB hN L => ?_;delta R3 at h;refine sr (SQ tt) ?_;refine sr (SQ tt) ?_;apply seq;refine sr (SQ tt) ?_;apply block;obtain⟨i,A,h⟩:=bindS h;refine lg (A1s a0) (fun p:Int×(List A2)=>([(3,.sref 3003 22 0 p.2.length),(6,A6 a0),(7,i6 (a0.length:Int)),(8,i6 p.1)]:EL)) (fun p:Int×(List A2)=>([(3003,some (B3 p.2))]:OL)) (fun(i:(List A2)) e s t=>e = .exit 0∧Mat B s t ([(3,.sref 3003 22 0 i.length)]:EL) ([(3003,some (B3 i))]:OL)) A (Mat.trans (Mat.beginP (n:=3003) (e:=43) (sz:=22) (Ts:=[(3,.sref 3003 22 0 0)]) (Bs:=[]) hB (by decide) (by rfl) (by decide) (TwT.cons (x:=.nils) (by rfl) (Tw.leaf ⟨rfl,rfl⟩) TwT.nil) TwB.nil) (mp [] _ _ hB)) (fun p y h => ?_) (fun e s t hR => ?_)
 ·unfold A1s at h;refine sr (SQ tt) ?_;apply seq;apply AWp.cond rfl<;>intro u
  ·have h:=A4 u h;apply AWp.skip;apply A0;apply seq;apply block;obtain⟨C,E,h⟩:=bindS h;refine sr (SQ (fa E tt)) ?_;obtain⟨F,G,h⟩:=bindS h;refine sr (SQ (fa (cl [] (A7q C.fRoute F G)) tt)) ?_;obtain⟨H,h⟩:=B2 h;refine rg (SQ (fa H tt)) ?_;apply D9;apply A0;refine rg (SQ tt) ?_;obtain rfl:=oi h;exact⟨rfl,mp [(3003,1019)] _ _ hB⟩
  ·have h:=A5 u h;apply AWp.exit;apply D7;obtain rfl:=oi h;exact⟨nofun,rfl,mp [] _ _ hB⟩
 ·obtain⟨rfl,I⟩:=hR;apply C0;apply A0;refine ghost I ?_;refine sr (SQ tt) ?_;apply ret;obtain rfl:=oi h;exact rt (mp [(900000,3003)] [(2,.sref 900000 22 0 i.length)] [(900000,some (B3 i))] hB) [.sref 900000 22 0 i.length] (rT rN) rfl
def A2y (p:(List A2)) (i:Int×(List (A1×Int))):Option ((List (A1×Int))⊕(Int×(List (A1×Int)))):=
 (if (decide (i.1<(p.length:Int)))=true then
 (idx p i.1).bind fun _=>
 (idx p i.1).bind fun s=>
 some (.inr (w64 (i.1+1),mput keq33 i.2 s.fPrefix i.1))
 else
 some (.inl i.2))
def A2z (s:(List A2)) (i:Int×(List (A1×Int))×(List A2)):Option (List A2⊕(Int×(List (A1×Int))×(List A2))):=
 (if (decide (i.1<(s.length:Int)))=true then
 jn (fun t:(List (A1×Int))×(List A2)=>
 some (.inr (w64 (i.1+1),t.1,t.2))) (fun u=>
 (idx s i.1).bind fun p=>
 (if (mget keq33 i.2.1 p.fPrefix).isSome=true then
 (idx i.2.2 ((mget keq33 i.2.1 p.fPrefix).getD 0)).bind fun _=>
 (idx i.2.2 ((mget keq33 i.2.1 p.fPrefix).getD 0)).bind fun _=>
 u (i.2.1,i.2.2.set ((mget keq33 i.2.1 p.fPrefix).getD 0).toNat p)
 else
 chk (decide ((i.2.2++[p]).length≤LIM))<|
 u (mput keq33 i.2.1 p.fPrefix (i.2.2.length:Int),(i.2.2++[p]))))
 else
 some (.inl i.2.2))
def A4k (a0:E6) (a1:(List A2)):Option (E6×Int):=
 jn (fun t:Bool=>
 (if t=true then
 some (E6.mk ([]:List A2) (F4.mk 0 0 0),1)
 else
 (R3 a0.fPending).bind fun i=>
 (loop (A2y i) (0,([]:List (A1×Int)))).bind fun u=>
 (Z6 a1).bind fun A=>
 (loop (A2z A) (0,u,i)).bind fun p=>
 (if (decide (4096<(p.length:Int)))=true then
 some (E6.mk ([]:List A2) (F4.mk 0 0 0),3)
 else
 some (E6.mk p a0.fBucket,0)))) (fun s=>
 (A3e a0).bind fun C=>
 (if (!C)=true then
 s true
 else
 (M1 a1).bind fun E=>
 s E))
theorem A98 (a0:E6) (a1:(List A2)) (r:E6×Int) (h:A4k a0 a1=some r):AC Tryz.prog 16 [.d (F3 a0),.d (.list 22 (a1.map A8))] Zz10 (.tup [.d (F3 r.1),.d (.int .i64 r.2)]) Zz4:=by
 refine ac2 Tryz.func16 rfl rfl fun B hB hN L => ?_;delta A4k at h;refine sr (SQ tt) ?_;apply seq;apply seq;refine AWp.cut h (fun I:Bool=>([(1,A6 a1),(2,pt 1002),(4,pt 1004),(20,bo I)]:EL)) (fun I:Bool=>([(500,some (.know (globD 0 (.imap gv0)))),(1002,bd 26 (F3 a0)),(1004,some (.box 26 (.st Zz8)))]:OL)) (fun I h t u A => ?_) (fun j6 K h => ?_)
 ·apply A0;refine ghost A ?_;apply AWp.cond rfl<;>intro M
  ·have h:=A4 M h;refine sr (SQ tt) ?_;apply ret;apply B6;obtain rfl:=oi h;exact rt (Mat.trans (Mat.coeP (Ts:=[]) (Bs:=[(1004,bd 26 (.st Zz6))]) TwT.nil (TwB.cons (x:=(.st Zz8)) (by rfl) (Tw.leaf ⟨_,Co.st (CoL.cons (Co.nils 22) (CoL.cons (Co.d _) CoL.nil)),rfl⟩) TwB.nil)) (mp [] [(4,pt 1004),(5,i6 1)] [(500,some (.know (globD 0 (.imap gv0)))),(1004,bd 26 (.st Zz6))] hB)) [.d (.st Zz6),i6 1] (Res.cell (c:=(.d (.st Zz6))) (by rfl) (by rfl) tyS26 (by rfl) (by rfl) (by rfl) (rT rN)) rfl
  ·have h:=A5 M h;apply AWp.skip;apply A0;apply seq;obtain⟨s,U,h⟩:=bindS h;refine drS (SQ (fa (cl [(900000,100200)] (A1t a0.fPending s U)) tt)) ?_;apply A0;refine ghost (mp [] [(1,A6 a1),(4,pt 1004),(6,pt 1006)] [(500,some (.know (globD 0 (.imap gv0)))),(1004,some (.box 26 (.st Zz8))),(1006,some (.box 26 (.st [.sref 100200 22 0 s.length,.d (C8 a0.fBucket)]))),(100200,some (B3 s))] hB) ?_;apply sr (cg (OpJ.mkmapQ hB (nm:=1028) (by decide) (L rfl)) rfl (c (assign (L rfl) (q 28)) rfl cn));apply seq;refine sr (SQ tt) ?_;apply block;obtain⟨N,W,h⟩:=bindS h;refine lg (A2y s) (fun C:Int×(List (A1×Int))=>([(1,A6 a1),(4,pt 1004),(6,pt 1006),(7,.mref 1028),(30,.sref 100200 22 0 s.length),(31,i6 (s.length:Int)),(32,i6 C.1)]:EL)) (fun C:Int×(List (A1×Int))=>([(500,some (.know (globD 0 (.imap gv0)))),(1004,some (.box 26 (.st Zz8))),(1006,some (.box 26 (.st [.sref 100200 22 0 s.length,.d (C8 a0.fBucket)]))),(1028,some (.blk (mapQ (mpairs B0 (eI .i64) C.2)))),(100200,some (B3 s))]:OL)) (fun(N:(List (A1×Int))) e t u=>e = .exit 0∧Mat B t u ([(1,A6 a1),(4,pt 1004),(6,pt 1006),(7,.mref 1028)]:EL) ([(500,some (.know (globD 0 (.imap gv0)))),(1004,some (.box 26 (.st Zz8))),(1006,some (.box 26 (.st [.sref 100200 22 0 s.length,.d (C8 a0.fBucket)]))),(1028,some (.blk (mapQ (mpairs B0 (eI .i64) N)))),(100200,some (B3 s))]:OL)) W (mp [] _ _ hB) (fun C y h => ?_) (fun e t u hR => ?_)
   ·unfold A2y at h;refine sr (SQ tt) ?_;apply seq;apply AWp.cond rfl<;>intro O
    ·have h:=A4 O h;apply AWp.skip;apply A0;apply seq;apply block;obtain⟨_,X,h⟩:=bindS h;obtain⟨Y,Z,h⟩:=bindS h;refine sr (SQ (fa X (fa Z tt))) ?_;apply rg (c (mv hN (q 7)) rfl (c (fo 1009 1 [1] hN underlying43 1 tyS33 (q 9)) rfl (c (la hN 43 tyS33 (q 38)) rfl (c (mv hN (q 8)) rfl (cg (OpJ.mputQ (g:=(eI .i64)) (v:=C.1) (l:=C.2) (k:=Y.fPrefix) tyU90 underlying33 keyEq33 (q 37) (q 39) (q 40)) rfl cn)))));apply D9;apply A0;refine rg (SQ tt) ?_;obtain rfl:=oi h;exact⟨rfl,mp [] _ _ hB⟩
    ·have h:=A5 O h;apply AWp.exit;apply D7;obtain rfl:=oi h;exact⟨nofun,rfl,mp [] _ _ hB⟩
   ·obtain⟨rfl,A⟩:=hR;apply C0;apply A0;refine ghost A ?_;apply seq;obtain⟨E,aa,h⟩:=bindS h;refine sr (SQ (fa (cl [] (A67 a1 E aa)) tt)) ?_;apply block;obtain⟨p,ab,h⟩:=bindS h;refine lg (A2z E) (fun i:Int×(List (A1×Int))×(List A2)=>([(4,pt 1004),(6,pt 1006),(7,.mref 1028),(43,A6 E),(44,i6 (E.length:Int)),(45,i6 i.1)]:EL)) (fun i:Int×(List (A1×Int))×(List A2)=>([(500,some (.know (globD 0 (.imap gv0)))),(1004,some (.box 26 (.st Zz8))),(1006,some (.box 26 (.st [.sref 13060 22 0 i.2.2.length,.d (C8 a0.fBucket)]))),(1028,some (.blk (mapQ (mpairs B0 (eI .i64) i.2.1)))),(13060,some (B3 i.2.2))]:OL)) (fun(p:(List A2)) e t u=>e = .exit 2∧Mat B t u ([(4,pt 1004),(6,pt 1006)]:EL) ([(500,some (.know (globD 0 (.imap gv0)))),(1004,some (.box 26 (.st Zz8))),(1006,some (.box 26 (.st [.sref 13060 22 0 p.length,.d (C8 a0.fBucket)]))),(13060,some (B3 p))]:OL)) ab (mp [(13060,100200)] _ _ hB) (fun i y h => ?_) (fun e t u hR => ?_)
    ·unfold A2z at h;refine sr (SQ tt) ?_;apply seq;apply AWp.cond rfl<;>intro P
     ·have h:=A4 P h;apply AWp.skip;apply A0;apply seq;refine AWp.cut h (fun F:(List (A1×Int))×(List A2)=>([(4,pt 1004),(6,pt 1006),(7,.mref 1028),(43,A6 E),(44,i6 (E.length:Int)),(45,i6 i.1)]:EL)) (fun F:(List (A1×Int))×(List A2)=>([(500,some (.know (globD 0 (.imap gv0)))),(1004,some (.box 26 (.st Zz8))),(1006,some (.box 26 (.st [.sref 13060 22 0 F.2.length,.d (C8 a0.fBucket)]))),(1028,some (.blk (mapQ (mpairs B0 (eI .i64) F.1)))),(13060,some (B3 F.2))]:OL)) (fun F h t u A => ?_) (fun ak Q h => ?_)
      ·apply A0;refine ghost A ?_;refine rg (SQ tt) ?_;obtain rfl:=oi h;exact⟨rfl,mp [] _ _ hB⟩
      ·apply block;obtain⟨G,ac,h⟩:=bindS h;refine sr (SQ (fa ac tt)) ?_;apply seq;apply sr (c (mv hN (q 7)) rfl (c (fo 1011 1 [1] hN underlying43 1 tyS33 (q 11)) rfl (c (la hN 43 tyS33 (q 51)) rfl (cg (OpJ.mlook2Q (g:=(eI .i64)) (l:=i.2.1) (k:=G.fPrefix) tyU90 underlying33 keyEq33 (z:=0) tyZD3 (L rfl) (q 50) (q 52)) rfl (c (mv hN (q 53)) rfl (c (extract (by rfl) rfl (L rfl) (q 49)) rfl (c (extract (by rfl) rfl (L rfl) (q 49)) rfl (c (assign (L rfl) (q 54)) rfl (c (assign (L rfl) (q 55)) rfl cn)))))))));refine sr (SQ tt) ?_;apply AWp.cond rfl<;>intro R
       ·have h:=A4 R h;obtain⟨_,ae,h⟩:=bindS h;obtain⟨_,af,h⟩:=bindS h;refine sr (SQ (fa ae (fa af (fa (sv G) tt)))) ?_;refine gh [(4,_),(6,_),(7,_),(43,_),(44,_),(45,_)] [(500,some _),(1004,some _),(1006,some _),(1028,some _),(13060,some _)] hB rfl rfl (by rfl) ?_;apply AWp.exit;apply D7;apply C0;exact Q _ h _ _ (Mat.trans (Mat.lenP (Ts:=[]) (Bs:=[(1006,some (.box 26 (.st [.sref 13060 22 0 ((i.2.2.set ((mget keq33 i.2.1 G.fPrefix).getD 0).toNat G).length),.d (C8 a0.fBucket)])))]) TwT.nil (TwB.cons (x:=(.st [.sref 13060 22 0 i.2.2.length,.d (C8 a0.fBucket)])) (by rfl) (Tw.st (TwL.cons (Tw.leaf ⟨_,_,_,_,_,rfl,rfl,(by first | rfl | (simp;done) | (simp;omega) | omega)⟩) (TwL.cons (Tw.same _) TwL.nil))) TwB.nil)) (mp [] _ _ hB))
       ·have h:=A5 R h;apply AWp.skip;apply A0;apply sr (c (mv hN (q 7)) rfl (c (fo 1011 1 [1] hN underlying43 1 tyS33 (q 11)) rfl (c (la hN 43 tyS33 (q 63)) rfl (c (fo 1006 0 [0] hN underlying26 0 tyS22 (q 6)) rfl (c (lb hN 26 _ (.sref 13060 22 0 i.2.2.length) tyS22 (At.st1 (f:=(.sref 13060 22 0 i.2.2.length)) (by rfl) (by rfl) (At.here _) (by first | rfl | omega)) (q 65)) rfl (c (lenS underlying22 (L rfl) (q 66)) rfl (cg (OpJ.mputQ (g:=(eI .i64)) (v:=(i.2.2.length:Int)) (l:=i.2.1) (k:=G.fPrefix) tyU90 underlying33 keyEq33 (q 62) (q 64) (q 67)) rfl cn)))))))
        obtain⟨ag,h⟩:=B2 h;refine rg (SQ (fa ag tt)) ?_;apply D9;exact Q _ h _ _ (mp [(13060,1072)] _ _ hB)
     ·have h:=A5 P h;apply AWp.exit;apply D7;obtain rfl:=oi h;exact⟨nofun,rfl,mp [] _ _ hB⟩
    ·obtain⟨rfl,A⟩:=hR;apply C0;apply A0;refine ghost A ?_;apply seq;refine sr (SQ tt) ?_;apply AWp.cond rfl<;>intro S
     ·have h:=A4 S h;refine sr (SQ tt) ?_;apply ret;apply B6;obtain rfl:=oi h;exact rt (Mat.trans (Mat.coeP (Ts:=[]) (Bs:=[(1004,bd 26 (.st Zz6))]) TwT.nil (TwB.cons (x:=(.st Zz8)) (by rfl) (Tw.leaf ⟨_,Co.st (CoL.cons (Co.nils 22) (CoL.cons (Co.d _) CoL.nil)),rfl⟩) TwB.nil)) (mp [] [(4,pt 1004),(5,i6 3)] [(500,some (.know (globD 0 (.imap gv0)))),(1004,bd 26 (.st Zz6))] hB)) [.d (.st Zz6),i6 3] (Res.cell (c:=(.d (.st Zz6))) (by rfl) (by rfl) tyS26 (by rfl) (by rfl) (by rfl) (rT rN)) rfl
     ·have h:=A5 S h;apply AWp.skip;apply A0;refine sr (SQ tt) ?_;apply ret;obtain rfl:=oi h;exact rt (Mat.trans (Mat.freezeP (n:=13060) (e:=43) (sz:=22) (es:=p.map A8) (Ts:=[]) (Bs:=[(1004,some (.box 26 (.st [A6 p,.d (C8 a0.fBucket)])))]) (by rfl) TwT.nil (TwB.cons (x:=(.st [.sref 13060 22 0 p.length,.d (C8 a0.fBucket)])) (by rfl) (Tw.st (TwL.cons (FrzL.all (by first | rfl | (simp;done) | (simp;omega) | omega)) (TwL.cons (Tw.same _) TwL.nil))) TwB.nil)) (Mat.trans (Mat.coeP (Ts:=[]) (Bs:=[(1004,bd 26 (.st [.list 22 (p.map A8),C8 a0.fBucket]))]) TwT.nil (TwB.cons (x:=(.st [A6 p,.d (C8 a0.fBucket)])) (by rfl) (Tw.leaf ⟨_,Co.st (CoL.cons (Co.d _) (CoL.cons (Co.d _) CoL.nil)),rfl⟩) TwB.nil)) (mp [] [(4,pt 1004),(5,i6 0)] [(500,some (.know (globD 0 (.imap gv0)))),(1004,bd 26 (.st [.list 22 (p.map A8),C8 a0.fBucket]))] hB))) [.d (.st [.list 22 (p.map A8),C8 a0.fBucket]),i6 0] (Res.cell (c:=(.d (.st [.list 22 (p.map A8),C8 a0.fBucket]))) (by rfl) (by rfl) tyS26 (by rfl) (by rfl) (by rfl) (rT rN)) rfl
 ·obtain⟨J,T,h⟩:=bindS h;rcases bft (!J) with H | H
  ·have h:=A4 H h;refine rg (SQ (fa (cl [(500,500)] (A5t a0 J T)) (fa H tt))) ?_;exact K _ h _ _ (mp [] _ _ hB)
  ·have h:=A5 H h;obtain⟨ah,ai,h⟩:=bindS h;refine rg (SQ (fa (cl [(500,500)] (A5t a0 J T)) (fa H (fa (cl [(500,500)] (A5u a1 ah ai)) tt)))) ?_;exact K _ h _ _ (mp [] _ _ hB)
def A23 (a0:A2) (a1:A2):Option (Int):=
 (A3b a0.fPrefix a1.fPrefix).bind fun i=>
 some i
theorem B2d (a0:A2) (a1:A2) (r:Int) (h:A23 a0 a1=some r):AC Tryz.prog 44 [.d (A8 a0),.d (A8 a1)] [] (.d (.int .i64 r)) []:=by
 refine AC.of_code2 Tryz.func44 rfl rfl (Nat.le_of_ble_eq_true (by rfl)) fun B hB hN => ?_;delta A23 at h;refine sr (SQ tt) ?_;obtain⟨i,p,h⟩:=bindS h;refine sr (SQ (fa (cl [] (A8f a0.fPrefix a1.fPrefix i p)) tt)) ?_;apply ret;obtain rfl:=oi h;exact rt (kp [(4,_)] [] hB rfl rfl (by rfl)) [i6 i] (rT rN) rfl
def I0 (a0:(List A2)):Option (List A2):=sortF a0 fun x y=>A23 x y
theorem A15 (a0:(List A2)) (r:List A2) (h:I0 a0=some r):AC Tryz.prog 43 [.sref 0 22 0 a0.length,.func 44 []] [(0,.row 43 22 (a0.map A8))] (.tup []) [(0,some (.row 43 22 (r.map A8)))]:=
 AC.sortF A8 (fun x y=>A23 x y) a0 r h sortOk43 fnOk44 (fun _=>rfl) rfl rfl (fun x y c hc=>B2d x y c hc)
def A50 (a0:F4):Option (F4×Bool):=
 (if (decide (a0.fLevel≤0))=true then
 some (a0,false)
 else
 some (F4.mk (w64 (a0.fLevel-1)) a0.fRate a0.fBurst,true))
theorem B33 (a0:F4) (r:F4×Bool) (h:A50 a0=some r):AC Tryz.prog 47 [.d (C8 a0)] [] (.tup [.d (C8 r.1),.d (.bool r.2)]) []:=by
 refine AC.of_code2 Tryz.func47 rfl rfl (Nat.le_of_ble_eq_true (by rfl)) fun B hB hN => ?_;delta A50 at h;refine sr (SQ tt) ?_;apply seq;refine sr (SQ tt) ?_;apply AWp.cond rfl<;>intro i
 ·have h:=A4 i h;refine sr (SQ tt) ?_;apply ret;apply B6;obtain rfl:=oi h;exact rt (kp [(2,_),(3,_)] [(1002,some _)] hB rfl rfl (by rfl)) [.d (C8 a0),bo false] (Res.cell (c:=(.d (C8 a0))) (by rfl) (by rfl) tyS24 (by rfl) (by rfl) (by rfl) (rT rN)) rfl
 ·have h:=A5 i h;apply AWp.skip;apply A0;refine sr (SQ tt) ?_;refine sr (SQ tt) ?_;apply ret;obtain rfl:=oi h;exact rt (kp [(2,_),(3,_)] [(1002,some _)] hB rfl rfl (by rfl)) [.d (.st [.int .i64 (w64 (a0.fLevel-1)),.int .i64 a0.fRate,.int .i64 a0.fBurst]),bo true] (Res.cell (c:=(.d (.st [.int .i64 (w64 (a0.fLevel-1)),.int .i64 a0.fRate,.int .i64 a0.fBurst]))) (by rfl) (by rfl) tyS24 (by rfl) (by rfl) (by rfl) (rT rN)) rfl
def A30 (a0:(List A1)):Option (List A1):=
 chk (decide (a0.length≤LIM))<|
 some a0
theorem B11 (a0:(List A1)) (r:(List A1)) (h:A30 a0=some r):AC Tryz.prog 48 [.d (.list 4 (a0.map B0))] [] (.sref 900000 4 0 r.length) [(900000,some (.row 33 4 (r.map B0)))]:=by
 refine AC.of_code2 Tryz.func48 rfl rfl (Nat.le_of_ble_eq_true (by rfl)) fun B hB hN => ?_;delta A30 at h;refine sr (SQ tt) ?_;obtain⟨i,h⟩:=B2 h;refine sr (SQ (fa i tt)) ?_;apply ret;obtain rfl:=oi h;exact rt (mp [(900000,1004)] [(2,.sref 900000 4 0 a0.length)] [(900000,some (G0 a0))] hB) [.sref 900000 4 0 a0.length] (rT rN) rfl
def V4 (a0:A2) (a1:(List (A1×Bool))):Option (Bool):=
 some ((mget keq33 a1 a0.fPrefix).getD false)
theorem A7r (a0:A2) (a1:(List (A1×Bool))) (r:Bool) (h:V4 a0 a1=some r):AC Tryz.prog 50 [.d (A8 a0),pt 0] [(0,.box 82 (.mref 1)),(1,.blk (mapQ (mpairs B0 eB a1)))] (.d (.bool r)) [(0,some (.box 82 (.mref 1))),(1,some (.blk (mapQ (mpairs B0 eB a1))))]:=by
 refine AC.of_code2 Tryz.func50 rfl rfl (Nat.le_of_ble_eq_true (by rfl)) fun B hB hN => ?_;delta V4 at h;refine sr (SQ tt) ?_;apply sr (c (lb hN 82 _ _ tyS82 (At.here _) (q 1)) rfl (c (fo 1002 1 [1] hN underlying43 1 tyS33 (q 2)) rfl (c (la hN 43 tyS33 (q 5)) rfl (cg (OpJ.mlookQ (g:=eB) (l:=a1) (k:=a0.fPrefix) tyU82 underlying33 keyEq33 (z:=false) tyZD4 (ltN hN rfl) (q 4) (q 6)) rfl (c (assign (ltN hN rfl) (q 7)) rfl cn)))));apply ret;obtain rfl:=oi h;exact rt (kp [(3,_)] [(0,some _),(1,some _)] hB rfl rfl (by rfl)) [bo ((mget keq33 a1 a0.fPrefix).getD false)] (rT rN) rfl
def M2 (a0:(List A2)) (a1:(List (A1×Bool))) (i:Int):Option ((Int⊕Unit)⊕Int):=
 (if (decide (i<(a0.length:Int)))=true then
 (idx a0 i).bind fun _=>
 (idx a0 i).bind fun p=>
 (V4 p a1).bind fun s=>
 (if s=true then
 some (.inl (.inl i))
 else
 some (.inr (w64 (i+1))))
 else
 some (.inl (.inr ())))
def Q2 (a0:(List A2)) (a1:(List (A1×Bool))):Option (Int):=
 (loop (M2 a0 a1) 0).bind fun i=>match i with
 | (.inl p)=>
  some p
 | (.inr _)=>
  some (-1)
theorem A71 (a0:(List A2)) (a1:(List (A1×Bool))) (r:Int) (h:Q2 a0 a1=some r):AC Tryz.prog 68 [.sref 0 22 0 a0.length,.func 50 [pt 1]] [(0,.row 43 22 (a0.map A8)),(1,.box 82 (.mref 2)),(2,.blk (mapQ (mpairs B0 eB a1)))] (.d (.int .i64 r)) [(0,some (.row 43 22 (a0.map A8))),(1,some (.box 82 (.mref 2))),(2,some (.blk (mapQ (mpairs B0 eB a1))))]:=by
 refine AC.of_code2 Tryz.func68 rfl rfl (Nat.le_of_ble_eq_true (by rfl)) fun B hB hN => ?_;delta Q2 at h;refine sr (SQ tt) ?_;apply seq;refine sr (SQ tt) ?_;apply block;obtain⟨F,G,h⟩:=bindS h;refine lg (M2 a0 a1) (fun i:Int=>([(0,.sref 0 22 0 a0.length),(1,.func 50 [pt 1]),(7,i6 (a0.length:Int)),(8,i6 i)]:EL)) (fun i:Int=>([(0,some (B3 a0)),(1,some (.box 82 (.mref 2))),(2,some (.blk (mapQ (mpairs B0 eB a1))))]:OL)) (fun(x:(Int)⊕Unit) e s t=>match x with | (.inl p)=>e = .ret∧Mat B s t ([(4,i6 p)]:EL) ([(0,some (B3 a0)),(1,some (.box 82 (.mref 2))),(2,some (.blk (mapQ (mpairs B0 eB a1))))]:OL) | (.inr _p)=>e = .exit 0∧Mat B s t ([]:EL) ([(0,some (B3 a0)),(1,some (.box 82 (.mref 2))),(2,some (.blk (mapQ (mpairs B0 eB a1))))]:OL)) G (mp [] _ _ hB) (fun i y h => ?_) (fun e s t hR => ?_)
 ·unfold M2 at h;refine sr (SQ tt) ?_;apply seq;apply AWp.cond rfl<;>intro A
  ·have h:=A4 A h;apply AWp.skip;apply A0;apply seq;apply block;refine sr (SQ tt) ?_;apply seq;obtain⟨_,H,h⟩:=bindS h;obtain⟨I,J,h⟩:=bindS h;obtain⟨C,K,h⟩:=bindS h;refine rg (SQ (fa H (fa J (fa (cl [(0,1),(1,2)] (A7r I a1 C K)) tt)))) ?_;apply A0;refine ghost (mp [] [(0,.sref 0 22 0 a0.length),(1,.func 50 [pt 1]),(5,i6 i),(7,i6 (a0.length:Int)),(8,i6 i),(16,bo C)] [(0,some (B3 a0)),(1,some (.box 82 (.mref 2))),(2,some (.blk (mapQ (mpairs B0 eB a1))))] hB) ?_;apply AWp.cond rfl<;>intro E
   ·have h:=A4 E h;refine sr (SQ tt) ?_;apply ret;apply E0;apply B6;obtain rfl:=oi h;exact⟨nofun,rfl,mp [] _ _ hB⟩
   ·have h:=A5 E h;apply AWp.skip;apply D9;apply A0;refine rg (SQ tt) ?_;obtain rfl:=oi h;exact⟨rfl,mp [] _ _ hB⟩
  ·have h:=A5 A h;apply AWp.exit;apply D7;obtain rfl:=oi h;exact⟨nofun,rfl,mp [] _ _ hB⟩
 ·rcases F with p | _
  ·obtain⟨rfl,u⟩:=hR;apply E0;apply B6;obtain rfl:=oi h;exact rt (Mat.trans u (mp [] [(4,i6 p)] [(0,some (B3 a0)),(1,some (.box 82 (.mref 2))),(2,some (.blk (mapQ (mpairs B0 eB a1))))] hB)) [i6 p] (rT rN) rfl
  ·obtain⟨rfl,u⟩:=hR;apply C0;apply A0;refine ghost u ?_;refine sr (SQ tt) ?_;apply ret;obtain rfl:=oi h;exact rt (kp [(4,_)] [(0,some _),(1,some _),(2,some _)] hB rfl rfl (by rfl)) [i6 (-1)] (rT rN) rfl
def S4 (a1:(List (A1×Bool))) (i:Int×Int×(List A2)):Option ((Int×(List A2))⊕(Int×Int×(List A2))):=
 (if (decide (i.2.1<(i.2.2.length:Int)))=true then
 (idx i.2.2 i.2.1).bind fun _=>
 (idx i.2.2 i.2.1).bind fun p=>
 (V4 p a1).bind fun u=>
 jn (fun s:Int×(List A2)=>
 some (.inr (s.1,w64 (i.2.1+1),s.2))) (fun t=>
 (if (!u)=true then
 (idx i.2.2 i.1).bind fun _=>
 (idx i.2.2 i.1).bind fun _=>
 t (w64 (i.1+1),i.2.2.set i.1.toNat p)
 else
 t (i.1,i.2.2)))
 else
 some (.inl (i.1,i.2.2)))
def S5 (a0:(List A2)) (a1:(List (A1×Bool))):Option (List A2):=
 (Q2 a0 a1).bind fun p=>
 (if (p==(-1))=true then
 some a0
 else
 (loop (S4 a1) (p,w64 (p+1),a0)).bind fun i=>
 chk (decide (0≤i.1)&&decide (i.1.toNat≤i.2.length)&&decide (i.2.length≤i.2.length))<|
 chk (decide (i.1.toNat+(i.2.length-i.1.toNat)≤i.2.length))<|
 chk (decide (0≤i.1)&&decide (0≤i.1.toNat)&&decide (i.1.toNat≤i.2.length))<|
 some (((i.2.take i.1.toNat++List.replicate (i.2.length-i.1.toNat) (A2.mk 0 (A1.mk (D1.mk false 0 0) 0) false (D4.mk (A1.mk (D1.mk false 0 0) 0) 0 (D3.mk 0 ([]:List B5) (D1.mk false 0 0) 0 0 0 ([]:List B7) ([]:List F5) ([]:List A3))))++i.2.drop (i.1.toNat+(i.2.length-i.1.toNat))).drop 0).take i.1.toNat))
theorem A7s (a0:(List A2)) (a1:(List (A1×Bool))) (r:(List A2)) (h:S5 a0 a1=some r):AC Tryz.prog 49 [.sref 0 22 0 a0.length,.func 50 [pt 1]] [(0,.row 43 22 (a0.map A8)),(1,.box 82 (.mref 2)),(2,.blk (mapQ (mpairs B0 eB a1)))] (.d (.list 22 (r.map A8))) [(0,none),(1,some (.box 82 (.mref 2))),(2,some (.blk (mapQ (mpairs B0 eB a1))))]:=by
 refine ac2 Tryz.func49 rfl rfl fun B hB hN L => ?_;delta S5 at h;refine sr (SQ tt) ?_;apply seq;obtain⟨G,O,h⟩:=bindS h;refine rg (SQ (fa (cl [(0,0),(1,1),(2,2)] (A71 a0 a1 G O)) tt)) ?_;apply A0;refine ghost (mp [] [(0,.sref 0 22 0 a0.length),(1,.func 50 [pt 1]),(5,i6 G)] [(0,some (B3 a0)),(1,some (.box 82 (.mref 2))),(2,some (.blk (mapQ (mpairs B0 eB a1))))] hB) ?_;apply seq;refine sr (SQ tt) ?_;apply AWp.cond rfl<;>intro H
 ·have h:=A4 H h;refine sr (SQ tt) ?_;apply ret;apply B6;obtain rfl:=oi h;exact rt (Mat.trans (Mat.freezeP (n:=0) (e:=43) (sz:=22) (es:=a0.map A8) (Ts:=[(4,A6 a0)]) (Bs:=[]) (by rfl) (TwT.cons (x:=(.sref 0 22 0 a0.length)) (by rfl) (FrzL.all (by first | rfl | (simp;done) | (simp;omega) | omega)) TwT.nil) TwB.nil) (mp [] [(4,A6 a0)] [(1,some (.box 82 (.mref 2))),(2,some (.blk (mapQ (mpairs B0 eB a1))))] hB)) [A6 a0] (rT rN) rfl
 ·have h:=A5 H h;apply AWp.skip;apply A0;apply seq;refine sr (SQ tt) ?_;apply block;obtain⟨i,P,h⟩:=bindS h;refine lg (S4 a1) (fun p:Int×Int×(List A2)=>([(0,.sref 0 22 0 p.2.2.length),(1,.func 50 [pt 1]),(5,i6 p.1),(6,i6 p.2.1)]:EL)) (fun p:Int×Int×(List A2)=>([(0,some (B3 p.2.2)),(1,some (.box 82 (.mref 2))),(2,some (.blk (mapQ (mpairs B0 eB a1))))]:OL)) (fun(i:(Int×(List A2))) e C E=>e = .exit 0∧Mat B C E ([(0,.sref 0 22 0 i.2.length),(5,i6 i.1)]:EL) ([(0,some (B3 i.2)),(1,some (.box 82 (.mref 2))),(2,some (.blk (mapQ (mpairs B0 eB a1))))]:OL)) P (mp [] _ _ hB) (fun p y h => ?_) (fun e C E hR => ?_)
  ·unfold S4 at h;apply seq;refine sr (SQ tt) ?_;apply AWp.cond rfl<;>intro I
   ·have h:=A4 I h;apply AWp.skip;apply A0;apply seq;apply block;obtain⟨_,Q,h⟩:=bindS h;obtain⟨s,R,h⟩:=bindS h;refine sr (SQ (fa Q (fa R tt))) ?_;apply seq;obtain⟨J,S,h⟩:=bindS h;refine rg (SQ (fa (cl [(0,1),(1,2)] (A7r s a1 J S)) tt)) ?_;apply A0;refine ghost (mp [] [(0,.sref 0 22 0 p.2.2.length),(1,.func 50 [pt 1]),(5,i6 p.1),(6,i6 p.2.1),(7,pt 1007),(29,bo (!J))] [(0,some (B3 p.2.2)),(1,some (.box 82 (.mref 2))),(2,some (.blk (mapQ (mpairs B0 eB a1)))),(1007,bd 43 (A8 s))] hB) ?_;refine AWp.cut h (fun t:Int×(List A2)=>([(0,.sref 0 22 0 t.2.length),(1,.func 50 [pt 1]),(5,i6 t.1),(6,i6 p.2.1)]:EL)) (fun t:Int×(List A2)=>([(0,some (B3 t.2)),(1,some (.box 82 (.mref 2))),(2,some (.blk (mapQ (mpairs B0 eB a1))))]:OL)) (fun t h C E F => ?_) (fun W K h => ?_)
    ·apply D9;apply A0;refine ghost F ?_;refine rg (SQ tt) ?_;obtain rfl:=oi h;exact⟨rfl,mp [] _ _ hB⟩
    ·apply AWp.cond rfl<;>intro M
     ·have h:=A4 M h;obtain⟨_,T,h⟩:=bindS h;obtain⟨_,U,h⟩:=bindS h;refine sr (SQ (fa T (fa U (fa (sv s) tt)))) ?_;refine rg (SQ tt) ?_;exact K _ h _ _ (Mat.trans (mp [] [(0,.sref 0 22 0 p.2.2.length),(1,.func 50 [pt 1]),(5,i6 (w64 (p.1+1))),(6,i6 p.2.1)] [(0,some (B3 (p.2.2.set p.1.toNat s))),(1,some (.box 82 (.mref 2))),(2,some (.blk (mapQ (mpairs B0 eB a1))))] hB) (Mat.trans (Mat.lenP (Ts:=[(0,.sref 0 22 0 ((p.2.2.set p.1.toNat s).length))]) (Bs:=[]) (TwT.cons (x:=(.sref 0 22 0 p.2.2.length)) (by rfl) (Tw.leaf ⟨_,_,_,_,_,rfl,rfl,(by first | rfl | (simp;done) | (simp;omega) | omega)⟩) TwT.nil) TwB.nil) (mp [] _ _ hB)))
     ·have h:=A5 M h;apply AWp.skip;exact K _ h _ _ (mp [] _ _ hB)
   ·have h:=A5 I h;apply AWp.exit;apply D7;obtain rfl:=oi h;exact⟨nofun,rfl,mp [] _ _ hB⟩
  ·obtain⟨rfl,F⟩:=hR;apply C0;apply A0;refine ghost F ?_;obtain⟨u,h⟩:=B2 h;have hc43_o:=u;simp only [Bool.and_eq_true,decide_eq_true_eq] at hc43_o;obtain⟨N,h⟩:=B2 h;have hc44_o:=N;simp only [decide_eq_true_eq] at hc44_o;apply sr (c (mv hN (q 0)) rfl (c (mv hN (q 5)) rfl (c (OpJ.cutS underlying22 tyS43 (l:=i.1.toNat) (h:=i.2.length) (off':=i.1.toNat) (len':=(i.2.length-i.1.toNat)) (.inr ⟨_,_,_,rfl,ot 37 (i6 i.1),of_decide_eq_true (S7 (S7 u)),rfl⟩) (.inl ⟨rfl,rfl,rfl⟩) (of_decide_eq_true (V5 (S7 u))) (of_decide_eq_true (V5 u)) (by simp) (by simp) (L rfl) (q 36)) rfl (cg (OpJ.clearS (e:=43) (z:=(.st [.int .i64 0,.st Zz9,.bool false,.st [.st Zz9,.int .i64 0,.st Zz2]])) (es:=i.2.map A8) (es':=(i.2.take i.1.toNat++List.replicate (i.2.length-i.1.toNat) (A2.mk 0 (A1.mk (D1.mk false 0 0) 0) false (D4.mk (A1.mk (D1.mk false 0 0) 0) 0 (D3.mk 0 ([]:List B5) (D1.mk false 0 0) 0 0 0 ([]:List B7) ([]:List F5) ([]:List A3))))++i.2.drop (i.1.toNat+(i.2.length-i.1.toNat))).map A8) underlying22 tyZD43 (by rfl) (by decide) (by rw [List.length_map];exact of_decide_eq_true N) (by simp only [List.map_append,List.map_take,List.map_drop,List.map_replicate];rfl) (q 38)) rfl cn))));obtain⟨A,h⟩:=B2 h;have hc45_o:=A;simp only [Bool.and_eq_true,decide_eq_true_eq] at hc45_o;apply sr (c (mv hN (q 0)) rfl (c (mv hN (q 5)) rfl (c (OpJ.cutS underlying22 tyS43 (l:=0) (h:=i.1.toNat) (off':=0) (len':=i.1.toNat) (.inl ⟨rfl,rfl,rfl⟩) (.inr ⟨_,_,_,rfl,ot 40 (i6 i.1),of_decide_eq_true (S7 (S7 A)),rfl⟩) (of_decide_eq_true (V5 (S7 A))) (of_decide_eq_true (V5 A)) (by simp) (by simp) (L rfl) (q 39)) rfl (c (assign (L rfl) (q 41)) rfl cn))));apply ret;obtain rfl:=oi h;exact rt (Mat.trans (Mat.freezeP (n:=0) (e:=43) (sz:=22) (es:=(i.2.take i.1.toNat++List.replicate (i.2.length-i.1.toNat) (A2.mk 0 (A1.mk (D1.mk false 0 0) 0) false (D4.mk (A1.mk (D1.mk false 0 0) 0) 0 (D3.mk 0 ([]:List B5) (D1.mk false 0 0) 0 0 0 ([]:List B7) ([]:List F5) ([]:List A3))))++i.2.drop (i.1.toNat+(i.2.length-i.1.toNat))).map A8) (Ts:=[(4,A6 (((i.2.take i.1.toNat++List.replicate (i.2.length-i.1.toNat) (A2.mk 0 (A1.mk (D1.mk false 0 0) 0) false (D4.mk (A1.mk (D1.mk false 0 0) 0) 0 (D3.mk 0 ([]:List B5) (D1.mk false 0 0) 0 0 0 ([]:List B7) ([]:List F5) ([]:List A3))))++i.2.drop (i.1.toNat+(i.2.length-i.1.toNat))).drop 0).take i.1.toNat))]) (Bs:=[]) (by rfl) (TwT.cons (x:=(.sref 0 22 0 i.1.toNat)) (by rfl) (FrzL.cut (fs:=(((i.2.take i.1.toNat++List.replicate (i.2.length-i.1.toNat) (A2.mk 0 (A1.mk (D1.mk false 0 0) 0) false (D4.mk (A1.mk (D1.mk false 0 0) 0) 0 (D3.mk 0 ([]:List B5) (D1.mk false 0 0) 0 0 0 ([]:List B7) ([]:List F5) ([]:List A3))))++i.2.drop (i.1.toNat+(i.2.length-i.1.toNat))).drop 0).take i.1.toNat).map A8) (by simp only [List.length_map,List.length_append,List.length_take,List.length_drop,List.length_replicate,List.length_set];omega) (by first | rw [List.map_drop,List.map_take] | (simp [List.map_take,List.map_drop];done) | simp [List.take_of_length_le])) TwT.nil) TwB.nil) (mp [] [(4,A6 (((i.2.take i.1.toNat++List.replicate (i.2.length-i.1.toNat) (A2.mk 0 (A1.mk (D1.mk false 0 0) 0) false (D4.mk (A1.mk (D1.mk false 0 0) 0) 0 (D3.mk 0 ([]:List B5) (D1.mk false 0 0) 0 0 0 ([]:List B7) ([]:List F5) ([]:List A3))))++i.2.drop (i.1.toNat+(i.2.length-i.1.toNat))).drop 0).take i.1.toNat))] [(1,some (.box 82 (.mref 2))),(2,some (.blk (mapQ (mpairs B0 eB a1))))] hB)) [A6 (((i.2.take i.1.toNat++List.replicate (i.2.length-i.1.toNat) (A2.mk 0 (A1.mk (D1.mk false 0 0) 0) false (D4.mk (A1.mk (D1.mk false 0 0) 0) 0 (D3.mk 0 ([]:List B5) (D1.mk false 0 0) 0 0 0 ([]:List B7) ([]:List F5) ([]:List A3))))++i.2.drop (i.1.toNat+(i.2.length-i.1.toNat))).drop 0).take i.1.toNat)] (rT rN) rfl
def A31 (p:A7) (s:(List A1)) (i:Int×(List (A1×Bool))):Option ((List (A1×Bool))⊕(Int×(List (A1×Bool)))):=
 (if (decide (i.1<((s++p.fAnnounce).length:Int)))=true then
 (idx (s++p.fAnnounce) i.1).bind fun _=>
 (idx (s++p.fAnnounce) i.1).bind fun t=>
 some (.inr (w64 (i.1+1),mput keq33 i.2 t true))
 else
 some (.inl i.2))
def A32 (s:(List A7)×Int) (i:Int×(List (A1×Bool))×(List A7)×F4):Option (((List (A1×Bool))×(List A7)×F4)⊕(Int×(List (A1×Bool))×(List A7)×F4)):=
 (if (decide (i.1<(s.1.length:Int)))=true then
 (idx s.1 i.1).bind fun p=>
 (A50 i.2.2.2).bind fun t=>
 (if (!t.2)=true then
 some (.inl (i.2.1,i.2.2.1,i.2.2.2))
 else
 chk (decide ((i.2.2.1++[p]).length≤LIM))<|
 (A30 p.fWithdraw).bind fun u=>
 chk (decide ((u++p.fAnnounce).length≤LIM))<|
 (loop (A31 p u) (0,i.2.1)).bind fun A=>
 some (.inr (w64 (i.1+1),A,(i.2.2.1++[p]),t.1)))
 else
 some (.inl (i.2.1,i.2.2.1,i.2.2.2)))
def A4l (a0:E6):Option (E6×(List A7)×Int):=
 (A3e a0).bind fun u=>
 (if (!u)=true then
 some (E6.mk ([]:List A2) (F4.mk 0 0 0),([]:List A7),1)
 else
 chk (decide (0≤(minI (a0.fPending.length:Int) 64))&&decide (0≤(minI (a0.fPending.length:Int) 64).toNat)&&decide ((minI (a0.fPending.length:Int) 64).toNat≤a0.fPending.length))<|
 (R3 ((a0.fPending.take ((minI (a0.fPending.length:Int) 64).toNat)).drop 0)).bind fun i=>
 (I0 i).bind fun t=>
 chk (decide (t.length=i.length))<|
 (A4j ((t.drop 0).take i.length)).bind fun p=>
 (if (p.2 != 0)=true then
 some (E6.mk ([]:List A2) (F4.mk 0 0 0),([]:List A7),p.2)
 else
 (R3 a0.fPending).bind fun A=>
 (loop (A32 p) (0,([]:List (A1×Bool)),([]:List A7),a0.fBucket)).bind fun s=>
 (S5 A s.1).bind fun C=>
 some (E6.mk C s.2.2,s.2.1,0)))
theorem A99 (a0:E6) (r:E6×(List A7)×Int) (h:A4l a0=some r):AC Tryz.prog 19 [.d (F3 a0)] Zz10 (.tup [.d (F3 r.1),.d (.list 13 (r.2.1.map E5)),.d (.int .i64 r.2.2)]) Zz4:=by
 refine ac2 Tryz.func19 rfl rfl fun B hB hN L => ?_;delta A4l at h;refine sr (SQ tt) ?_;apply seq;apply seq;obtain⟨M,U,h⟩:=bindS h;refine rg (SQ (fa (cl [(500,500)] (A5t a0 M U)) tt)) ?_;apply A0;refine ghost (mp [] [(1,pt 1001),(2,pt 1002),(19,bo (!M))] [(500,some (.know (globD 0 (.imap gv0)))),(1001,bd 26 (F3 a0)),(1002,some (.box 26 (.st Zz8)))] hB) ?_;apply AWp.cond rfl<;>intro N
 ·have h:=A4 N h;refine sr (SQ tt) ?_;apply ret;apply B6;obtain rfl:=oi h;exact rt (Mat.trans (Mat.coeP (Ts:=[]) (Bs:=[(1002,bd 26 (.st Zz6))]) TwT.nil (TwB.cons (x:=(.st Zz8)) (by rfl) (Tw.leaf ⟨_,Co.st (CoL.cons (Co.nils 22) (CoL.cons (Co.d _) CoL.nil)),rfl⟩) TwB.nil)) (Mat.trans (Mat.coeP (Ts:=[(3,C9 ([]:List A7))]) (Bs:=[]) (TwT.cons (x:=.nils) (by rfl) (Tw.leaf ⟨_,Co.nils 13,rfl⟩) TwT.nil) TwB.nil) (mp [] [(2,pt 1002),(3,C9 ([]:List A7)),(4,i6 1)] [(500,some (.know (globD 0 (.imap gv0)))),(1002,bd 26 (.st Zz6))] hB))) [.d (.st Zz6),C9 ([]:List A7),i6 1] (Res.cell (c:=(.d (.st Zz6))) (by rfl) (by rfl) tyS26 (by rfl) (by rfl) (by rfl) (rT (rT rN))) rfl
 ·have h:=A5 N h;apply AWp.skip;apply A0;apply seq;obtain⟨W,h⟩:=B2 h;obtain⟨C,X,h⟩:=bindS h;refine rg (SQ (fa W (fa (cl [(900000,100100)] (A1t ((a0.fPending.take ((minI (a0.fPending.length:Int) 64).toNat)).drop 0) C X)) tt))) ?_;apply A0;refine ghost (mp [] [(1,pt 1001),(2,pt 1002),(5,.sref 100100 22 0 C.length)] [(500,some (.know (globD 0 (.imap gv0)))),(1001,bd 26 (F3 a0)),(1002,some (.box 26 (.st Zz8))),(100100,some (B3 C))] hB) ?_;apply seq;obtain⟨F,Y,h⟩:=bindS h;obtain⟨O,h⟩:=B2 h;have lhc6:=of_decide_eq_true O;have hc6_o:=of_decide_eq_true O;refine rg (SQ (fa (cl [(0,100100)] (A15 C F Y)) tt)) ?_;apply A0;refine ghost (mp [] [(1,pt 1001),(2,pt 1002),(5,.sref 100100 22 0 C.length)] [(500,some (.know (globD 0 (.imap gv0)))),(1001,bd 26 (F3 a0)),(1002,some (.box 26 (.st Zz8))),(100100,some (B3 F))] hB) ?_;apply seq;refine ghost (Mat.freezeP (n:=100100) (e:=43) (sz:=22) (es:=F.map A8) (Ts:=[(5,A6 ((F.drop 0).take C.length))]) (Bs:=[]) (by rfl) (TwT.cons (x:=(.sref 100100 22 0 C.length)) (by rfl) (FrzL.cut (fs:=((F.drop 0).take C.length).map A8) (by simp only [List.length_map,List.length_append,List.length_take,List.length_drop,List.length_replicate,List.length_set];omega) (by first | rw [List.map_drop,List.map_take] | (simp [List.map_take,List.map_drop];done) | simp [List.take_of_length_le])) TwT.nil) TwB.nil) ?_
  obtain⟨t,Z,h⟩:=bindS h;refine rg (SQ (fa (cl [(500,500)] (A97 ((F.drop 0).take C.length) t Z)) tt)) ?_;apply A0;refine ghost (mp [] [(1,pt 1001),(2,pt 1002),(6,C9 t.1),(7,i6 t.2)] [(500,some (.know (globD 0 (.imap gv0)))),(1001,bd 26 (F3 a0)),(1002,some (.box 26 (.st Zz8)))] hB) ?_;apply seq;refine sr (SQ tt) ?_;apply AWp.cond rfl<;>intro P
  ·have h:=A4 P h;refine sr (SQ tt) ?_;apply ret;apply B6;obtain rfl:=oi h;exact rt (Mat.trans (Mat.coeP (Ts:=[]) (Bs:=[(1002,bd 26 (.st Zz6))]) TwT.nil (TwB.cons (x:=(.st Zz8)) (by rfl) (Tw.leaf ⟨_,Co.st (CoL.cons (Co.nils 22) (CoL.cons (Co.d _) CoL.nil)),rfl⟩) TwB.nil)) (Mat.trans (Mat.coeP (Ts:=[(3,C9 ([]:List A7))]) (Bs:=[]) (TwT.cons (x:=.nils) (by rfl) (Tw.leaf ⟨_,Co.nils 13,rfl⟩) TwT.nil) TwB.nil) (mp [] [(2,pt 1002),(3,C9 ([]:List A7)),(4,i6 t.2)] [(500,some (.know (globD 0 (.imap gv0)))),(1002,bd 26 (.st Zz6))] hB))) [.d (.st Zz6),C9 ([]:List A7),i6 t.2] (Res.cell (c:=(.d (.st Zz6))) (by rfl) (by rfl) tyS26 (by rfl) (by rfl) (by rfl) (rT (rT rN))) rfl
  ·have h:=A5 P h;apply AWp.skip;apply A0;apply seq;obtain⟨p,aa,h⟩:=bindS h;refine drS (SQ (fa (cl [(900000,100400)] (A1t a0.fPending p aa)) tt)) ?_;apply A0;refine ghost (mp [] [(2,pt 1002),(6,C9 t.1),(8,pt 1008)] [(500,some (.know (globD 0 (.imap gv0)))),(1002,some (.box 26 (.st Zz8))),(1008,some (.box 26 (.st [.sref 100400 22 0 p.length,.d (C8 a0.fBucket)]))),(100400,some (B3 p))] hB) ?_;refine sr (SQ tt) ?_;apply sr (cg (OpJ.mkmapQ hB (nm:=1046) (by decide) (L rfl)) rfl (cg (OpJ.allocJ hB tyJ82 (h1:=⟨rfl,rfl⟩) (nm:=1010) (by decide) (L rfl)) rfl (cg (sB tyS82 (q 10) (q 46)) rfl cn)));apply seq;refine sr (SQ tt) ?_;apply block;obtain⟨i,ab,h⟩:=bindS h;refine lg (A32 t) (fun s:Int×(List (A1×Bool))×(List A7)×F4=>([(2,pt 1002),(8,pt 1008),(9,.sref 3009 13 0 s.2.2.1.length),(10,pt 1010),(47,C9 t.1),(48,i6 (t.1.length:Int)),(49,i6 s.1)]:EL)) (fun s:Int×(List (A1×Bool))×(List A7)×F4=>([(500,some (.know (globD 0 (.imap gv0)))),(1002,some (.box 26 (.st Zz8))),(1008,some (.box 26 (.st [.sref 100400 22 0 p.length,.d (C8 s.2.2.2)]))),(1010,some (.box 82 (.mref 1046))),(1046,some (.blk (mapQ (mpairs B0 eB s.2.1)))),(3009,some (C1 s.2.2.1)),(100400,some (B3 p))]:OL)) (fun(i:((List (A1×Bool))×(List A7)×F4)) e G H=>e = .exit 0∧Mat B G H ([(2,pt 1002),(8,pt 1008),(9,.sref 3009 13 0 i.2.1.length),(10,pt 1010)]:EL) ([(500,some (.know (globD 0 (.imap gv0)))),(1002,some (.box 26 (.st Zz8))),(1008,some (.box 26 (.st [.sref 100400 22 0 p.length,.d (C8 i.2.2)]))),(1010,some (.box 82 (.mref 1046))),(1046,some (.blk (mapQ (mpairs B0 eB i.1)))),(3009,some (C1 i.2.1)),(100400,some (B3 p))]:OL)) ab (Mat.trans (Mat.beginP (n:=3009) (e:=71) (sz:=13) (Ts:=[(9,.sref 3009 13 0 0)]) (Bs:=[]) hB (by decide) (by rfl) (by decide) (TwT.cons (x:=.nils) (by rfl) (Tw.leaf ⟨rfl,rfl⟩) TwT.nil) TwB.nil) (mp [] _ _ hB)) (fun s y h => ?_) (fun e G H hR => ?_)
   ·unfold A32 at h;refine sr (SQ tt) ?_;apply seq;apply AWp.cond rfl<;>intro Q
    ·have h:=A4 Q h;apply AWp.skip;apply A0;apply seq;apply block;obtain⟨u,ac,h⟩:=bindS h;refine sr (SQ (fa ac tt)) ?_;obtain⟨J,ae,h⟩:=bindS h;refine sr (SQ (fa (cl [] (B33 s.2.2.2 J ae)) tt)) ?_;apply seq;refine sr (SQ tt) ?_;apply AWp.cond rfl<;>intro R
     ·have h:=A4 R h;apply AWp.exit;apply D7;refine B3a (by rfl) ?_;apply D7;obtain rfl:=oi h;exact⟨nofun,rfl,mp [] _ _ hB⟩
     ·have h:=A5 R h;apply AWp.skip;apply A0;refine sr (SQ tt) ?_;obtain⟨af,h⟩:=B2 h;refine sr (SQ (fa af tt)) ?_;apply seq;obtain⟨E,ag,h⟩:=bindS h;obtain⟨ah,h⟩:=B2 h;refine drS (SQ (fa (cl [(900000,100600)] (B11 u.fWithdraw E ag)) (fa ah tt))) ?_;apply A0;refine ghost (mp [] [(2,pt 1002),(8,pt 1008),(9,.sref 1066 13 0 ((s.2.2.1++[u]).length)),(10,pt 1010),(47,C9 t.1),(48,i6 (t.1.length:Int)),(49,i6 s.1),(72,.sref 1072 4 0 ((E++u.fAnnounce).length)),(73,i6 ((E++u.fAnnounce).length:Int)),(74,i6 0)] [(500,some (.know (globD 0 (.imap gv0)))),(1002,some (.box 26 (.st Zz8))),(1008,some (.box 26 (.st [.sref 100400 22 0 p.length,.d (C8 J.1)]))),(1010,some (.box 82 (.mref 1046))),(1046,some (.blk (mapQ (mpairs B0 eB s.2.1)))),(1066,some (C1 (s.2.2.1++[u]))),(1072,some (G0 (E++u.fAnnounce))),(100400,some (B3 p))] hB) ?_;apply block;obtain⟨S,ai,h⟩:=bindS h;refine lg (A31 u E) (fun I:Int×(List (A1×Bool))=>([(2,pt 1002),(8,pt 1008),(9,.sref 1066 13 0 ((s.2.2.1++[u]).length)),(10,pt 1010),(47,C9 t.1),(48,i6 (t.1.length:Int)),(49,i6 s.1),(72,.sref 1072 4 0 ((E++u.fAnnounce).length)),(73,i6 ((E++u.fAnnounce).length:Int)),(74,i6 I.1)]:EL)) (fun I:Int×(List (A1×Bool))=>([(500,some (.know (globD 0 (.imap gv0)))),(1002,some (.box 26 (.st Zz8))),(1008,some (.box 26 (.st [.sref 100400 22 0 p.length,.d (C8 J.1)]))),(1010,some (.box 82 (.mref 1046))),(1046,some (.blk (mapQ (mpairs B0 eB I.2)))),(1066,some (C1 (s.2.2.1++[u]))),(1072,some (G0 (E++u.fAnnounce))),(100400,some (B3 p))]:OL)) (fun(S:(List (A1×Bool))) e G H=>e = .exit 2∧Mat B G H ([(2,pt 1002),(8,pt 1008),(9,.sref 1066 13 0 ((s.2.2.1++[u]).length)),(10,pt 1010),(47,C9 t.1),(48,i6 (t.1.length:Int)),(49,i6 s.1)]:EL) ([(500,some (.know (globD 0 (.imap gv0)))),(1002,some (.box 26 (.st Zz8))),(1008,some (.box 26 (.st [.sref 100400 22 0 p.length,.d (C8 J.1)]))),(1010,some (.box 82 (.mref 1046))),(1046,some (.blk (mapQ (mpairs B0 eB S)))),(1066,some (C1 (s.2.2.1++[u]))),(100400,some (B3 p))]:OL)) ai (mp [] _ _ hB) (fun I y h => ?_) (fun e G H hR => ?_)
      ·unfold A31 at h;refine sr (SQ tt) ?_;apply seq;apply AWp.cond rfl<;>intro T
       ·have h:=A4 T h;apply AWp.skip;apply A0;apply seq;apply block;obtain⟨_,aj,h⟩:=bindS h;obtain⟨ak,al,h⟩:=bindS h;refine sr (SQ (fa aj (fa al tt))) ?_;apply rg (c (lb hN 82 _ _ tyS82 (At.here _) (q 10)) rfl (c (lb hN 33 _ _ tyS33 (At.here _) (q 16)) rfl (cg (OpJ.mputQ (g:=eB) (v:=true) (l:=I.2) (k:=ak) tyU82 underlying33 keyEq33 (q 78) (q 79) (Opd.bool true)) rfl cn)));apply D9;apply A0;refine rg (SQ tt) ?_;obtain rfl:=oi h;exact⟨rfl,mp [] _ _ hB⟩
       ·have h:=A5 T h;apply AWp.exit;apply D7;obtain rfl:=oi h;exact⟨nofun,rfl,mp [] _ _ hB⟩
      ·obtain⟨rfl,K⟩:=hR;apply C0;apply D9;apply A0;refine ghost K ?_;refine rg (SQ tt) ?_;obtain rfl:=oi h;exact⟨rfl,mp [(3009,1066)] _ _ hB⟩
    ·have h:=A5 Q h;apply AWp.exit;apply D7;obtain rfl:=oi h;exact⟨nofun,rfl,mp [] _ _ hB⟩
   ·obtain⟨rfl,K⟩:=hR;apply C0;apply A0;refine ghost K ?_;apply seq;obtain⟨A,am,h⟩:=bindS h;refine AWp.region (oc (ov (.ptr 1008 0 [0]) (fp hN underlying26 0 tyS22 (.box 26 (.st [.sref 100400 22 0 p.length,.d (C8 i.2.2)])) (ot 8 (pt 1008))))
     (oc (lb hN 26 (.st [.sref 100400 22 0 p.length,.d (C8 i.2.2)]) (.sref 100400 22 0 p.length) tyS22 (At.st1 (f:=(.sref 100400 22 0 p.length)) (by rfl) (by rfl) (At.here _) (by first | rfl | omega)) (ot 82 (.ptr 1008 0 [0])))
     (oc (OpJ.makeF (OpdL.cons (ot 10 (pt 1010)) OpdL.nil) rfl rfl (L rfl))
     (oc (OpJ.callFn hB fnOk49 (A7s p i.1 A am) [(0,100400),(1,1010),(2,1046)] (by kernel_rfl) (L rfl) (by kernel_rfl) (OpdL.cons (ot 83 (.sref 100400 22 0 p.length)) (OpdL.cons (ot 84 (.func 50 [pt 1010])) OpdL.nil)))
     (oc (ov (.ptr 1008 0 [0]) (fp hN underlying26 0 tyS22 (.box 26 (.st [.sref 100400 22 0 p.length,.d (C8 i.2.2)])) (ot 8 (pt 1008))))
     (oc (OpJ.storeB (bt:=26) (c:=(.st [.sref 100400 22 0 p.length,.d (C8 i.2.2)])) (v:=(A6 A)) (c':=(.st [A6 A,.d (C8 i.2.2)])) tyS22 (SetAt.st1 (f:=(.sref 100400 22 0 p.length)) (by rfl) (by rfl) (SetAt.here _ _) (by rfl) (by rfl) (by first | rfl | omega)) (by rfl) (by rfl) (by simp) rfl (ot 86 (.ptr 1008 0 [0])) (ot 85 (A6 A)))
     (OpJs.nil))))))) (by rfl) (by rfl) ?_
    apply A0;refine ghost (mp [] [(2,pt 1002),(8,pt 1008),(9,.sref 3009 13 0 i.2.1.length)] [(500,some (.know (globD 0 (.imap gv0)))),(1002,some (.box 26 (.st Zz8))),(1008,some (.box 26 (.st [A6 A,.d (C8 i.2.2)]))),(3009,some (C1 i.2.1))] hB) ?_;refine sr (SQ tt) ?_;apply ret;obtain rfl:=oi h;exact rt (Mat.trans (Mat.freezeP (n:=3009) (e:=71) (sz:=13) (es:=i.2.1.map E5) (Ts:=[(3,C9 i.2.1)]) (Bs:=[]) (by rfl) (TwT.cons (x:=(.sref 3009 13 0 i.2.1.length)) (by rfl) (FrzL.all (by first | rfl | (simp;done) | (simp;omega) | omega)) TwT.nil) TwB.nil) (Mat.trans (Mat.coeP (Ts:=[]) (Bs:=[(1002,bd 26 (.st [.list 22 (A.map A8),C8 i.2.2]))]) TwT.nil (TwB.cons (x:=(.st [A6 A,.d (C8 i.2.2)])) (by rfl) (Tw.leaf ⟨_,Co.st (CoL.cons (Co.d _) (CoL.cons (Co.d _) CoL.nil)),rfl⟩) TwB.nil)) (mp [] [(2,pt 1002),(3,C9 i.2.1),(4,i6 0)] [(500,some (.know (globD 0 (.imap gv0)))),(1002,bd 26 (.st [.list 22 (A.map A8),C8 i.2.2]))] hB))) [.d (.st [.list 22 (A.map A8),C8 i.2.2]),C9 i.2.1,i6 0] (Res.cell (c:=(.d (.st [.list 22 (A.map A8),C8 i.2.2]))) (by rfl) (by rfl) tyS26 (by rfl) (by rfl) (by rfl) (rT (rT rN))) rfl
def A6k (a0:F4):Option (F4):=
 some (F4.mk (minI (w64 (a0.fLevel+a0.fRate)) a0.fBurst) a0.fRate a0.fBurst)
theorem B34 (a0:F4) (r:F4) (h:A6k a0=some r):AC Tryz.prog 56 [.d (C8 a0)] [] (.d (C8 r)) []:=by
 refine AC.of_code2 Tryz.func56 rfl rfl (Nat.le_of_ble_eq_true (by rfl)) fun B hB hN => ?_;delta A6k at h;refine sr (SQ tt) ?_;refine sr (SQ tt) ?_;refine sr (SQ tt) ?_;apply ret;obtain rfl:=oi h;exact rt (kp [(2,_)] [(1002,some _)] hB rfl rfl (by rfl)) [.d (.st [.int .i64 (minI (w64 (a0.fLevel+a0.fRate)) a0.fBurst),.int .i64 a0.fRate,.int .i64 a0.fBurst])] (Res.cell (c:=(.d (.st [.int .i64 (minI (w64 (a0.fLevel+a0.fRate)) a0.fBurst),.int .i64 a0.fRate,.int .i64 a0.fBurst]))) (by rfl) (by rfl) tyS24 (by rfl) (by rfl) (by rfl) rN) rfl
def A68 (a0:E6):Option (E6):=
 (Z6 a0.fPending).bind fun i=>
 (A6k a0.fBucket).bind fun p=>
 some (E6.mk i p)
theorem B44 (a0:E6) (r:E6) (h:A68 a0=some r):AC Tryz.prog 22 [.d (F3 a0)] [] (.d (F3 r)) []:=by
 refine AC.of_code2 Tryz.func22 rfl rfl (Nat.le_of_ble_eq_true (by rfl)) fun B hB hN => ?_;delta A68 at h;refine sr (SQ tt) ?_;obtain⟨i,s,h⟩:=bindS h;obtain⟨p,t,h⟩:=bindS h;refine sdS (SQ (fa (cl [] (A67 a0.fPending i s)) (fa (cl [] (B34 a0.fBucket p t)) tt))) ?_;apply ret;obtain rfl:=oi h;exact rt (kp [(2,_)] [(1002,some _)] hB rfl rfl (by rfl)) [.d (.st [.list 22 (i.map A8),C8 p])] (Res.cell (c:=(.d (.st [.list 22 (i.map A8),C8 p]))) (by rfl) (by rfl) tyS26 (by rfl) (by rfl) (by rfl) rN) rfl
def A4m (a0:E6):Option (Bool):=
 some ((a0.fPending.length:Int)==0)
theorem A6l (a0:E6) (r:Bool) (h:A4m a0=some r):AC Tryz.prog 13 [.d (F3 a0)] [] (.d (.bool r)) []:=by
 refine AC.of_code2 Tryz.func13 rfl rfl (Nat.le_of_ble_eq_true (by rfl)) fun B hB hN => ?_;delta A4m at h;refine sr (SQ tt) ?_;refine sr (SQ tt) ?_;apply ret;obtain rfl:=oi h;exact rt (kp [(2,_)] [] hB rfl rfl (by rfl)) [bo ((a0.fPending.length:Int)==0)] (rT rN) rfl
def A33:Option (Bool):=
 (A4k (E6.mk ([]:List A2) (F4.mk 1 0 1)) ([A2.mk 0 (A1.mk (D1.mk false 0 0) 8) false (D4.mk (A1.mk (D1.mk false 0 0) 0) 0 (D3.mk 0 ([]:List B5) (D1.mk false 0 0) 0 0 0 ([]:List B7) ([]:List F5) ([]:List A3)))]:List A2)).bind fun p=>
 (A4l p.1).bind fun i=>
 jn (fun t:Bool=>
 some t) (fun s=>
 (if (((p.2==0)&&(i.2.2==0))&&((i.2.1.length:Int)==1))=true then
 (A4m i.1).bind fun u=>
 (if u=true then
 (A4m p.1).bind fun A=>
 s ((!A)&&(i.1.fBucket.fLevel==0))
 else
 s false)
 else
 s false))
theorem B12 (r:Bool) (h:A33=some r):AC Tryz.prog 6 [] Zz10 (.d (.bool r)) Zz4:=by
 refine ac2 Tryz.func6 rfl rfl fun B hB hN L => ?_;delta A33 at h;refine sr (SQ tt) ?_;apply seq;obtain⟨i,F,h⟩:=bindS h;refine rg (SQ (fa (cl [(500,500)] (A98 (E6.mk ([]:List A2) (F4.mk 1 0 1)) ([A2.mk 0 (A1.mk (D1.mk false 0 0) 8) false (D4.mk (A1.mk (D1.mk false 0 0) 0) 0 (D3.mk 0 ([]:List B5) (D1.mk false 0 0) 0 0 0 ([]:List B7) ([]:List F5) ([]:List A3)))]:List A2) i F)) tt)) ?_;apply A0;refine ghost (mp [] [(1,pt 1001),(2,i6 i.2)] [(500,some (.know (globD 0 (.imap gv0)))),(1001,bd 26 (F3 i.1))] hB) ?_;apply seq;obtain⟨p,G,h⟩:=bindS h;refine rg (SQ (fa (cl [(500,500)] (A99 i.1 p G)) tt)) ?_;apply A0;refine ghost (mp [] [(1,pt 1001),(2,i6 i.2),(3,pt 1003),(4,C9 p.2.1),(5,i6 p.2.2)] [(500,some (.know (globD 0 (.imap gv0)))),(1001,bd 26 (F3 i.1)),(1003,bd 26 (F3 p.1))] hB) ?_;apply seq;refine AWp.cut h (fun u:Bool=>([(0,bo u)]:EL)) (fun u:Bool=>(Zz4:OL)) (fun u h K M H => ?_) (fun N A h => ?_)
 ·apply A0;refine ghost H ?_;apply ret;obtain rfl:=oi h;exact rt (kp [(0,_)] [(500,some _)] hB rfl rfl (by rfl)) [bo u] (rT rN) rfl
 ·rcases bft (((i.2==0)&&(p.2.2==0))&&((p.2.1.length:Int)==1)) with s | s
  ·have h:=A4 s h;obtain⟨C,E,h⟩:=bindS h;rcases bft C with t | t
   ·have h:=A4 t h;obtain⟨I,J,h⟩:=bindS h;refine rg (SQ (fa s (fa (cl [] (A6l p.1 C E)) (fa t (fa (cl [] (A6l i.1 I J)) tt))))) ?_;exact A _ h _ _ (mp [] _ _ hB)
   ·have h:=A5 t h;refine rg (SQ (fa s (fa (cl [] (A6l p.1 C E)) (fa t tt)))) ?_;exact A _ h _ _ (mp [] _ _ hB)
  ·have h:=A5 s h;refine rg (SQ (fa s tt)) ?_;exact A _ h _ _ (mp [] _ _ hB)
def N5 (p:E6×(List A7)×Int) (i:Int):Option ((Unit⊕Unit)⊕Int):=
 (if (decide (i<(p.2.1.length:Int)))=true then
 (idx p.2.1 i).bind fun s=>
 (J9 s).bind fun t=>
 (if (!t)=true then
 some (.inl (.inl ()))
 else
 some (.inr (w64 (i+1))))
 else
 some (.inl (.inr ())))
def N6 (A:Int) (p:Int×Int×E6×B1):Option ((Unit⊕Int)⊕(Int×Int×E6×B1)):=
 (if (decide (p.2.1<(w64 (A+1))))=true then
 (G6 p.2.2.2 5).bind fun t=>
 (A4k p.2.2.1 t.1).bind fun s=>
 (if (s.2 != 0)=true then
 some (.inl (.inl ()))
 else
 (A4l s.1).bind fun i=>
 jn (fun C:Bool=>
 (if C=true then
 some (.inl (.inl ()))
 else
 (loop (N5 i) 0).bind fun E=>match E with
 | (.inl _)=>
  some (.inl (.inl ()))
 | (.inr _)=>
  (A68 i.1).bind fun F=>
  some (.inr (w64 (p.1+(i.2.1.length:Int)),w64 (p.2.1+1),F,t.2)))) (fun u=>
 (if ((i.2.2 != 0) || (i.1.fBucket.fLevel != (w64 (s.1.fBucket.fLevel-(i.2.1.length:Int)))))=true then
 u true
 else
 u (((decide (0<i.1.fBucket.fLevel))&&(decide ((s.1.fPending.length:Int)≤64)))&&(decide (0<(i.1.fPending.length:Int)))))))
 else
 some (.inl (.inr p.1)))
def A01 (a0:(List Int)) (a1:Int):Option (Bool):=
 (Q4 a0).bind fun t=>
 (A2h t).bind fun i=>
 (J6 a1 9).bind fun p=>
 (loop (N6 p) (0,0,i.1,i.2)).bind fun u=>match u with
 | (.inl _)=>
  some false
 | (.inr A)=>
  jn (fun C:Bool=>
  some C) (fun s=>
  (if (decide (A≤(w64 (i.1.fBucket.fBurst+(w64 ((w64 ((w64 (p+1))-1))*i.1.fBucket.fRate))))))=true then
  (A33).bind fun E=>
  s E
  else
  s false))
theorem A7t (a0:(List Int)) (a1:Int) (r:Bool) (h:A01 a0 a1=some r):AC Tryz.prog 5 [.d (.list 1 (a0.map (eI .i64))),.d (.int .i64 a1)] Zz10 (.d (.bool r)) Zz4:=by
 refine ac2 Tryz.func5 rfl rfl fun B hB hN L => ?_;delta A01 at h;refine sr (SQ tt) ?_;apply seq;obtain⟨J,W,h⟩:=bindS h;refine rg (SQ (fa (cl [(1005,100000)] (A5j a0 J W)) tt)) ?_;apply A0;refine ghost (mp [] [(1,i6 a1),(5,pt 100000)] [(500,some (.know (globD 0 (.imap gv0)))),(100000,bd 80 (B8 J))] hB) ?_;apply seq;obtain⟨p,X,h⟩:=bindS h;refine rg (SQ (fa (cl [(0,100000)] (B0r J p X)) tt)) ?_;apply A0;refine ghost (mp [] [(1,i6 a1),(5,pt 100000),(6,pt 1006)] [(500,some (.know (globD 0 (.imap gv0)))),(1006,bd 26 (F3 p.1)),(100000,bd 80 (B8 p.2))] hB) ?_;obtain⟨u,Y,h⟩:=bindS h;refine sr (SQ (fa (cl [] (A16 a1 9 u Y)) tt)) ?_;refine sdS (SQ tt) ?_;apply seq;refine sr (SQ tt) ?_;apply block;obtain⟨Z,aa,h⟩:=bindS h;refine lg (N6 u) (fun i:Int×Int×E6×B1=>([(5,pt 100000),(6,pt 1006),(7,i6 i.1),(8,i6 (w64 (u+1))),(9,i6 p.1.fBucket.fBurst),(10,i6 p.1.fBucket.fRate),(11,i6 i.2.1)]:EL)) (fun i:Int×Int×E6×B1=>([(500,some (.know (globD 0 (.imap gv0)))),(1006,bd 26 (F3 i.2.2.1)),(100000,bd 80 (B8 i.2.2.2))]:OL)) (fun(x:(Unit)⊕Int) e A C=>match x with | (.inl _p)=>e = .ret∧Mat B A C ([(4,bo false)]:EL) (Zz4:OL) | (.inr K)=>e = .exit 0∧Mat B A C ([(7,i6 K),(8,i6 (w64 (u+1))),(9,i6 p.1.fBucket.fBurst),(10,i6 p.1.fBucket.fRate)]:EL) (Zz4:OL)) aa (mp [] _ _ hB) (fun i y h => ?_) (fun e A C hR => ?_)
 ·unfold N6 at h;apply seq;refine sr (SQ tt) ?_;apply AWp.cond rfl<;>intro O
  ·have h:=A4 O h;apply AWp.skip;apply A0;apply seq;apply block;apply seq;obtain⟨E,ab,h⟩:=bindS h;obtain⟨F,ac,h⟩:=bindS h;refine drS (SQ (fa (cl [(0,100000)] (Q6 i.2.2.2 5 E ab)) (fa (cl [(500,500)] (A98 i.2.2.1 E.1 F ac)) tt))) ?_;apply A0;refine ghost (mp [] [(5,pt 100000),(6,pt 1006),(7,i6 i.1),(8,i6 (w64 (u+1))),(9,i6 p.1.fBucket.fBurst),(10,i6 p.1.fBucket.fRate),(11,i6 i.2.1),(12,pt 1012),(13,i6 F.2)] [(500,some (.know (globD 0 (.imap gv0)))),(1006,bd 26 (F3 i.2.2.1)),(1012,bd 26 (F3 F.1)),(100000,bd 80 (B8 E.2))] hB) ?_;apply seq;refine sr (SQ tt) ?_;apply AWp.cond rfl<;>intro P
   ·have h:=A4 P h;refine sr (SQ tt) ?_;apply ret;apply B6;apply E0;apply B6;obtain rfl:=oi h;exact⟨nofun,rfl,mp [] _ _ hB⟩
   ·have h:=A5 P h;apply AWp.skip;apply A0;apply seq;obtain⟨s,ae,h⟩:=bindS h;refine rg (SQ (fa (cl [(500,500)] (A99 F.1 s ae)) tt)) ?_;apply A0;refine ghost (mp [] [(5,pt 100000),(6,pt 1006),(7,i6 i.1),(8,i6 (w64 (u+1))),(9,i6 p.1.fBucket.fBurst),(10,i6 p.1.fBucket.fRate),(11,i6 i.2.1),(12,pt 1012),(13,i6 s.2.2),(14,pt 1014),(15,C9 s.2.1)] [(500,some (.know (globD 0 (.imap gv0)))),(1006,bd 26 (F3 i.2.2.1)),(1012,bd 26 (F3 F.1)),(1014,bd 26 (F3 s.1)),(100000,bd 80 (B8 E.2))] hB) ?_;apply seq;apply seq;refine AWp.cut h (fun M:Bool=>([(5,pt 100000),(6,pt 1006),(7,i6 i.1),(8,i6 (w64 (u+1))),(9,i6 p.1.fBucket.fBurst),(10,i6 p.1.fBucket.fRate),(11,i6 i.2.1),(14,pt 1014),(15,C9 s.2.1),(82,bo M)]:EL)) (fun M:Bool=>([(500,some (.know (globD 0 (.imap gv0)))),(1006,bd 26 (F3 i.2.2.1)),(1014,bd 26 (F3 s.1)),(100000,bd 80 (B8 E.2))]:OL)) (fun M h A C t => ?_) (fun ap Q h => ?_)
    ·apply A0;refine ghost t ?_;apply AWp.cond rfl<;>intro R
     ·have h:=A4 R h;refine sr (SQ tt) ?_;apply ret;apply B6;apply E0;apply B6;obtain rfl:=oi h;exact⟨nofun,rfl,mp [] _ _ hB⟩
     ·have h:=A5 R h;apply AWp.skip;apply A0;apply seq;refine sr (SQ tt) ?_;apply block;obtain⟨af,ag,h⟩:=bindS h;refine lg (N5 s) (fun N:Int=>([(5,pt 100000),(6,pt 1006),(7,i6 i.1),(8,i6 (w64 (u+1))),(9,i6 p.1.fBucket.fBurst),(10,i6 p.1.fBucket.fRate),(11,i6 i.2.1),(14,pt 1014),(15,C9 s.2.1),(83,C9 s.2.1),(84,i6 (s.2.1.length:Int)),(85,i6 N)]:EL)) (fun N:Int=>([(500,some (.know (globD 0 (.imap gv0)))),(1006,bd 26 (F3 i.2.2.1)),(1014,bd 26 (F3 s.1)),(100000,bd 80 (B8 E.2))]:OL)) (fun(x:(Unit)⊕Unit) e A C=>match x with | (.inl _p)=>e = .ret∧Mat B A C ([(4,bo false)]:EL) (Zz4:OL) | (.inr _p)=>e = .exit 2∧Mat B A C ([(5,pt 100000),(6,pt 1006),(7,i6 i.1),(8,i6 (w64 (u+1))),(9,i6 p.1.fBucket.fBurst),(10,i6 p.1.fBucket.fRate),(11,i6 i.2.1),(14,pt 1014),(15,C9 s.2.1)]:EL) ([(500,some (.know (globD 0 (.imap gv0)))),(1006,bd 26 (F3 i.2.2.1)),(1014,bd 26 (F3 s.1)),(100000,bd 80 (B8 E.2))]:OL)) ag (mp [] _ _ hB) (fun N y h => ?_) (fun e A C hR => ?_)
      ·unfold N5 at h;refine sr (SQ tt) ?_;apply seq;apply AWp.cond rfl<;>intro S
       ·have h:=A4 S h;apply AWp.skip;apply A0;apply seq;apply block;obtain⟨ah,ai,h⟩:=bindS h;refine sr (SQ (fa ai tt)) ?_;obtain⟨aj,ak,h⟩:=bindS h;refine sr (SQ (fa (cl [] (A46 ah aj ak)) tt)) ?_;apply AWp.cond rfl<;>intro T
        ·have h:=A4 T h;refine sr (SQ tt) ?_;apply ret;apply E0;apply B6;obtain rfl:=oi h;exact⟨nofun,rfl,mp [] _ _ hB⟩
        ·have h:=A5 T h;apply AWp.skip;apply D9;apply A0;refine rg (SQ tt) ?_;obtain rfl:=oi h;exact⟨rfl,mp [] _ _ hB⟩
       ·have h:=A5 S h;apply AWp.exit;apply D7;obtain rfl:=oi h;exact⟨nofun,rfl,mp [] _ _ hB⟩
      ·rcases af with _ | _
       ·obtain⟨rfl,t⟩:=hR;apply E0;apply B6;apply E0;apply B6;obtain rfl:=oi h;exact⟨nofun,rfl,Mat.trans t (mp [] _ _ hB)⟩
       ·obtain⟨rfl,t⟩:=hR;apply C0;apply A0;refine ghost t ?_;refine sr (SQ tt) ?_;obtain⟨al,am,h⟩:=bindS h;refine rg (SQ (fa (cl [] (B44 s.1 al am)) tt)) ?_;apply D9;apply A0;refine rg (SQ tt) ?_;obtain rfl:=oi h;exact⟨rfl,mp [] _ _ hB⟩
    ·rcases bft ((s.2.2 != 0) || (s.1.fBucket.fLevel != (w64 (F.1.fBucket.fLevel-(s.2.1.length:Int))))) with G | G
     ·have h:=A4 G h;refine rg (SQ (fa G tt)) ?_;exact Q _ h _ _ (mp [] _ _ hB)
     ·have h:=A5 G h;refine rg (SQ (fa G tt)) ?_;exact Q _ h _ _ (mp [] _ _ hB)
  ·have h:=A5 O h;apply AWp.exit;apply D7;obtain rfl:=oi h;exact⟨nofun,rfl,mp [] _ _ hB⟩
 ·rcases Z with _ | K
  ·obtain⟨rfl,t⟩:=hR;apply E0;apply B6;obtain rfl:=oi h;exact rt (Mat.trans t (mp [] [(4,bo false)] Zz4 hB)) [bo false] (rT rN) rfl
  ·obtain⟨rfl,t⟩:=hR;apply C0;apply A0;refine ghost t ?_;apply seq;refine AWp.cut h (fun I:Bool=>([(4,bo I)]:EL)) (fun I:Bool=>(Zz4:OL)) (fun I h A C t => ?_) (fun aq U h => ?_)
   ·apply A0;refine ghost t ?_;apply ret;obtain rfl:=oi h;exact rt (kp [(4,_)] [(500,some _)] hB rfl rfl (by rfl)) [bo I] (rT rN) rfl
   ·rcases bft (decide (K≤(w64 (p.1.fBucket.fBurst+(w64 ((w64 ((w64 (u+1))-1))*p.1.fBucket.fRate)))))) with H | H
    ·have h:=A4 H h;obtain⟨an,ao,h⟩:=bindS h;refine rg (SQ (fa H (fa (cl [(500,500)] (B12  an ao)) tt))) ?_;exact U _ h _ _ (mp [] _ _ hB)
    ·have h:=A5 H h;refine rg (SQ (fa H tt)) ?_;exact U _ h _ _ (mp [] _ _ hB)
end
end Go.Proofs.YtplbaenjbihekaaGreatDoor
