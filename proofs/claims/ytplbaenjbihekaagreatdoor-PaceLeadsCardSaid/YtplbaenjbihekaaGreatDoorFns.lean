/- Printed by gen.py: the Go functions as plain functions, and that the code does what they say. -/
import Derived.Test.YtplbaenjbihekaaGreatDoorChecked
import Derived.Test.YtplbaenjbihekaaGreatDoorVcYB
import Derived.Test.YtplbaenjbihekaaGreatDoorVcZ
import Derived.Test.YtplbaenjbihekaaGreatDoorVcGC
import Derived.KernelRfl
import Derived.Test.YtplbaenjbihekaaGreatDoorVcMD
import Derived.Test.YtplbaenjbihekaaGreatDoorVcMQ
import Derived.Test.YtplbaenjbihekaaGreatDoorVcSG
import Derived.Test.YtplbaenjbihekaaGreatDoorFnsE
import Derived.Test.YtplbaenjbihekaaGreatDoorExt
import Derived.Test.YtplbaenjbihekaaGreatDoorVcPm
import Derived.Test.YtplbaenjbihekaaGreatDoorVcRg
import Derived.Test.YtplbaenjbihekaaGreatDoorVcSt
import Derived.Test.YtplbaenjbihekaaGreatDoorVcMR
import Derived.Test.YtplbaenjbihekaaGreatDoorVcFu
namespace Go.Proofs.YtplbaenjbihekaaGreatDoor
open Go Go.Vc
open Tryz
open Go.Vc.OpJ (assign alloc lss pickT pickF extract lenD indexD loadD eqlI gtr callVal leq geq loadR nilP indexS buildSlice lenS fieldD neqI pickAnd pickOr)
open Go.Vc.AWp (seq ghost ret block)
set_option maxHeartbeats 4000000
set_option maxRecDepth 100000
noncomputable section
def Z2 (a0:(List B2)):Option (Int×Bool) :=
 jn (fun m5:Bool =>
 (if m5=true then
 some (0,false)
 else
 (idx a0 0).bind fun x8 =>
 (idx x8.fASNs 0).bind fun x9 =>
 some (x9,true))) (fun j6 =>
 (A0j a0).bind fun r10 =>
 (if ((!r10) || ((a0.length:Int)==0))=true then
 j6 true
 else
 (idx a0 0).bind fun x12 =>
 j6 x12.fSet))
theorem A7s (a0:(List B2)) (r:Int×Bool) (h:Z2 a0=some r):AC Tryz.prog 59 [(.d (.list 2 (a0.map B4)))] [] (.tup [(.d (.int .i64 r.1)),(.d (.bool r.2))]) []:=by
 refine ac2 Tryz.func59 rfl rfl fun B hB hN L => ?_
 delta Z2 at h
 apply sr (c (assign (L rfl) (ii 0)) rfl (c (assign (L rfl) (Opd.bool false)) rfl cn))
 apply seq
 apply seq
 refine AWp.cut h (fun m5:Bool=>([(0,(D0 a0)),(17,(bo m5))]:EL)) (fun m5:Bool=>([]:OL)) (fun m5 h E' O' hmat => ?_) (fun j6 hjj6 h => ?_)
 ·apply A3
  refine ghost hmat ?_
  apply AWp.cond rfl<;>intro hg7
  ·have h:=B6 hg7 h
   apply sr (c (assign (L rfl) (ii 0)) rfl (c (assign (L rfl) (Opd.bool false)) rfl cn))
   apply ret
   apply D4
   obtain rfl:=oi h
   exact rt (kp [(2,_),(3,_)] [] hB rfl rfl (by rfl)) [(i6 0),(bo false)] (rT (rT rN)) rfl
  ·have h:=B7 hg7 h
   apply AWp.skip
   apply A3
   obtain⟨_,hx8,h⟩:=bindS h
   obtain⟨x9,hx9,h⟩:=bindS h
   apply sr (c (mv hN (q 0)) rfl (c (indexD underlying34 tyS75 (A4 hx8).1 (C8 B4 (A4 hx8).2) (L rfl) (q 18) (ii 0)) rfl (c (fieldD underlying75 (by rfl) (o:=1) (by rfl) tyS27 (by decide) (by rfl) (by rfl) (L rfl) (q 19)) rfl (c (loadD tyS27 (by rfl) (by rfl) (L rfl) (q 20)) rfl (c (indexD underlying27 tyS3 (A4 hx9).1 (C8 (eI .i64) (A4 hx9).2) (L rfl) (q 21) (ii 0)) rfl (c (loadD tyS3 (by rfl) (by rfl) (L rfl) (q 22)) rfl (c (assign (L rfl) (q 23)) rfl (c (assign (L rfl) (Opd.bool true)) rfl cn))))))))
   apply ret
   obtain rfl:=oi h
   exact rt (kp [(2,_),(3,_)] [] hB rfl rfl (by rfl)) [(i6 x9),(bo true)] (rT (rT rN)) rfl
 ·obtain⟨r10,hr10,h⟩:=bindS h
  rcases bft ((!r10) || ((a0.length:Int)==0)) with hg11 | hg11
  ·have h:=B6 hg11 h
   apply rg (c (mv hN (q 0)) rfl (cg (cf hB fnOk83 (A3z a0 r10 hr10) (L rfl) (OpdL.cons (q 4) OpdL.nil)) rfl (c (OpJ.not (L rfl) (q 5)) rfl (c (mv hN (q 6)) rfl (c (oq hN 7 (mv hN (q 0)) (OptL.keep (by rfl) OptL.nil) (GuardV.plain _)) rfl (c (oq hN 7 (OpJ.val (v':=(i6 (a0.length:Int))) (by simp) (lenD underlying34 (L rfl) (q 8))) (OptL.opt OptL.nil) (GuardV.plain _)) rfl (c (oq hN 7 (eqlI (L rfl) (q 9) (ii 0)) (OptL.opt OptL.nil) (GuardV.plain _)) rfl (c (pickOr rfl (L rfl) (q 7) (q 10)) rfl (c (OpJ.val (v':=.d (.bool true)) (by rw [hg11]<;>rfl) (mv hN (q 11))) rfl (ks 12 (L rfl) (ks 12 (L rfl) (ks 12 (L rfl) (ks 12 (L rfl) (c (pickT (L rfl) (q 12) (Opd.bool true)) rfl cn))))))))))))))
   exact hjj6 _ h _ _ (mp [] _ _ hB)
  ·have h:=B7 hg11 h
   obtain⟨_,hx12,h⟩:=bindS h
   apply rg (c (mv hN (q 0)) rfl (cg (cf hB fnOk83 (A3z a0 r10 hr10) (L rfl) (OpdL.cons (q 4) OpdL.nil)) rfl (c (OpJ.not (L rfl) (q 5)) rfl (c (mv hN (q 6)) rfl (c (oq hN 7 (mv hN (q 0)) (OptL.keep (by rfl) OptL.nil) (GuardV.plain _)) rfl (c (oq hN 7 (OpJ.val (v':=(i6 (a0.length:Int))) (by simp) (lenD underlying34 (L rfl) (q 8))) (OptL.opt OptL.nil) (GuardV.plain _)) rfl (c (oq hN 7 (eqlI (L rfl) (q 9) (ii 0)) (OptL.opt OptL.nil) (GuardV.plain _)) rfl (c (pickOr rfl (L rfl) (q 7) (q 10)) rfl (c (OpJ.val (v':=.d (.bool false)) (by rw [hg11]<;>rfl) (mv hN (q 11))) rfl (c (gd 12 (mv hN (q 0))) rfl (c (gd 12 (indexD underlying34 tyS75 (A4 hx12).1 (C8 B4 (A4 hx12).2) (L rfl) (q 13) (ii 0))) rfl (c (gd 12 (fieldD underlying75 (by rfl) (o:=0) (by rfl) tyS4 (by decide) (by rfl) (by rfl) (L rfl) (q 14))) rfl (c (gd 12 (loadD tyS4 (by rfl) (by rfl) (L rfl) (q 15))) rfl (c (pickF (L rfl) (q 12) (q 16)) rfl cn))))))))))))))
   exact hjj6 _ h _ _ (mp [] _ _ hB)
def O6 (a1:Int) (x76:C9) (s77:Int×(List A1)):Option ((((List A1)))⊕(Int×(List A1))) :=
 (if (decide (s77.1<(x76.fWithdraw.length:Int)))=true then
 (idx x76.fWithdraw s77.1).bind fun x86 =>
 chk (decide ((s77.2++([(A1.mk a1 x86 false (B3.mk (A0.mk (E7.mk false 0 0) 0) 0 (D9.mk 0 ([]:List B2) (E7.mk false 0 0) 0 0 0 ([]:List C6) ([]:List G0) ([]:List A7))))]:List A1)).length≤LIM)) <|
 some (.inr ((w64 (s77.1+1)),(s77.2++([(A1.mk a1 x86 false (B3.mk (A0.mk (E7.mk false 0 0) 0) 0 (D9.mk 0 ([]:List B2) (E7.mk false 0 0) 0 0 0 ([]:List C6) ([]:List G0) ([]:List A7))))]:List A1))))
 else
 some (.inl s77.2))
def O7 (a1:Int) (x76:C9) (s90:Int×(List A1)):Option ((((List A1)))⊕(Int×(List A1))) :=
 (if (decide (s90.1<(x76.fAnnounce.length:Int)))=true then
 (idx x76.fAnnounce s90.1).bind fun x103 =>
 (Z2 x76.fAttrs.fPath).bind fun r104 =>
 (K0 x76.fAttrs).bind fun r105 =>
 chk (decide ((s90.2++[(A1.mk a1 x103 true (B3.mk x103 r104.1 r105))]).length≤LIM)) <|
 some (.inr ((w64 (s90.1+1)),(s90.2++[(A1.mk a1 x103 true (B3.mk x103 r104.1 r105))])))
 else
 some (.inl s90.2))
def S8 (a0:(List C9)) (a1:Int) (s1:Int×(List A1)):Option ((((List A1)))⊕(Int×(List A1))) :=
 (if (decide (s1.1<(a0.length:Int)))=true then
 (idx a0 s1.1).bind fun x76 =>
 (loop (O6 a1 x76) (0,s1.2)).bind fun p84 =>
 (loop (O7 a1 x76) (0,p84)).bind fun p101 =>
 some (.inr ((w64 (s1.1+1)),p101))
 else
 some (.inl s1.2))
def R5 (a0:(List C9)) (a1:Int):Option ((List A1)) :=
 (loop (S8 a0 a1) (0,([]:List A1))).bind fun p74 =>
 some p74
theorem A3j (a0:(List C9)) (a1:Int) (r:(List A1)) (h:R5 a0 a1=some r):AC Tryz.prog 27 [(.d (.list 13 (a0.map B9))),(.d (.int .i64 a1))] [] (.d (.list 22 (r.map A6))) []:=by
 refine ac2 Tryz.func27 rfl rfl fun B hB hN L => ?_
 delta R5 at h
 apply sr (c (assign (L rfl) Opd.nils) rfl cn)
 apply sr (c (assign (L rfl) Opd.nils) rfl cn)
 apply seq
 apply sr (c (mv hN (q 0)) rfl (c (OpJ.val (v':=(i6 (a0.length:Int))) (by simp) (lenD underlying57 (L rfl) (q 14))) rfl (c (mv hN (ii 0)) rfl cn)))
 apply block
 obtain⟨p74,hx110,h⟩:=bindS h
 refine lg (S8 a0 a1) (fun s1:Int×(List A1)=>([(1,(i6 a1)),(5,(.sref 3005 22 0 s1.2.length)),(14,(B8 a0)),(15,(i6 (a0.length:Int))),(16,(i6 s1.1))]:EL)) (fun s1:Int×(List A1)=>([(3005,some (C3 s1.2))]:OL)) (fun(p74:((List A1))) e E' O'=>e = .exit 0∧Mat B E' O' ([(5,(.sref 3005 22 0 p74.length))]:EL) ([(3005,some (C3 p74))]:OL)) hx110 (Mat.trans (Mat.beginP (n:=3005) (e:=43) (sz:=22) (Ts:=[(5,(.sref 3005 22 0 0))]) (Bs:=[]) hB (by decide) (by rfl) (by decide) (TwT.cons (x:=.nils) (by rfl) (Tw.leaf ⟨rfl,rfl⟩) TwT.nil) TwB.nil) (mp [] _ _ hB)) (fun s1 y h => ?_) (fun e E' O' hR => ?_)
 ·unfold S8 at h
  apply sr (c (lss (L rfl) (q 16) (q 15)) rfl cn)
  apply seq
  apply AWp.cond rfl<;>intro hg75
  ·have h:=B6 hg75 h
   apply AWp.skip
   apply A3
   apply seq
   apply block
   obtain⟨x76,hx76,h⟩:=bindS h
   apply sr (c (indexD underlying57 tyS71 (A4 hx76).1 (C8 B9 (A4 hx76).2) (L rfl) (q 14) (q 16)) rfl (c (loadD tyS71 (by rfl) (by rfl) (L rfl) (q 18)) rfl (cg (alloc hB tyZ71 (nm:=1007) (by decide) (L rfl)) rfl (cg (sB tyS71 (q 7) (q 19)) rfl cn))))
   apply seq
   apply sr (c (fo 1007 0 [0] hN underlying71 0 tyS69 (q 7)) rfl (c (la hN 71 tyS69 (q 20)) rfl (c (OpJ.val (v':=(i6 (x76.fWithdraw.length:Int))) (by simp) (lenD underlying69 (L rfl) (q 21))) rfl (c (mv hN (ii 0)) rfl cn))))
   apply block
   obtain⟨p84,hx89,h⟩:=bindS h
   refine lg (O6 a1 x76) (fun s77:Int×(List A1)=>([(1,(i6 a1)),(5,(.sref 3005 22 0 s77.2.length)),(7,(pt 1007)),(14,(B8 a0)),(15,(i6 (a0.length:Int))),(16,(i6 s1.1)),(21,(C1 x76.fWithdraw)),(22,(i6 (x76.fWithdraw.length:Int))),(23,(i6 s77.1))]:EL)) (fun s77:Int×(List A1)=>([(1007,bd 71 (B9 x76)),(3005,some (C3 s77.2))]:OL)) (fun(p84:((List A1))) e E' O'=>e = .exit 2∧Mat B E' O' ([(1,(i6 a1)),(5,(.sref 3005 22 0 p84.length)),(7,(pt 1007)),(14,(B8 a0)),(15,(i6 (a0.length:Int))),(16,(i6 s1.1))]:EL) ([(1007,bd 71 (B9 x76)),(3005,some (C3 p84))]:OL)) hx89 (mp [] _ _ hB) (fun s77 y h => ?_) (fun e E' O' hR => ?_)
   ·unfold O6 at h
    apply sr (c (lss (L rfl) (q 23) (q 22)) rfl cn)
    apply seq
    apply AWp.cond rfl<;>intro hg85
    ·have h:=B6 hg85 h
     apply AWp.skip
     apply A3
     apply seq
     apply block
     obtain⟨x86,hx86,h⟩:=bindS h
     apply sr (c (indexD underlying69 tyS33 (A4 hx86).1 (C8 A2 (A4 hx86).2) (L rfl) (q 21) (q 23)) rfl (c (loadD tyS33 (by rfl) (by rfl) (L rfl) (q 25)) rfl (cg (alloc hB tyZ33 (nm:=1009) (by decide) (L rfl)) rfl (cg (sB tyS33 (q 9) (q 26)) rfl cn))))
     obtain⟨hc87,h⟩:=D3 h
     apply rg (c (mv hN (q 5)) rfl (c (mv hN (q 1)) rfl (c (lb hN 33 _ _ tyS33 (At.here _) (q 9)) rfl (c (OpJ.build (places:=[(0,1),(1,4),(5,1),(6,16)]) ⟨underlying43,fun w=>by kernel_rfl⟩ tyZS43 (Opds.cons (q 28) (Opds.cons (q 29) Opds.nil)) (by kernel_rfl) (r:=(.st [(i6 a1),(.d (A2 x86)),(bo false),(.st [(.d (.st [(.st [(.bool false),(.int .u64 0),(.int .u64 0)]),(.int .i64 0)])),(i6 0),(.st [(i6 0),.nils,(.d (.st [(.bool false),(.int .u64 0),(.int .u64 0)])),(i6 0),(i6 0),(i6 0),.nils,.nils,.nils])])])) (by rfl) (L rfl)) rfl (c (buildSlice underlying22 tyS43 tyZD43 (by rfl) (by decide) (by decide) (Opds.cons (Opd.co (Co.st (CoL.cons (Co.d _) (CoL.cons (Co.d _) (CoL.cons (Co.d _) (CoL.cons (Co.st (CoL.cons (Co.d _) (CoL.cons (Co.d _) (CoL.cons (Co.st (CoL.cons (Co.d _) (CoL.cons (Co.nils 2) (CoL.cons (Co.d _) (CoL.cons (Co.d _) (CoL.cons (Co.d _) (CoL.cons (Co.d _) (CoL.cons (Co.nils 2) (CoL.cons (Co.nils 3) (CoL.cons (Co.nils 3) CoL.nil)))))))))) CoL.nil)))) CoL.nil))))) (q 30)) Opds.nil) (by kernel_rfl) (es:=([(.st [(.int .i64 a1),(A2 x86),(.bool false),(.st [(.st [(.st [(.bool false),(.int .u64 0),(.int .u64 0)]),(.int .i64 0)]),(.int .i64 0),(.st [(.int .i64 0),(.list 2 (([]:List B2).map B4)),(.st [(.bool false),(.int .u64 0),(.int .u64 0)]),(.int .i64 0),(.int .i64 0),(.int .i64 0),(.list 2 (([]:List C6).map B1)),(.list 3 (([]:List G0).map C7)),(.list 3 (([]:List A7).map A5))])])])]:List D)) (by rfl) (by rfl) (by kernel_rfl) (by simp) (L rfl)) rfl (cg (apd hB underlying22 tyE43 1032 A6 s77.2 ([(A1.mk a1 x86 false (B3.mk (A0.mk (E7.mk false 0 0) 0) 0 (D9.mk 0 ([]:List B2) (E7.mk false 0 0) 0 0 0 ([]:List C6) ([]:List G0) ([]:List A7))))]:List A1) hc87 (L rfl) (q 27) (q 31)) rfl (c (assign (L rfl) (q 32)) rfl cn)))))))
     apply F8
     apply A3
     apply rg (c (add6 (L rfl) (q 23) (ii 1)) rfl (c (mv hN (q 33)) rfl cn))
     obtain rfl:=oi h
     exact⟨rfl,(mp [(3005,1032)] _ _ hB)⟩
    ·have h:=B7 hg85 h
     apply AWp.exit
     apply F6
     obtain rfl:=oi h
     exact⟨(fun hc=>by cases hc),rfl,(mp [] _ _ hB)⟩
   ·obtain⟨rfl,hmat⟩:=hR
    apply E4
    apply A3
    refine ghost hmat ?_
    apply sr (c (fo 1007 12 [2] hN underlying71 12 tyS69 (q 7)) rfl (c (la hN 71 tyS69 (q 34)) rfl (c (OpJ.val (v':=(i6 (x76.fAnnounce.length:Int))) (by simp) (lenD underlying69 (L rfl) (q 35))) rfl (c (mv hN (ii 0)) rfl cn))))
    apply block
    obtain⟨p101,hx108,h⟩:=bindS h
    refine lg (O7 a1 x76) (fun s90:Int×(List A1)=>([(1,(i6 a1)),(5,(.sref 3005 22 0 s90.2.length)),(7,(pt 1007)),(14,(B8 a0)),(15,(i6 (a0.length:Int))),(16,(i6 s1.1)),(35,(C1 x76.fAnnounce)),(36,(i6 (x76.fAnnounce.length:Int))),(37,(i6 s90.1))]:EL)) (fun s90:Int×(List A1)=>([(1007,bd 71 (B9 x76)),(3005,some (C3 s90.2))]:OL)) (fun(p101:((List A1))) e E' O'=>e = .exit 4∧Mat B E' O' ([(1,(i6 a1)),(5,(.sref 3005 22 0 p101.length)),(14,(B8 a0)),(15,(i6 (a0.length:Int))),(16,(i6 s1.1))]:EL) ([(3005,some (C3 p101))]:OL)) hx108 (mp [] _ _ hB) (fun s90 y h => ?_) (fun e E' O' hR => ?_)
    ·unfold O7 at h
     apply sr (c (lss (L rfl) (q 37) (q 36)) rfl cn)
     apply seq
     apply AWp.cond rfl<;>intro hg102
     ·have h:=B6 hg102 h
      apply AWp.skip
      apply A3
      apply seq
      apply block
      obtain⟨x103,hx103,h⟩:=bindS h
      apply sr (c (indexD underlying69 tyS33 (A4 hx103).1 (C8 A2 (A4 hx103).2) (L rfl) (q 35) (q 37)) rfl (c (loadD tyS33 (by rfl) (by rfl) (L rfl) (q 39)) rfl (cg (alloc hB tyZ33 (nm:=1011) (by decide) (L rfl)) rfl (cg (sB tyS33 (q 11) (q 40)) rfl cn))))
      obtain⟨r104,hr104,h⟩:=bindS h
      apply sr (c (fo 1007 1 [1] hN underlying71 1 tyS39 (q 7)) rfl (c (fo 1007 2 [1,1] hN underlying39 1 tyS34 (q 42)) rfl (c (lb hN 71 _ _ tyS34 (At.dst1 (by rfl) (by rfl) (ad _) (by first | rfl | omega)) (q 43)) rfl (cg (cf hB fnOk59 (A7s x76.fAttrs.fPath r104 hr104) (L rfl) (OpdL.cons (q 44) OpdL.nil)) rfl (c (mv hN (q 45)) rfl (c (extract (by rfl) rfl (L rfl) (q 41)) rfl (c (extract (by rfl) rfl (L rfl) (q 41)) rfl (c (assign (L rfl) (q 46)) rfl (c (assign (L rfl) (q 47)) rfl cn)))))))))
      obtain⟨r105,hr105,h⟩:=bindS h
      obtain⟨hc106,h⟩:=D3 h
      apply dr (c (mv hN (q 5)) rfl (c (mv hN (q 1)) rfl (c (lb hN 33 _ _ tyS33 (At.here _) (q 11)) rfl (c (lb hN 33 _ _ tyS33 (At.here _) (q 11)) rfl (c (mv hN (q 12)) rfl (c (fo 1007 1 [1] hN underlying71 1 tyS39 (q 7)) rfl (c (la hN 71 tyS39 (q 53)) rfl (cg (cf hB fnOk60 (A20 x76.fAttrs r105 hr105) (L rfl) (OpdL.cons (q 54) OpdL.nil)) rfl (c (OpJ.coe (v:=(.st [(.d (A2 x103)),(i6 r104.1),(.d (A8 r105))])) (y:=(.st [(A2 x103),(.int .i64 r104.1),(A8 r105)])) (Co.st (CoL.cons (Co.d _) (CoL.cons (Co.d _) (CoL.cons (Co.d _) CoL.nil)))) rfl (OpJ.build (places:=[(0,4),(4,1),(5,11)]) ⟨underlying41,fun w=>by kernel_rfl⟩ tyZS41 (Opds.cons (q 51) (Opds.cons (q 52) (Opds.cons (q 55) Opds.nil))) (by kernel_rfl) (r:=(.st [(.d (A2 x103)),(i6 r104.1),(.d (A8 r105))])) (by rfl) (L rfl))) rfl (c (OpJ.coe (v:=(.st [(i6 a1),(.d (A2 x103)),(bo true),(.d (.st [(A2 x103),(.int .i64 r104.1),(A8 r105)]))])) (y:=(.st [(.int .i64 a1),(A2 x103),(.bool true),(.st [(A2 x103),(.int .i64 r104.1),(A8 r105)])])) (Co.st (CoL.cons (Co.d _) (CoL.cons (Co.d _) (CoL.cons (Co.d _) (CoL.cons (Co.d _) CoL.nil))))) rfl (OpJ.build (places:=[(0,1),(1,4),(5,1),(6,16)]) ⟨underlying43,fun w=>by kernel_rfl⟩ tyZS43 (Opds.cons (q 49) (Opds.cons (q 50) (Opds.cons (Opd.bool true) (Opds.cons (q 56) Opds.nil)))) (by kernel_rfl) (r:=(.st [(i6 a1),(.d (A2 x103)),(bo true),(.d (.st [(A2 x103),(.int .i64 r104.1),(A8 r105)]))])) (by rfl) (L rfl))) rfl (c (buildSlice underlying22 tyS43 tyZD43 (by rfl) (by decide) (by decide) (Opds.cons (q 57) Opds.nil) (by kernel_rfl) (es:=([(.st [(.int .i64 a1),(A2 x103),(.bool true),(.st [(A2 x103),(.int .i64 r104.1),(A8 r105)])])]:List D)) (by rfl) (by rfl) (by kernel_rfl) (by simp) (L rfl)) rfl (cg (apd hB underlying22 tyE43 1059 A6 s90.2 [(A1.mk a1 x103 true (B3.mk x103 r104.1 r105))] hc106 (L rfl) (q 48) (q 58)) rfl (c (assign (L rfl) (q 59)) rfl cn))))))))))))) (by kernel_rfl) (by kernel_rfl)
      apply F8
      apply A3
      apply rg (c (add6 (L rfl) (q 37) (ii 1)) rfl (c (mv hN (q 60)) rfl cn))
      obtain rfl:=oi h
      exact⟨rfl,(mp [(3005,1059)] _ _ hB)⟩
     ·have h:=B7 hg102 h
      apply AWp.exit
      apply F6
      obtain rfl:=oi h
      exact⟨(fun hc=>by cases hc),rfl,(mp [] _ _ hB)⟩
    ·obtain⟨rfl,hmat⟩:=hR
     apply E4
     apply F8
     apply A3
     refine ghost hmat ?_
     apply rg (c (add6 (L rfl) (q 16) (ii 1)) rfl (c (mv hN (q 61)) rfl cn))
     obtain rfl:=oi h
     exact⟨rfl,(mp [] _ _ hB)⟩
  ·have h:=B7 hg75 h
   apply AWp.exit
   apply F6
   obtain rfl:=oi h
   exact⟨(fun hc=>by cases hc),rfl,(mp [] _ _ hB)⟩
 ·obtain⟨rfl,hmat⟩:=hR
  apply E4
  apply A3
  refine ghost hmat ?_
  apply sr (c (mv hN (q 5)) rfl (c (assign (L rfl) (q 62)) rfl cn))
  apply ret
  obtain rfl:=oi h
  exact rt (Mat.trans (Mat.freezeP (n:=3005) (e:=43) (sz:=22) (es:=p74.map A6) (Ts:=[(4,(B0 p74))]) (Bs:=[]) (by rfl) (TwT.cons (x:=(.sref 3005 22 0 p74.length)) (by rfl) (FrzL.all (by first | rfl | (simp;done) | (simp;omega) | omega)) TwT.nil) TwB.nil) (mp [] [(4,(B0 p74))] [] hB)) [(B0 p74)] (rT rN) rfl
def M5 (a0:(List B3)) (a1:(List B3)) (s2:Int):Option (((Unit)⊕(Unit))⊕(Int)) :=
 (if (decide (s2<(a0.length:Int)))=true then
 (idx a0 s2).bind fun x16 =>
 (idx a1 s2).bind fun x17 =>
 (J9 x16 x17).bind fun r18 =>
 (if (!r18)=true then
 some (.inl (.inl ()))
 else
 some (.inr (w64 (s2+1))))
 else
 some (.inl (.inr ())))
def N0 (a0:(List B3)) (a1:(List B3)):Option (Bool) :=
 (if ((a0.length:Int) != (a1.length:Int))=true then
 some false
 else
 (loop (M5 a0 a1) 0).bind fun x20=>match x20 with
 | (.inl _) =>
  some false
 | (.inr _) =>
  some true)
theorem X7 (a0:(List B3)) (a1:(List B3)) (r:Bool) (h:N0 a0 a1=some r):AC Tryz.prog 28 [(.d (.list 16 (a0.map E5))),(.d (.list 16 (a1.map E5)))] [] (.d (.bool r)) []:=by
 refine ac2 Tryz.func28 rfl rfl fun B hB hN L => ?_
 delta N0 at h
 apply sr (c (assign (L rfl) (Opd.bool false)) rfl cn)
 apply seq
 apply sr (c (mv hN (q 0)) rfl (c (OpJ.val (v':=(i6 (a0.length:Int))) (by simp) (lenD underlying65 (L rfl) (q 6))) rfl (c (mv hN (q 1)) rfl (c (OpJ.val (v':=(i6 (a1.length:Int))) (by simp) (lenD underlying65 (L rfl) (q 8))) rfl (c (neqI (L rfl) (q 7) (q 9)) rfl cn)))))
 apply AWp.cond rfl<;>intro hg1
 ·have h:=B6 hg1 h
  apply sr (c (assign (L rfl) (Opd.bool false)) rfl cn)
  apply ret
  apply D4
  obtain rfl:=oi h
  exact rt (kp [(4,_)] [] hB rfl rfl (by rfl)) [(bo false)] (rT rN) rfl
 ·have h:=B7 hg1 h
  apply AWp.skip
  apply A3
  apply seq
  apply sr (c (mv hN (q 0)) rfl (c (OpJ.val (v':=(i6 (a0.length:Int))) (by simp) (lenD underlying65 (L rfl) (q 11))) rfl (c (mv hN (ii 0)) rfl cn)))
  apply block
  obtain⟨x20,hx21,h⟩:=bindS h
  refine lg (M5 a0 a1) (fun s2:Int=>([(0,(D1 a0)),(1,(D1 a1)),(12,(i6 (a0.length:Int))),(13,(i6 s2))]:EL)) (fun s2:Int=>([]:OL)) (fun(x:(Unit)⊕(Unit)) e E' O'=>match x with | (.inl _p)=>e = .ret∧Mat B E' O' ([(4,(bo false))]:EL) ([]:OL) | (.inr _p)=>e = .exit 0∧Mat B E' O' ([]:EL) ([]:OL)) hx21 (mp [] _ _ hB) (fun s2 y h => ?_) (fun e E' O' hR => ?_)
  ·unfold M5 at h
   apply sr (c (lss (L rfl) (q 13) (q 12)) rfl cn)
   apply seq
   apply AWp.cond rfl<;>intro hg15
   ·have h:=B6 hg15 h
    apply AWp.skip
    apply A3
    apply seq
    apply block
    apply sr (c (mv hN (q 13)) rfl (c (assign (L rfl) (q 15)) rfl cn))
    obtain⟨x16,hx16,h⟩:=bindS h
    obtain⟨x17,hx17,h⟩:=bindS h
    obtain⟨r18,hr18,h⟩:=bindS h
    apply sd (c (mv hN (q 0)) rfl (c (mv hN (q 5)) rfl (c (indexD underlying65 tyS41 (A4 hx16).1 (C8 E5 (A4 hx16).2) (L rfl) (q 16) (q 17)) rfl (c (loadD tyS41 (by rfl) (by rfl) (L rfl) (q 18)) rfl (c (mv hN (q 1)) rfl (c (mv hN (q 5)) rfl (c (indexD underlying65 tyS41 (A4 hx17).1 (C8 E5 (A4 hx17).2) (L rfl) (q 20) (q 21)) rfl (c (loadD tyS41 (by rfl) (by rfl) (L rfl) (q 22)) rfl (cg (cf hB fnOk61 (A1z x16 x17 r18 hr18) (L rfl) (OpdL.cons (q 19) (OpdL.cons (q 23) OpdL.nil))) rfl (c (OpJ.not (L rfl) (q 24)) rfl cn)))))))))) (by kernel_rfl) (by kernel_rfl)
    apply AWp.cond rfl<;>intro hg19
    ·have h:=B6 hg19 h
     apply sr (c (assign (L rfl) (Opd.bool false)) rfl cn)
     apply ret
     apply F7
     apply D4
     obtain rfl:=oi h
     exact⟨(fun hc=>by cases hc),rfl,(mp [] _ _ hB)⟩
    ·have h:=B7 hg19 h
     apply AWp.skip
     apply F8
     apply A3
     apply rg (c (add6 (L rfl) (q 13) (ii 1)) rfl (c (mv hN (q 26)) rfl cn))
     obtain rfl:=oi h
     exact⟨rfl,(mp [] _ _ hB)⟩
   ·have h:=B7 hg15 h
    apply AWp.exit
    apply F6
    obtain rfl:=oi h
    exact⟨(fun hc=>by cases hc),rfl,(mp [] _ _ hB)⟩
  ·rcases x20 with _ | _
   ·obtain⟨rfl,hmat⟩:=hR
    apply F7
    apply D4
    obtain rfl:=oi h
    exact rt (Mat.trans hmat (mp [] [(4,(bo false))] [] hB)) [(bo false)] (rT rN) rfl
   ·obtain⟨rfl,hmat⟩:=hR
    apply E4
    apply A3
    refine ghost hmat ?_
    apply sr (c (assign (L rfl) (Opd.bool true)) rfl cn)
    apply ret
    obtain rfl:=oi h
    exact rt (kp [(4,_)] [] hB rfl rfl (by rfl)) [(bo true)] (rT rN) rfl
def N6 (s6:(List B3)×(List B3)×Int×F9×C4):Option (((Unit)⊕((List B3)×(List B3)×F9))⊕((List B3)×(List B3)×Int×F9×C4)) :=
 (if (decide (s6.2.2.1<12))=true then
 (H3 s6.2.2.2.2 5).bind fun r52 =>
 (G2 r52.2 2).bind fun r53 =>
 jn (fun m58:(List B3)×F9 =>
 (A0g m58.2).bind fun r60 =>
 (if (r60.2.2 != 0)=true then
 some (.inl (.inl ()))
 else
 (A28 r60.1).bind fun r62 =>
 (R5 r60.2.1 5).bind fun r63 =>
 (R2 s6.2.1 r63).bind fun r64 =>
 (R2 r64 r62.fPending).bind fun r65 =>
 (N0 r65 m58.1).bind fun r66 =>
 (if (!r66)=true then
 some (.inl (.inl ()))
 else
 some (.inr (m58.1,r64,(w64 (s6.2.2.1+1)),r62,r53.2))))) (fun j59 =>
 (if ((r53.1==0)&&(decide (s6.2.2.1<8)))=true then
 (R2 s6.1 r52.1).bind fun r69 =>
 (A27 s6.2.2.2.1 r52.1).bind fun r70 =>
 (if (r70.2 != 0)=true then
 some (.inl (.inl ()))
 else
 j59 (r69,r70.1))
 else
 j59 (s6.1,s6.2.2.2.1)))
 else
 some (.inl (.inr (s6.1,s6.2.1,s6.2.2.2.1))))
def S0 (s74:(List B3)×Int×F9):Option (((Unit)⊕((List B3)×F9))⊕((List B3)×Int×F9)) :=
 jn (fun m103:Bool =>
 (if m103=true then
 (A0g s74.2.2).bind fun r106 =>
 (if (r106.2.2 != 0)=true then
 some (.inl (.inl ()))
 else
 (A28 r106.1).bind fun r108 =>
 (R5 r106.2.1 5).bind fun r109 =>
 (R2 s74.1 r109).bind fun r110 =>
 some (.inr (r110,(w64 (s74.2.1+1)),r108)))
 else
 some (.inl (.inr (s74.1,s74.2.2))))) (fun j104 =>
 (if (decide (s74.2.1<40))=true then
 (S7 s74.2.2).bind fun r112 =>
 j104 (!r112)
 else
 j104 false))
def Z3 (a0:(List Int)):Option (Bool) :=
 (P8 a0).bind fun r1 =>
 (if (!r1)=true then
 (Y9).bind fun r3 =>
 some r3
 else
 (P6 a0).bind fun r4 =>
 (G2 r4 3).bind fun r5 =>
 (loop (N6) (([]:List B3),([]:List B3),0,(F9.mk ([]:List A1) (G4.mk 0 1 (w64 (1+r5.1)))),r5.2)).bind fun x72=>match x72 with
 | (.inl _) =>
  some false
 | (.inr p50) =>
  (loop (S0) (p50.2.1,0,p50.2.2)).bind fun x113=>match x113 with
  | (.inl _) =>
   some false
  | (.inr p100) =>
   jn (fun m121:Bool =>
   some m121) (fun j122 =>
   (S7 p100.2).bind fun r123 =>
   (if r123=true then
   (N0 p100.1 p50.1).bind fun r125 =>
   (if r125=true then
   (Y9).bind fun r127 =>
   j122 r127
   else
   j122 false)
   else
   j122 false)))
theorem A5g (a0:(List Int)) (r:Bool) (h:Z3 a0=some r):AC Tryz.prog 4 [(.d (.list 1 (a0.map (eI .i64))))] [(500,(.know (globD 0 (.imap gv0))))] (.d (.bool r)) [(500,some (.know (globD 0 (.imap gv0))))]:=by
 refine ac2 Tryz.func4 rfl rfl fun B hB hN L => ?_
 delta Z3 at h
 apply sr (c (assign (L rfl) (Opd.bool false)) rfl cn)
 apply seq
 obtain⟨r1,hr1,h⟩:=bindS h
 apply sr (c (mv hN (q 0)) rfl (cg (cf hB fnOk24 (A37 a0 r1 hr1) (L rfl) (OpdL.cons (q 19) OpdL.nil)) rfl (c (OpJ.not (L rfl) (q 20)) rfl cn)))
 apply AWp.cond rfl<;>intro hg2
 ·have h:=B6 hg2 h
  apply seq
  obtain⟨r3,hr3,h⟩:=bindS h
  refine AWp.region (oc (OpJ.callFn hB fnOk6 (A43  r3 hr3) [(500,500)] (by kernel_rfl) (L rfl) (by kernel_rfl) OpdL.nil)
   (oc (assign (L rfl) (ot 22 (bo r3)))
   (OpJs.nil))) (by rfl) (by rfl) ?_
  apply A3
  refine ghost (mp [] [(2,(bo r3))] [(500,some (.know (globD 0 (.imap gv0))))] hB) ?_
  apply ret
  apply D4
  obtain rfl:=oi h
  exact rt (kp [(2,_)] [(500,some _)] hB rfl rfl (by rfl)) [(bo r3)] (rT rN) rfl
 ·have h:=B7 hg2 h
  apply AWp.skip
  apply A3
  apply seq
  obtain⟨r4,hr4,h⟩:=bindS h
  refine AWp.region (oc (mv hN (ot 0 (qI_1 a0)))
   (oc (OpJ.callFn hB fnOk8 (A2v a0 r4 hr4) [(1005,100200)] (by kernel_rfl) (L rfl) (by kernel_rfl) (OpdL.cons (ot 23 (qI_1 a0)) OpdL.nil))
   (oc (assign (L rfl) (ot 24 (pt 100200)))
   (OpJs.nil)))) (by rfl) (by rfl) ?_
  apply A3
  refine ghost (mp [] [(3,(pt 100200))] [(500,some (.know (globD 0 (.imap gv0)))),(100200,bd 80 (E6 r4))] hB) ?_
  apply seq
  obtain⟨r5,hr5,h⟩:=bindS h
  refine AWp.region (oc (mv hN (ot 3 (pt 100200)))
   (oc (OpJ.callFn hB fnOk25 (H2 r4 3 r5 hr5) [(0,100200)] (by kernel_rfl) (L rfl) (by kernel_rfl) (OpdL.cons (ot 25 (pt 100200)) (OpdL.cons (ii 3) OpdL.nil)))
   (oc (add6 (L rfl) (ii 1) (ot 26 (i6 r5.1)))
   (oc (assign (L rfl) (ot 27 (i6 (w64 (1+r5.1)))))
   (OpJs.nil))))) (by rfl) (by rfl) ?_
  apply A3
  refine ghost (mp [] [(3,(pt 100200)),(4,(i6 (w64 (1+r5.1))))] [(500,some (.know (globD 0 (.imap gv0)))),(100200,bd 80 (E6 r5.2))] hB) ?_
  apply sr (c (mv hN (q 4)) rfl (c (OpJ.coe (v:=(.st [(i6 0),(i6 1),(i6 (w64 (1+r5.1)))])) (y:=(.st [(.int .i64 0),(.int .i64 1),(.int .i64 (w64 (1+r5.1)))])) (Co.st (CoL.cons (Co.d _) (CoL.cons (Co.d _) (CoL.cons (Co.d _) CoL.nil)))) rfl (OpJ.build (places:=[(0,1),(1,1),(2,1)]) ⟨underlying24,fun w=>by kernel_rfl⟩ tyZS24 (Opds.cons (ii 1) (Opds.cons (q 28) Opds.nil)) (by kernel_rfl) (r:=(.st [(i6 0),(i6 1),(i6 (w64 (1+r5.1)))])) (by rfl) (L rfl))) rfl (c (OpJ.build (places:=[(0,1),(1,3)]) ⟨underlying26,fun w=>by kernel_rfl⟩ tyZS26 (Opds.cons (q 29) Opds.nil) (by kernel_rfl) (r:=(.st [.nils,(.d (.st [(.int .i64 0),(.int .i64 1),(.int .i64 (w64 (1+r5.1)))]))])) (by rfl) (L rfl)) rfl (cg (alloc hB tyZ26 (nm:=1005) (by decide) (L rfl)) rfl (cg (sB tyS26 (q 5) (q 30)) rfl cn)))))
  apply sr (c (assign (L rfl) Opd.nils) rfl (c (assign (L rfl) Opd.nils) rfl cn))
  apply seq
  apply sr (c (assign (L rfl) (ii 0)) rfl cn)
  apply block
  obtain⟨x72,hx73,h⟩:=bindS h
  refine lg (N6) (fun s6:(List B3)×(List B3)×Int×F9×C4=>([(3,(pt 100200)),(5,(pt 1005)),(6,(D1 s6.1)),(7,(D1 s6.2.1)),(8,(i6 s6.2.2.1))]:EL)) (fun s6:(List B3)×(List B3)×Int×F9×C4=>([(500,some (.know (globD 0 (.imap gv0)))),(1005,bd 26 (C0 s6.2.2.2.1)),(100200,bd 80 (E6 s6.2.2.2.2))]:OL)) (fun(x:(Unit)⊕((List B3)×(List B3)×F9)) e E' O'=>match x with | (.inl _p)=>e = .ret∧Mat B E' O' ([(2,(bo false))]:EL) ([(500,some (.know (globD 0 (.imap gv0))))]:OL) | (.inr p50)=>e = .exit 0∧Mat B E' O' ([(5,(pt 1005)),(6,(D1 p50.1)),(7,(D1 p50.2.1))]:EL) ([(500,some (.know (globD 0 (.imap gv0)))),(1005,bd 26 (C0 p50.2.2))]:OL)) hx73 (Mat.trans (Mat.coeP (Ts:=[(6,(D1 ([]:List B3)))]) (Bs:=[]) (TwT.cons (x:=.nils) (by rfl) (Tw.leaf ⟨_,(Co.nils 16),rfl⟩) TwT.nil) TwB.nil) (Mat.trans (Mat.coeP (Ts:=[(7,(D1 ([]:List B3)))]) (Bs:=[]) (TwT.cons (x:=.nils) (by rfl) (Tw.leaf ⟨_,(Co.nils 16),rfl⟩) TwT.nil) TwB.nil) (Mat.trans (Mat.coeP (Ts:=[]) (Bs:=[(1005,some (.box 26 (.d (.st [(.list 22 (([]:List A1).map A6)),(.st [(.int .i64 0),(.int .i64 1),(.int .i64 (w64 (1+r5.1)))])]))))]) TwT.nil (TwB.cons (x:=(.st [.nils,(.d (.st [(.int .i64 0),(.int .i64 1),(.int .i64 (w64 (1+r5.1)))]))])) (by rfl) (Tw.leaf ⟨_,(Co.st (CoL.cons (Co.nils 22) (CoL.cons (Co.d _) CoL.nil))),rfl⟩) TwB.nil)) (mp [] _ _ hB)))) (fun s6 y h => ?_) (fun e E' O' hR => ?_)
  ·unfold N6 at h
   apply seq
   apply sr (c (mv hN (q 8)) rfl (c (lss (L rfl) (q 31) (ii 12)) rfl cn))
   apply AWp.cond rfl<;>intro hg51
   ·have h:=B6 hg51 h
    apply AWp.skip
    apply A3
    apply seq
    apply block
    apply seq
    obtain⟨r52,hr52,h⟩:=bindS h
    refine AWp.region (oc (mv hN (ot 3 (pt 100200)))
     (oc (OpJ.callFn hB fnOk15 (A0h s6.2.2.2.2 5 r52 hr52) [(0,100200)] (by kernel_rfl) (L rfl) (by kernel_rfl) (OpdL.cons (ot 35 (pt 100200)) (OpdL.cons (ii 5) OpdL.nil)))
     (oc (assign (L rfl) (ot 36 (B0 r52.1)))
     (OpJs.nil)))) (by rfl) (by rfl) ?_
    apply A3
    refine ghost (mp [] [(3,(pt 100200)),(5,(pt 1005)),(6,(D1 s6.1)),(7,(D1 s6.2.1)),(8,(i6 s6.2.2.1)),(9,(B0 r52.1))] [(500,some (.know (globD 0 (.imap gv0)))),(1005,bd 26 (C0 s6.2.2.2.1)),(100200,bd 80 (E6 r52.2))] hB) ?_
    apply seq
    apply seq
    obtain⟨r53,hr53,h⟩:=bindS h
    refine AWp.region (oc (mv hN (ot 3 (pt 100200)))
     (oc (OpJ.callFn hB fnOk25 (H2 r52.2 2 r53 hr53) [(0,100200)] (by kernel_rfl) (L rfl) (by kernel_rfl) (OpdL.cons (ot 37 (pt 100200)) (OpdL.cons (ii 2) OpdL.nil)))
     (oc (eqlI (L rfl) (ot 38 (i6 r53.1)) (ii 0))
     (oc (mv hN (ot 39 (bo (r53.1==0))))
     (oc (op hN 40 (i6 s6.2.2.1) (mv hN (ot 8 (i6 s6.2.2.1))) (OptL.keep rfl OptL.nil) (GuardV.plain _))
     (oc (op hN 40 (bo (decide (s6.2.2.1<8))) (lss (L rfl) (ot 41 (i6 s6.2.2.1)) (ii 8)) (OptL.opt OptL.nil) (GuardV.plain _))
     (oc (pickAnd rfl (L rfl) (ot 40 (bo (r53.1==0))) (ot 42 (.opt ((r53.1==0)==true) (bo (decide (s6.2.2.1<8))))))
     (OpJs.nil)))))))) (by rfl) (by rfl) ?_
    apply A3
    refine ghost (mp [] [(3,(pt 100200)),(5,(pt 1005)),(6,(D1 s6.1)),(7,(D1 s6.2.1)),(8,(i6 s6.2.2.1)),(9,(B0 r52.1)),(43,(bo ((r53.1==0)&&(decide (s6.2.2.1<8)))))] [(500,some (.know (globD 0 (.imap gv0)))),(1005,bd 26 (C0 s6.2.2.2.1)),(100200,bd 80 (E6 r53.2))] hB) ?_
    refine AWp.cut h (fun m58:(List B3)×F9=>([(3,(pt 100200)),(5,(pt 1005)),(6,(D1 m58.1)),(7,(D1 s6.2.1)),(8,(i6 s6.2.2.1))]:EL)) (fun m58:(List B3)×F9=>([(500,some (.know (globD 0 (.imap gv0)))),(1005,bd 26 (C0 m58.2)),(100200,bd 80 (E6 r53.2))]:OL)) (fun m58 h E' O' hmat => ?_) (fun j59 hjj59 h => ?_)
    ·apply A3
     refine ghost hmat ?_
     apply seq
     obtain⟨r60,hr60,h⟩:=bindS h
     refine AWp.region (oc (lb hN 26 (.d (C0 m58.2)) (.d (C0 m58.2)) tyS26 (At.here _) (ot 5 (pt 1005)))
      (oc (OpJ.callFn hB fnOk19 (A3t m58.2 r60 hr60) [(500,500)] (by kernel_rfl) (L rfl) (by kernel_rfl) (OpdL.cons (ot 57 (.d (C0 m58.2))) OpdL.nil))
      (oc (mv hN (ot 58 (.tup [(.d (C0 r60.1)),(B8 r60.2.1),(i6 r60.2.2)])))
      (oc (extract (v:=(.d (C0 r60.1))) (by rfl) rfl (L rfl) (ot 56 (.tup [(.d (C0 r60.1)),(B8 r60.2.1),(i6 r60.2.2)])))
      (oc (extract (v:=(B8 r60.2.1)) (by rfl) rfl (L rfl) (ot 56 (.tup [(.d (C0 r60.1)),(B8 r60.2.1),(i6 r60.2.2)])))
      (oc (extract (v:=(i6 r60.2.2)) (by rfl) rfl (L rfl) (ot 56 (.tup [(.d (C0 r60.1)),(B8 r60.2.1),(i6 r60.2.2)])))
      (oc (alloc hB tyZ26 (nm:=1012) (by decide) (L rfl))
      (oc (OpJ.storeB (bt:=26) (c:=(.st [.nils,(.d (.st [(.int .i64 0),(.int .i64 0),(.int .i64 0)]))])) (v:=(.d (C0 r60.1))) (c':=(.d (C0 r60.1))) tyS26 (SetAt.here _ _) (by rfl) (by rfl) (by simp) rfl (ot 12 (pt 1012)) (ot 59 (.d (C0 r60.1))))
      (oc (assign (L rfl) (ot 60 (B8 r60.2.1)))
      (oc (assign (L rfl) (ot 61 (i6 r60.2.2)))
      (OpJs.nil))))))))))) (by rfl) (by rfl) ?_
     apply A3
     refine ghost (mp [] [(3,(pt 100200)),(5,(pt 1005)),(6,(D1 m58.1)),(7,(D1 s6.2.1)),(8,(i6 s6.2.2.1)),(12,(pt 1012)),(13,(B8 r60.2.1)),(14,(i6 r60.2.2))] [(500,some (.know (globD 0 (.imap gv0)))),(1005,bd 26 (C0 m58.2)),(1012,bd 26 (C0 r60.1)),(100200,bd 80 (E6 r53.2))] hB) ?_
     apply seq
     apply sr (c (mv hN (q 14)) rfl (c (neqI (L rfl) (q 62) (ii 0)) rfl cn))
     apply AWp.cond rfl<;>intro hg61
     ·have h:=B6 hg61 h
      apply sr (c (assign (L rfl) (Opd.bool false)) rfl cn)
      apply ret
      apply D4
      apply F7
      apply D4
      obtain rfl:=oi h
      exact⟨(fun hc=>by cases hc),rfl,(mp [] _ _ hB)⟩
     ·have h:=B7 hg61 h
      apply AWp.skip
      apply A3
      obtain⟨r62,hr62,h⟩:=bindS h
      apply sr (c (lb hN 26 _ _ tyS26 (At.here _) (q 12)) rfl (cg (cf hB fnOk22 (A6a r60.1 r62 hr62) (L rfl) (OpdL.cons (q 64) OpdL.nil)) rfl (cg (sB tyS26 (q 5) (q 65)) rfl cn)))
      obtain⟨r63,hr63,h⟩:=bindS h
      obtain⟨r64,hr64,h⟩:=bindS h
      apply sr (c (mv hN (q 7)) rfl (c (mv hN (q 13)) rfl (cg (cf hB fnOk27 (A3j r60.2.1 5 r63 hr63) (L rfl) (OpdL.cons (q 67) (OpdL.cons (ii 5) OpdL.nil))) rfl (cg (cf hB fnOk26 (A16 s6.2.1 r63 r64 hr64) (L rfl) (OpdL.cons (q 66) (OpdL.cons (q 68) OpdL.nil))) rfl (c (assign (L rfl) (q 69)) rfl cn)))))
      obtain⟨r65,hr65,h⟩:=bindS h
      obtain⟨r66,hr66,h⟩:=bindS h
      apply sr (c (mv hN (q 7)) rfl (c (fo 1005 0 [0] hN underlying26 0 tyS22 (q 5)) rfl (c (la hN 26 tyS22 (q 71)) rfl (cg (cf hB fnOk26 (A16 r64 r62.fPending r65 hr65) (L rfl) (OpdL.cons (q 70) (OpdL.cons (q 72) OpdL.nil))) rfl (c (mv hN (q 6)) rfl (cg (cf hB fnOk28 (X7 r65 m58.1 r66 hr66) (L rfl) (OpdL.cons (q 73) (OpdL.cons (q 74) OpdL.nil))) rfl (c (OpJ.not (L rfl) (q 75)) rfl cn)))))))
      apply AWp.cond rfl<;>intro hg67
      ·have h:=B6 hg67 h
       apply sr (c (assign (L rfl) (Opd.bool false)) rfl cn)
       apply ret
       apply F7
       apply D4
       obtain rfl:=oi h
       exact⟨(fun hc=>by cases hc),rfl,(mp [] _ _ hB)⟩
      ·have h:=B7 hg67 h
       apply AWp.skip
       apply F8
       apply A3
       apply rg (c (mv hN (q 8)) rfl (c (add6 (L rfl) (q 33) (ii 1)) rfl (c (assign (L rfl) (q 34)) rfl cn)))
       obtain rfl:=oi h
       exact⟨rfl,(mp [] _ _ hB)⟩
    ·apply AWp.cond rfl<;>intro hg68
     ·have h:=B6 hg68 h
      obtain⟨r69,hr69,h⟩:=bindS h
      apply sr (c (mv hN (q 6)) rfl (c (mv hN (q 9)) rfl (cg (cf hB fnOk26 (A16 s6.1 r52.1 r69 hr69) (L rfl) (OpdL.cons (q 44) (OpdL.cons (q 45) OpdL.nil))) rfl (c (assign (L rfl) (q 46)) rfl cn))))
      apply seq
      obtain⟨r70,hr70,h⟩:=bindS h
      refine AWp.region (oc (lb hN 26 (.d (C0 s6.2.2.2.1)) (.d (C0 s6.2.2.2.1)) tyS26 (At.here _) (ot 5 (pt 1005)))
       (oc (mv hN (ot 9 (B0 r52.1)))
       (oc (OpJ.callFn hB fnOk16 (A69 s6.2.2.2.1 r52.1 r70 hr70) [(500,500)] (by kernel_rfl) (L rfl) (by kernel_rfl) (OpdL.cons (ot 48 (.d (C0 s6.2.2.2.1))) (OpdL.cons (ot 49 (B0 r52.1)) OpdL.nil)))
       (oc (mv hN (ot 50 (.tup [(.d (C0 r70.1)),(i6 r70.2)])))
       (oc (extract (v:=(.d (C0 r70.1))) (by rfl) rfl (L rfl) (ot 47 (.tup [(.d (C0 r70.1)),(i6 r70.2)])))
       (oc (extract (v:=(i6 r70.2)) (by rfl) rfl (L rfl) (ot 47 (.tup [(.d (C0 r70.1)),(i6 r70.2)])))
       (oc (alloc hB tyZ26 (nm:=1010) (by decide) (L rfl))
       (oc (OpJ.storeB (bt:=26) (c:=(.st [.nils,(.d (.st [(.int .i64 0),(.int .i64 0),(.int .i64 0)]))])) (v:=(.d (C0 r70.1))) (c':=(.d (C0 r70.1))) tyS26 (SetAt.here _ _) (by rfl) (by rfl) (by simp) rfl (ot 10 (pt 1010)) (ot 51 (.d (C0 r70.1))))
       (oc (assign (L rfl) (ot 52 (i6 r70.2)))
       (OpJs.nil)))))))))) (by rfl) (by rfl) ?_
      apply A3
      refine ghost (mp [] [(3,(pt 100200)),(5,(pt 1005)),(6,(D1 r69)),(7,(D1 s6.2.1)),(8,(i6 s6.2.2.1)),(10,(pt 1010)),(11,(i6 r70.2))] [(500,some (.know (globD 0 (.imap gv0)))),(1005,bd 26 (C0 s6.2.2.2.1)),(1010,bd 26 (C0 r70.1)),(100200,bd 80 (E6 r53.2))] hB) ?_
      apply seq
      apply sr (c (mv hN (q 11)) rfl (c (neqI (L rfl) (q 53) (ii 0)) rfl cn))
      apply AWp.cond rfl<;>intro hg71
      ·have h:=B6 hg71 h
       apply sr (c (assign (L rfl) (Opd.bool false)) rfl cn)
       apply ret
       apply D4
       apply D4
       apply F7
       apply D4
       obtain rfl:=oi h
       exact⟨(fun hc=>by cases hc),rfl,(mp [] _ _ hB)⟩
      ·have h:=B7 hg71 h
       apply AWp.skip
       apply A3
       apply rg (c (lb hN 26 _ _ tyS26 (At.here _) (q 10)) rfl (cg (sB tyS26 (q 5) (q 55)) rfl cn))
       exact hjj59 _ h _ _ (mp [] _ _ hB)
     ·have h:=B7 hg68 h
      apply AWp.skip
      exact hjj59 _ h _ _ (mp [] _ _ hB)
   ·have h:=B7 hg51 h
    apply AWp.exit
    apply F6
    obtain rfl:=oi h
    exact⟨(fun hc=>by cases hc),rfl,(mp [] _ _ hB)⟩
  ·rcases x72 with _ | p50
   ·obtain⟨rfl,hmat⟩:=hR
    apply F7
    apply D4
    obtain rfl:=oi h
    exact rt (Mat.trans hmat (mp [] [(2,(bo false))] [(500,some (.know (globD 0 (.imap gv0))))] hB)) [(bo false)] (rT rN) rfl
   ·obtain⟨rfl,hmat⟩:=hR
    apply E4
    apply A3
    refine ghost hmat ?_
    apply seq
    apply sr (c (assign (L rfl) (ii 0)) rfl cn)
    apply block
    obtain⟨x113,hx114,h⟩:=bindS h
    refine lg (S0) (fun s74:(List B3)×Int×F9=>([(5,(pt 1005)),(6,(D1 p50.1)),(7,(D1 s74.1)),(15,(i6 s74.2.1))]:EL)) (fun s74:(List B3)×Int×F9=>([(500,some (.know (globD 0 (.imap gv0)))),(1005,bd 26 (C0 s74.2.2))]:OL)) (fun(x:(Unit)⊕((List B3)×F9)) e E' O'=>match x with | (.inl _p)=>e = .ret∧Mat B E' O' ([(2,(bo false))]:EL) ([(500,some (.know (globD 0 (.imap gv0))))]:OL) | (.inr p100)=>e = .exit 2∧Mat B E' O' ([(5,(pt 1005)),(6,(D1 p50.1)),(7,(D1 p100.1))]:EL) ([(500,some (.know (globD 0 (.imap gv0)))),(1005,bd 26 (C0 p100.2))]:OL)) hx114 (mp [] _ _ hB) (fun s74 y h => ?_) (fun e E' O' hR => ?_)
    ·unfold S0 at h
     apply seq
     apply seq
     refine AWp.cut h (fun m103:Bool=>([(5,(pt 1005)),(6,(D1 p50.1)),(7,(D1 s74.1)),(15,(i6 s74.2.1)),(83,(bo m103))]:EL)) (fun m103:Bool=>([(500,some (.know (globD 0 (.imap gv0)))),(1005,bd 26 (C0 s74.2.2))]:OL)) (fun m103 h E' O' hmat => ?_) (fun j104 hjj104 h => ?_)
     ·apply A3
      refine ghost hmat ?_
      apply AWp.cond rfl<;>intro hg105
      ·have h:=B6 hg105 h
       apply AWp.skip
       apply A3
       apply seq
       apply block
       apply seq
       obtain⟨r106,hr106,h⟩:=bindS h
       refine AWp.region (oc (lb hN 26 (.d (C0 s74.2.2)) (.d (C0 s74.2.2)) tyS26 (At.here _) (ot 5 (pt 1005)))
        (oc (OpJ.callFn hB fnOk19 (A3t s74.2.2 r106 hr106) [(500,500)] (by kernel_rfl) (L rfl) (by kernel_rfl) (OpdL.cons (ot 87 (.d (C0 s74.2.2))) OpdL.nil))
        (oc (mv hN (ot 88 (.tup [(.d (C0 r106.1)),(B8 r106.2.1),(i6 r106.2.2)])))
        (oc (extract (v:=(.d (C0 r106.1))) (by rfl) rfl (L rfl) (ot 86 (.tup [(.d (C0 r106.1)),(B8 r106.2.1),(i6 r106.2.2)])))
        (oc (extract (v:=(B8 r106.2.1)) (by rfl) rfl (L rfl) (ot 86 (.tup [(.d (C0 r106.1)),(B8 r106.2.1),(i6 r106.2.2)])))
        (oc (extract (v:=(i6 r106.2.2)) (by rfl) rfl (L rfl) (ot 86 (.tup [(.d (C0 r106.1)),(B8 r106.2.1),(i6 r106.2.2)])))
        (oc (alloc hB tyZ26 (nm:=1016) (by decide) (L rfl))
        (oc (OpJ.storeB (bt:=26) (c:=(.st [.nils,(.d (.st [(.int .i64 0),(.int .i64 0),(.int .i64 0)]))])) (v:=(.d (C0 r106.1))) (c':=(.d (C0 r106.1))) tyS26 (SetAt.here _ _) (by rfl) (by rfl) (by simp) rfl (ot 16 (pt 1016)) (ot 89 (.d (C0 r106.1))))
        (oc (assign (L rfl) (ot 90 (B8 r106.2.1)))
        (oc (assign (L rfl) (ot 91 (i6 r106.2.2)))
        (OpJs.nil))))))))))) (by rfl) (by rfl) ?_
       apply A3
       refine ghost (mp [] [(5,(pt 1005)),(6,(D1 p50.1)),(7,(D1 s74.1)),(15,(i6 s74.2.1)),(16,(pt 1016)),(17,(B8 r106.2.1)),(18,(i6 r106.2.2))] [(500,some (.know (globD 0 (.imap gv0)))),(1005,bd 26 (C0 s74.2.2)),(1016,bd 26 (C0 r106.1))] hB) ?_
       apply seq
       apply sr (c (mv hN (q 18)) rfl (c (neqI (L rfl) (q 92) (ii 0)) rfl cn))
       apply AWp.cond rfl<;>intro hg107
       ·have h:=B6 hg107 h
        apply sr (c (assign (L rfl) (Opd.bool false)) rfl cn)
        apply ret
        apply D4
        apply F7
        apply D4
        obtain rfl:=oi h
        exact⟨(fun hc=>by cases hc),rfl,(mp [] _ _ hB)⟩
       ·have h:=B7 hg107 h
        apply AWp.skip
        apply A3
        obtain⟨r108,hr108,h⟩:=bindS h
        apply sr (c (lb hN 26 _ _ tyS26 (At.here _) (q 16)) rfl (cg (cf hB fnOk22 (A6a r106.1 r108 hr108) (L rfl) (OpdL.cons (q 94) OpdL.nil)) rfl (cg (sB tyS26 (q 5) (q 95)) rfl cn)))
        obtain⟨r109,hr109,h⟩:=bindS h
        obtain⟨r110,hr110,h⟩:=bindS h
        apply rg (c (mv hN (q 7)) rfl (c (mv hN (q 17)) rfl (cg (cf hB fnOk27 (A3j r106.2.1 5 r109 hr109) (L rfl) (OpdL.cons (q 97) (OpdL.cons (ii 5) OpdL.nil))) rfl (cg (cf hB fnOk26 (A16 s74.1 r109 r110 hr110) (L rfl) (OpdL.cons (q 96) (OpdL.cons (q 98) OpdL.nil))) rfl (c (assign (L rfl) (q 99)) rfl cn)))))
        apply F8
        apply A3
        apply rg (c (mv hN (q 15)) rfl (c (add6 (L rfl) (q 84) (ii 1)) rfl (c (assign (L rfl) (q 85)) rfl cn)))
        obtain rfl:=oi h
        exact⟨rfl,(mp [] _ _ hB)⟩
      ·have h:=B7 hg105 h
       apply AWp.exit
       apply F6
       obtain rfl:=oi h
       exact⟨(fun hc=>by cases hc),rfl,(mp [] _ _ hB)⟩
     ·rcases bft (decide (s74.2.1<40)) with hg111 | hg111
      ·have h:=B6 hg111 h
       obtain⟨r112,hr112,h⟩:=bindS h
       apply rg (c (mv hN (q 15)) rfl (c (lss (L rfl) (q 77) (ii 40)) rfl (c (OpJ.val (v':=.d (.bool true)) (by rw [hg111]<;>rfl) (mv hN (q 78))) rfl (c (gd 79 (lb hN 26 _ _ tyS26 (At.here _) (q 5))) rfl (cg (gd 79 (cf hB fnOk13 (U1 s74.2.2 r112 hr112) (L rfl) (OpdL.cons (q 80) OpdL.nil))) rfl (c (gd 79 (OpJ.not (L rfl) (q 81))) rfl (c (pickT (L rfl) (q 79) (q 82)) rfl cn)))))))
       exact hjj104 _ h _ _ (mp [] _ _ hB)
      ·have h:=B7 hg111 h
       apply rg (c (mv hN (q 15)) rfl (c (lss (L rfl) (q 77) (ii 40)) rfl (c (OpJ.val (v':=.d (.bool false)) (by rw [hg111]<;>rfl) (mv hN (q 78))) rfl (ks 79 (L rfl) (ks 79 (L rfl) (ks 79 (L rfl) (c (pickF (L rfl) (q 79) (Opd.bool false)) rfl cn)))))))
       exact hjj104 _ h _ _ (mp [] _ _ hB)
    ·rcases x113 with _ | p100
     ·obtain⟨rfl,hmat⟩:=hR
      apply F7
      apply D4
      obtain rfl:=oi h
      exact rt (Mat.trans hmat (mp [] [(2,(bo false))] [(500,some (.know (globD 0 (.imap gv0))))] hB)) [(bo false)] (rT rN) rfl
     ·obtain⟨rfl,hmat⟩:=hR
      apply E4
      apply A3
      refine ghost hmat ?_
      apply seq
      refine AWp.cut h (fun m121:Bool=>([(2,(bo m121))]:EL)) (fun m121:Bool=>([(500,some (.know (globD 0 (.imap gv0))))]:OL)) (fun m121 h E' O' hmat => ?_) (fun j122 hjj122 h => ?_)
      ·apply A3
       refine ghost hmat ?_
       apply ret
       obtain rfl:=oi h
       exact rt (kp [(2,_)] [(500,some _)] hB rfl rfl (by rfl)) [(bo m121)] (rT rN) rfl
      ·obtain⟨r123,hr123,h⟩:=bindS h
       rcases bft r123 with hg124 | hg124
       ·have h:=B6 hg124 h
        obtain⟨r125,hr125,h⟩:=bindS h
        rcases bft r125 with hg126 | hg126
        ·have h:=B6 hg126 h
         obtain⟨r127,hr127,h⟩:=bindS h
         refine AWp.region (oc (lb hN 26 (.d (C0 p100.2)) (.d (C0 p100.2)) tyS26 (At.here _) (ot 5 (pt 1005)))
          (oc (cf hB fnOk13 (U1 p100.2 r123 hr123) (L rfl) (OpdL.cons (ot 100 (.d (C0 p100.2))) OpdL.nil))
          (oc (OpJ.val (v':=.d (.bool true)) (by rw [hg124]<;>rfl) (mv hN (ot 101 (bo r123))))
          (oc (gd 102 (mv hN (ot 7 (D1 p100.1))))
          (oc (gd 102 (mv hN (ot 6 (D1 p50.1))))
          (oc (gd 102 (cf hB fnOk28 (X7 p100.1 p50.1 r125 hr125) (L rfl) (OpdL.cons (ot 103 (D1 p100.1)) (OpdL.cons (ot 104 (D1 p50.1)) OpdL.nil))))
          (oc (pickT (L rfl) (ot 102 (bo true)) (ot 105 (bo r125)))
          (oc (OpJ.val (v':=.d (.bool true)) (by rw [hg126]<;>rfl) (mv hN (ot 106 (bo r125))))
          (oc (gd 107 (OpJ.callFn hB fnOk6 (A43  r127 hr127) [(500,500)] (by kernel_rfl) (L rfl) (by kernel_rfl) OpdL.nil))
          (oc (pickT (L rfl) (ot 107 (bo true)) (ot 108 (bo r127)))
          (oc (assign (L rfl) (ot 109 (bo r127)))
          (OpJs.nil)))))))))))) (by rfl) (by rfl) ?_
         exact hjj122 _ h _ _ (mp [] _ _ hB)
        ·have h:=B7 hg126 h
         apply rg (c (lb hN 26 _ _ tyS26 (At.here _) (q 5)) rfl (cg (cf hB fnOk13 (U1 p100.2 r123 hr123) (L rfl) (OpdL.cons (q 100) OpdL.nil)) rfl (c (OpJ.val (v':=.d (.bool true)) (by rw [hg124]<;>rfl) (mv hN (q 101))) rfl (c (gd 102 (mv hN (q 7))) rfl (c (gd 102 (mv hN (q 6))) rfl (cg (gd 102 (cf hB fnOk28 (X7 p100.1 p50.1 r125 hr125) (L rfl) (OpdL.cons (q 103) (OpdL.cons (q 104) OpdL.nil)))) rfl (c (pickT (L rfl) (q 102) (q 105)) rfl (c (OpJ.val (v':=.d (.bool false)) (by rw [hg126]<;>rfl) (mv hN (q 106))) rfl (ks 107 (L rfl) (c (pickF (L rfl) (q 107) (Opd.bool false)) rfl (c (assign (L rfl) (q 109)) rfl cn)))))))))))
         exact hjj122 _ h _ _ (mp [] _ _ hB)
       ·have h:=B7 hg124 h
        apply rg (c (lb hN 26 _ _ tyS26 (At.here _) (q 5)) rfl (cg (cf hB fnOk13 (U1 p100.2 r123 hr123) (L rfl) (OpdL.cons (q 100) OpdL.nil)) rfl (c (OpJ.val (v':=.d (.bool false)) (by rw [hg124]<;>rfl) (mv hN (q 101))) rfl (ks 102 (L rfl) (ks 102 (L rfl) (ks 102 (L rfl) (c (pickF (L rfl) (q 102) (Opd.bool false)) rfl (c (mv hN (q 106)) rfl (ks 107 (L rfl) (c (pickF (L rfl) (q 107) (Opd.bool false)) rfl (c (assign (L rfl) (q 109)) rfl cn)))))))))))
        exact hjj122 _ h _ _ (mp [] _ _ hB)
end
end Go.Proofs.YtplbaenjbihekaaGreatDoor
