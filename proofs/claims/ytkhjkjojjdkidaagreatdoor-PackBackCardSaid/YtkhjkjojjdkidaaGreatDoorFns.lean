/- Printed by gen.py: the Go functions as plain functions, and that the code does what they say. -/
import Derived.Test.YtkhjkjojjdkidaaGreatDoorChecked
import Derived.Test.YtkhjkjojjdkidaaGreatDoorVcYB
import Derived.Test.YtkhjkjojjdkidaaGreatDoorVcZ
import Derived.Test.YtkhjkjojjdkidaaGreatDoorVcGC
import Derived.KernelRfl
import Derived.Test.YtkhjkjojjdkidaaGreatDoorVcMD
import Derived.Test.YtkhjkjojjdkidaaGreatDoorVcMQ
import Derived.Test.YtkhjkjojjdkidaaGreatDoorVcSG
import Derived.Test.YtkhjkjojjdkidaaGreatDoorFnsC
import Derived.Test.YtkhjkjojjdkidaaGreatDoorExt
import Derived.Test.YtkhjkjojjdkidaaGreatDoorVcPm
import Derived.Test.YtkhjkjojjdkidaaGreatDoorVcRg
import Derived.Test.YtkhjkjojjdkidaaGreatDoorVcSt
import Derived.Test.YtkhjkjojjdkidaaGreatDoorVcMR
import Derived.Test.YtkhjkjojjdkidaaGreatDoorVcMI
namespace Go.Proofs.YtkhjkjojjdkidaaGreatDoor
open Go Go.Vc
open Tryz
open Go.Vc.OpJ (assign alloc lss pickT pickF extract lenD indexD loadD eqlI gtr callVal leq geq loadR nilP indexS buildSlice lenS fieldD neqI pickAnd pickOr)
open Go.Vc.AWp (seq ghost ret block)
set_option maxHeartbeats 4000000
set_option maxRecDepth 100000
noncomputable section
def V9 (a0:C5) (s98:Int×(List (Int×(List Int)))):Option ((((List (Int×(List Int)))))⊕(Int×(List (Int×(List Int))))) :=
 (if (decide (s98.1<(a0.fCommunities.length:Int)))=true then
 (idx a0.fCommunities s98.1).bind fun x113 =>
 (J6 x113.fA 2).bind fun r114 =>
 chk (decide ((((mget keq3 s98.2 8).getD [])++r114).length≤LIM)) <|
 (J6 x113.fB 2).bind fun r116 =>
 chk (decide (((((mget keq3 s98.2 8).getD [])++r114)++r116).length≤LIM)) <|
 some (.inr ((w64 (s98.1+1)),(mput keq3 s98.2 8 ((((mget keq3 s98.2 8).getD [])++r114)++r116))))
 else
 some (.inl s98.2))
def W4 (a0:C5) (s120:Int×(List (Int×(List Int)))):Option ((((List (Int×(List Int)))))⊕(Int×(List (Int×(List Int))))) :=
 (if (decide (s120.1<(a0.fLarge.length:Int)))=true then
 (idx a0.fLarge s120.1).bind fun x139 =>
 (J6 x139.fA 4).bind fun r140 =>
 chk (decide ((((mget keq3 s120.2 32).getD [])++r140).length≤LIM)) <|
 (J6 x139.fB 4).bind fun r142 =>
 chk (decide (((((mget keq3 s120.2 32).getD [])++r140)++r142).length≤LIM)) <|
 (J6 x139.fC 4).bind fun r144 =>
 chk (decide ((((((mget keq3 s120.2 32).getD [])++r140)++r142)++r144).length≤LIM)) <|
 some (.inr ((w64 (s120.1+1)),(mput keq3 s120.2 32 (((((mget keq3 s120.2 32).getD [])++r140)++r142)++r144))))
 else
 some (.inl s120.2))
def A0k (a0:C5) (s152:Int×(List A1)) (s256:Int×(List A1)):Option ((((List A1)))⊕(Int×(List A1))) :=
 (if (decide (s256.1<(a0.fOther.length:Int)))=true then
 (idx a0.fOther s256.1).bind fun x279 =>
 jn (fun m283:(List A1) =>
 some (.inr ((w64 (s256.1+1)),m283))) (fun j284 =>
 (if (x279.fType==s152.1)=true then
 chk (decide (x279.fData.length≤LIM)) <|
 chk (decide ((s256.2++[(A1.mk x279.fFlags s152.1 x279.fData)]).length≤LIM)) <|
 j284 (s256.2++[(A1.mk x279.fFlags s152.1 x279.fData)])
 else
 j284 s256.2))
 else
 some (.inl s256.2))
def N7 (a0:C5) (m150:(List (Int×(List Int)))) (s152:Int×(List A1)):Option ((((List A1)))⊕(Int×(List A1))) :=
 (if (decide (s152.1<256))=true then
 jn (fun m254:(List A1) =>
 (loop (A0k a0 s152) (0,m254)).bind fun p277 =>
 some (.inr ((w64 (s152.1+1)),p277))) (fun j255 =>
 (if (mget keq3 m150 s152.1).isSome=true then
 (A04 s152.1).bind fun r291 =>
 chk (decide (((mget keq3 m150 s152.1).getD ([]:List Int)).length≤LIM)) <|
 chk (decide ((s152.2++([(A1.mk r291 s152.1 ((mget keq3 m150 s152.1).getD ([]:List Int)))]:List A1)).length≤LIM)) <|
 j255 (s152.2++([(A1.mk r291 s152.1 ((mget keq3 m150 s152.1).getD ([]:List Int)))]:List A1))
 else
 j255 s152.2))
 else
 some (.inl s152.2))
def W5 (x356:A9) (s361:Int×(List Int)):Option ((((List Int)))⊕(Int×(List Int))) :=
 (if (decide (s361.1<(x356.fASNs.length:Int)))=true then
 (idx x356.fASNs s361.1).bind fun x372 =>
 (J6 x372 4).bind fun r373 =>
 chk (decide ((s361.2++r373).length≤LIM)) <|
 some (.inr ((w64 (s361.1+1)),(s361.2++r373)))
 else
 some (.inl s361.2))
def Q7 (a0:C5) (s305:Int×(List Int)):Option ((((List Int)))⊕(Int×(List Int))) :=
 (if (decide (s305.1<(a0.fPath.length:Int)))=true then
 (idx a0.fPath s305.1).bind fun x356 =>
 jn (fun m358:Int =>
 chk (decide ((s305.2++([m358,(IntKind.u8.wrap (x356.fASNs.length:Int))]:List Int)).length≤LIM)) <|
 (loop (W5 x356) (0,(s305.2++([m358,(IntKind.u8.wrap (x356.fASNs.length:Int))]:List Int)))).bind fun p370 =>
 some (.inr ((w64 (s305.1+1)),p370))) (fun j359 =>
 (if x356.fSet=true then
 j359 1
 else
 j359 2))
 else
 some (.inl s305.2))
def A1r (a0:C5):Option ((List A1)×Int) :=
 (U7 a0).bind fun r1 =>
 (if (!r1)=true then
 some (([]:List A1),1)
 else
 jn (fun m4:(List (Int×(List Int))) =>
 jn (fun m84:(List (Int×(List Int))) =>
 jn (fun m88:(List (Int×(List Int))) =>
 jn (fun m92:(List (Int×(List Int))) =>
 jn (fun m96:(List (Int×(List Int))) =>
 (loop (V9 a0) (0,m96)).bind fun p111 =>
 (loop (W4 a0) (0,p111)).bind fun p137 =>
 jn (fun m150:(List (Int×(List Int))) =>
 (loop (N7 a0 m150) (0,([]:List A1))).bind fun p248 =>
 some (p248,0)) (fun j151 =>
 (if (decide (0≤a0.fOTC))=true then
 (J6 a0.fOTC 4).bind fun r297 =>
 j151 (mput keq3 p137 35 r297)
 else
 j151 p137))) (fun j97 =>
 (if (decide (0≤a0.fPref))=true then
 (J6 a0.fPref 4).bind fun r299 =>
 j97 (mput keq3 m92 5 r299)
 else
 j97 m92))) (fun j93 =>
 (if (decide (0≤a0.fMED))=true then
 (J6 a0.fMED 4).bind fun r301 =>
 j93 (mput keq3 m88 4 r301)
 else
 j93 m88))) (fun j89 =>
 (if ((!((a0.fNext.fV6==false)&&((a0.fNext.fHi==0)&&((a0.fNext.fLo==0)&&true))))&&(!a0.fNext.fV6))=true then
 (M3 a0.fNext).bind fun r303 =>
 j89 (mput keq3 m84 3 r303)
 else
 j89 m84))) (fun j85 =>
 (if ((decide (0≤a0.fOrigin)) || (decide (0<(a0.fPath.length:Int))))=true then
 (loop (Q7 a0) (0,([]:List Int))).bind fun p354 =>
 j85 (mput keq3 m4 2 p354)
 else
 j85 m4))) (fun j5 =>
 (if (decide (0≤a0.fOrigin))=true then
 j5 (mput keq3 ([]:List (Int×(List Int))) 1 ([(IntKind.u8.wrap a0.fOrigin)]:List Int))
 else
 j5 ([]:List (Int×(List Int))))))
theorem A8r (a0:C5) (r:(List A1)×Int) (h:A1r a0=some r):AC Tryz.prog 81 [(.d (C1 a0))] [] (.tup [(.d (.list 3 (r.1.map A8))),(.d (.int .i64 r.2))]) []:=by
 refine ac2 Tryz.func81 rfl rfl fun B hB hN L => ?_
 delta A1r at h
 refine sr (SQ tt) ?_
 apply seq
 obtain⟨r1,hr1,h⟩:=bindS h
 refine sr (SQ (fa (cl [] (A4z a0 r1 hr1)) tt)) ?_
 apply AWp.cond rfl<;>intro hg2
 ·have h:=A3 hg2 h
  refine sr (SQ tt) ?_
  apply ret
  apply B3
  obtain rfl:=oi h
  exact rt (Mat.trans (Mat.coeP (Ts:=[(2,(B6 ([]:List A1)))]) (Bs:=[]) (TwT.cons (x:=.nils) (by rfl) (Tw.leaf ⟨_,(Co.nils 3),rfl⟩) TwT.nil) TwB.nil) (mp [] [(2,(B6 ([]:List A1))),(3,(i6 1))] [] hB)) [(B6 ([]:List A1)),(i6 1)] (rT (rT rN)) rfl
 ·have h:=A4 hg2 h
  apply AWp.skip
  apply A0
  refine sr (SQ tt) ?_
  apply sr (cg (OpJ.mkmapM hB (nm:=1024) (by decide) (h:=(eI .u8)) (e2:=5) (sz2:=1) (own:=[8,32]) (by decide) (fun _=>rfl) (L rfl)) rfl (c (assign (L rfl) (q 24)) rfl cn))
  apply seq
  refine sr (SQ tt) ?_
  refine gh [(1,_),(4,_),(5,_),(27,_)] [(1001,some _),(1024,some _)] hB rfl rfl (by rfl) ?_
  refine AWp.cut h (fun m4:(List (Int×(List Int)))=>([(1,(pt 1001)),(4,.nils),(5,(.mref 1024))]:EL)) (fun m4:(List (Int×(List Int)))=>([(1001,bd 35 (C1 a0)),(1024,some (.reg (mrow (eI .u8) 5 1 [8,32] m4 none)))]:OL)) (fun m4 h E' O' hmat => ?_) (fun j5 hjj5 h => ?_)
  ·apply A0
   refine ghost hmat ?_
   apply seq
   refine sr (SQ tt) ?_
   refine gh [(1,_),(4,_),(5,_),(41,_)] [(1001,some _),(1024,some _)] hB rfl rfl (by rfl) ?_
   refine AWp.cut h (fun m84:(List (Int×(List Int)))=>([(1,(pt 1001)),(4,.nils),(5,(.mref 1024))]:EL)) (fun m84:(List (Int×(List Int)))=>([(1001,bd 35 (C1 a0)),(1024,some (.reg (mrow (eI .u8) 5 1 [8,32] m84 none)))]:OL)) (fun m84 h E' O' hmat => ?_) (fun j85 hjj85 h => ?_)
   ·apply A0
    refine ghost hmat ?_
    apply seq
    refine sr (SQ tt) ?_
    refine gh [(1,_),(4,_),(5,_),(84,_)] [(1001,some _),(1024,some _)] hB rfl rfl (by rfl) ?_
    refine AWp.cut h (fun m88:(List (Int×(List Int)))=>([(1,(pt 1001)),(4,.nils),(5,(.mref 1024))]:EL)) (fun m88:(List (Int×(List Int)))=>([(1001,bd 35 (C1 a0)),(1024,some (.reg (mrow (eI .u8) 5 1 [8,32] m88 none)))]:OL)) (fun m88 h E' O' hmat => ?_) (fun j89 hjj89 h => ?_)
    ·apply A0
     refine ghost hmat ?_
     apply seq
     refine sr (SQ tt) ?_
     refine gh [(1,_),(4,_),(5,_),(91,_)] [(1001,some _),(1024,some _)] hB rfl rfl (by rfl) ?_
     refine AWp.cut h (fun m92:(List (Int×(List Int)))=>([(1,(pt 1001)),(4,.nils),(5,(.mref 1024))]:EL)) (fun m92:(List (Int×(List Int)))=>([(1001,bd 35 (C1 a0)),(1024,some (.reg (mrow (eI .u8) 5 1 [8,32] m92 none)))]:OL)) (fun m92 h E' O' hmat => ?_) (fun j93 hjj93 h => ?_)
     ·apply A0
      refine ghost hmat ?_
      apply seq
      refine sr (SQ tt) ?_
      refine gh [(1,_),(4,_),(5,_),(98,_)] [(1001,some _),(1024,some _)] hB rfl rfl (by rfl) ?_
      refine AWp.cut h (fun m96:(List (Int×(List Int)))=>([(1,(pt 1001)),(4,.nils),(5,(.mref 1024))]:EL)) (fun m96:(List (Int×(List Int)))=>([(1001,bd 35 (C1 a0)),(1024,some (.reg (mrow (eI .u8) 5 1 [8,32] m96 none)))]:OL)) (fun m96 h E' O' hmat => ?_) (fun j97 hjj97 h => ?_)
      ·apply A0
       refine ghost hmat ?_
       apply seq
       refine sr (SQ tt) ?_
       apply block
       obtain⟨p111,hx119,h⟩:=bindS h
       refine lg (V9 a0) (fun s98:Int×(List (Int×(List Int)))=>([(1,(pt 1001)),(4,.nils),(5,(.mref 1024)),(104,(B8 a0.fCommunities)),(105,(i6 (a0.fCommunities.length:Int))),(106,(i6 s98.1))]:EL)) (fun s98:Int×(List (Int×(List Int)))=>([(1001,bd 35 (C1 a0)),(1024,some (.reg (mrow (eI .u8) 5 1 [8,32] s98.2 none)))]:OL)) (fun(p111:((List (Int×(List Int))))) e E' O'=>e = .exit 4∧Mat B E' O' ([(1,(pt 1001)),(4,.nils),(5,(.mref 1024))]:EL) ([(1001,bd 35 (C1 a0)),(1024,some (.reg (mrow (eI .u8) 5 1 [8,32] p111 none)))]:OL)) hx119 (mp [] _ _ hB) (fun s98 y h => ?_) (fun e E' O' hR => ?_)
       ·unfold V9 at h
        refine sr (SQ tt) ?_
        apply seq
        apply AWp.cond rfl<;>intro hg112
        ·have h:=A3 hg112 h
         apply AWp.skip
         apply A0
         apply seq
         apply block
         obtain⟨x113,hx113,h⟩:=bindS h
         refine sr (SQ (fa hx113 tt)) ?_
         obtain⟨r114,hr114,h⟩:=bindS h
         obtain⟨hc115,h⟩:=B4 h
         obtain⟨r116,hr116,h⟩:=bindS h
         obtain⟨hc117,h⟩:=B4 h
         apply dr (c (mv hN (q 5)) rfl (c (mv hN (q 5)) rfl (cg (OpJ.mtakeM (m:=1112) (h:=(eI .u8)) (e2:=5) (sz2:=1) (own:=[8,32]) (eq:=keq3) (l:=s98.2) (k:=8) hB (fun _ _=>rfl) tyU147 underlying3 tyZ67 (by decide) (by decide) (xs:=((mget keq3 s98.2 8).getD [])) rfl (len:=((mget keq3 s98.2 8).getD []).length) rfl (L rfl) (q 111) (ii 8)) rfl (c (fo 1013 0 [0] hN underlying98 0 tyS3 (q 13)) rfl (c (la hN 98 tyS3 (q 113)) rfl (cg (cf hB fnOk106 (K5 x113.fA 2 r114 hr114) (L rfl) (OpdL.cons (q 114) (OpdL.cons (ii 2) OpdL.nil))) rfl (cg (apd hB underlying67 tyE5 1116 (eI .u8) ((mget keq3 s98.2 8).getD []) r114 hc115 (L rfl) (q 112) (q 115)) rfl (c (fo 1013 1 [1] hN underlying98 1 tyS3 (q 13)) rfl (c (la hN 98 tyS3 (q 117)) rfl (cg (cf hB fnOk106 (K5 x113.fB 2 r116 hr116) (L rfl) (OpdL.cons (q 118) (OpdL.cons (ii 2) OpdL.nil))) rfl (cg (apd hB underlying67 tyE5 1120 (eI .u8) (((mget keq3 s98.2 8).getD [])++r114) r116 hc117 (L rfl) (q 116) (q 119)) rfl (cg (OpJ.mputR (h:=(eI .u8)) (e2:=5) (sz2:=1) (own:=[8,32]) (eq:=keq3) (l:=s98.2) (k:=8) (xs:=((((mget keq3 s98.2 8).getD [])++r114)++r116)) (fun _ _=>rfl) tyU147 underlying3 (by decide) (len:=((((mget keq3 s98.2 8).getD [])++r114)++r116).length) rfl (q 110) (ii 8) (q 120)) rfl cn)))))))))))) (by kernel_rfl) (by kernel_rfl)
         apply D7
         apply A0
         refine rg (SQ tt) ?_
         obtain rfl:=oi h
         exact⟨rfl,(mp [] _ _ hB)⟩
        ·have h:=A4 hg112 h
         apply AWp.exit
         apply D9
         obtain rfl:=oi h
         exact⟨(fun hc=>by cases hc),rfl,(mp [] _ _ hB)⟩
       ·obtain⟨rfl,hmat⟩:=hR
        apply C0
        apply A0
        refine ghost hmat ?_
        apply seq
        refine sr (SQ tt) ?_
        apply block
        obtain⟨p137,hx147,h⟩:=bindS h
        refine lg (W4 a0) (fun s120:Int×(List (Int×(List Int)))=>([(1,(pt 1001)),(4,.nils),(5,(.mref 1024)),(123,(D4 a0.fLarge)),(124,(i6 (a0.fLarge.length:Int))),(125,(i6 s120.1))]:EL)) (fun s120:Int×(List (Int×(List Int)))=>([(1001,bd 35 (C1 a0)),(1024,some (.reg (mrow (eI .u8) 5 1 [8,32] s120.2 none)))]:OL)) (fun(p137:((List (Int×(List Int))))) e E' O'=>e = .exit 6∧Mat B E' O' ([(1,(pt 1001)),(4,.nils),(5,(.mref 1024))]:EL) ([(1001,bd 35 (C1 a0)),(1024,some (.reg (mrow (eI .u8) 5 1 [8,32] p137 none)))]:OL)) hx147 (mp [] _ _ hB) (fun s120 y h => ?_) (fun e E' O' hR => ?_)
        ·unfold W4 at h
         refine sr (SQ tt) ?_
         apply seq
         apply AWp.cond rfl<;>intro hg138
         ·have h:=A3 hg138 h
          apply AWp.skip
          apply A0
          apply seq
          apply block
          obtain⟨x139,hx139,h⟩:=bindS h
          refine sr (SQ (fa hx139 tt)) ?_
          obtain⟨r140,hr140,h⟩:=bindS h
          obtain⟨hc141,h⟩:=B4 h
          obtain⟨r142,hr142,h⟩:=bindS h
          obtain⟨hc143,h⟩:=B4 h
          obtain⟨r144,hr144,h⟩:=bindS h
          obtain⟨hc145,h⟩:=B4 h
          apply dr (c (mv hN (q 5)) rfl (c (mv hN (q 5)) rfl (cg (OpJ.mtakeM (m:=1131) (h:=(eI .u8)) (e2:=5) (sz2:=1) (own:=[8,32]) (eq:=keq3) (l:=s120.2) (k:=32) hB (fun _ _=>rfl) tyU147 underlying3 tyZ67 (by decide) (by decide) (xs:=((mget keq3 s120.2 32).getD [])) rfl (len:=((mget keq3 s120.2 32).getD []).length) rfl (L rfl) (q 130) (ii 32)) rfl (c (fo 1015 0 [0] hN underlying100 0 tyS3 (q 15)) rfl (c (la hN 100 tyS3 (q 132)) rfl (cg (cf hB fnOk106 (K5 x139.fA 4 r140 hr140) (L rfl) (OpdL.cons (q 133) (OpdL.cons (ii 4) OpdL.nil))) rfl (cg (apd hB underlying67 tyE5 1135 (eI .u8) ((mget keq3 s120.2 32).getD []) r140 hc141 (L rfl) (q 131) (q 134)) rfl (c (fo 1015 1 [1] hN underlying100 1 tyS3 (q 15)) rfl (c (la hN 100 tyS3 (q 136)) rfl (cg (cf hB fnOk106 (K5 x139.fB 4 r142 hr142) (L rfl) (OpdL.cons (q 137) (OpdL.cons (ii 4) OpdL.nil))) rfl (cg (apd hB underlying67 tyE5 1139 (eI .u8) (((mget keq3 s120.2 32).getD [])++r140) r142 hc143 (L rfl) (q 135) (q 138)) rfl (c (fo 1015 2 [2] hN underlying100 2 tyS3 (q 15)) rfl (c (la hN 100 tyS3 (q 140)) rfl (cg (cf hB fnOk106 (K5 x139.fC 4 r144 hr144) (L rfl) (OpdL.cons (q 141) (OpdL.cons (ii 4) OpdL.nil))) rfl (cg (apd hB underlying67 tyE5 1143 (eI .u8) ((((mget keq3 s120.2 32).getD [])++r140)++r142) r144 hc145 (L rfl) (q 139) (q 142)) rfl (cg (OpJ.mputR (h:=(eI .u8)) (e2:=5) (sz2:=1) (own:=[8,32]) (eq:=keq3) (l:=s120.2) (k:=32) (xs:=(((((mget keq3 s120.2 32).getD [])++r140)++r142)++r144)) (fun _ _=>rfl) tyU147 underlying3 (by decide) (len:=(((((mget keq3 s120.2 32).getD [])++r140)++r142)++r144).length) rfl (q 129) (ii 32) (q 143)) rfl cn)))))))))))))))) (by kernel_rfl) (by kernel_rfl)
          apply D7
          apply A0
          refine rg (SQ tt) ?_
          obtain rfl:=oi h
          exact⟨rfl,(mp [] _ _ hB)⟩
         ·have h:=A4 hg138 h
          apply AWp.exit
          apply D9
          obtain rfl:=oi h
          exact⟨(fun hc=>by cases hc),rfl,(mp [] _ _ hB)⟩
        ·obtain⟨rfl,hmat⟩:=hR
         apply C0
         apply A0
         refine ghost hmat ?_
         apply seq
         refine sr (SQ tt) ?_
         refine gh [(1,_),(4,_),(5,_),(147,_)] [(1001,some _),(1024,some _)] hB rfl rfl (by rfl) ?_
         refine AWp.cut h (fun m150:(List (Int×(List Int)))=>([(1,(pt 1001)),(4,.nils),(5,(.mref 1024))]:EL)) (fun m150:(List (Int×(List Int)))=>([(1001,bd 35 (C1 a0)),(1024,some (.reg (mrow (eI .u8) 5 1 [8,32] m150 none)))]:OL)) (fun m150 h E' O' hmat => ?_) (fun j151 hjj151 h => ?_)
         ·apply A0
          refine ghost hmat ?_
          apply seq
          refine sr (SQ tt) ?_
          apply block
          obtain⟨p248,hx295,h⟩:=bindS h
          refine lg (N7 a0 m150) (fun s152:Int×(List A1)=>([(1,(pt 1001)),(4,(.sref 3004 3 0 s152.2.length)),(5,(.mref 1024)),(152,(i6 s152.1))]:EL)) (fun s152:Int×(List A1)=>([(1001,bd 35 (C1 a0)),(1024,some (.blk (mapQ (mpairs (eI .i64) A5w m150)))),(3004,some (D1 s152.2))]:OL)) (fun(p248:((List A1))) e E' O'=>e = .exit 8∧Mat B E' O' ([(4,(.sref 3004 3 0 p248.length))]:EL) ([(3004,some (D1 p248))]:OL)) hx295 (Mat.trans (Mat.freezeM (n:=1024) (h:=(eI .u8)) (e2:=5) (sz2:=1) (own:=[8,32]) (l:=m150) (by rfl)) (Mat.trans (Mat.beginP (n:=3004) (e:=69) (sz:=3) (Ts:=[(4,(.sref 3004 3 0 0))]) (Bs:=[]) hB (by decide) (by rfl) (by decide) (TwT.cons (x:=.nils) (by rfl) (Tw.leaf ⟨rfl,rfl⟩) TwT.nil) TwB.nil) (mp [] _ _ hB))) (fun s152 y h => ?_) (fun e E' O' hR => ?_)
          ·unfold N7 at h
           refine sr (SQ tt) ?_
           apply seq
           apply AWp.cond rfl<;>intro hg249
           ·have h:=A3 hg249 h
            apply AWp.skip
            apply A0
            apply seq
            apply block
            refine sr (SQ tt) ?_
            apply seq
            apply sr (c (mv hN (q 5)) rfl (c (mv hN (q 16)) rfl (cg (OpJ.mlook2Q (g:=A5w) (l:=m150) (k:=s152.1) tyU147 underlying3 keyEq3 (z:=([]:List Int)) tyZD67 (L rfl) (q 156) (q 157)) rfl (c (mv hN (q 158)) rfl (c (extract (by rfl) rfl (L rfl) (q 155)) rfl (c (extract (by rfl) rfl (L rfl) (q 155)) rfl (c (assign (L rfl) (q 159)) rfl (c (assign (L rfl) (q 160)) rfl cn))))))))
            refine sr (SQ tt) ?_
            refine gh [(1,_),(4,_),(5,_),(16,_),(17,_),(152,_),(161,_)] [(1001,some _),(1024,some _),(3004,some _)] hB rfl rfl (by rfl) ?_
            refine AWp.cut h (fun m254:(List A1)=>([(1,(pt 1001)),(4,(.sref 3004 3 0 m254.length)),(5,(.mref 1024)),(16,(i6 s152.1)),(152,(i6 s152.1))]:EL)) (fun m254:(List A1)=>([(1001,bd 35 (C1 a0)),(1024,some (.blk (mapQ (mpairs (eI .i64) A5w m150)))),(3004,some (D1 m254))]:OL)) (fun m254 h E' O' hmat => ?_) (fun j255 hjj255 h => ?_)
            ·apply A0
             refine ghost hmat ?_
             refine sr (SQ tt) ?_
             apply block
             obtain⟨p277,hx289,h⟩:=bindS h
             refine lg (A0k a0 s152) (fun s256:Int×(List A1)=>([(1,(pt 1001)),(4,(.sref 3004 3 0 s256.2.length)),(5,(.mref 1024)),(16,(i6 s152.1)),(152,(i6 s152.1)),(172,(B6 a0.fOther)),(173,(i6 (a0.fOther.length:Int))),(174,(i6 s256.1))]:EL)) (fun s256:Int×(List A1)=>([(1001,bd 35 (C1 a0)),(1024,some (.blk (mapQ (mpairs (eI .i64) A5w m150)))),(3004,some (D1 s256.2))]:OL)) (fun(p277:((List A1))) e E' O'=>e = .exit 10∧Mat B E' O' ([(1,(pt 1001)),(4,(.sref 3004 3 0 p277.length)),(5,(.mref 1024)),(152,(i6 s152.1))]:EL) ([(1001,bd 35 (C1 a0)),(1024,some (.blk (mapQ (mpairs (eI .i64) A5w m150)))),(3004,some (D1 p277))]:OL)) hx289 (mp [] _ _ hB) (fun s256 y h => ?_) (fun e E' O' hR => ?_)
             ·unfold A0k at h
              refine sr (SQ tt) ?_
              apply seq
              apply AWp.cond rfl<;>intro hg278
              ·have h:=A3 hg278 h
               apply AWp.skip
               apply A0
               apply seq
               apply block
               obtain⟨x279,hx279,h⟩:=bindS h
               refine sr (SQ (fa hx279 tt)) ?_
               refine sr (SQ tt) ?_
               refine gh [(1,_),(4,_),(5,_),(16,_),(20,_),(152,_),(172,_),(173,_),(174,_),(181,_)] [(1001,some _),(1020,some _),(1024,some _),(3004,some _)] hB rfl rfl (by rfl) ?_
               refine AWp.cut h (fun m283:(List A1)=>([(1,(pt 1001)),(4,(.sref 3004 3 0 m283.length)),(5,(.mref 1024)),(16,(i6 s152.1)),(152,(i6 s152.1)),(172,(B6 a0.fOther)),(173,(i6 (a0.fOther.length:Int))),(174,(i6 s256.1))]:EL)) (fun m283:(List A1)=>([(1001,bd 35 (C1 a0)),(1024,some (.blk (mapQ (mpairs (eI .i64) A5w m150)))),(3004,some (D1 m283))]:OL)) (fun m283 h E' O' hmat => ?_) (fun j284 hjj284 h => ?_)
               ·apply D7
                apply A0
                refine ghost hmat ?_
                refine rg (SQ tt) ?_
                obtain rfl:=oi h
                exact⟨rfl,(mp [] _ _ hB)⟩
               ·apply AWp.cond rfl<;>intro hg285
                ·have h:=A3 hg285 h
                 obtain⟨hc286,h⟩:=B4 h
                 obtain⟨hc287,h⟩:=B4 h
                 apply dr (c (mv hN (q 4)) rfl (c (fo 1020 0 [0] hN underlying69 0 tyS3 (q 20)) rfl (c (la hN 69 tyS3 (q 183)) rfl (c (mv hN (q 16)) rfl (c (fo 1020 2 [2] hN underlying69 2 tyS67 (q 20)) rfl (c (la hN 69 tyS67 (q 186)) rfl (cg (OpJ.frz (OpJ.appendN hB underlying67 tyE5 (nm:=1188) (by decide) (ys:=x279.fData.map (eI .u8)) (len:=x279.fData.length) (by simp) (A3x (f:=(eI .u8)) (fun _=>rfl)) (by rw [List.length_map];exact X8 hc286 (by decide)) (by rw [List.length_map];exact A25 hc286) (L rfl) Opd.nils (q 187)) (by simp)) rfl (c (OpJ.coe (v:=(.st [(i6 x279.fFlags),(i6 s152.1),(.d (.list 1 (x279.fData.map (eI .u8))))])) (y:=(.st [(.int .i64 x279.fFlags),(.int .i64 s152.1),(.list 1 (x279.fData.map (eI .u8)))])) (Co.st (CoL.cons (Co.d _) (CoL.cons (Co.d _) (CoL.cons (Co.d _) CoL.nil)))) rfl (OpJ.build (places:=[(0,1),(1,1),(2,1)]) ⟨underlying69,fun w=>by kernel_rfl⟩ tyZS69 (Opds.cons (q 184) (Opds.cons (q 185) (Opds.cons (q 188) Opds.nil))) (by kernel_rfl) (r:=(.st [(i6 x279.fFlags),(i6 s152.1),(.d (.list 1 (x279.fData.map (eI .u8))))])) (by rfl) (L rfl))) rfl (c (buildSlice underlying33 tyS69 tyZD69 (by rfl) (by decide) (by decide) (Opds.cons (q 189) Opds.nil) (by kernel_rfl) (es:=([(.st [(.int .i64 x279.fFlags),(.int .i64 s152.1),(.list 1 (x279.fData.map (eI .u8)))])]:List D)) (by rfl) (by rfl) (by kernel_rfl) (by simp) (L rfl)) rfl (cg (apd hB underlying33 tyE69 1191 A8 s256.2 [(A1.mk x279.fFlags s152.1 x279.fData)] hc287 (L rfl) (q 182) (q 190)) rfl (c (assign (L rfl) (q 191)) rfl cn))))))))))) (by kernel_rfl) (by kernel_rfl)
                 exact hjj284 _ h _ _ (mp [(3004,1191)] _ _ hB)
                ·have h:=A4 hg285 h
                 apply AWp.skip
                 exact hjj284 _ h _ _ (mp [] _ _ hB)
              ·have h:=A4 hg278 h
               apply AWp.exit
               apply D9
               obtain rfl:=oi h
               exact⟨(fun hc=>by cases hc),rfl,(mp [] _ _ hB)⟩
             ·obtain⟨rfl,hmat⟩:=hR
              apply C0
              apply D7
              apply A0
              refine ghost hmat ?_
              refine rg (SQ tt) ?_
              obtain rfl:=oi h
              exact⟨rfl,(mp [] _ _ hB)⟩
            ·apply AWp.cond rfl<;>intro hg290
             ·have h:=A3 hg290 h
              obtain⟨r291,hr291,h⟩:=bindS h
              obtain⟨hc292,h⟩:=B4 h
              obtain⟨hc293,h⟩:=B4 h
              apply rg (c (mv hN (q 4)) rfl (c (mv hN (q 16)) rfl (cg (cf hB fnOk101 (A4y s152.1 r291 hr291) (L rfl) (OpdL.cons (q 163) OpdL.nil)) rfl (c (mv hN (q 16)) rfl (c (mv hN (q 17)) rfl (cg (OpJ.frz (OpJ.appendN hB underlying67 tyE5 (nm:=1167) (by decide) (ys:=((mget keq3 m150 s152.1).getD ([]:List Int)).map (eI .u8)) (len:=((mget keq3 m150 s152.1).getD ([]:List Int)).length) (by simp) (A3x (f:=(eI .u8)) (fun _=>rfl)) (by rw [List.length_map];exact X8 hc292 (by decide)) (by rw [List.length_map];exact A25 hc292) (L rfl) Opd.nils (q 166)) (by simp)) rfl (c (OpJ.coe (v:=(.st [(i6 r291),(i6 s152.1),(.d (.list 1 (((mget keq3 m150 s152.1).getD ([]:List Int)).map (eI .u8))))])) (y:=(.st [(.int .i64 r291),(.int .i64 s152.1),(.list 1 (((mget keq3 m150 s152.1).getD ([]:List Int)).map (eI .u8)))])) (Co.st (CoL.cons (Co.d _) (CoL.cons (Co.d _) (CoL.cons (Co.d _) CoL.nil)))) rfl (OpJ.build (places:=[(0,1),(1,1),(2,1)]) ⟨underlying69,fun w=>by kernel_rfl⟩ tyZS69 (Opds.cons (q 164) (Opds.cons (q 165) (Opds.cons (q 167) Opds.nil))) (by kernel_rfl) (r:=(.st [(i6 r291),(i6 s152.1),(.d (.list 1 (((mget keq3 m150 s152.1).getD ([]:List Int)).map (eI .u8))))])) (by rfl) (L rfl))) rfl (c (buildSlice underlying33 tyS69 tyZD69 (by rfl) (by decide) (by decide) (Opds.cons (q 168) Opds.nil) (by kernel_rfl) (es:=([(.st [(.int .i64 r291),(.int .i64 s152.1),(.list 1 (((mget keq3 m150 s152.1).getD ([]:List Int)).map (eI .u8)))])]:List D)) (by rfl) (by rfl) (by kernel_rfl) (by simp) (L rfl)) rfl (cg (apd hB underlying33 tyE69 1170 A8 s152.2 ([(A1.mk r291 s152.1 ((mget keq3 m150 s152.1).getD ([]:List Int)))]:List A1) hc293 (L rfl) (q 162) (q 169)) rfl (c (assign (L rfl) (q 170)) rfl cn))))))))))
              exact hjj255 _ h _ _ (mp [(3004,1170)] _ _ hB)
             ·have h:=A4 hg290 h
              apply AWp.skip
              exact hjj255 _ h _ _ (mp [] _ _ hB)
           ·have h:=A4 hg249 h
            apply AWp.exit
            apply D9
            obtain rfl:=oi h
            exact⟨(fun hc=>by cases hc),rfl,(mp [] _ _ hB)⟩
          ·obtain⟨rfl,hmat⟩:=hR
           apply C0
           apply A0
           refine ghost hmat ?_
           refine sr (SQ tt) ?_
           apply ret
           obtain rfl:=oi h
           exact rt (Mat.trans (Mat.freezeP (n:=3004) (e:=69) (sz:=3) (es:=p248.map A8) (Ts:=[(2,(B6 p248))]) (Bs:=[]) (by rfl) (TwT.cons (x:=(.sref 3004 3 0 p248.length)) (by rfl) (FrzL.all (by first | rfl | (simp;done) | (simp;omega) | omega)) TwT.nil) TwB.nil) (mp [] [(2,(B6 p248)),(3,(i6 0))] [] hB)) [(B6 p248),(i6 0)] (rT (rT rN)) rfl
         ·apply AWp.cond rfl<;>intro hg296
          ·have h:=A3 hg296 h
           obtain⟨r297,hr297,h⟩:=bindS h
           apply rg (c (mv hN (q 5)) rfl (c (fo 1001 7 [5] hN underlying35 7 tyS3 (q 1)) rfl (c (la hN 35 tyS3 (q 149)) rfl (cg (cf hB fnOk106 (K5 a0.fOTC 4 r297 hr297) (L rfl) (OpdL.cons (q 150) (OpdL.cons (ii 4) OpdL.nil))) rfl (cg (OpJ.mputM (h:=(eI .u8)) (e2:=5) (sz2:=1) (own:=[8,32]) (eq:=keq3) (l:=p137) (k:=35) (xs:=r297) (fun _ _=>rfl) tyU147 underlying3 (by decide) (q 148) (ii 35) (q 151)) rfl cn)))))
           exact hjj151 _ h _ _ (mp [] _ _ hB)
          ·have h:=A4 hg296 h
           apply AWp.skip
           exact hjj151 _ h _ _ (mp [] _ _ hB)
      ·apply AWp.cond rfl<;>intro hg298
       ·have h:=A3 hg298 h
        obtain⟨r299,hr299,h⟩:=bindS h
        apply rg (c (mv hN (q 5)) rfl (c (fo 1001 6 [4] hN underlying35 6 tyS3 (q 1)) rfl (c (la hN 35 tyS3 (q 100)) rfl (cg (cf hB fnOk106 (K5 a0.fPref 4 r299 hr299) (L rfl) (OpdL.cons (q 101) (OpdL.cons (ii 4) OpdL.nil))) rfl (cg (OpJ.mputM (h:=(eI .u8)) (e2:=5) (sz2:=1) (own:=[8,32]) (eq:=keq3) (l:=m92) (k:=5) (xs:=r299) (fun _ _=>rfl) tyU147 underlying3 (by decide) (q 99) (ii 5) (q 102)) rfl cn)))))
        exact hjj97 _ h _ _ (mp [] _ _ hB)
       ·have h:=A4 hg298 h
        apply AWp.skip
        exact hjj97 _ h _ _ (mp [] _ _ hB)
     ·apply AWp.cond rfl<;>intro hg300
      ·have h:=A3 hg300 h
       obtain⟨r301,hr301,h⟩:=bindS h
       apply rg (c (mv hN (q 5)) rfl (c (fo 1001 5 [3] hN underlying35 5 tyS3 (q 1)) rfl (c (la hN 35 tyS3 (q 93)) rfl (cg (cf hB fnOk106 (K5 a0.fMED 4 r301 hr301) (L rfl) (OpdL.cons (q 94) (OpdL.cons (ii 4) OpdL.nil))) rfl (cg (OpJ.mputM (h:=(eI .u8)) (e2:=5) (sz2:=1) (own:=[8,32]) (eq:=keq3) (l:=m88) (k:=4) (xs:=r301) (fun _ _=>rfl) tyU147 underlying3 (by decide) (q 92) (ii 4) (q 95)) rfl cn)))))
       exact hjj93 _ h _ _ (mp [] _ _ hB)
      ·have h:=A4 hg300 h
       apply AWp.skip
       exact hjj93 _ h _ _ (mp [] _ _ hB)
    ·apply AWp.cond rfl<;>intro hg302
     ·have h:=A3 hg302 h
      obtain⟨r303,hr303,h⟩:=bindS h
      apply rg (c (mv hN (q 5)) rfl (c (fo 1001 2 [2] hN underlying35 2 tyS27 (q 1)) rfl (c (la hN 35 tyS27 (q 86)) rfl (cg (cf hB fnOk84 (A2o a0.fNext r303 hr303) (L rfl) (OpdL.cons (q 87) OpdL.nil)) rfl (cg (OpJ.mputM (h:=(eI .u8)) (e2:=5) (sz2:=1) (own:=[8,32]) (eq:=keq3) (l:=m84) (k:=3) (xs:=r303) (fun _ _=>rfl) tyU147 underlying3 (by decide) (q 85) (ii 3) (q 88)) rfl cn)))))
      exact hjj89 _ h _ _ (mp [] _ _ hB)
     ·have h:=A4 hg302 h
      apply AWp.skip
      exact hjj89 _ h _ _ (mp [] _ _ hB)
   ·apply AWp.cond rfl<;>intro hg304
    ·have h:=A3 hg304 h
     apply sr (cg (OpJ.buildSliceR underlying67 tyS5 tyZD5 (by rfl) (by decide) (by decide) hB (nm:=1042) (by decide) (len:=([]:List Int).length) (by rfl) Opds.nil (by kernel_rfl) (es:=([]:List Int).map (eI .u8)) (by rfl) (by rfl) (by kernel_rfl) (by simp) (L rfl)) rfl (c (assign (L rfl) (q 42)) rfl cn))
     apply seq
     refine sr (SQ tt) ?_
     apply block
     obtain⟨p354,hx379,h⟩:=bindS h
     refine lg (Q7 a0) (fun s305:Int×(List Int)=>([(1,(pt 1001)),(4,.nils),(5,(.mref 1024)),(6,(.sref 3006 1 0 s305.2.length)),(44,(B9 a0.fPath)),(45,(i6 (a0.fPath.length:Int))),(46,(i6 s305.1))]:EL)) (fun s305:Int×(List Int)=>([(1001,bd 35 (C1 a0)),(1024,some (.reg (mrow (eI .u8) 5 1 [8,32] m4 none))),(3006,some (.row 5 1 (s305.2.map (eI .u8))))]:OL)) (fun(p354:((List Int))) e E' O'=>e = .exit 0∧Mat B E' O' ([(1,(pt 1001)),(4,.nils),(5,(.mref 1024)),(6,(.sref 3006 1 0 p354.length))]:EL) ([(1001,bd 35 (C1 a0)),(1024,some (.reg (mrow (eI .u8) 5 1 [8,32] m4 none))),(3006,some (.row 5 1 (p354.map (eI .u8))))]:OL)) hx379 (mp [(3006,1042)] _ _ hB) (fun s305 y h => ?_) (fun e E' O' hR => ?_)
     ·unfold Q7 at h
      refine sr (SQ tt) ?_
      apply seq
      apply AWp.cond rfl<;>intro hg355
      ·have h:=A3 hg355 h
       apply AWp.skip
       apply A0
       apply seq
       apply block
       obtain⟨x356,hx356,h⟩:=bindS h
       refine sr (SQ (fa hx356 tt)) ?_
       refine sr (SQ tt) ?_
       apply seq
       refine sr (SQ tt) ?_
       refine gh [(1,_),(4,_),(5,_),(6,_),(8,_),(9,_),(44,_),(45,_),(46,_),(51,_)] [(1001,some _),(1008,some _),(1024,some _),(3006,some _)] hB rfl rfl (by rfl) ?_
       refine AWp.cut h (fun m358:Int=>([(1,(pt 1001)),(4,.nils),(5,(.mref 1024)),(6,(.sref 3006 1 0 s305.2.length)),(8,(pt 1008)),(9,(.d (.int .u8 m358))),(44,(B9 a0.fPath)),(45,(i6 (a0.fPath.length:Int))),(46,(i6 s305.1))]:EL)) (fun m358:Int=>([(1001,bd 35 (C1 a0)),(1008,bd 66 (C2 x356)),(1024,some (.reg (mrow (eI .u8) 5 1 [8,32] m4 none))),(3006,some (.row 5 1 (s305.2.map (eI .u8))))]:OL)) (fun m358 h E' O' hmat => ?_) (fun j359 hjj359 h => ?_)
       ·apply A0
        refine ghost hmat ?_
        obtain⟨hc360,h⟩:=B4 h
        refine sr (SQ (fa hc360 tt)) ?_
        refine sr (SQ tt) ?_
        apply block
        obtain⟨p370,hx376,h⟩:=bindS h
        refine lg (W5 x356) (fun s361:Int×(List Int)=>([(1,(pt 1001)),(4,.nils),(5,(.mref 1024)),(6,(.sref 3006 1 0 s361.2.length)),(44,(B9 a0.fPath)),(45,(i6 (a0.fPath.length:Int))),(46,(i6 s305.1)),(61,(qI_1 x356.fASNs)),(62,(i6 (x356.fASNs.length:Int))),(63,(i6 s361.1))]:EL)) (fun s361:Int×(List Int)=>([(1001,bd 35 (C1 a0)),(1024,some (.reg (mrow (eI .u8) 5 1 [8,32] m4 none))),(3006,some (.row 5 1 (s361.2.map (eI .u8))))]:OL)) (fun(p370:((List Int))) e E' O'=>e = .exit 2∧Mat B E' O' ([(1,(pt 1001)),(4,.nils),(5,(.mref 1024)),(6,(.sref 3006 1 0 p370.length)),(44,(B9 a0.fPath)),(45,(i6 (a0.fPath.length:Int))),(46,(i6 s305.1))]:EL) ([(1001,bd 35 (C1 a0)),(1024,some (.reg (mrow (eI .u8) 5 1 [8,32] m4 none))),(3006,some (.row 5 1 (p370.map (eI .u8))))]:OL)) hx376 (mp [(3006,1059)] _ _ hB) (fun s361 y h => ?_) (fun e E' O' hR => ?_)
        ·unfold W5 at h
         refine sr (SQ tt) ?_
         apply seq
         apply AWp.cond rfl<;>intro hg371
         ·have h:=A3 hg371 h
          apply AWp.skip
          apply A0
          apply seq
          apply block
          obtain⟨x372,hx372,h⟩:=bindS h
          refine sr (SQ (fa hx372 tt)) ?_
          obtain⟨r373,hr373,h⟩:=bindS h
          obtain⟨hc374,h⟩:=B4 h
          refine rg (SQ (fa (cl [] (K5 x372 4 r373 hr373)) (fa hc374 tt))) ?_
          apply D7
          apply A0
          refine rg (SQ tt) ?_
          obtain rfl:=oi h
          exact⟨rfl,(mp [(3006,1070)] _ _ hB)⟩
         ·have h:=A4 hg371 h
          apply AWp.exit
          apply D9
          obtain rfl:=oi h
          exact⟨(fun hc=>by cases hc),rfl,(mp [] _ _ hB)⟩
        ·obtain⟨rfl,hmat⟩:=hR
         apply C0
         apply D7
         apply A0
         refine ghost hmat ?_
         refine rg (SQ tt) ?_
         obtain rfl:=oi h
         exact⟨rfl,(mp [] _ _ hB)⟩
       ·apply AWp.cond rfl<;>intro hg377
        ·have h:=A3 hg377 h
         refine rg (SQ tt) ?_
         exact hjj359 _ h _ _ (mp [] _ _ hB)
        ·have h:=A4 hg377 h
         apply AWp.skip
         exact hjj359 _ h _ _ (mp [] _ _ hB)
      ·have h:=A4 hg355 h
       apply AWp.exit
       apply D9
       obtain rfl:=oi h
       exact⟨(fun hc=>by cases hc),rfl,(mp [] _ _ hB)⟩
     ·obtain⟨rfl,hmat⟩:=hR
      apply C0
      apply A0
      refine ghost hmat ?_
      refine ghost (Mat.freezeP (n:=3006) (e:=5) (sz:=1) (es:=p354.map (eI .u8)) (Ts:=[(6,(.d (.list 1 (p354.map (eI .u8)))))]) (Bs:=[]) (by rfl) (TwT.cons (x:=(.sref 3006 1 0 p354.length)) (by rfl) (FrzL.all (by first | rfl | (simp;done) | (simp;omega) | omega)) TwT.nil) TwB.nil) ?_
      apply rg (c (mv hN (q 5)) rfl (c (mv hN (q 6)) rfl (cg (OpJ.mputM (h:=(eI .u8)) (e2:=5) (sz2:=1) (own:=[8,32]) (eq:=keq3) (l:=m4) (k:=2) (xs:=p354) (fun _ _=>rfl) tyU147 underlying3 (by decide) (q 73) (ii 2) (q 74)) rfl cn)))
      exact hjj85 _ h _ _ (mp [] _ _ hB)
    ·have h:=A4 hg304 h
     apply AWp.skip
     exact hjj85 _ h _ _ (mp [] _ _ hB)
  ·apply AWp.cond rfl<;>intro hg380
   ·have h:=A3 hg380 h
    apply rg (c (mv hN (q 5)) rfl (c (fo 1001 0 [0] hN underlying35 0 tyS3 (q 1)) rfl (c (la hN 35 tyS3 (q 29)) rfl (c (OpJ.conv underlying3 underlying5 (L rfl) (q 30)) rfl (c (buildSlice underlying67 tyS5 tyZD5 (by rfl) (by decide) (by decide) (Opds.cons (q 31) Opds.nil) (by kernel_rfl) (es:=([(.int .u8 (IntKind.u8.wrap a0.fOrigin))]:List D)) (by rfl) (by rfl) (by kernel_rfl) (by simp) (L rfl)) rfl (cg (OpJ.mputM (h:=(eI .u8)) (e2:=5) (sz2:=1) (own:=[8,32]) (eq:=keq3) (l:=([]:List (Int×(List Int)))) (k:=1) (xs:=([(IntKind.u8.wrap a0.fOrigin)]:List Int)) (fun _ _=>rfl) tyU147 underlying3 (by decide) (q 28) (ii 1) (q 32)) rfl cn))))))
    exact hjj5 _ h _ _ (mp [] _ _ hB)
   ·have h:=A4 hg380 h
    apply AWp.skip
    exact hjj5 _ h _ _ (mp [] _ _ hB)
def W6 (a0:(List A2)) (a1:Bool) (s1:Int×(List Int)):Option ((((List Int)))⊕(Int×(List Int))) :=
 (if (decide (s1.1<(a0.length:Int)))=true then
 (idx a0 s1.1).bind fun x32 =>
 jn (fun m38:(List Int) =>
 some (.inr ((w64 (s1.1+1)),m38))) (fun j39 =>
 (if (x32.fAddr.fV6==a1)=true then
 chk (decide ((s1.2++([(IntKind.u8.wrap x32.fLen)]:List Int)).length≤LIM)) <|
 (M3 x32.fAddr).bind fun r42 =>
 chk ((decide (0≤(w64 (Int.tdiv (w64 (x32.fLen+7)) 8)))&&decide (0≤(w64 (Int.tdiv (w64 (x32.fLen+7)) 8)).toNat)&&decide ((w64 (Int.tdiv (w64 (x32.fLen+7)) 8)).toNat≤r42.length))) <|
 chk (decide (((s1.2++([(IntKind.u8.wrap x32.fLen)]:List Int))++((r42.take ((w64 (Int.tdiv (w64 (x32.fLen+7)) 8)).toNat)).drop 0)).length≤LIM)) <|
 j39 ((s1.2++([(IntKind.u8.wrap x32.fLen)]:List Int))++((r42.take ((w64 (Int.tdiv (w64 (x32.fLen+7)) 8)).toNat)).drop 0))
 else
 j39 s1.2))
 else
 some (.inl s1.2))
def I0 (a0:(List A2)) (a1:Bool):Option ((List Int)) :=
 (loop (W6 a0 a1) (0,([]:List Int))).bind fun p30 =>
 some p30
theorem A0l (a0:(List A2)) (a1:Bool) (r:(List Int)) (h:I0 a0 a1=some r):AC Tryz.prog 82 [(.d (.list 4 (a0.map B0))),(.d (.bool a1))] [] (.d (.list 1 (r.map (eI .u8)))) []:=by
 refine ac2 Tryz.func82 rfl rfl fun B hB hN L => ?_
 delta I0 at h
 refine sr (SQ tt) ?_
 refine sr (SQ tt) ?_
 apply seq
 refine sr (SQ tt) ?_
 apply block
 obtain⟨p30,hx46,h⟩:=bindS h
 refine lg (W6 a0 a1) (fun s1:Int×(List Int)=>([(1,(bo a1)),(5,(.sref 3005 1 0 s1.2.length)),(8,(E8 a0)),(9,(i6 (a0.length:Int))),(10,(i6 s1.1))]:EL)) (fun s1:Int×(List Int)=>([(3005,some (.row 5 1 (s1.2.map (eI .u8))))]:OL)) (fun(p30:((List Int))) e E' O'=>e = .exit 0∧Mat B E' O' ([(5,(.sref 3005 1 0 p30.length))]:EL) ([(3005,some (.row 5 1 (p30.map (eI .u8))))]:OL)) hx46 (Mat.trans (Mat.beginP (n:=3005) (e:=5) (sz:=1) (Ts:=[(5,(.sref 3005 1 0 0))]) (Bs:=[]) hB (by decide) (by rfl) (by decide) (TwT.cons (x:=.nils) (by rfl) (Tw.leaf ⟨rfl,rfl⟩) TwT.nil) TwB.nil) (mp [] _ _ hB)) (fun s1 y h => ?_) (fun e E' O' hR => ?_)
 ·unfold W6 at h
  refine sr (SQ tt) ?_
  apply seq
  apply AWp.cond rfl<;>intro hg31
  ·have h:=A3 hg31 h
   apply AWp.skip
   apply A0
   apply seq
   apply block
   obtain⟨x32,hx32,h⟩:=bindS h
   refine sr (SQ (fa hx32 tt)) ?_
   refine sr (SQ tt) ?_
   refine gh [(1,_),(5,_),(7,_),(8,_),(9,_),(10,_),(18,_)] [(1007,some _),(3005,some _)] hB rfl rfl (by rfl) ?_
   refine AWp.cut h (fun m38:(List Int)=>([(1,(bo a1)),(5,(.sref 3005 1 0 m38.length)),(8,(E8 a0)),(9,(i6 (a0.length:Int))),(10,(i6 s1.1))]:EL)) (fun m38:(List Int)=>([(3005,some (.row 5 1 (m38.map (eI .u8))))]:OL)) (fun m38 h E' O' hmat => ?_) (fun j39 hjj39 h => ?_)
   ·apply D7
    apply A0
    refine ghost hmat ?_
    refine rg (SQ tt) ?_
    obtain rfl:=oi h
    exact⟨rfl,(mp [] _ _ hB)⟩
   ·apply AWp.cond rfl<;>intro hg40
    ·have h:=A3 hg40 h
     obtain⟨hc41,h⟩:=B4 h
     obtain⟨r42,hr42,h⟩:=bindS h
     obtain⟨hc43,h⟩:=B4 h
     obtain⟨hc44,h⟩:=B4 h
     refine drS (SQ (fa hc41 (fa (cl [] (A2o x32.fAddr r42 hr42)) (fa hc43 (fa hc44 tt))))) ?_
     exact hjj39 _ h _ _ (mp [(3005,1033)] _ _ hB)
    ·have h:=A4 hg40 h
     apply AWp.skip
     exact hjj39 _ h _ _ (mp [] _ _ hB)
  ·have h:=A4 hg31 h
   apply AWp.exit
   apply D9
   obtain rfl:=oi h
   exact⟨(fun hc=>by cases hc),rfl,(mp [] _ _ hB)⟩
 ·obtain⟨rfl,hmat⟩:=hR
  apply C0
  apply A0
  refine ghost hmat ?_
  refine sr (SQ tt) ?_
  apply ret
  obtain rfl:=oi h
  exact rt (Mat.trans (Mat.freezeP (n:=3005) (e:=5) (sz:=1) (es:=p30.map (eI .u8)) (Ts:=[(4,(.d (.list 1 (p30.map (eI .u8)))))]) (Bs:=[]) (by rfl) (TwT.cons (x:=(.sref 3005 1 0 p30.length)) (by rfl) (FrzL.all (by first | rfl | (simp;done) | (simp;omega) | omega)) TwT.nil) TwB.nil) (mp [] [(4,(.d (.list 1 (p30.map (eI .u8)))))] [] hB)) [(.d (.list 1 (p30.map (eI .u8))))] (rT rN) rfl
def A28 (a0:(List A1)) (a1:A1) (s1:Int):Option (((Int))⊕(Int)) :=
 jn (fun m19:Bool =>
 (if m19=true then
 some (.inr (w64 (s1+1)))
 else
 some (.inl s1))) (fun j20 =>
 (if (decide (s1<(a0.length:Int)))=true then
 (idx a0 s1).bind fun x23 =>
 j20 (decide (x23.fType<a1.fType))
 else
 j20 false))
def A20 (a0:(List A1)) (a1:A1):Option ((List A1)) :=
 (loop (A28 a0 a1) 0).bind fun p16 =>
 chk ((decide (0≤p16)&&decide (0≤p16.toNat)&&decide (p16.toNat≤a0.length))) <|
 chk (decide (((a0.take p16.toNat).drop 0).length≤LIM)) <|
 chk (decide ((((a0.take p16.toNat).drop 0)++[a1]).length≤LIM)) <|
 chk ((decide (0≤p16)&&decide (p16.toNat≤a0.length)&&decide (a0.length≤a0.length))) <|
 chk (decide (((((a0.take p16.toNat).drop 0)++[a1])++((a0.take a0.length).drop p16.toNat)).length≤LIM)) <|
 some ((((a0.take p16.toNat).drop 0)++[a1])++((a0.take a0.length).drop p16.toNat))
theorem A6b (a0:(List A1)) (a1:A1) (r:(List A1)) (h:A20 a0 a1=some r):AC Tryz.prog 83 [(.d (.list 3 (a0.map A8))),(.d (A8 a1))] [] (.d (.list 3 (r.map A8))) []:=by
 refine ac2 Tryz.func83 rfl rfl fun B hB hN L => ?_
 delta A20 at h
 refine sr (SQ tt) ?_
 refine sr (SQ tt) ?_
 apply seq
 apply block
 obtain⟨p16,hx25,h⟩:=bindS h
 refine lg (A28 a0 a1) (fun s1:Int=>([(0,(B6 a0)),(3,(pt 1003)),(5,(i6 s1))]:EL)) (fun s1:Int=>([(1003,bd 69 (A8 a1))]:OL)) (fun(p16:(Int)) e E' O'=>e = .exit 0∧Mat B E' O' ([(0,(B6 a0)),(3,(pt 1003)),(5,(i6 p16))]:EL) ([(1003,bd 69 (A8 a1))]:OL)) hx25 (mp [] _ _ hB) (fun s1 y h => ?_) (fun e E' O' hR => ?_)
 ·unfold A28 at h
  apply seq
  apply seq
  refine AWp.cut h (fun m19:Bool=>([(0,(B6 a0)),(3,(pt 1003)),(5,(i6 s1)),(19,(bo m19))]:EL)) (fun m19:Bool=>([(1003,bd 69 (A8 a1))]:OL)) (fun m19 h E' O' hmat => ?_) (fun j20 hjj20 h => ?_)
  ·apply A0
   refine ghost hmat ?_
   apply AWp.cond rfl<;>intro hg21
   ·have h:=A3 hg21 h
    apply AWp.skip
    apply A0
    apply block
    refine rg (SQ tt) ?_
    apply D7
    obtain rfl:=oi h
    exact⟨rfl,(mp [] _ _ hB)⟩
   ·have h:=A4 hg21 h
    apply AWp.exit
    apply D9
    obtain rfl:=oi h
    exact⟨(fun hc=>by cases hc),rfl,(mp [] _ _ hB)⟩
  ·rcases bft (decide (s1<(a0.length:Int))) with hg22 | hg22
   ·have h:=A3 hg22 h
    obtain⟨_,hx23,h⟩:=bindS h
    refine drS (SQ (fa hg22 (fa hx23 tt))) ?_
    exact hjj20 _ h _ _ (mp [] _ _ hB)
   ·have h:=A4 hg22 h
    refine drS (SQ (fa hg22 tt)) ?_
    exact hjj20 _ h _ _ (mp [] _ _ hB)
 ·obtain⟨rfl,hmat⟩:=hR
  apply C0
  apply A0
  refine ghost hmat ?_
  obtain⟨hc26,h⟩:=B4 h
  obtain⟨hc27,h⟩:=B4 h
  obtain⟨hc28,h⟩:=B4 h
  obtain⟨hc29,h⟩:=B4 h
  obtain⟨hc30,h⟩:=B4 h
  refine sdS (SQ (fa hc26 (fa hc27 (fa hc28 (fa hc29 (fa hc30 tt)))))) ?_
  apply ret
  obtain rfl:=oi h
  exact rt (Mat.trans (Mat.freezeP (n:=1032) (e:=69) (sz:=3) (es:=((((a0.take p16.toNat).drop 0)++[a1])++((a0.take a0.length).drop p16.toNat)).map A8) (Ts:=[(4,(B6 ((((a0.take p16.toNat).drop 0)++[a1])++((a0.take a0.length).drop p16.toNat))))]) (Bs:=[]) (by rfl) (TwT.cons (x:=(.sref 1032 3 0 (((((a0.take p16.toNat).drop 0)++[a1])++((a0.take a0.length).drop p16.toNat)).length))) (by rfl) (FrzL.all (by first | rfl | (simp;done) | (simp;omega) | omega)) TwT.nil) TwB.nil) (mp [] [(4,(B6 ((((a0.take p16.toNat).drop 0)++[a1])++((a0.take a0.length).drop p16.toNat))))] [] hB)) [(B6 ((((a0.take p16.toNat).drop 0)++[a1])++((a0.take a0.length).drop p16.toNat)))] (rT rN) rfl
def Z2 (a0:(List A1)) (s1:Int):Option (((Unit)⊕(Unit))⊕(Int)) :=
 (if (decide (s1<(a0.length:Int)))=true then
 (idx a0 s1).bind fun x11 =>
 (if (((((decide (x11.fFlags<0)) || (decide (255<x11.fFlags))) || (decide (x11.fType<0))) || (decide (255<x11.fType))) || (decide (65535<(x11.fData.length:Int))))=true then
 some (.inl (.inl ()))
 else
 some (.inr (w64 (s1+1))))
 else
 some (.inl (.inr ())))
def Z3 (a0:(List A1)) (s15:Int×(List Int)):Option ((((List Int)))⊕(Int×(List Int))) :=
 (if (decide (s15.1<(a0.length:Int)))=true then
 (idx a0 s15.1).bind fun x40 =>
 jn (fun m44:(List Int) =>
 chk (decide ((m44++x40.fData).length≤LIM)) <|
 some (.inr ((w64 (s15.1+1)),(m44++x40.fData)))) (fun j45 =>
 (if (decide (255<(x40.fData.length:Int)))=true then
 chk (decide ((s15.2++([(bitI .or .u8 (bitI .and .u8 (IntKind.u8.wrap x40.fFlags) 224) 16),(IntKind.u8.wrap x40.fType),(IntKind.u8.wrap (shrI .i64 (x40.fData.length:Int) 8)),(IntKind.u8.wrap (x40.fData.length:Int))]:List Int)).length≤LIM)) <|
 j45 (s15.2++([(bitI .or .u8 (bitI .and .u8 (IntKind.u8.wrap x40.fFlags) 224) 16),(IntKind.u8.wrap x40.fType),(IntKind.u8.wrap (shrI .i64 (x40.fData.length:Int) 8)),(IntKind.u8.wrap (x40.fData.length:Int))]:List Int))
 else
 chk (decide ((s15.2++([(bitI .and .u8 (IntKind.u8.wrap x40.fFlags) 224),(IntKind.u8.wrap x40.fType),(IntKind.u8.wrap (x40.fData.length:Int))]:List Int)).length≤LIM)) <|
 j45 (s15.2++([(bitI .and .u8 (IntKind.u8.wrap x40.fFlags) 224),(IntKind.u8.wrap x40.fType),(IntKind.u8.wrap (x40.fData.length:Int))]:List Int))))
 else
 some (.inl s15.2))
def A0y (a0:(List A1)):Option ((List Int)×Int) :=
 (loop (Z2 a0) 0).bind fun x13=>match x13 with
 | (.inl _) =>
  some (([]:List Int),1)
 | (.inr _) =>
  (loop (Z3 a0) (0,([]:List Int))).bind fun p38 =>
  (if (decide (2048<(p38.length:Int)))=true then
  some (([]:List Int),3)
  else
  some (p38,0))
theorem A9s (a0:(List A1)) (r:(List Int)×Int) (h:A0y a0=some r):AC Tryz.prog 85 [(.d (.list 3 (a0.map A8)))] [] (.tup [(.d (.list 1 (r.1.map (eI .u8)))),(.d (.int .i64 r.2))]) []:=by
 refine ac2 Tryz.func85 rfl rfl fun B hB hN L => ?_
 delta A0y at h
 refine sr (SQ tt) ?_
 apply seq
 refine sr (SQ tt) ?_
 apply block
 obtain⟨x13,hx14,h⟩:=bindS h
 refine lg (Z2 a0) (fun s1:Int=>([(0,(B6 a0)),(10,(B6 a0)),(11,(i6 (a0.length:Int))),(12,(i6 s1))]:EL)) (fun s1:Int=>([]:OL)) (fun(x:(Unit)⊕(Unit)) e E' O'=>match x with | (.inl _p)=>e = .ret∧Mat B E' O' ([(2,.nils),(3,(i6 1))]:EL) ([]:OL) | (.inr _p)=>e = .exit 0∧Mat B E' O' ([(0,(B6 a0))]:EL) ([]:OL)) hx14 (mp [] _ _ hB) (fun s1 y h => ?_) (fun e E' O' hR => ?_)
 ·unfold Z2 at h
  refine sr (SQ tt) ?_
  apply seq
  apply AWp.cond rfl<;>intro hg10
  ·have h:=A3 hg10 h
   apply AWp.skip
   apply A0
   apply seq
   apply block
   obtain⟨_,hx11,h⟩:=bindS h
   refine sr (SQ (fa hx11 tt)) ?_
   refine sr (SQ tt) ?_
   apply AWp.cond rfl<;>intro hg12
   ·have h:=A3 hg12 h
    refine sr (SQ tt) ?_
    apply ret
    apply D3
    apply B3
    obtain rfl:=oi h
    exact⟨(fun hc=>by cases hc),rfl,(mp [] _ _ hB)⟩
   ·have h:=A4 hg12 h
    apply AWp.skip
    apply D7
    apply A0
    refine rg (SQ tt) ?_
    obtain rfl:=oi h
    exact⟨rfl,(mp [] _ _ hB)⟩
  ·have h:=A4 hg10 h
   apply AWp.exit
   apply D9
   obtain rfl:=oi h
   exact⟨(fun hc=>by cases hc),rfl,(mp [] _ _ hB)⟩
 ·rcases x13 with _ | _
  ·obtain⟨rfl,hmat⟩:=hR
   apply D3
   apply B3
   obtain rfl:=oi h
   exact rt (Mat.trans hmat (Mat.trans (Mat.coeP (Ts:=[(2,(.d (.list 1 (([]:List Int).map (eI .u8)))))]) (Bs:=[]) (TwT.cons (x:=.nils) (by rfl) (Tw.leaf ⟨_,(Co.nils 1),rfl⟩) TwT.nil) TwB.nil) (mp [] [(2,(.d (.list 1 (([]:List Int).map (eI .u8))))),(3,(i6 1))] [] hB))) [(.d (.list 1 (([]:List Int).map (eI .u8)))),(i6 1)] (rT (rT rN)) rfl
  ·obtain⟨rfl,hmat⟩:=hR
   apply C0
   apply A0
   refine ghost hmat ?_
   refine sr (SQ tt) ?_
   apply seq
   refine sr (SQ tt) ?_
   apply block
   obtain⟨p38,hx51,h⟩:=bindS h
   refine lg (Z3 a0) (fun s15:Int×(List Int)=>([(6,(.sref 3006 1 0 s15.2.length)),(41,(B6 a0)),(42,(i6 (a0.length:Int))),(43,(i6 s15.1))]:EL)) (fun s15:Int×(List Int)=>([(3006,some (.row 5 1 (s15.2.map (eI .u8))))]:OL)) (fun(p38:((List Int))) e E' O'=>e = .exit 2∧Mat B E' O' ([(6,(.sref 3006 1 0 p38.length))]:EL) ([(3006,some (.row 5 1 (p38.map (eI .u8))))]:OL)) hx51 (Mat.trans (Mat.beginP (n:=3006) (e:=5) (sz:=1) (Ts:=[(6,(.sref 3006 1 0 0))]) (Bs:=[]) hB (by decide) (by rfl) (by decide) (TwT.cons (x:=.nils) (by rfl) (Tw.leaf ⟨rfl,rfl⟩) TwT.nil) TwB.nil) (mp [] _ _ hB)) (fun s15 y h => ?_) (fun e E' O' hR => ?_)
   ·unfold Z3 at h
    refine sr (SQ tt) ?_
    apply seq
    apply AWp.cond rfl<;>intro hg39
    ·have h:=A3 hg39 h
     apply AWp.skip
     apply A0
     apply seq
     apply block
     obtain⟨x40,hx40,h⟩:=bindS h
     refine sr (SQ (fa hx40 tt)) ?_
     refine sr (SQ tt) ?_
     apply seq
     refine sr (SQ tt) ?_
     refine gh [(6,_),(8,_),(9,_),(41,_),(42,_),(43,_),(51,_)] [(1008,some _),(3006,some _)] hB rfl rfl (by rfl) ?_
     refine AWp.cut h (fun m44:(List Int)=>([(6,(.sref 3006 1 0 m44.length)),(8,(pt 1008)),(41,(B6 a0)),(42,(i6 (a0.length:Int))),(43,(i6 s15.1))]:EL)) (fun m44:(List Int)=>([(1008,bd 69 (A8 x40)),(3006,some (.row 5 1 (m44.map (eI .u8))))]:OL)) (fun m44 h E' O' hmat => ?_) (fun j45 hjj45 h => ?_)
     ·apply A0
      refine ghost hmat ?_
      obtain⟨hc46,h⟩:=B4 h
      refine rg (SQ (fa hc46 tt)) ?_
      apply D7
      apply A0
      refine rg (SQ tt) ?_
      obtain rfl:=oi h
      exact⟨rfl,(mp [(3006,1083)] _ _ hB)⟩
     ·apply AWp.cond rfl<;>intro hg47
      ·have h:=A3 hg47 h
       obtain⟨hc48,h⟩:=B4 h
       refine rg (SQ (fa hc48 tt)) ?_
       exact hjj45 _ h _ _ (mp [(3006,1067)] _ _ hB)
      ·have h:=A4 hg47 h
       obtain⟨hc49,h⟩:=B4 h
       refine rg (SQ (fa hc49 tt)) ?_
       exact hjj45 _ h _ _ (mp [(3006,1079)] _ _ hB)
    ·have h:=A4 hg39 h
     apply AWp.exit
     apply D9
     obtain rfl:=oi h
     exact⟨(fun hc=>by cases hc),rfl,(mp [] _ _ hB)⟩
   ·obtain⟨rfl,hmat⟩:=hR
    apply C0
    apply A0
    refine ghost hmat ?_
    apply seq
    refine sr (SQ tt) ?_
    apply AWp.cond rfl<;>intro hg52
    ·have h:=A3 hg52 h
     refine sr (SQ tt) ?_
     apply ret
     apply B3
     obtain rfl:=oi h
     exact rt (Mat.trans (Mat.coeP (Ts:=[(2,(.d (.list 1 (([]:List Int).map (eI .u8)))))]) (Bs:=[]) (TwT.cons (x:=.nils) (by rfl) (Tw.leaf ⟨_,(Co.nils 1),rfl⟩) TwT.nil) TwB.nil) (mp [] [(2,(.d (.list 1 (([]:List Int).map (eI .u8))))),(3,(i6 3))] [] hB)) [(.d (.list 1 (([]:List Int).map (eI .u8)))),(i6 3)] (rT (rT rN)) rfl
    ·have h:=A4 hg52 h
     apply AWp.skip
     apply A0
     refine sr (SQ tt) ?_
     apply ret
     obtain rfl:=oi h
     exact rt (Mat.trans (Mat.freezeP (n:=3006) (e:=5) (sz:=1) (es:=p38.map (eI .u8)) (Ts:=[(2,(.d (.list 1 (p38.map (eI .u8)))))]) (Bs:=[]) (by rfl) (TwT.cons (x:=(.sref 3006 1 0 p38.length)) (by rfl) (FrzL.all (by first | rfl | (simp;done) | (simp;omega) | omega)) TwT.nil) TwB.nil) (mp [] [(2,(.d (.list 1 (p38.map (eI .u8))))),(3,(i6 0))] [] hB)) [(.d (.list 1 (p38.map (eI .u8)))),(i6 0)] (rT (rT rN)) rfl
def S1 (a0:C9):Option ((List Int)×Int) :=
 jn (fun m4:(List A1) =>
 (I0 a0.fAnnounce true).bind fun r6 =>
 jn (fun m17:(List A1) =>
 (I0 a0.fWithdraw true).bind fun r19 =>
 jn (fun m24:(List A1) =>
 (A0y m24).bind fun r26 =>
 (if (r26.2 != 0)=true then
 some (([]:List Int),r26.2)
 else
 (I0 a0.fWithdraw false).bind fun r28 =>
 chk (decide ((([(IntKind.u8.wrap (shrI .i64 (r28.length:Int) 8)),(IntKind.u8.wrap (r28.length:Int))]:List Int)++r28).length≤LIM)) <|
 chk (decide (((([(IntKind.u8.wrap (shrI .i64 (r28.length:Int) 8)),(IntKind.u8.wrap (r28.length:Int))]:List Int)++r28)++([(IntKind.u8.wrap (shrI .i64 (r26.1.length:Int) 8)),(IntKind.u8.wrap (r26.1.length:Int))]:List Int)).length≤LIM)) <|
 chk (decide ((((([(IntKind.u8.wrap (shrI .i64 (r28.length:Int) 8)),(IntKind.u8.wrap (r28.length:Int))]:List Int)++r28)++([(IntKind.u8.wrap (shrI .i64 (r26.1.length:Int) 8)),(IntKind.u8.wrap (r26.1.length:Int))]:List Int))++r26.1).length≤LIM)) <|
 (I0 a0.fAnnounce false).bind fun r32 =>
 chk (decide (((((([(IntKind.u8.wrap (shrI .i64 (r28.length:Int) 8)),(IntKind.u8.wrap (r28.length:Int))]:List Int)++r28)++([(IntKind.u8.wrap (shrI .i64 (r26.1.length:Int) 8)),(IntKind.u8.wrap (r26.1.length:Int))]:List Int))++r26.1)++r32).length≤LIM)) <|
 some (((((([(IntKind.u8.wrap (shrI .i64 (r28.length:Int) 8)),(IntKind.u8.wrap (r28.length:Int))]:List Int)++r28)++([(IntKind.u8.wrap (shrI .i64 (r26.1.length:Int) 8)),(IntKind.u8.wrap (r26.1.length:Int))]:List Int))++r26.1)++r32),0))) (fun j25 =>
 (if (decide (0<(r19.length:Int)))=true then
 chk (decide ((([0,2,1]:List Int)++r19).length≤LIM)) <|
 (A20 m17 (A1.mk 128 15 (([0,2,1]:List Int)++r19))).bind fun r36 =>
 j25 r36
 else
 j25 m17))) (fun j18 =>
 (if (decide (0<(r6.length:Int)))=true then
 (M3 a0.fAttrs.fNext).bind fun r38 =>
 chk (decide ((([0,2,1,16]:List Int)++r38).length≤LIM)) <|
 chk (decide (((([0,2,1,16]:List Int)++r38)++([0]:List Int)).length≤LIM)) <|
 chk (decide ((((([0,2,1,16]:List Int)++r38)++([0]:List Int))++r6).length≤LIM)) <|
 (A20 m4 (A1.mk 128 14 (((([0,2,1,16]:List Int)++r38)++([0]:List Int))++r6))).bind fun r42 =>
 j18 r42
 else
 j18 m4))) (fun j5 =>
 (if (decide (0<(a0.fAnnounce.length:Int)))=true then
 (A1r a0.fAttrs).bind fun r44 =>
 (if (r44.2 != 0)=true then
 some (([]:List Int),r44.2)
 else
 j5 r44.1)
 else
 j5 ([]:List A1)))
theorem A50 (a0:C9) (r:(List Int)×Int) (h:S1 a0=some r):AC Tryz.prog 45 [(.d (E4 a0))] [] (.tup [(.d (.list 1 (r.1.map (eI .u8)))),(.d (.int .i64 r.2))]) []:=by
 refine ac2 Tryz.func45 rfl rfl fun B hB hN L => ?_
 delta S1 at h
 refine sr (SQ tt) ?_
 refine sr (SQ tt) ?_
 apply seq
 refine sr (SQ tt) ?_
 refine gh [(1,_),(4,_),(16,_)] [(1001,some _)] hB rfl rfl (by rfl) ?_
 refine AWp.cut h (fun m4:(List A1)=>([(1,(pt 1001)),(4,(B6 m4))]:EL)) (fun m4:(List A1)=>([(1001,bd 61 (E4 a0))]:OL)) (fun m4 h E' O' hmat => ?_) (fun j5 hjj5 h => ?_)
 ·apply A0
  refine ghost hmat ?_
  apply seq
  obtain⟨r6,hr6,h⟩:=bindS h
  refine sr (SQ (fa (cl [] (A0l a0.fAnnounce true r6 hr6)) tt)) ?_
  refine sr (SQ tt) ?_
  refine gh [(1,_),(4,_),(7,_),(32,_)] [(1001,some _)] hB rfl rfl (by rfl) ?_
  refine AWp.cut h (fun m17:(List A1)=>([(1,(pt 1001)),(4,(B6 m17))]:EL)) (fun m17:(List A1)=>([(1001,bd 61 (E4 a0))]:OL)) (fun m17 h E' O' hmat => ?_) (fun j18 hjj18 h => ?_)
  ·apply A0
   refine ghost hmat ?_
   apply seq
   obtain⟨r19,hr19,h⟩:=bindS h
   refine sr (SQ (fa (cl [] (A0l a0.fWithdraw true r19 hr19)) tt)) ?_
   refine sr (SQ tt) ?_
   refine gh [(1,_),(4,_),(8,_),(51,_)] [(1001,some _)] hB rfl rfl (by rfl) ?_
   refine AWp.cut h (fun m24:(List A1)=>([(1,(pt 1001)),(4,(B6 m24))]:EL)) (fun m24:(List A1)=>([(1001,bd 61 (E4 a0))]:OL)) (fun m24 h E' O' hmat => ?_) (fun j25 hjj25 h => ?_)
   ·apply A0
    refine ghost hmat ?_
    obtain⟨r26,hr26,h⟩:=bindS h
    refine sr (SQ (fa (cl [] (A9s m24 r26 hr26)) tt)) ?_
    apply seq
    refine sr (SQ tt) ?_
    apply AWp.cond rfl<;>intro hg27
    ·have h:=A3 hg27 h
     refine sr (SQ tt) ?_
     apply ret
     apply B3
     obtain rfl:=oi h
     exact rt (Mat.trans (Mat.coeP (Ts:=[(2,(.d (.list 1 (([]:List Int).map (eI .u8)))))]) (Bs:=[]) (TwT.cons (x:=.nils) (by rfl) (Tw.leaf ⟨_,(Co.nils 1),rfl⟩) TwT.nil) TwB.nil) (mp [] [(2,(.d (.list 1 (([]:List Int).map (eI .u8))))),(3,(i6 r26.2))] [] hB)) [(.d (.list 1 (([]:List Int).map (eI .u8)))),(i6 r26.2)] (rT (rT rN)) rfl
    ·have h:=A4 hg27 h
     apply AWp.skip
     apply A0
     obtain⟨r28,hr28,h⟩:=bindS h
     refine sr (SQ (fa (cl [] (A0l a0.fWithdraw false r28 hr28)) tt)) ?_
     obtain⟨hc29,h⟩:=B4 h
     apply sr (c (mv hN (q 11)) rfl (c (OpJ.val (v':=(i6 (r28.length:Int))) (by simp) (lenD underlying67 (L rfl) (q 69))) rfl (c (OpJ.shr (L rfl) (q 70) (Opd.int .u64 (8)) (by decide)) rfl (c (OpJ.conv underlying3 underlying5 (L rfl) (q 71)) rfl (c (mv hN (q 11)) rfl (c (OpJ.val (v':=(i6 (r28.length:Int))) (by simp) (lenD underlying67 (L rfl) (q 73))) rfl (c (OpJ.conv underlying3 underlying5 (L rfl) (q 74)) rfl (cg (OpJ.buildSliceR underlying67 tyS5 tyZD5 (by rfl) (by decide) (by decide) hB (nm:=1076) (by decide) (len:=([(IntKind.u8.wrap (shrI .i64 (r28.length:Int) 8)),(IntKind.u8.wrap (r28.length:Int))]:List Int).length) (by rfl) (Opds.cons (q 72) (Opds.cons (q 75) Opds.nil)) (by kernel_rfl) (es:=([(IntKind.u8.wrap (shrI .i64 (r28.length:Int) 8)),(IntKind.u8.wrap (r28.length:Int))]:List Int).map (eI .u8)) (by rfl) (by rfl) (by kernel_rfl) (by simp) (L rfl)) rfl (c (mv hN (q 11)) rfl (cg (apd hB underlying67 tyE5 1078 (eI .u8) ([(IntKind.u8.wrap (shrI .i64 (r28.length:Int) 8)),(IntKind.u8.wrap (r28.length:Int))]:List Int) r28 hc29 (L rfl) (q 76) (q 77)) rfl (c (assign (L rfl) (q 78)) rfl cn)))))))))))
     obtain⟨hc30,h⟩:=B4 h
     obtain⟨hc31,h⟩:=B4 h
     refine sr (SQ (fa hc30 (fa hc31 tt))) ?_
     obtain⟨r32,hr32,h⟩:=bindS h
     obtain⟨hc33,h⟩:=B4 h
     refine sr (SQ (fa (cl [] (A0l a0.fAnnounce false r32 hr32)) (fa hc33 tt))) ?_
     apply ret
     obtain rfl:=oi h
     exact rt (Mat.trans (Mat.freezeP (n:=1095) (e:=5) (sz:=1) (es:=((((([(IntKind.u8.wrap (shrI .i64 (r28.length:Int) 8)),(IntKind.u8.wrap (r28.length:Int))]:List Int)++r28)++([(IntKind.u8.wrap (shrI .i64 (r26.1.length:Int) 8)),(IntKind.u8.wrap (r26.1.length:Int))]:List Int))++r26.1)++r32).map (eI .u8)) (Ts:=[(2,(.d (.list 1 (((((([(IntKind.u8.wrap (shrI .i64 (r28.length:Int) 8)),(IntKind.u8.wrap (r28.length:Int))]:List Int)++r28)++([(IntKind.u8.wrap (shrI .i64 (r26.1.length:Int) 8)),(IntKind.u8.wrap (r26.1.length:Int))]:List Int))++r26.1)++r32).map (eI .u8)))))]) (Bs:=[]) (by rfl) (TwT.cons (x:=(.sref 1095 1 0 (((((([(IntKind.u8.wrap (shrI .i64 (r28.length:Int) 8)),(IntKind.u8.wrap (r28.length:Int))]:List Int)++r28)++([(IntKind.u8.wrap (shrI .i64 (r26.1.length:Int) 8)),(IntKind.u8.wrap (r26.1.length:Int))]:List Int))++r26.1)++r32).length))) (by rfl) (FrzL.all (by first | rfl | (simp;done) | (simp;omega) | omega)) TwT.nil) TwB.nil) (mp [] [(2,(.d (.list 1 (((((([(IntKind.u8.wrap (shrI .i64 (r28.length:Int) 8)),(IntKind.u8.wrap (r28.length:Int))]:List Int)++r28)++([(IntKind.u8.wrap (shrI .i64 (r26.1.length:Int) 8)),(IntKind.u8.wrap (r26.1.length:Int))]:List Int))++r26.1)++r32).map (eI .u8))))),(3,(i6 0))] [] hB)) [(.d (.list 1 (((((([(IntKind.u8.wrap (shrI .i64 (r28.length:Int) 8)),(IntKind.u8.wrap (r28.length:Int))]:List Int)++r28)++([(IntKind.u8.wrap (shrI .i64 (r26.1.length:Int) 8)),(IntKind.u8.wrap (r26.1.length:Int))]:List Int))++r26.1)++r32).map (eI .u8)))),(i6 0)] (rT (rT rN)) rfl
   ·apply AWp.cond rfl<;>intro hg34
    ·have h:=A3 hg34 h
     obtain⟨hc35,h⟩:=B4 h
     obtain⟨r36,hr36,h⟩:=bindS h
     apply rg (c (mv hN (q 4)) rfl (cg (OpJ.buildSliceR underlying67 tyS5 tyZD5 (by rfl) (by decide) (by decide) hB (nm:=1053) (by decide) (len:=([0,2,1]:List Int).length) (by rfl) (Opds.cons (Opd.int .u8 (0)) (Opds.cons (Opd.int .u8 (2)) (Opds.cons (Opd.int .u8 (1)) Opds.nil))) (by kernel_rfl) (es:=([0,2,1]:List Int).map (eI .u8)) (by rfl) (by rfl) (by kernel_rfl) (by simp) (L rfl)) rfl (c (mv hN (q 8)) rfl (cg (OpJ.frz (apd hB underlying67 tyE5 1055 (eI .u8) ([0,2,1]:List Int) r19 hc35 (L rfl) (q 53) (q 54)) (by simp)) rfl (c (OpJ.coe (v:=(.st [(i6 128),(i6 15),(.d (.list 1 ((([0,2,1]:List Int)++r19).map (eI .u8))))])) (y:=(.st [(.int .i64 128),(.int .i64 15),(.list 1 ((([0,2,1]:List Int)++r19).map (eI .u8)))])) (Co.st (CoL.cons (Co.d _) (CoL.cons (Co.d _) (CoL.cons (Co.d _) CoL.nil)))) rfl (OpJ.build (places:=[(0,1),(1,1),(2,1)]) ⟨underlying69,fun w=>by kernel_rfl⟩ tyZS69 (Opds.cons (ii 128) (Opds.cons (ii 15) (Opds.cons (q 55) Opds.nil))) (by kernel_rfl) (r:=(.st [(i6 128),(i6 15),(.d (.list 1 ((([0,2,1]:List Int)++r19).map (eI .u8))))])) (by rfl) (L rfl))) rfl (cg (OpJ.callFn hB fnOk83 (A6b m17 (A1.mk 128 15 (([0,2,1]:List Int)++r19)) r36 hr36) [] (by kernel_rfl) (L rfl) (by kernel_rfl) (OpdL.cons (q 52) (OpdL.cons (q 56) OpdL.nil))) rfl (c (assign (L rfl) (q 57)) rfl cn)))))))
     exact hjj25 _ h _ _ (mp [] _ _ hB)
    ·have h:=A4 hg34 h
     apply AWp.skip
     exact hjj25 _ h _ _ (mp [] _ _ hB)
  ·apply AWp.cond rfl<;>intro hg37
   ·have h:=A3 hg37 h
    obtain⟨r38,hr38,h⟩:=bindS h
    obtain⟨hc39,h⟩:=B4 h
    obtain⟨hc40,h⟩:=B4 h
    obtain⟨hc41,h⟩:=B4 h
    obtain⟨r42,hr42,h⟩:=bindS h
    apply rg (c (mv hN (q 4)) rfl (cg (OpJ.buildSliceR underlying67 tyS5 tyZD5 (by rfl) (by decide) (by decide) hB (nm:=1034) (by decide) (len:=([0,2,1,16]:List Int).length) (by rfl) (Opds.cons (Opd.int .u8 (0)) (Opds.cons (Opd.int .u8 (2)) (Opds.cons (Opd.int .u8 (1)) (Opds.cons (Opd.int .u8 (16)) Opds.nil)))) (by kernel_rfl) (es:=([0,2,1,16]:List Int).map (eI .u8)) (by rfl) (by rfl) (by kernel_rfl) (by simp) (L rfl)) rfl (c (fo 1001 1 [1] hN underlying61 1 tyS35 (q 1)) rfl (c (fo 1001 3 [1,2] hN underlying35 2 tyS27 (q 35)) rfl (c (lb hN 61 _ _ tyS27 (At.dst1 (by rfl) (by rfl) (ad _) (by first | rfl | omega)) (q 36)) rfl (cg (cf hB fnOk84 (A2o a0.fAttrs.fNext r38 hr38) (L rfl) (OpdL.cons (q 37) OpdL.nil)) rfl (cg (apd hB underlying67 tyE5 1039 (eI .u8) ([0,2,1,16]:List Int) r38 hc39 (L rfl) (q 34) (q 38)) rfl (c (buildSlice underlying67 tyS5 tyZD5 (by rfl) (by decide) (by decide) (Opds.cons (Opd.int .u8 (0)) Opds.nil) (by kernel_rfl) (es:=([(.int .u8 0)]:List D)) (by rfl) (by rfl) (by kernel_rfl) (by simp) (L rfl)) rfl (cg (apd hB underlying67 tyE5 1041 (eI .u8) (([0,2,1,16]:List Int)++r38) ([0]:List Int) hc40 (L rfl) (q 39) (q 40)) rfl (c (mv hN (q 7)) rfl (cg (OpJ.frz (apd hB underlying67 tyE5 1043 (eI .u8) ((([0,2,1,16]:List Int)++r38)++([0]:List Int)) r6 hc41 (L rfl) (q 41) (q 42)) (by simp)) rfl (c (OpJ.coe (v:=(.st [(i6 128),(i6 14),(.d (.list 1 ((((([0,2,1,16]:List Int)++r38)++([0]:List Int))++r6).map (eI .u8))))])) (y:=(.st [(.int .i64 128),(.int .i64 14),(.list 1 ((((([0,2,1,16]:List Int)++r38)++([0]:List Int))++r6).map (eI .u8)))])) (Co.st (CoL.cons (Co.d _) (CoL.cons (Co.d _) (CoL.cons (Co.d _) CoL.nil)))) rfl (OpJ.build (places:=[(0,1),(1,1),(2,1)]) ⟨underlying69,fun w=>by kernel_rfl⟩ tyZS69 (Opds.cons (ii 128) (Opds.cons (ii 14) (Opds.cons (q 43) Opds.nil))) (by kernel_rfl) (r:=(.st [(i6 128),(i6 14),(.d (.list 1 ((((([0,2,1,16]:List Int)++r38)++([0]:List Int))++r6).map (eI .u8))))])) (by rfl) (L rfl))) rfl (cg (OpJ.callFn hB fnOk83 (A6b m4 (A1.mk 128 14 (((([0,2,1,16]:List Int)++r38)++([0]:List Int))++r6)) r42 hr42) [] (by kernel_rfl) (L rfl) (by kernel_rfl) (OpdL.cons (q 33) (OpdL.cons (q 44) OpdL.nil))) rfl (c (assign (L rfl) (q 45)) rfl cn))))))))))))))
    exact hjj18 _ h _ _ (mp [] _ _ hB)
   ·have h:=A4 hg37 h
    apply AWp.skip
    exact hjj18 _ h _ _ (mp [] _ _ hB)
 ·apply AWp.cond rfl<;>intro hg43
  ·have h:=A3 hg43 h
   obtain⟨r44,hr44,h⟩:=bindS h
   refine sr (SQ (fa (cl [] (A8r a0.fAttrs r44 hr44)) tt)) ?_
   apply seq
   refine sr (SQ tt) ?_
   apply AWp.cond rfl<;>intro hg45
   ·have h:=A3 hg45 h
    refine sr (SQ tt) ?_
    apply ret
    apply B3
    apply B3
    obtain rfl:=oi h
    exact rt (Mat.trans (Mat.coeP (Ts:=[(2,(.d (.list 1 (([]:List Int).map (eI .u8)))))]) (Bs:=[]) (TwT.cons (x:=.nils) (by rfl) (Tw.leaf ⟨_,(Co.nils 1),rfl⟩) TwT.nil) TwB.nil) (mp [] [(2,(.d (.list 1 (([]:List Int).map (eI .u8))))),(3,(i6 r44.2))] [] hB)) [(.d (.list 1 (([]:List Int).map (eI .u8)))),(i6 r44.2)] (rT (rT rN)) rfl
   ·have h:=A4 hg45 h
    apply AWp.skip
    apply A0
    refine rg (SQ tt) ?_
    exact hjj5 _ h _ _ (mp [] _ _ hB)
  ·have h:=A4 hg43 h
   apply AWp.skip
   exact hjj5 _ h _ _ (Mat.trans (Mat.coeP (Ts:=[(4,(B6 ([]:List A1)))]) (Bs:=[]) (TwT.cons (x:=.nils) (by rfl) (Tw.leaf ⟨_,(Co.nils 3),rfl⟩) TwT.nil) TwB.nil) (mp [] _ _ hB))
def Q8 (a0:C9) (s4:Int):Option (((Unit)⊕(Unit))⊕(Int)) :=
 (if (decide (s4<((a0.fWithdraw++a0.fAnnounce).length:Int)))=true then
 (idx (a0.fWithdraw++a0.fAnnounce) s4).bind fun _ =>
 (idx (a0.fWithdraw++a0.fAnnounce) s4).bind fun x19 =>
 (A1k x19).bind fun r20 =>
 (if (!r20)=true then
 some (.inl (.inl ()))
 else
 some (.inr (w64 (s4+1))))
 else
 some (.inl (.inr ())))
def Q9 (a0:C9) (s30:Int):Option (((Unit)⊕(Unit))⊕(Int)) :=
 (if (decide (s30<(a0.fAnnounce.length:Int)))=true then
 (idx a0.fAnnounce s30).bind fun x52 =>
 jn (fun m55:Bool =>
 (if m55=true then
 some (.inl (.inl ()))
 else
 some (.inr (w64 (s30+1))))) (fun j56 =>
 (if (((x52.fAddr.fV6 != a0.fAttrs.fNext.fV6) || (a0.fAttrs.fOrigin==(-1))) || ((a0.fAttrs.fNext.fV6==false)&&((a0.fAttrs.fNext.fHi==0)&&((a0.fAttrs.fNext.fLo==0)&&true))))=true then
 j56 true
 else
 (U7 a0.fAttrs).bind fun r59 =>
 j56 (!r59)))
 else
 some (.inl (.inr ())))
def O8 (a0:C9):Option (Bool) :=
 (if ((decide (256<(a0.fWithdraw.length:Int))) || (decide (256<(a0.fAnnounce.length:Int))))=true then
 some false
 else
 chk (decide (a0.fWithdraw.length≤LIM)) <|
 chk (decide ((a0.fWithdraw++a0.fAnnounce).length≤LIM)) <|
 (loop (Q8 a0) 0).bind fun x22=>match x22 with
 | (.inl _) =>
  some false
 | (.inr _) =>
  jn (fun m27:Bool =>
  (if m27=true then
  some false
  else
  (loop (Q9 a0) 0).bind fun x60=>match x60 with
  | (.inl _) =>
   some false
  | (.inr _) =>
   (S1 a0).bind fun r62 =>
   some ((r62.2==0)&&(decide ((r62.1.length:Int)≤4077))))) (fun j28 =>
  (if ((a0.fAnnounce.length:Int)==0)=true then
  (A02).bind fun r64 =>
  (A0x a0.fAttrs r64).bind fun r65 =>
  j28 (!r65)
  else
  j28 false)))
theorem A0m (a0:C9) (r:Bool) (h:O8 a0=some r):AC Tryz.prog 20 [(.d (E4 a0))] [] (.d (.bool r)) []:=by
 refine ac2 Tryz.func20 rfl rfl fun B hB hN L => ?_
 delta O8 at h
 refine sr (SQ tt) ?_
 apply seq
 refine sr (SQ tt) ?_
 apply AWp.cond rfl<;>intro hg1
 ·have h:=A3 hg1 h
  refine sr (SQ tt) ?_
  apply ret
  apply B3
  obtain rfl:=oi h
  exact rt (kp [(2,_)] [] hB rfl rfl (by rfl)) [(bo false)] (rT rN) rfl
 ·have h:=A4 hg1 h
  apply AWp.skip
  apply A0
  apply seq
  obtain⟨hc2,h⟩:=B4 h
  obtain⟨hc3,h⟩:=B4 h
  refine sdS (SQ (fa hc2 (fa hc3 tt))) ?_
  apply block
  obtain⟨x22,hx23,h⟩:=bindS h
  refine lg (Q8 a0) (fun s4:Int=>([(1,(pt 1001)),(24,(.sref 1024 4 0 ((a0.fWithdraw++a0.fAnnounce).length))),(25,(i6 ((a0.fWithdraw++a0.fAnnounce).length:Int))),(26,(i6 s4))]:EL)) (fun s4:Int=>([(1001,bd 61 (E4 a0)),(1024,some (F8 (a0.fWithdraw++a0.fAnnounce)))]:OL)) (fun(x:(Unit)⊕(Unit)) e E' O'=>match x with | (.inl _p)=>e = .ret∧Mat B E' O' ([(2,(bo false))]:EL) ([]:OL) | (.inr _p)=>e = .exit 0∧Mat B E' O' ([(1,(pt 1001))]:EL) ([(1001,bd 61 (E4 a0))]:OL)) hx23 (mp [] _ _ hB) (fun s4 y h => ?_) (fun e E' O' hR => ?_)
  ·unfold Q8 at h
   refine sr (SQ tt) ?_
   apply seq
   apply AWp.cond rfl<;>intro hg17
   ·have h:=A3 hg17 h
    apply AWp.skip
    apply A0
    apply seq
    apply block
    obtain⟨_,hx18,h⟩:=bindS h
    obtain⟨x19,hx19,h⟩:=bindS h
    refine sr (SQ (fa hx18 (fa hx19 tt))) ?_
    obtain⟨r20,hr20,h⟩:=bindS h
    refine sr (SQ (fa (cl [] (A8q x19 r20 hr20)) tt)) ?_
    apply AWp.cond rfl<;>intro hg21
    ·have h:=A3 hg21 h
     refine sr (SQ tt) ?_
     apply ret
     apply D3
     apply B3
     obtain rfl:=oi h
     exact⟨(fun hc=>by cases hc),rfl,(mp [] _ _ hB)⟩
    ·have h:=A4 hg21 h
     apply AWp.skip
     apply D7
     apply A0
     refine rg (SQ tt) ?_
     obtain rfl:=oi h
     exact⟨rfl,(mp [] _ _ hB)⟩
   ·have h:=A4 hg17 h
    apply AWp.exit
    apply D9
    obtain rfl:=oi h
    exact⟨(fun hc=>by cases hc),rfl,(mp [] _ _ hB)⟩
  ·rcases x22 with _ | _
   ·obtain⟨rfl,hmat⟩:=hR
    apply D3
    apply B3
    obtain rfl:=oi h
    exact rt (Mat.trans hmat (mp [] [(2,(bo false))] [] hB)) [(bo false)] (rT rN) rfl
   ·obtain⟨rfl,hmat⟩:=hR
    apply C0
    apply A0
    refine ghost hmat ?_
    apply seq
    apply seq
    refine AWp.cut h (fun m27:Bool=>([(1,(pt 1001)),(44,(bo m27))]:EL)) (fun m27:Bool=>([(1001,bd 61 (E4 a0))]:OL)) (fun m27 h E' O' hmat => ?_) (fun j28 hjj28 h => ?_)
    ·apply A0
     refine ghost hmat ?_
     apply AWp.cond rfl<;>intro hg29
     ·have h:=A3 hg29 h
      refine sr (SQ tt) ?_
      apply ret
      apply B3
      obtain rfl:=oi h
      exact rt (kp [(2,_)] [] hB rfl rfl (by rfl)) [(bo false)] (rT rN) rfl
     ·have h:=A4 hg29 h
      apply AWp.skip
      apply A0
      apply seq
      refine sr (SQ tt) ?_
      apply block
      obtain⟨x60,hx61,h⟩:=bindS h
      refine lg (Q9 a0) (fun s30:Int=>([(1,(pt 1001)),(46,(E8 a0.fAnnounce)),(47,(i6 (a0.fAnnounce.length:Int))),(48,(i6 s30))]:EL)) (fun s30:Int=>([(1001,bd 61 (E4 a0))]:OL)) (fun(x:(Unit)⊕(Unit)) e E' O'=>match x with | (.inl _p)=>e = .ret∧Mat B E' O' ([(2,(bo false))]:EL) ([]:OL) | (.inr _p)=>e = .exit 2∧Mat B E' O' ([(1,(pt 1001))]:EL) ([(1001,bd 61 (E4 a0))]:OL)) hx61 (mp [] _ _ hB) (fun s30 y h => ?_) (fun e E' O' hR => ?_)
      ·unfold Q9 at h
       refine sr (SQ tt) ?_
       apply seq
       apply AWp.cond rfl<;>intro hg51
       ·have h:=A3 hg51 h
        apply AWp.skip
        apply A0
        apply seq
        apply block
        obtain⟨x52,hx52,h⟩:=bindS h
        refine sr (SQ (fa hx52 tt)) ?_
        apply seq
        refine AWp.cut h (fun m55:Bool=>([(1,(pt 1001)),(46,(E8 a0.fAnnounce)),(47,(i6 (a0.fAnnounce.length:Int))),(48,(i6 s30)),(78,(bo m55))]:EL)) (fun m55:Bool=>([(1001,bd 61 (E4 a0))]:OL)) (fun m55 h E' O' hmat => ?_) (fun j56 hjj56 h => ?_)
        ·apply A0
         refine ghost hmat ?_
         apply AWp.cond rfl<;>intro hg57
         ·have h:=A3 hg57 h
          refine sr (SQ tt) ?_
          apply ret
          apply D3
          apply B3
          obtain rfl:=oi h
          exact⟨(fun hc=>by cases hc),rfl,(mp [] _ _ hB)⟩
         ·have h:=A4 hg57 h
          apply AWp.skip
          apply D7
          apply A0
          refine rg (SQ tt) ?_
          obtain rfl:=oi h
          exact⟨rfl,(mp [] _ _ hB)⟩
        ·rcases bft (((x52.fAddr.fV6 != a0.fAttrs.fNext.fV6) || (a0.fAttrs.fOrigin==(-1))) || ((a0.fAttrs.fNext.fV6==false)&&((a0.fAttrs.fNext.fHi==0)&&((a0.fAttrs.fNext.fLo==0)&&true)))) with hg58 | hg58
         ·have h:=A3 hg58 h
          refine rg (SQ (fa hg58 tt)) ?_
          exact hjj56 _ h _ _ (mp [] _ _ hB)
         ·have h:=A4 hg58 h
          obtain⟨r59,hr59,h⟩:=bindS h
          refine rg (SQ (fa hg58 (fa (cl [] (A4z a0.fAttrs r59 hr59)) tt))) ?_
          exact hjj56 _ h _ _ (mp [] _ _ hB)
       ·have h:=A4 hg51 h
        apply AWp.exit
        apply D9
        obtain rfl:=oi h
        exact⟨(fun hc=>by cases hc),rfl,(mp [] _ _ hB)⟩
      ·rcases x60 with _ | _
       ·obtain⟨rfl,hmat⟩:=hR
        apply D3
        apply B3
        obtain rfl:=oi h
        exact rt (Mat.trans hmat (mp [] [(2,(bo false))] [] hB)) [(bo false)] (rT rN) rfl
       ·obtain⟨rfl,hmat⟩:=hR
        apply C0
        apply A0
        refine ghost hmat ?_
        obtain⟨r62,hr62,h⟩:=bindS h
        refine sr (SQ (fa (cl [] (A50 a0 r62 hr62)) tt)) ?_
        refine sr (SQ tt) ?_
        apply ret
        obtain rfl:=oi h
        exact rt (kp [(2,_)] [] hB rfl rfl (by rfl)) [(bo ((r62.2==0)&&(decide ((r62.1.length:Int)≤4077))))] (rT rN) rfl
    ·rcases bft ((a0.fAnnounce.length:Int)==0) with hg63 | hg63
     ·have h:=A3 hg63 h
      obtain⟨r64,hr64,h⟩:=bindS h
      obtain⟨r65,hr65,h⟩:=bindS h
      refine drS (SQ (fa hg63 (fa (cl [] (A2n r64 hr64)) (fa (cl [] (A9q a0.fAttrs r64 r65 hr65)) tt)))) ?_
      exact hjj28 _ h _ _ (mp [] _ _ hB)
     ·have h:=A4 hg63 h
      refine drS (SQ (fa hg63 tt)) ?_
      exact hjj28 _ h _ _ (mp [] _ _ hB)
def Z4 (a1:Int) (s1:Int×(List A6)×A7):Option (((A7×(List A6)))⊕(Int×(List A6)×A7)) :=
 (if (decide (s1.1<a1))=true then
 (F0 s1.2.2 3).bind fun r26 =>
 jn (fun m30:Bool×Int×Int×Int×(List A9)×Int×Int×Int×Int×(List B1)×(List E0)×(List A1)×A7 =>
 chk (decide ((s1.2.1++[(A6.mk 5 (A2.mk (C4.mk false 0 (bitI .or .u64 335544320 (shlI .u64 (IntKind.u64.wrap s1.1) 8))) 24) m30.1 (C7.mk (A2.mk (C4.mk false 0 m30.2.1) m30.2.2.1) m30.2.2.2.1 (C5.mk 0 m30.2.2.2.2.1 (C4.mk false 0 m30.2.2.2.2.2.1) m30.2.2.2.2.2.2.1 m30.2.2.2.2.2.2.2.1 m30.2.2.2.2.2.2.2.2.1 m30.2.2.2.2.2.2.2.2.2.1 m30.2.2.2.2.2.2.2.2.2.2.1 m30.2.2.2.2.2.2.2.2.2.2.2.1)))]).length≤LIM)) <|
 some (.inr ((w64 (s1.1+1)),(s1.2.1++[(A6.mk 5 (A2.mk (C4.mk false 0 (bitI .or .u64 335544320 (shlI .u64 (IntKind.u64.wrap s1.1) 8))) 24) m30.1 (C7.mk (A2.mk (C4.mk false 0 m30.2.1) m30.2.2.1) m30.2.2.2.1 (C5.mk 0 m30.2.2.2.2.1 (C4.mk false 0 m30.2.2.2.2.2.1) m30.2.2.2.2.2.2.1 m30.2.2.2.2.2.2.2.1 m30.2.2.2.2.2.2.2.2.1 m30.2.2.2.2.2.2.2.2.2.1 m30.2.2.2.2.2.2.2.2.2.2.1 m30.2.2.2.2.2.2.2.2.2.2.2.1)))]),m30.2.2.2.2.2.2.2.2.2.2.2.2))) (fun j31 =>
 (if (decide (0<r26.1))=true then
 (A02).bind fun r34 =>
 (F0 r26.2 2).bind fun r35 =>
 j31 (true,(bitI .or .u64 335544320 (shlI .u64 (IntKind.u64.wrap s1.1) 8)),24,101,([(A9.mk false ([101]:List Int))]:List A9),7,r35.1,r34.fPref,r34.fOTC,r34.fCommunities,r34.fLarge,r34.fOther,r35.2)
 else
 j31 (false,0,0,0,([]:List A9),0,0,0,0,([]:List B1),([]:List E0),([]:List A1),r26.2)))
 else
 some (.inl (s1.2.2,s1.2.1)))
def A2i (a0:A7) (a1:Int):Option ((List A6)×A7) :=
 (loop (Z4 a1) (0,([]:List A6),a0)).bind fun p24 =>
 some (p24.2,p24.1)
theorem A9t (a0:A7) (a1:Int) (r:(List A6)×A7) (h:A2i a0 a1=some r):AC Tryz.prog 18 [(pt 0),(.d (.int .i64 a1))] [(0,(.box 71 (.d (C8 a0))))] (.d (.list 22 (r.1.map F9))) [(0,bd 71 (C8 r.2))]:=by
 refine ac2 Tryz.func18 rfl rfl fun B hB hN L => ?_
 delta A2i at h
 refine sr (SQ tt) ?_
 refine sr (SQ tt) ?_
 apply seq
 refine sr (SQ tt) ?_
 apply block
 obtain⟨p24,hx37,h⟩:=bindS h
 refine lg (Z4 a1) (fun s1:Int×(List A6)×A7=>([(0,(pt 0)),(1,(i6 a1)),(5,(.sref 3005 22 0 s1.2.1.length)),(6,(i6 s1.1))]:EL)) (fun s1:Int×(List A6)×A7=>([(0,bd 71 (C8 s1.2.2)),(3005,some (F3 s1.2.1))]:OL)) (fun(p24:(A7×(List A6))) e E' O'=>e = .exit 0∧Mat B E' O' ([(5,(.sref 3005 22 0 p24.2.length))]:EL) ([(0,bd 71 (C8 p24.1)),(3005,some (F3 p24.2))]:OL)) hx37 (Mat.trans (Mat.beginP (n:=3005) (e:=39) (sz:=22) (Ts:=[(5,(.sref 3005 22 0 0))]) (Bs:=[]) hB (by decide) (by rfl) (by decide) (TwT.cons (x:=.nils) (by rfl) (Tw.leaf ⟨rfl,rfl⟩) TwT.nil) TwB.nil) (mp [] _ _ hB)) (fun s1 y h => ?_) (fun e E' O' hR => ?_)
 ·unfold Z4 at h
  apply seq
  refine sr (SQ tt) ?_
  apply AWp.cond rfl<;>intro hg25
  ·have h:=A3 hg25 h
   apply AWp.skip
   apply A0
   apply seq
   apply block
   refine sr (SQ tt) ?_
   apply seq
   apply seq
   obtain⟨r26,hr26,h⟩:=bindS h
   refine rg (SQ (fa (cl [(0,0)] (G8 s1.2.2 3 r26 hr26)) tt)) ?_
   apply A0
   refine ghost (mp [] [(0,(pt 0)),(1,(i6 a1)),(5,(.sref 3005 22 0 s1.2.1.length)),(6,(i6 s1.1)),(7,(pt 1007)),(23,(bo (decide (0<r26.1))))] [(0,bd 71 (C8 r26.2)),(1007,some (.box 39 (.st [(i6 5),(.d (.st [(.st [(.bool false),(.int .u64 0),(.int .u64 (bitI .or .u64 335544320 (shlI .u64 (IntKind.u64.wrap s1.1) 8)))]),(.int .i64 24)])),(bo false),(.st [(.d (.st [(.st [(.bool false),(.int .u64 0),(.int .u64 0)]),(.int .i64 0)])),(i6 0),(.st [(i6 0),.nils,(.d (.st [(.bool false),(.int .u64 0),(.int .u64 0)])),(i6 0),(i6 0),(i6 0),.nils,.nils,.nils])])]))),(3005,some (F3 s1.2.1))] hB) ?_
   refine AWp.cut h (fun m30:Bool×Int×Int×Int×(List A9)×Int×Int×Int×Int×(List B1)×(List E0)×(List A1)×A7=>([(0,(pt 0)),(1,(i6 a1)),(5,(.sref 3005 22 0 s1.2.1.length)),(6,(i6 s1.1)),(7,(pt 1007))]:EL)) (fun m30:Bool×Int×Int×Int×(List A9)×Int×Int×Int×Int×(List B1)×(List E0)×(List A1)×A7=>([(0,bd 71 (C8 m30.2.2.2.2.2.2.2.2.2.2.2.2)),(1007,some (.box 39 (.st [(i6 5),(.d (.st [(.st [(.bool false),(.int .u64 0),(.int .u64 (bitI .or .u64 335544320 (shlI .u64 (IntKind.u64.wrap s1.1) 8)))]),(.int .i64 24)])),(bo m30.1),(.d (.st [(.st [(.st [(.bool false),(.int .u64 0),(.int .u64 m30.2.1)]),(.int .i64 m30.2.2.1)]),(.int .i64 m30.2.2.2.1),(.st [(.int .i64 0),(.list 2 (m30.2.2.2.2.1.map C2)),(.st [(.bool false),(.int .u64 0),(.int .u64 m30.2.2.2.2.2.1)]),(.int .i64 m30.2.2.2.2.2.2.1),(.int .i64 m30.2.2.2.2.2.2.2.1),(.int .i64 m30.2.2.2.2.2.2.2.2.1),(.list 2 (m30.2.2.2.2.2.2.2.2.2.1.map B5)),(.list 3 (m30.2.2.2.2.2.2.2.2.2.2.1.map D5)),(.list 3 (m30.2.2.2.2.2.2.2.2.2.2.2.1.map A8))])]))]))),(3005,some (F3 s1.2.1))]:OL)) (fun m30 h E' O' hmat => ?_) (fun j31 hjj31 h => ?_)
   ·apply A0
    refine ghost hmat ?_
    obtain⟨hc32,h⟩:=B4 h
    refine rg (SQ (fa hc32 tt)) ?_
    apply D7
    apply A0
    refine rg (SQ tt) ?_
    obtain rfl:=oi h
    exact⟨rfl,(mp [(3005,1044)] _ _ hB)⟩
   ·apply AWp.cond rfl<;>intro hg33
    ·have h:=A3 hg33 h
     refine sr (SQ tt) ?_
     obtain⟨r34,hr34,h⟩:=bindS h
     refine sr (SQ (fa (cl [] (A2n r34 hr34)) tt)) ?_
     apply seq
     obtain⟨r35,hr35,h⟩:=bindS h
     refine rg (SQ (fa (cl [(0,0)] (G8 r26.2 2 r35 hr35)) tt)) ?_
     apply A0
     refine ghost (mp [] [(0,(pt 0)),(1,(i6 a1)),(5,(.sref 3005 22 0 s1.2.1.length)),(6,(i6 s1.1)),(7,(pt 1007)),(8,(pt 1008))] [(0,bd 71 (C8 r35.2)),(1007,some (.box 39 (.st [(i6 5),(.d (.st [(.st [(.bool false),(.int .u64 0),(.int .u64 (bitI .or .u64 335544320 (shlI .u64 (IntKind.u64.wrap s1.1) 8)))]),(.int .i64 24)])),(bo true),(.st [(.d (.st [(.st [(.bool false),(.int .u64 0),(.int .u64 0)]),(.int .i64 0)])),(i6 0),(.st [(i6 0),.nils,(.d (.st [(.bool false),(.int .u64 0),(.int .u64 0)])),(i6 0),(i6 0),(i6 0),.nils,.nils,.nils])])]))),(1008,some (.box 35 (.d (.st [(.int .i64 0),(.list 2 (([(A9.mk false ([101]:List Int))]:List A9).map C2)),(.st [(.bool false),(.int .u64 0),(.int .u64 7)]),(.int .i64 r35.1),(.int .i64 r34.fPref),(.int .i64 r34.fOTC),(.list 2 (r34.fCommunities.map B5)),(.list 3 (r34.fLarge.map D5)),(.list 3 (r34.fOther.map A8))])))),(3005,some (F3 s1.2.1))] hB) ?_
     refine rg (SQ tt) ?_
     exact hjj31 _ h _ _ (mp [] _ _ hB)
    ·have h:=A4 hg33 h
     apply AWp.skip
     exact hjj31 _ h _ _ (Mat.trans (Mat.coeP (Ts:=[]) (Bs:=[(1007,some (.box 39 (.st [(i6 5),(.d (.st [(.st [(.bool false),(.int .u64 0),(.int .u64 (bitI .or .u64 335544320 (shlI .u64 (IntKind.u64.wrap s1.1) 8)))]),(.int .i64 24)])),(bo false),(.d (.st [(.st [(.st [(.bool false),(.int .u64 0),(.int .u64 0)]),(.int .i64 0)]),(.int .i64 0),(.st [(.int .i64 0),(.list 2 (([]:List A9).map C2)),(.st [(.bool false),(.int .u64 0),(.int .u64 0)]),(.int .i64 0),(.int .i64 0),(.int .i64 0),(.list 2 (([]:List B1).map B5)),(.list 3 (([]:List E0).map D5)),(.list 3 (([]:List A1).map A8))])]))])))]) TwT.nil (TwB.cons (x:=(.st [(i6 5),(.d (.st [(.st [(.bool false),(.int .u64 0),(.int .u64 (bitI .or .u64 335544320 (shlI .u64 (IntKind.u64.wrap s1.1) 8)))]),(.int .i64 24)])),(bo false),(.st [(.d (.st [(.st [(.bool false),(.int .u64 0),(.int .u64 0)]),(.int .i64 0)])),(i6 0),(.st [(i6 0),.nils,(.d (.st [(.bool false),(.int .u64 0),(.int .u64 0)])),(i6 0),(i6 0),(i6 0),.nils,.nils,.nils])])])) (by rfl) (Tw.st (TwL.cons (Tw.same _) (TwL.cons (Tw.same _) (TwL.cons (Tw.same _) (TwL.cons (Tw.leaf ⟨_,(Co.st (CoL.cons (Co.d _) (CoL.cons (Co.d _) (CoL.cons (Co.st (CoL.cons (Co.d _) (CoL.cons (Co.nils 2) (CoL.cons (Co.d _) (CoL.cons (Co.d _) (CoL.cons (Co.d _) (CoL.cons (Co.d _) (CoL.cons (Co.nils 2) (CoL.cons (Co.nils 3) (CoL.cons (Co.nils 3) CoL.nil)))))))))) CoL.nil)))),rfl⟩) TwL.nil))))) TwB.nil)) (mp [] _ _ hB))
  ·have h:=A4 hg25 h
   apply AWp.exit
   apply D9
   obtain rfl:=oi h
   exact⟨(fun hc=>by cases hc),rfl,(mp [] _ _ hB)⟩
 ·obtain⟨rfl,hmat⟩:=hR
  apply C0
  apply A0
  refine ghost hmat ?_
  refine sr (SQ tt) ?_
  apply ret
  obtain rfl:=oi h
  exact rt (Mat.trans (Mat.freezeP (n:=3005) (e:=39) (sz:=22) (es:=p24.2.map F9) (Ts:=[(4,(D0 p24.2))]) (Bs:=[]) (by rfl) (TwT.cons (x:=(.sref 3005 22 0 p24.2.length)) (by rfl) (FrzL.all (by first | rfl | (simp;done) | (simp;omega) | omega)) TwT.nil) TwB.nil) (mp [] [(4,(D0 p24.2))] [(0,bd 71 (C8 p24.1))] hB)) [(D0 p24.2)] (rT rN) rfl
def A0e (a0:C9):Option ((List Int)×Int) :=
 (O8 a0).bind fun r1 =>
 (if (!r1)=true then
 some (([]:List Int),1)
 else
 (S1 a0).bind fun r3 =>
 some (r3.1,r3.2))
theorem A7m (a0:C9) (r:(List Int)×Int) (h:A0e a0=some r):AC Tryz.prog 46 [(.d (E4 a0))] [] (.tup [(.d (.list 1 (r.1.map (eI .u8)))),(.d (.int .i64 r.2))]) []:=by
 refine AC.of_code2 Tryz.func46 rfl rfl (Nat.le_of_ble_eq_true (by rfl)) fun B hB hN => ?_
 delta A0e at h
 refine sr (SQ tt) ?_
 apply seq
 obtain⟨r1,hr1,h⟩:=bindS h
 refine sr (SQ (fa (cl [] (A0m a0 r1 hr1)) tt)) ?_
 apply AWp.cond rfl<;>intro hg2
 ·have h:=A3 hg2 h
  refine sr (SQ tt) ?_
  apply ret
  apply B3
  obtain rfl:=oi h
  exact rt (Mat.trans (Mat.coeP (Ts:=[(2,(.d (.list 1 (([]:List Int).map (eI .u8)))))]) (Bs:=[]) (TwT.cons (x:=.nils) (by rfl) (Tw.leaf ⟨_,(Co.nils 1),rfl⟩) TwT.nil) TwB.nil) (mp [] [(2,(.d (.list 1 (([]:List Int).map (eI .u8))))),(3,(i6 1))] [] hB)) [(.d (.list 1 (([]:List Int).map (eI .u8)))),(i6 1)] (rT (rT rN)) rfl
 ·have h:=A4 hg2 h
  apply AWp.skip
  apply A0
  obtain⟨r3,hr3,h⟩:=bindS h
  refine sr (SQ (fa (cl [] (A50 a0 r3 hr3)) tt)) ?_
  apply ret
  obtain rfl:=oi h
  exact rt (kp [(2,_),(3,_)] [] hB rfl rfl (by rfl)) [(.d (.list 1 (r3.1.map (eI .u8)))),(i6 r3.2)] (rT (rT rN)) rfl
def Z5 (a0:C9):Option (Int) :=
 (A0e a0).bind fun r1 =>
 (if (r1.2 != 0)=true then
 some 0
 else
 some (w64 (19+(r1.1.length:Int))))
theorem A9u (a0:C9) (r:Int) (h:Z5 a0=some r):AC Tryz.prog 21 [(.d (E4 a0))] [] (.d (.int .i64 r)) []:=by
 refine AC.of_code2 Tryz.func21 rfl rfl (Nat.le_of_ble_eq_true (by rfl)) fun B hB hN => ?_
 delta Z5 at h
 refine sr (SQ tt) ?_
 obtain⟨r1,hr1,h⟩:=bindS h
 refine sr (SQ (fa (cl [] (A7m a0 r1 hr1)) tt)) ?_
 apply seq
 refine sr (SQ tt) ?_
 apply AWp.cond rfl<;>intro hg2
 ·have h:=A3 hg2 h
  refine sr (SQ tt) ?_
  apply ret
  apply B3
  obtain rfl:=oi h
  exact rt (kp [(2,_)] [] hB rfl rfl (by rfl)) [(i6 0)] (rT rN) rfl
 ·have h:=A4 hg2 h
  apply AWp.skip
  apply A0
  refine sr (SQ tt) ?_
  apply ret
  obtain rfl:=oi h
  exact rt (kp [(2,_)] [] hB rfl rfl (by rfl)) [(i6 (w64 (19+(r1.1.length:Int))))] (rT rN) rfl
def L6 (x441:(List A6)) (x543:A6) (s544:Int):Option (((Unit)⊕(Unit))⊕(Int)) :=
 (if (decide (s544<(x441.length:Int)))=true then
 (idx x441 s544).bind fun x570 =>
 jn (fun m574:Bool =>
 (if m574=true then
 some (.inl (.inl ()))
 else
 some (.inr (w64 (s544+1))))) (fun j575 =>
 (if (((x570.fPrefix.fAddr.fV6==x543.fPrefix.fAddr.fV6)&&((x570.fPrefix.fAddr.fHi==x543.fPrefix.fAddr.fHi)&&((x570.fPrefix.fAddr.fLo==x543.fPrefix.fAddr.fLo)&&true)))&&((x570.fPrefix.fLen==x543.fPrefix.fLen)&&true))=true then
 (if (x570.fHas != x543.fHas)=true then
 j575 true
 else
 (J5 x570.fRoute x543.fRoute).bind fun r579 =>
 j575 (!r579))
 else
 j575 false))
 else
 some (.inl (.inr ())))
def L7 (x441:(List A6)) (r444:(List A6)) (s445:Int×Int×(List (A2×Int))):Option (((Unit)⊕((List (A2×Int))))⊕(Int×Int×(List (A2×Int)))) :=
 (if (decide (s445.2.1<(r444.length:Int)))=true then
 (idx r444 s445.2.1).bind fun x543 =>
 (loop (L6 x441 x543) 0).bind fun x580=>match x580 with
 | (.inl _) =>
  some (.inl (.inl ()))
 | (.inr _) =>
  jn (fun m584:Int =>
  some (.inr (m584,(w64 (s445.2.1+1)),(mput keq29 s445.2.2 x543.fPrefix (w64 (((mget keq29 s445.2.2 x543.fPrefix).getD 0)+1)))))) (fun j585 =>
  (if x543.fHas=true then
  j585 1
  else
  (if (s445.1==1)=true then
  some (.inl (.inl ()))
  else
  j585 s445.1)))
 else
 some (.inl (.inr s445.2.2)))
def L8 (x441:(List A6)) (p541:(List (A2×Int))) (s590:Int):Option (((Unit)⊕(Unit))⊕(Int)) :=
 (if (decide (s590<(x441.length:Int)))=true then
 (idx x441 s590).bind fun x600 =>
 (if (((mget keq29 p541 x600.fPrefix).getD 0) != 1)=true then
 some (.inl (.inl ()))
 else
 some (.inr (w64 (s590+1))))
 else
 some (.inl (.inr ())))
def L9 (r442:(List C9)×Int) (s604:Int):Option (((Unit)⊕(Unit))⊕(Int)) :=
 (if (decide (s604<(r442.1.length:Int)))=true then
 (idx r442.1 s604).bind fun x636 =>
 jn (fun m642:Bool =>
 (if m642=true then
 some (.inl (.inl ()))
 else
 some (.inr (w64 (s604+1))))) (fun j643 =>
 (O8 x636).bind fun r645 =>
 (if (!r645)=true then
 j643 true
 else
 (if (((decide (0<(x636.fWithdraw.length:Int)))&&(decide (0<(x636.fAnnounce.length:Int)))) || ((w64 ((x636.fWithdraw.length:Int)+(x636.fAnnounce.length:Int)))==0))=true then
 j643 true
 else
 (Z5 x636).bind fun r648 =>
 j643 (decide (4096<r648)))))
 else
 some (.inl (.inr ())))
def Q0 (r2:(List A6)×A7) (r4:(List A6)×A7) (s5:Int):Option (((Unit)⊕(Unit))⊕(Int)) :=
 (if (decide (s5<(([r2.1,r4.1]:List (List A6)).length:Int)))=true then
 (idx ([r2.1,r4.1]:List (List A6)) s5).bind fun x441 =>
 (A1y x441).bind fun r442 =>
 (if (r442.2 != 0)=true then
 some (.inl (.inl ()))
 else
 (T7 r442.1 5).bind fun r444 =>
 (loop (L7 x441 r444) (0,0,([]:List (A2×Int)))).bind fun x588=>match x588 with
 | (.inl _) =>
  some (.inl (.inl ()))
 | (.inr p541) =>
  (loop (L8 x441 p541) 0).bind fun x602=>match x602 with
  | (.inl _) =>
   some (.inl (.inl ()))
  | (.inr _) =>
   (loop (L9 r442) 0).bind fun x649=>match x649 with
   | (.inl _) =>
    some (.inl (.inl ()))
   | (.inr _) =>
    (if ((p541.length:Int) != (x441.length:Int))=true then
    some (.inl (.inl ()))
    else
    some (.inr (w64 (s5+1)))))
 else
 some (.inl (.inr ())))
def A0n (a0:(List Int)) (a1:Int):Option (Bool) :=
 (Q3 a0).bind fun r1 =>
 (G9 r1 5).bind fun r2 =>
 (I9 a1 300).bind fun r3 =>
 (A2i r2.2 r3).bind fun r4 =>
 (loop (Q0 r2 r4) 0).bind fun x652=>match x652 with
 | (.inl _) =>
  some false
 | (.inr _) =>
  (A1h).bind fun r654 =>
  some r654
theorem A6k (a0:(List Int)) (a1:Int) (r:Bool) (h:A0n a0 a1=some r):AC Tryz.prog 5 [(.d (.list 1 (a0.map (eI .i64)))),(.d (.int .i64 a1))] [(500,(.know (globD 0 (.imap gv0))))] (.d (.bool r)) [(500,some (.know (globD 0 (.imap gv0))))]:=by
 refine ac2 Tryz.func5 rfl rfl fun B hB hN L => ?_
 delta A0n at h
 refine sr (SQ tt) ?_
 apply seq
 obtain⟨r1,hr1,h⟩:=bindS h
 refine rg (SQ (fa (cl [(1005,100000)] (A46 a0 r1 hr1)) tt)) ?_
 apply A0
 refine ghost (mp [] [(1,(i6 a1)),(5,(pt 100000))] [(500,some (.know (globD 0 (.imap gv0)))),(100000,bd 71 (C8 r1))] hB) ?_
 apply seq
 apply seq
 obtain⟨r2,hr2,h⟩:=bindS h
 obtain⟨r3,hr3,h⟩:=bindS h
 obtain⟨r4,hr4,h⟩:=bindS h
 refine rg (SQ (fa (cl [(0,100000)] (A0z r1 5 r2 hr2)) (fa (cl [] (A0c a1 300 r3 hr3)) (fa (cl [(0,100000)] (A9t r2.2 r3 r4 hr4)) tt)))) ?_
 apply A0
 refine ghost (mp [] [(28,(.d (.list 1 (([r2.1,r4.1]:List (List A6)).map G4)))),(29,(i6 (([r2.1,r4.1]:List (List A6)).length:Int))),(30,(i6 0))] [(500,some (.know (globD 0 (.imap gv0))))] hB) ?_
 apply block
 obtain⟨x652,hx653,h⟩:=bindS h
 refine lg (Q0 r2 r4) (fun s5:Int=>([(28,(.d (.list 1 (([r2.1,r4.1]:List (List A6)).map G4)))),(29,(i6 (([r2.1,r4.1]:List (List A6)).length:Int))),(30,(i6 s5))]:EL)) (fun s5:Int=>([(500,some (.know (globD 0 (.imap gv0))))]:OL)) (fun(x:(Unit)⊕(Unit)) e E' O'=>match x with | (.inl _p)=>e = .ret∧Mat B E' O' ([(4,(bo false))]:EL) ([(500,some (.know (globD 0 (.imap gv0))))]:OL) | (.inr _p)=>e = .exit 0∧Mat B E' O' ([]:EL) ([(500,some (.know (globD 0 (.imap gv0))))]:OL)) hx653 (mp [] _ _ hB) (fun s5 y h => ?_) (fun e E' O' hR => ?_)
 ·unfold Q0 at h
  refine sr (SQ tt) ?_
  apply seq
  apply AWp.cond rfl<;>intro hg440
  ·have h:=A3 hg440 h
   apply AWp.skip
   apply A0
   apply seq
   apply block
   obtain⟨x441,hx441,h⟩:=bindS h
   refine sr (SQ (fa hx441 tt)) ?_
   apply seq
   obtain⟨r442,hr442,h⟩:=bindS h
   refine rg (SQ (fa (cl [(500,500)] (A73 x441 r442 hr442)) tt)) ?_
   apply A0
   refine ghost (mp [] [(7,(D0 x441)),(8,(E6 r442.1)),(9,(i6 r442.2)),(28,(.d (.list 1 (([r2.1,r4.1]:List (List A6)).map G4)))),(29,(i6 (([r2.1,r4.1]:List (List A6)).length:Int))),(30,(i6 s5))] [(500,some (.know (globD 0 (.imap gv0))))] hB) ?_
   apply seq
   refine sr (SQ tt) ?_
   apply AWp.cond rfl<;>intro hg443
   ·have h:=A3 hg443 h
    refine sr (SQ tt) ?_
    refine gh [(4,_)] [(500,some _)] hB rfl rfl (by rfl) ?_
    apply ret
    apply B3
    apply D3
    apply B3
    obtain rfl:=oi h
    exact⟨(fun hc=>by cases hc),rfl,(mp [] _ _ hB)⟩
   ·have h:=A4 hg443 h
    apply AWp.skip
    apply A0
    apply sr (cg (OpJ.mkmapC hB (nm:=1041) (by decide) (L rfl)) rfl (c (assign (L rfl) (q 41)) rfl cn))
    refine sr (SQ tt) ?_
    apply seq
    obtain⟨r444,hr444,h⟩:=bindS h
    refine sr (SQ (fa (cl [] (A5n r442.1 5 r444 hr444)) tt)) ?_
    apply block
    obtain⟨x588,hx589,h⟩:=bindS h
    refine lg (L7 x441 r444) (fun s445:Int×Int×(List (A2×Int))=>([(7,(D0 x441)),(8,(E6 r442.1)),(10,(.mref 1041)),(11,(i6 s445.1)),(28,(.d (.list 1 (([r2.1,r4.1]:List (List A6)).map G4)))),(29,(i6 (([r2.1,r4.1]:List (List A6)).length:Int))),(30,(i6 s5)),(43,(D0 r444)),(44,(i6 (r444.length:Int))),(45,(i6 s445.2.1))]:EL)) (fun s445:Int×Int×(List (A2×Int))=>([(500,some (.know (globD 0 (.imap gv0)))),(1041,some (.blk (mapC (mpairs B0 (eI .i64) s445.2.2))))]:OL)) (fun(x:(Unit)⊕((List (A2×Int)))) e E' O'=>match x with | (.inl _p)=>e = .ret∧Mat B E' O' ([(4,(bo false))]:EL) ([(500,some (.know (globD 0 (.imap gv0))))]:OL) | (.inr p541)=>e = .exit 2∧Mat B E' O' ([(7,(D0 x441)),(8,(E6 r442.1)),(10,(.mref 1041)),(28,(.d (.list 1 (([r2.1,r4.1]:List (List A6)).map G4)))),(29,(i6 (([r2.1,r4.1]:List (List A6)).length:Int))),(30,(i6 s5))]:EL) ([(500,some (.know (globD 0 (.imap gv0)))),(1041,some (.blk (mapC (mpairs B0 (eI .i64) p541))))]:OL)) hx589 (mp [] _ _ hB) (fun s445 y h => ?_) (fun e E' O' hR => ?_)
    ·unfold L7 at h
     refine sr (SQ tt) ?_
     apply seq
     apply AWp.cond rfl<;>intro hg542
     ·have h:=A3 hg542 h
      apply AWp.skip
      apply A0
      apply seq
      apply block
      obtain⟨x543,hx543,h⟩:=bindS h
      refine sr (SQ (fa hx543 tt)) ?_
      apply seq
      refine sr (SQ tt) ?_
      apply block
      obtain⟨x580,hx581,h⟩:=bindS h
      refine lg (L6 x441 x543) (fun s544:Int=>([(7,(D0 x441)),(8,(E6 r442.1)),(10,(.mref 1041)),(11,(i6 s445.1)),(13,(pt 1013)),(28,(.d (.list 1 (([r2.1,r4.1]:List (List A6)).map G4)))),(29,(i6 (([r2.1,r4.1]:List (List A6)).length:Int))),(30,(i6 s5)),(43,(D0 r444)),(44,(i6 (r444.length:Int))),(45,(i6 s445.2.1)),(49,(D0 x441)),(50,(i6 (x441.length:Int))),(51,(i6 s544))]:EL)) (fun s544:Int=>([(500,some (.know (globD 0 (.imap gv0)))),(1013,bd 39 (F9 x543)),(1041,some (.blk (mapC (mpairs B0 (eI .i64) s445.2.2))))]:OL)) (fun(x:(Unit)⊕(Unit)) e E' O'=>match x with | (.inl _p)=>e = .ret∧Mat B E' O' ([(4,(bo false))]:EL) ([(500,some (.know (globD 0 (.imap gv0))))]:OL) | (.inr _p)=>e = .exit 4∧Mat B E' O' ([(7,(D0 x441)),(8,(E6 r442.1)),(10,(.mref 1041)),(11,(i6 s445.1)),(13,(pt 1013)),(28,(.d (.list 1 (([r2.1,r4.1]:List (List A6)).map G4)))),(29,(i6 (([r2.1,r4.1]:List (List A6)).length:Int))),(30,(i6 s5)),(43,(D0 r444)),(44,(i6 (r444.length:Int))),(45,(i6 s445.2.1))]:EL) ([(500,some (.know (globD 0 (.imap gv0)))),(1013,bd 39 (F9 x543)),(1041,some (.blk (mapC (mpairs B0 (eI .i64) s445.2.2))))]:OL)) hx581 (mp [] _ _ hB) (fun s544 y h => ?_) (fun e E' O' hR => ?_)
      ·unfold L6 at h
       refine sr (SQ tt) ?_
       apply seq
       apply AWp.cond rfl<;>intro hg569
       ·have h:=A3 hg569 h
        apply AWp.skip
        apply A0
        apply seq
        apply block
        obtain⟨x570,hx570,h⟩:=bindS h
        refine sr (SQ (fa hx570 tt)) ?_
        apply seq
        refine AWp.cut h (fun m574:Bool=>([(7,(D0 x441)),(8,(E6 r442.1)),(10,(.mref 1041)),(11,(i6 s445.1)),(13,(pt 1013)),(28,(.d (.list 1 (([r2.1,r4.1]:List (List A6)).map G4)))),(29,(i6 (([r2.1,r4.1]:List (List A6)).length:Int))),(30,(i6 s5)),(43,(D0 r444)),(44,(i6 (r444.length:Int))),(45,(i6 s445.2.1)),(49,(D0 x441)),(50,(i6 (x441.length:Int))),(51,(i6 s544)),(74,(bo m574))]:EL)) (fun m574:Bool=>([(500,some (.know (globD 0 (.imap gv0)))),(1013,bd 39 (F9 x543)),(1041,some (.blk (mapC (mpairs B0 (eI .i64) s445.2.2))))]:OL)) (fun m574 h E' O' hmat => ?_) (fun j575 hjj575 h => ?_)
        ·apply A0
         refine ghost hmat ?_
         apply AWp.cond rfl<;>intro hg576
         ·have h:=A3 hg576 h
          refine sr (SQ tt) ?_
          refine gh [(4,_)] [(500,some _)] hB rfl rfl (by rfl) ?_
          apply ret
          apply D3
          apply B3
          obtain rfl:=oi h
          exact⟨(fun hc=>by cases hc),rfl,(mp [] _ _ hB)⟩
         ·have h:=A4 hg576 h
          apply AWp.skip
          apply D7
          apply A0
          refine rg (SQ tt) ?_
          obtain rfl:=oi h
          exact⟨rfl,(mp [] _ _ hB)⟩
        ·rcases bft (((x570.fPrefix.fAddr.fV6==x543.fPrefix.fAddr.fV6)&&((x570.fPrefix.fAddr.fHi==x543.fPrefix.fAddr.fHi)&&((x570.fPrefix.fAddr.fLo==x543.fPrefix.fAddr.fLo)&&true)))&&((x570.fPrefix.fLen==x543.fPrefix.fLen)&&true)) with hg577 | hg577
         ·have h:=A3 hg577 h
          rcases bft (x570.fHas != x543.fHas) with hg578 | hg578
          ·have h:=A3 hg578 h
           refine rg (SQ (fa hg577 (fa hg578 tt))) ?_
           exact hjj575 _ h _ _ (mp [] _ _ hB)
          ·have h:=A4 hg578 h
           obtain⟨r579,hr579,h⟩:=bindS h
           refine rg (SQ (fa hg577 (fa hg578 (fa (cl [] (A2s x570.fRoute x543.fRoute r579 hr579)) tt)))) ?_
           exact hjj575 _ h _ _ (mp [] _ _ hB)
         ·have h:=A4 hg577 h
          refine rg (SQ (fa hg577 tt)) ?_
          exact hjj575 _ h _ _ (mp [] _ _ hB)
       ·have h:=A4 hg569 h
        apply AWp.exit
        apply D9
        obtain rfl:=oi h
        exact⟨(fun hc=>by cases hc),rfl,(mp [] _ _ hB)⟩
      ·rcases x580 with _ | _
       ·obtain⟨rfl,hmat⟩:=hR
        apply D3
        apply B3
        apply D3
        apply B3
        obtain rfl:=oi h
        exact⟨(fun hc=>by cases hc),rfl,(Mat.trans hmat (mp [] _ _ hB))⟩
       ·obtain⟨rfl,hmat⟩:=hR
        apply C0
        apply A0
        refine ghost hmat ?_
        apply seq
        refine AWp.draws2 3 5 (nm:=1041) (by kernel_rfl) (oc (mv hN (ot 10 (.mref 1041)))
         (oc (ov (.ptr 1013 1 [1]) (fp hN underlying39 1 tyS29 (.box 39 (.d (F9 x543))) (ot 13 (pt 1013))))
         (oc (lb hN 39 (.d (F9 x543)) (.d (B0 x543.fPrefix)) tyS29 (ad (B0 x543.fPrefix)) (ot 77 (.ptr 1013 1 [1])))
         (OpJs.nil))))
         (OpJ.mlookC (g:=(eI .i64)) (l:=s445.2.2) (k:=x543.fPrefix) tyU57 underlying29 keyEq29 (z:=0) tyZD3 (L rfl) (ot 76 (.mref 1041)) (ot 78 (.d (B0 x543.fPrefix))))
         (OpJ.mlookT (g:=(eI .i64)) (by simp [keq29]) (l:=s445.2.2) (k:=x543.fPrefix) tyU57 underlying29 keyEq29 (z:=0) tyZD3 (L rfl) (ot 76 (.mref 1041)) (ot 78 (.d (B0 x543.fPrefix))))
         (oc (add6 (L rfl) (ot 79 (i6 ((mget keq29 s445.2.2 x543.fPrefix).getD 0))) (ii 1))
         (oc (OpJ.mentC (g:=(eI .i64)) (l:=s445.2.2) (k:=x543.fPrefix) tyU57 underlying29 keyEq29 (z:=0) tyZD3 (L rfl) (ot 76 (.mref 1041)) (ot 78 (.d (B0 x543.fPrefix))))
         (oc (extract (v:=(i6 (kst keq29 s445.2.2 x543.fPrefix:Int))) (by rfl) rfl (L rfl) (ot 81 (.tup [(i6 ((mget keq29 s445.2.2 x543.fPrefix).getD 0)),(i6 (kst keq29 s445.2.2 x543.fPrefix:Int))])))
         (oc (OpJ.mestore (f:=B0) (g:=(eI .i64)) (eq:=keq29) (l:=s445.2.2) (k:=x543.fPrefix) (z:=0) (v:=(w64 (((mget keq29 s445.2.2 x543.fPrefix).getD 0)+1))) (by simp [keq29]) (ot 76 (.mref 1041)) (ot 82 (i6 (kst keq29 s445.2.2 x543.fPrefix:Int))) (ot 80 (i6 (w64 (((mget keq29 s445.2.2 x543.fPrefix).getD 0)+1)))))
         (OpJs.nil)))))
         (by rfl) (by rfl) (by kernel_rfl) (by kernel_rfl) (by rfl) (by rfl) (by rfl) (by rfl) ?_
        apply A0
        refine sr (SQ tt) ?_
        refine gh [(7,_),(8,_),(10,_),(11,_),(28,_),(29,_),(30,_),(43,_),(44,_),(45,_),(84,_)] [(500,some _),(1041,some _)] hB rfl rfl (by rfl) ?_
        refine AWp.cut h (fun m584:Int=>([(7,(D0 x441)),(8,(E6 r442.1)),(10,(.mref 1041)),(11,(i6 m584)),(28,(.d (.list 1 (([r2.1,r4.1]:List (List A6)).map G4)))),(29,(i6 (([r2.1,r4.1]:List (List A6)).length:Int))),(30,(i6 s5)),(43,(D0 r444)),(44,(i6 (r444.length:Int))),(45,(i6 s445.2.1))]:EL)) (fun m584:Int=>([(500,some (.know (globD 0 (.imap gv0)))),(1041,some (.blk (mapC (mpairs B0 (eI .i64) (mput keq29 s445.2.2 x543.fPrefix (w64 (((mget keq29 s445.2.2 x543.fPrefix).getD 0)+1)))))))]:OL)) (fun m584 h E' O' hmat => ?_) (fun j585 hjj585 h => ?_)
        ·apply D7
         apply A0
         refine ghost hmat ?_
         refine rg (SQ tt) ?_
         obtain rfl:=oi h
         exact⟨rfl,(mp [] _ _ hB)⟩
        ·apply AWp.cond rfl<;>intro hg586
         ·have h:=A3 hg586 h
          refine rg (SQ tt) ?_
          exact hjj585 _ h _ _ (mp [] _ _ hB)
         ·have h:=A4 hg586 h
          refine sr (SQ tt) ?_
          apply AWp.cond rfl<;>intro hg587
          ·have h:=A3 hg587 h
           refine sr (SQ tt) ?_
           apply ret
           apply D3
           apply B3
           obtain rfl:=oi h
           exact⟨(fun hc=>by cases hc),rfl,(mp [] _ _ hB)⟩
          ·have h:=A4 hg587 h
           apply AWp.skip
           exact hjj585 _ h _ _ (mp [] _ _ hB)
     ·have h:=A4 hg542 h
      apply AWp.exit
      apply D9
      obtain rfl:=oi h
      exact⟨(fun hc=>by cases hc),rfl,(mp [] _ _ hB)⟩
    ·rcases x588 with _ | p541
     ·obtain⟨rfl,hmat⟩:=hR
      apply D3
      apply B3
      apply D3
      apply B3
      obtain rfl:=oi h
      exact⟨(fun hc=>by cases hc),rfl,(Mat.trans hmat (mp [] _ _ hB))⟩
     ·obtain⟨rfl,hmat⟩:=hR
      apply C0
      apply A0
      refine ghost hmat ?_
      apply seq
      refine sr (SQ tt) ?_
      apply block
      obtain⟨x602,hx603,h⟩:=bindS h
      refine lg (L8 x441 p541) (fun s590:Int=>([(7,(D0 x441)),(8,(E6 r442.1)),(10,(.mref 1041)),(28,(.d (.list 1 (([r2.1,r4.1]:List (List A6)).map G4)))),(29,(i6 (([r2.1,r4.1]:List (List A6)).length:Int))),(30,(i6 s5)),(88,(D0 x441)),(89,(i6 (x441.length:Int))),(90,(i6 s590))]:EL)) (fun s590:Int=>([(500,some (.know (globD 0 (.imap gv0)))),(1041,some (.blk (mapC (mpairs B0 (eI .i64) p541))))]:OL)) (fun(x:(Unit)⊕(Unit)) e E' O'=>match x with | (.inl _p)=>e = .ret∧Mat B E' O' ([(4,(bo false))]:EL) ([(500,some (.know (globD 0 (.imap gv0))))]:OL) | (.inr _p)=>e = .exit 6∧Mat B E' O' ([(7,(D0 x441)),(8,(E6 r442.1)),(10,(.mref 1041)),(28,(.d (.list 1 (([r2.1,r4.1]:List (List A6)).map G4)))),(29,(i6 (([r2.1,r4.1]:List (List A6)).length:Int))),(30,(i6 s5))]:EL) ([(500,some (.know (globD 0 (.imap gv0)))),(1041,some (.blk (mapC (mpairs B0 (eI .i64) p541))))]:OL)) hx603 (mp [] _ _ hB) (fun s590 y h => ?_) (fun e E' O' hR => ?_)
      ·unfold L8 at h
       refine sr (SQ tt) ?_
       apply seq
       apply AWp.cond rfl<;>intro hg599
       ·have h:=A3 hg599 h
        apply AWp.skip
        apply A0
        apply seq
        apply block
        obtain⟨x600,hx600,h⟩:=bindS h
        refine sr (SQ (fa hx600 tt)) ?_
        apply sr (c (mv hN (q 10)) rfl (c (fo 1017 1 [1] hN underlying39 1 tyS29 (q 17)) rfl (c (la hN 39 tyS29 (q 95)) rfl (cg (OpJ.mlookC (g:=(eI .i64)) (l:=p541) (k:=x600.fPrefix) tyU57 underlying29 keyEq29 (z:=0) tyZD3 (L rfl) (q 94) (q 96)) rfl (c (neqI (L rfl) (q 97) (ii 1)) rfl cn)))))
        apply AWp.cond rfl<;>intro hg601
        ·have h:=A3 hg601 h
         refine sr (SQ tt) ?_
         apply ret
         apply D3
         apply B3
         obtain rfl:=oi h
         exact⟨(fun hc=>by cases hc),rfl,(mp [] _ _ hB)⟩
        ·have h:=A4 hg601 h
         apply AWp.skip
         apply D7
         apply A0
         refine rg (SQ tt) ?_
         obtain rfl:=oi h
         exact⟨rfl,(mp [] _ _ hB)⟩
       ·have h:=A4 hg599 h
        apply AWp.exit
        apply D9
        obtain rfl:=oi h
        exact⟨(fun hc=>by cases hc),rfl,(mp [] _ _ hB)⟩
      ·rcases x602 with _ | _
       ·obtain⟨rfl,hmat⟩:=hR
        apply D3
        apply B3
        apply D3
        apply B3
        obtain rfl:=oi h
        exact⟨(fun hc=>by cases hc),rfl,(Mat.trans hmat (mp [] _ _ hB))⟩
       ·obtain⟨rfl,hmat⟩:=hR
        apply C0
        apply A0
        refine ghost hmat ?_
        apply seq
        refine sr (SQ tt) ?_
        apply block
        obtain⟨x649,hx650,h⟩:=bindS h
        refine lg (L9 r442) (fun s604:Int=>([(7,(D0 x441)),(10,(.mref 1041)),(28,(.d (.list 1 (([r2.1,r4.1]:List (List A6)).map G4)))),(29,(i6 (([r2.1,r4.1]:List (List A6)).length:Int))),(30,(i6 s5)),(100,(E6 r442.1)),(101,(i6 (r442.1.length:Int))),(102,(i6 s604))]:EL)) (fun s604:Int=>([(500,some (.know (globD 0 (.imap gv0)))),(1041,some (.blk (mapC (mpairs B0 (eI .i64) p541))))]:OL)) (fun(x:(Unit)⊕(Unit)) e E' O'=>match x with | (.inl _p)=>e = .ret∧Mat B E' O' ([(4,(bo false))]:EL) ([(500,some (.know (globD 0 (.imap gv0))))]:OL) | (.inr _p)=>e = .exit 8∧Mat B E' O' ([(7,(D0 x441)),(10,(.mref 1041)),(28,(.d (.list 1 (([r2.1,r4.1]:List (List A6)).map G4)))),(29,(i6 (([r2.1,r4.1]:List (List A6)).length:Int))),(30,(i6 s5))]:EL) ([(500,some (.know (globD 0 (.imap gv0)))),(1041,some (.blk (mapC (mpairs B0 (eI .i64) p541))))]:OL)) hx650 (mp [] _ _ hB) (fun s604 y h => ?_) (fun e E' O' hR => ?_)
        ·unfold L9 at h
         refine sr (SQ tt) ?_
         apply seq
         apply AWp.cond rfl<;>intro hg635
         ·have h:=A3 hg635 h
          apply AWp.skip
          apply A0
          apply seq
          apply block
          obtain⟨x636,hx636,h⟩:=bindS h
          refine sr (SQ (fa hx636 tt)) ?_
          apply seq
          refine AWp.cut h (fun m642:Bool=>([(7,(D0 x441)),(10,(.mref 1041)),(28,(.d (.list 1 (([r2.1,r4.1]:List (List A6)).map G4)))),(29,(i6 (([r2.1,r4.1]:List (List A6)).length:Int))),(30,(i6 s5)),(100,(E6 r442.1)),(101,(i6 (r442.1.length:Int))),(102,(i6 s604)),(135,(bo m642))]:EL)) (fun m642:Bool=>([(500,some (.know (globD 0 (.imap gv0)))),(1041,some (.blk (mapC (mpairs B0 (eI .i64) p541))))]:OL)) (fun m642 h E' O' hmat => ?_) (fun j643 hjj643 h => ?_)
          ·apply A0
           refine ghost hmat ?_
           apply AWp.cond rfl<;>intro hg644
           ·have h:=A3 hg644 h
            refine sr (SQ tt) ?_
            apply ret
            apply D3
            apply B3
            obtain rfl:=oi h
            exact⟨(fun hc=>by cases hc),rfl,(mp [] _ _ hB)⟩
           ·have h:=A4 hg644 h
            apply AWp.skip
            apply D7
            apply A0
            refine rg (SQ tt) ?_
            obtain rfl:=oi h
            exact⟨rfl,(mp [] _ _ hB)⟩
          ·obtain⟨r645,hr645,h⟩:=bindS h
           rcases bft (!r645) with hg646 | hg646
           ·have h:=A3 hg646 h
            refine rg (SQ (fa (cl [] (A0m x636 r645 hr645)) (fa hg646 tt))) ?_
            exact hjj643 _ h _ _ (mp [] _ _ hB)
           ·have h:=A4 hg646 h
            rcases bft (((decide (0<(x636.fWithdraw.length:Int)))&&(decide (0<(x636.fAnnounce.length:Int)))) || ((w64 ((x636.fWithdraw.length:Int)+(x636.fAnnounce.length:Int)))==0)) with hg647 | hg647
            ·have h:=A3 hg647 h
             refine rg (SQ (fa (cl [] (A0m x636 r645 hr645)) (fa hg646 (fa hg647 tt)))) ?_
             exact hjj643 _ h _ _ (mp [] _ _ hB)
            ·have h:=A4 hg647 h
             obtain⟨r648,hr648,h⟩:=bindS h
             refine rg (SQ (fa (cl [] (A0m x636 r645 hr645)) (fa hg646 (fa hg647 (fa (cl [] (A9u x636 r648 hr648)) tt))))) ?_
             exact hjj643 _ h _ _ (mp [] _ _ hB)
         ·have h:=A4 hg635 h
          apply AWp.exit
          apply D9
          obtain rfl:=oi h
          exact⟨(fun hc=>by cases hc),rfl,(mp [] _ _ hB)⟩
        ·rcases x649 with _ | _
         ·obtain⟨rfl,hmat⟩:=hR
          apply D3
          apply B3
          apply D3
          apply B3
          obtain rfl:=oi h
          exact⟨(fun hc=>by cases hc),rfl,(Mat.trans hmat (mp [] _ _ hB))⟩
         ·obtain⟨rfl,hmat⟩:=hR
          apply C0
          apply A0
          refine ghost hmat ?_
          apply sr (c (mv hN (q 10)) rfl (cg (OpJ.val (v':=(i6 (p541.length:Int))) (by simp [mpairs]) (OpJ.mlenC (ps:=mpairs B0 (eI .i64) p541) tyU57 (L rfl) (q 137))) rfl (c (mv hN (q 7)) rfl (c (OpJ.val (v':=(i6 (x441.length:Int))) (by simp) (lenD underlying22 (L rfl) (q 139))) rfl (c (neqI (L rfl) (q 138) (q 140)) rfl cn)))))
          apply AWp.cond rfl<;>intro hg651
          ·have h:=A3 hg651 h
           refine sr (SQ tt) ?_
           apply ret
           apply D3
           apply B3
           obtain rfl:=oi h
           exact⟨(fun hc=>by cases hc),rfl,(mp [] _ _ hB)⟩
          ·have h:=A4 hg651 h
           apply AWp.skip
           apply D7
           apply A0
           refine rg (SQ tt) ?_
           obtain rfl:=oi h
           exact⟨rfl,(mp [] _ _ hB)⟩
  ·have h:=A4 hg440 h
   apply AWp.exit
   apply D9
   obtain rfl:=oi h
   exact⟨(fun hc=>by cases hc),rfl,(mp [] _ _ hB)⟩
 ·rcases x652 with _ | _
  ·obtain⟨rfl,hmat⟩:=hR
   apply D3
   apply B3
   obtain rfl:=oi h
   exact rt (Mat.trans hmat (mp [] [(4,(bo false))] [(500,some (.know (globD 0 (.imap gv0))))] hB)) [(bo false)] (rT rN) rfl
  ·obtain⟨rfl,hmat⟩:=hR
   apply C0
   apply A0
   refine ghost hmat ?_
   apply seq
   obtain⟨r654,hr654,h⟩:=bindS h
   refine rg (SQ (fa (cl [(500,500)] (A8o  r654 hr654)) tt)) ?_
   apply A0
   refine ghost (mp [] [(4,(bo r654))] [(500,some (.know (globD 0 (.imap gv0))))] hB) ?_
   apply ret
   obtain rfl:=oi h
   exact rt (kp [(4,_)] [(500,some _)] hB rfl rfl (by rfl)) [(bo r654)] (rT rN) rfl
end
end Go.Proofs.YtkhjkjojjdkidaaGreatDoor
