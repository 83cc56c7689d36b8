/- Printed by gen.py: the Go functions as plain functions, and that the code does what they say. -/
import Derived.Test.YtkhjkjojjdkidaaGreatDoorChecked
import Derived.Test.YtkhjkjojjdkidaaGreatDoorVcYB
import Derived.Test.YtkhjkjojjdkidaaGreatDoorVcZ
import Derived.Test.YtkhjkjojjdkidaaGreatDoorVcGC
import Derived.KernelRfl
import Derived.Test.YtkhjkjojjdkidaaGreatDoorVcMD
import Derived.Test.YtkhjkjojjdkidaaGreatDoorVcMQ
import Derived.Test.YtkhjkjojjdkidaaGreatDoorVcSG
import Derived.Test.YtkhjkjojjdkidaaGreatDoorFnsC
import Derived.Test.YtkhjkjojjdkidaaGreatDoorExt
import Derived.Test.YtkhjkjojjdkidaaGreatDoorVcPm
import Derived.Test.YtkhjkjojjdkidaaGreatDoorVcRg
import Derived.Test.YtkhjkjojjdkidaaGreatDoorVcSt
import Derived.Test.YtkhjkjojjdkidaaGreatDoorVcMR
namespace Go.Proofs.YtkhjkjojjdkidaaGreatDoor
open Go Go.Vc
open Tryz
open Go.Vc.OpJ (assign alloc lss pickT pickF extract lenD indexD loadD eqlI gtr callVal leq geq loadR nilP indexS buildSlice lenS fieldD neqI pickAnd pickOr)
open Go.Vc.AWp (seq ghost ret block)
set_option maxHeartbeats 4000000
set_option maxRecDepth 100000
noncomputable section
def U2 (a0:C8) (s98:Int×(List (Int×(List Int)))):Option ((((List (Int×(List Int)))))⊕(Int×(List (Int×(List Int))))) :=
 (if (decide (s98.1<(a0.fCommunities.length:Int)))=true then
 (idx a0.fCommunities s98.1).bind fun x113 =>
 (I6 x113.fA 2).bind fun r114 =>
 chk (decide ((((mget keq3 s98.2 8).getD [])++r114).length≤LIM)) <|
 (I6 x113.fB 2).bind fun r116 =>
 chk (decide (((((mget keq3 s98.2 8).getD [])++r114)++r116).length≤LIM)) <|
 some (.inr ((w64 (s98.1+1)),(mput keq3 s98.2 8 ((((mget keq3 s98.2 8).getD [])++r114)++r116))))
 else
 some (.inl s98.2))
def U3 (a0:C8) (s120:Int×(List (Int×(List Int)))):Option ((((List (Int×(List Int)))))⊕(Int×(List (Int×(List Int))))) :=
 (if (decide (s120.1<(a0.fLarge.length:Int)))=true then
 (idx a0.fLarge s120.1).bind fun x139 =>
 (I6 x139.fA 4).bind fun r140 =>
 chk (decide ((((mget keq3 s120.2 32).getD [])++r140).length≤LIM)) <|
 (I6 x139.fB 4).bind fun r142 =>
 chk (decide (((((mget keq3 s120.2 32).getD [])++r140)++r142).length≤LIM)) <|
 (I6 x139.fC 4).bind fun r144 =>
 chk (decide ((((((mget keq3 s120.2 32).getD [])++r140)++r142)++r144).length≤LIM)) <|
 some (.inr ((w64 (s120.1+1)),(mput keq3 s120.2 32 (((((mget keq3 s120.2 32).getD [])++r140)++r142)++r144))))
 else
 some (.inl s120.2))
def A01 (a0:C8) (s152:Int×(List A1)) (s256:Int×(List A1)):Option ((((List A1)))⊕(Int×(List A1))) :=
 (if (decide (s256.1<(a0.fOther.length:Int)))=true then
 (idx a0.fOther s256.1).bind fun x279 =>
 jn (fun m283:(List A1) =>
 some (.inr ((w64 (s256.1+1)),m283))) (fun j284 =>
 (if (x279.fType==s152.1)=true then
 chk (decide (x279.fData.length≤LIM)) <|
 chk (decide ((s256.2++[(A1.mk x279.fFlags s152.1 x279.fData)]).length≤LIM)) <|
 j284 (s256.2++[(A1.mk x279.fFlags s152.1 x279.fData)])
 else
 j284 s256.2))
 else
 some (.inl s256.2))
def M5 (a0:C8) (m150:(List (Int×(List Int)))) (s152:Int×(List A1)):Option ((((List A1)))⊕(Int×(List A1))) :=
 (if (decide (s152.1<256))=true then
 jn (fun m254:(List A1) =>
 (loop (A01 a0 s152) (0,m254)).bind fun p277 =>
 some (.inr ((w64 (s152.1+1)),p277))) (fun j255 =>
 (if (mget keq3 m150 s152.1).isSome=true then
 (Y5 s152.1).bind fun r291 =>
 chk (decide (((mget keq3 m150 s152.1).getD ([]:List Int)).length≤LIM)) <|
 chk (decide ((s152.2++([(A1.mk r291 s152.1 ((mget keq3 m150 s152.1).getD ([]:List Int)))]:List A1)).length≤LIM)) <|
 j255 (s152.2++([(A1.mk r291 s152.1 ((mget keq3 m150 s152.1).getD ([]:List Int)))]:List A1))
 else
 j255 s152.2))
 else
 some (.inl s152.2))
def U4 (x356:B2) (s361:Int×(List Int)):Option ((((List Int)))⊕(Int×(List Int))) :=
 (if (decide (s361.1<(x356.fASNs.length:Int)))=true then
 (idx x356.fASNs s361.1).bind fun x372 =>
 (I6 x372 4).bind fun r373 =>
 chk (decide ((s361.2++r373).length≤LIM)) <|
 some (.inr ((w64 (s361.1+1)),(s361.2++r373)))
 else
 some (.inl s361.2))
def O9 (a0:C8) (s305:Int×(List Int)):Option ((((List Int)))⊕(Int×(List Int))) :=
 (if (decide (s305.1<(a0.fPath.length:Int)))=true then
 (idx a0.fPath s305.1).bind fun x356 =>
 jn (fun m358:Int =>
 chk (decide ((s305.2++([m358,(IntKind.u8.wrap (x356.fASNs.length:Int))]:List Int)).length≤LIM)) <|
 (loop (U4 x356) (0,(s305.2++([m358,(IntKind.u8.wrap (x356.fASNs.length:Int))]:List Int)))).bind fun p370 =>
 some (.inr ((w64 (s305.1+1)),p370))) (fun j359 =>
 (if x356.fSet=true then
 j359 1
 else
 j359 2))
 else
 some (.inl s305.2))
def A19 (a0:C8):Option ((List A1)×Int) :=
 (T0 a0).bind fun r1 =>
 (if (!r1)=true then
 some (([]:List A1),1)
 else
 jn (fun m4:(List (Int×(List Int))) =>
 jn (fun m84:(List (Int×(List Int))) =>
 jn (fun m88:(List (Int×(List Int))) =>
 jn (fun m92:(List (Int×(List Int))) =>
 jn (fun m96:(List (Int×(List Int))) =>
 (loop (U2 a0) (0,m96)).bind fun p111 =>
 (loop (U3 a0) (0,p111)).bind fun p137 =>
 jn (fun m150:(List (Int×(List Int))) =>
 (loop (M5 a0 m150) (0,([]:List A1))).bind fun p248 =>
 some (p248,0)) (fun j151 =>
 (if (decide (0≤a0.fOTC))=true then
 (I6 a0.fOTC 4).bind fun r297 =>
 j151 (mput keq3 p137 35 r297)
 else
 j151 p137))) (fun j97 =>
 (if (decide (0≤a0.fPref))=true then
 (I6 a0.fPref 4).bind fun r299 =>
 j97 (mput keq3 m92 5 r299)
 else
 j97 m92))) (fun j93 =>
 (if (decide (0≤a0.fMED))=true then
 (I6 a0.fMED 4).bind fun r301 =>
 j93 (mput keq3 m88 4 r301)
 else
 j93 m88))) (fun j89 =>
 (if ((!((a0.fNext.fV6==false)&&((a0.fNext.fHi==0)&&((a0.fNext.fLo==0)&&true))))&&(!a0.fNext.fV6))=true then
 (L3 a0.fNext).bind fun r303 =>
 j89 (mput keq3 m84 3 r303)
 else
 j89 m84))) (fun j85 =>
 (if ((decide (0≤a0.fOrigin)) || (decide (0<(a0.fPath.length:Int))))=true then
 (loop (O9 a0) (0,([]:List Int))).bind fun p354 =>
 j85 (mput keq3 m4 2 p354)
 else
 j85 m4))) (fun j5 =>
 (if (decide (0≤a0.fOrigin))=true then
 j5 (mput keq3 ([]:List (Int×(List Int))) 1 ([(IntKind.u8.wrap a0.fOrigin)]:List Int))
 else
 j5 ([]:List (Int×(List Int))))))
theorem A7t (a0:C8) (r:(List A1)×Int) (h:A19 a0=some r):AC Tryz.prog 81 [(.d (B9 a0))] [] (.tup [(.d (.list 3 (r.1.map A7))),(.d (.int .i64 r.2))]) []:=by
 refine ac2 Tryz.func81 rfl rfl fun B hB hN L => ?_
 delta A19 at h
 refine sr (SQ tt) ?_
 apply seq
 obtain⟨r1,hr1,h⟩:=bindS h
 refine sr (SQ (fa (cl [] (A4h a0 r1 hr1)) tt)) ?_
 apply AWp.cond rfl<;>intro hg2
 ·have h:=A4 hg2 h
  refine sr (SQ tt) ?_
  apply ret
  apply B3
  obtain rfl:=oi h
  exact rt (Mat.trans (Mat.coeP (Ts:=[(2,(B0 ([]:List A1)))]) (Bs:=[]) (TwT.cons (x:=.nils) (by rfl) (Tw.leaf ⟨_,(Co.nils 3),rfl⟩) TwT.nil) TwB.nil) (mp [] [(2,(B0 ([]:List A1))),(3,(i6 1))] [] hB)) [(B0 ([]:List A1)),(i6 1)] (rT (rT rN)) rfl
 ·have h:=A5 hg2 h
  apply AWp.skip
  apply A0
  refine sr (SQ tt) ?_
  apply sr (cg (OpJ.mkmapM hB (nm:=1024) (by decide) (h:=(eI .u8)) (e2:=5) (sz2:=1) (own:=[8,32]) (by decide) (fun _=>rfl) (L rfl)) rfl (c (assign (L rfl) (q 24)) rfl cn))
  apply seq
  refine sr (SQ tt) ?_
  refine gh [(1,_),(4,_),(5,_),(27,_)] [(1001,some _),(1024,some _)] hB rfl rfl (by rfl) ?_
  refine AWp.cut h (fun m4:(List (Int×(List Int)))=>([(1,(pt 1001)),(4,.nils),(5,(.mref 1024))]:EL)) (fun m4:(List (Int×(List Int)))=>([(1001,bd 35 (B9 a0)),(1024,some (.reg (mrow (eI .u8) 5 1 [8,32] m4 none)))]:OL)) (fun m4 h E' O' hmat => ?_) (fun j5 hjj5 h => ?_)
  ·apply A0
   refine ghost hmat ?_
   apply seq
   refine sr (SQ tt) ?_
   refine gh [(1,_),(4,_),(5,_),(41,_)] [(1001,some _),(1024,some _)] hB rfl rfl (by rfl) ?_
   refine AWp.cut h (fun m84:(List (Int×(List Int)))=>([(1,(pt 1001)),(4,.nils),(5,(.mref 1024))]:EL)) (fun m84:(List (Int×(List Int)))=>([(1001,bd 35 (B9 a0)),(1024,some (.reg (mrow (eI .u8) 5 1 [8,32] m84 none)))]:OL)) (fun m84 h E' O' hmat => ?_) (fun j85 hjj85 h => ?_)
   ·apply A0
    refine ghost hmat ?_
    apply seq
    refine sr (SQ tt) ?_
    refine gh [(1,_),(4,_),(5,_),(84,_)] [(1001,some _),(1024,some _)] hB rfl rfl (by rfl) ?_
    refine AWp.cut h (fun m88:(List (Int×(List Int)))=>([(1,(pt 1001)),(4,.nils),(5,(.mref 1024))]:EL)) (fun m88:(List (Int×(List Int)))=>([(1001,bd 35 (B9 a0)),(1024,some (.reg (mrow (eI .u8) 5 1 [8,32] m88 none)))]:OL)) (fun m88 h E' O' hmat => ?_) (fun j89 hjj89 h => ?_)
    ·apply A0
     refine ghost hmat ?_
     apply seq
     refine sr (SQ tt) ?_
     refine gh [(1,_),(4,_),(5,_),(91,_)] [(1001,some _),(1024,some _)] hB rfl rfl (by rfl) ?_
     refine AWp.cut h (fun m92:(List (Int×(List Int)))=>([(1,(pt 1001)),(4,.nils),(5,(.mref 1024))]:EL)) (fun m92:(List (Int×(List Int)))=>([(1001,bd 35 (B9 a0)),(1024,some (.reg (mrow (eI .u8) 5 1 [8,32] m92 none)))]:OL)) (fun m92 h E' O' hmat => ?_) (fun j93 hjj93 h => ?_)
     ·apply A0
      refine ghost hmat ?_
      apply seq
      refine sr (SQ tt) ?_
      refine gh [(1,_),(4,_),(5,_),(98,_)] [(1001,some _),(1024,some _)] hB rfl rfl (by rfl) ?_
      refine AWp.cut h (fun m96:(List (Int×(List Int)))=>([(1,(pt 1001)),(4,.nils),(5,(.mref 1024))]:EL)) (fun m96:(List (Int×(List Int)))=>([(1001,bd 35 (B9 a0)),(1024,some (.reg (mrow (eI .u8) 5 1 [8,32] m96 none)))]:OL)) (fun m96 h E' O' hmat => ?_) (fun j97 hjj97 h => ?_)
      ·apply A0
       refine ghost hmat ?_
       apply seq
       refine sr (SQ tt) ?_
       apply block
       obtain⟨p111,hx119,h⟩:=bindS h
       refine lg (U2 a0) (fun s98:Int×(List (Int×(List Int)))=>([(1,(pt 1001)),(4,.nils),(5,(.mref 1024)),(104,(B4 a0.fCommunities)),(105,(i6 (a0.fCommunities.length:Int))),(106,(i6 s98.1))]:EL)) (fun s98:Int×(List (Int×(List Int)))=>([(1001,bd 35 (B9 a0)),(1024,some (.reg (mrow (eI .u8) 5 1 [8,32] s98.2 none)))]:OL)) (fun(p111:((List (Int×(List Int))))) e E' O'=>e = .exit 4∧Mat B E' O' ([(1,(pt 1001)),(4,.nils),(5,(.mref 1024))]:EL) ([(1001,bd 35 (B9 a0)),(1024,some (.reg (mrow (eI .u8) 5 1 [8,32] p111 none)))]:OL)) hx119 (mp [] _ _ hB) (fun s98 y h => ?_) (fun e E' O' hR => ?_)
       ·unfold U2 at h
        refine sr (SQ tt) ?_
        apply seq
        apply AWp.cond rfl<;>intro hg112
        ·have h:=A4 hg112 h
         apply AWp.skip
         apply A0
         apply seq
         apply block
         obtain⟨x113,hx113,h⟩:=bindS h
         refine sr (SQ (fa hx113 tt)) ?_
         obtain⟨r114,hr114,h⟩:=bindS h
         obtain⟨hc115,h⟩:=B6 h
         obtain⟨r116,hr116,h⟩:=bindS h
         obtain⟨hc117,h⟩:=B6 h
         apply dr (c (mv hN (q 5)) rfl (c (mv hN (q 5)) rfl (cg (OpJ.mtakeM (m:=1112) (h:=(eI .u8)) (e2:=5) (sz2:=1) (own:=[8,32]) (eq:=keq3) (l:=s98.2) (k:=8) hB (fun _ _=>rfl) tyU147 underlying3 tyZ67 (by decide) (by decide) (xs:=((mget keq3 s98.2 8).getD [])) rfl (len:=((mget keq3 s98.2 8).getD []).length) rfl (L rfl) (q 111) (ii 8)) rfl (c (fo 1013 0 [0] hN underlying98 0 tyS3 (q 13)) rfl (c (la hN 98 tyS3 (q 113)) rfl (cg (cf hB fnOk106 (J1 x113.fA 2 r114 hr114) (L rfl) (OpdL.cons (q 114) (OpdL.cons (ii 2) OpdL.nil))) rfl (cg (apd hB underlying67 tyE5 1116 (eI .u8) ((mget keq3 s98.2 8).getD []) r114 hc115 (L rfl) (q 112) (q 115)) rfl (c (fo 1013 1 [1] hN underlying98 1 tyS3 (q 13)) rfl (c (la hN 98 tyS3 (q 117)) rfl (cg (cf hB fnOk106 (J1 x113.fB 2 r116 hr116) (L rfl) (OpdL.cons (q 118) (OpdL.cons (ii 2) OpdL.nil))) rfl (cg (apd hB underlying67 tyE5 1120 (eI .u8) (((mget keq3 s98.2 8).getD [])++r114) r116 hc117 (L rfl) (q 116) (q 119)) rfl (cg (OpJ.mputR (h:=(eI .u8)) (e2:=5) (sz2:=1) (own:=[8,32]) (eq:=keq3) (l:=s98.2) (k:=8) (xs:=((((mget keq3 s98.2 8).getD [])++r114)++r116)) (fun _ _=>rfl) tyU147 underlying3 (by decide) (len:=((((mget keq3 s98.2 8).getD [])++r114)++r116).length) rfl (q 110) (ii 8) (q 120)) rfl cn)))))))))))) (by kernel_rfl) (by kernel_rfl)
         apply D7
         apply A0
         refine rg (SQ tt) ?_
         obtain rfl:=oi h
         exact⟨rfl,(mp [] _ _ hB)⟩
        ·have h:=A5 hg112 h
         apply AWp.exit
         apply D8
         obtain rfl:=oi h
         exact⟨(fun hc=>by cases hc),rfl,(mp [] _ _ hB)⟩
       ·obtain⟨rfl,hmat⟩:=hR
        apply C3
        apply A0
        refine ghost hmat ?_
        apply seq
        refine sr (SQ tt) ?_
        apply block
        obtain⟨p137,hx147,h⟩:=bindS h
        refine lg (U3 a0) (fun s120:Int×(List (Int×(List Int)))=>([(1,(pt 1001)),(4,.nils),(5,(.mref 1024)),(123,(D3 a0.fLarge)),(124,(i6 (a0.fLarge.length:Int))),(125,(i6 s120.1))]:EL)) (fun s120:Int×(List (Int×(List Int)))=>([(1001,bd 35 (B9 a0)),(1024,some (.reg (mrow (eI .u8) 5 1 [8,32] s120.2 none)))]:OL)) (fun(p137:((List (Int×(List Int))))) e E' O'=>e = .exit 6∧Mat B E' O' ([(1,(pt 1001)),(4,.nils),(5,(.mref 1024))]:EL) ([(1001,bd 35 (B9 a0)),(1024,some (.reg (mrow (eI .u8) 5 1 [8,32] p137 none)))]:OL)) hx147 (mp [] _ _ hB) (fun s120 y h => ?_) (fun e E' O' hR => ?_)
        ·unfold U3 at h
         refine sr (SQ tt) ?_
         apply seq
         apply AWp.cond rfl<;>intro hg138
         ·have h:=A4 hg138 h
          apply AWp.skip
          apply A0
          apply seq
          apply block
          obtain⟨x139,hx139,h⟩:=bindS h
          refine sr (SQ (fa hx139 tt)) ?_
          obtain⟨r140,hr140,h⟩:=bindS h
          obtain⟨hc141,h⟩:=B6 h
          obtain⟨r142,hr142,h⟩:=bindS h
          obtain⟨hc143,h⟩:=B6 h
          obtain⟨r144,hr144,h⟩:=bindS h
          obtain⟨hc145,h⟩:=B6 h
          apply dr (c (mv hN (q 5)) rfl (c (mv hN (q 5)) rfl (cg (OpJ.mtakeM (m:=1131) (h:=(eI .u8)) (e2:=5) (sz2:=1) (own:=[8,32]) (eq:=keq3) (l:=s120.2) (k:=32) hB (fun _ _=>rfl) tyU147 underlying3 tyZ67 (by decide) (by decide) (xs:=((mget keq3 s120.2 32).getD [])) rfl (len:=((mget keq3 s120.2 32).getD []).length) rfl (L rfl) (q 130) (ii 32)) rfl (c (fo 1015 0 [0] hN underlying100 0 tyS3 (q 15)) rfl (c (la hN 100 tyS3 (q 132)) rfl (cg (cf hB fnOk106 (J1 x139.fA 4 r140 hr140) (L rfl) (OpdL.cons (q 133) (OpdL.cons (ii 4) OpdL.nil))) rfl (cg (apd hB underlying67 tyE5 1135 (eI .u8) ((mget keq3 s120.2 32).getD []) r140 hc141 (L rfl) (q 131) (q 134)) rfl (c (fo 1015 1 [1] hN underlying100 1 tyS3 (q 15)) rfl (c (la hN 100 tyS3 (q 136)) rfl (cg (cf hB fnOk106 (J1 x139.fB 4 r142 hr142) (L rfl) (OpdL.cons (q 137) (OpdL.cons (ii 4) OpdL.nil))) rfl (cg (apd hB underlying67 tyE5 1139 (eI .u8) (((mget keq3 s120.2 32).getD [])++r140) r142 hc143 (L rfl) (q 135) (q 138)) rfl (c (fo 1015 2 [2] hN underlying100 2 tyS3 (q 15)) rfl (c (la hN 100 tyS3 (q 140)) rfl (cg (cf hB fnOk106 (J1 x139.fC 4 r144 hr144) (L rfl) (OpdL.cons (q 141) (OpdL.cons (ii 4) OpdL.nil))) rfl (cg (apd hB underlying67 tyE5 1143 (eI .u8) ((((mget keq3 s120.2 32).getD [])++r140)++r142) r144 hc145 (L rfl) (q 139) (q 142)) rfl (cg (OpJ.mputR (h:=(eI .u8)) (e2:=5) (sz2:=1) (own:=[8,32]) (eq:=keq3) (l:=s120.2) (k:=32) (xs:=(((((mget keq3 s120.2 32).getD [])++r140)++r142)++r144)) (fun _ _=>rfl) tyU147 underlying3 (by decide) (len:=(((((mget keq3 s120.2 32).getD [])++r140)++r142)++r144).length) rfl (q 129) (ii 32) (q 143)) rfl cn)))))))))))))))) (by kernel_rfl) (by kernel_rfl)
          apply D7
          apply A0
          refine rg (SQ tt) ?_
          obtain rfl:=oi h
          exact⟨rfl,(mp [] _ _ hB)⟩
         ·have h:=A5 hg138 h
          apply AWp.exit
          apply D8
          obtain rfl:=oi h
          exact⟨(fun hc=>by cases hc),rfl,(mp [] _ _ hB)⟩
        ·obtain⟨rfl,hmat⟩:=hR
         apply C3
         apply A0
         refine ghost hmat ?_
         apply seq
         refine sr (SQ tt) ?_
         refine gh [(1,_),(4,_),(5,_),(147,_)] [(1001,some _),(1024,some _)] hB rfl rfl (by rfl) ?_
         refine AWp.cut h (fun m150:(List (Int×(List Int)))=>([(1,(pt 1001)),(4,.nils),(5,(.mref 1024))]:EL)) (fun m150:(List (Int×(List Int)))=>([(1001,bd 35 (B9 a0)),(1024,some (.reg (mrow (eI .u8) 5 1 [8,32] m150 none)))]:OL)) (fun m150 h E' O' hmat => ?_) (fun j151 hjj151 h => ?_)
         ·apply A0
          refine ghost hmat ?_
          apply seq
          refine sr (SQ tt) ?_
          apply block
          obtain⟨p248,hx295,h⟩:=bindS h
          refine lg (M5 a0 m150) (fun s152:Int×(List A1)=>([(1,(pt 1001)),(4,(.sref 3004 3 0 s152.2.length)),(5,(.mref 1024)),(152,(i6 s152.1))]:EL)) (fun s152:Int×(List A1)=>([(1001,bd 35 (B9 a0)),(1024,some (.blk (mapQ (mpairs (eI .i64) A5f m150)))),(3004,some (C9 s152.2))]:OL)) (fun(p248:((List A1))) e E' O'=>e = .exit 8∧Mat B E' O' ([(4,(.sref 3004 3 0 p248.length))]:EL) ([(3004,some (C9 p248))]:OL)) hx295 (Mat.trans (Mat.freezeM (n:=1024) (h:=(eI .u8)) (e2:=5) (sz2:=1) (own:=[8,32]) (l:=m150) (by rfl)) (Mat.trans (Mat.beginP (n:=3004) (e:=69) (sz:=3) (Ts:=[(4,(.sref 3004 3 0 0))]) (Bs:=[]) hB (by decide) (by rfl) (by decide) (TwT.cons (x:=.nils) (by rfl) (Tw.leaf ⟨rfl,rfl⟩) TwT.nil) TwB.nil) (mp [] _ _ hB))) (fun s152 y h => ?_) (fun e E' O' hR => ?_)
          ·unfold M5 at h
           refine sr (SQ tt) ?_
           apply seq
           apply AWp.cond rfl<;>intro hg249
           ·have h:=A4 hg249 h
            apply AWp.skip
            apply A0
            apply seq
            apply block
            refine sr (SQ tt) ?_
            apply seq
            apply sr (c (mv hN (q 5)) rfl (c (mv hN (q 16)) rfl (cg (OpJ.mlook2Q (g:=A5f) (l:=m150) (k:=s152.1) tyU147 underlying3 keyEq3 (z:=([]:List Int)) tyZD67 (L rfl) (q 156) (q 157)) rfl (c (mv hN (q 158)) rfl (c (extract (by rfl) rfl (L rfl) (q 155)) rfl (c (extract (by rfl) rfl (L rfl) (q 155)) rfl (c (assign (L rfl) (q 159)) rfl (c (assign (L rfl) (q 160)) rfl cn))))))))
            refine sr (SQ tt) ?_
            refine gh [(1,_),(4,_),(5,_),(16,_),(17,_),(152,_),(161,_)] [(1001,some _),(1024,some _),(3004,some _)] hB rfl rfl (by rfl) ?_
            refine AWp.cut h (fun m254:(List A1)=>([(1,(pt 1001)),(4,(.sref 3004 3 0 m254.length)),(5,(.mref 1024)),(16,(i6 s152.1)),(152,(i6 s152.1))]:EL)) (fun m254:(List A1)=>([(1001,bd 35 (B9 a0)),(1024,some (.blk (mapQ (mpairs (eI .i64) A5f m150)))),(3004,some (C9 m254))]:OL)) (fun m254 h E' O' hmat => ?_) (fun j255 hjj255 h => ?_)
            ·apply A0
             refine ghost hmat ?_
             refine sr (SQ tt) ?_
             apply block
             obtain⟨p277,hx289,h⟩:=bindS h
             refine lg (A01 a0 s152) (fun s256:Int×(List A1)=>([(1,(pt 1001)),(4,(.sref 3004 3 0 s256.2.length)),(5,(.mref 1024)),(16,(i6 s152.1)),(152,(i6 s152.1)),(172,(B0 a0.fOther)),(173,(i6 (a0.fOther.length:Int))),(174,(i6 s256.1))]:EL)) (fun s256:Int×(List A1)=>([(1001,bd 35 (B9 a0)),(1024,some (.blk (mapQ (mpairs (eI .i64) A5f m150)))),(3004,some (C9 s256.2))]:OL)) (fun(p277:((List A1))) e E' O'=>e = .exit 10∧Mat B E' O' ([(1,(pt 1001)),(4,(.sref 3004 3 0 p277.length)),(5,(.mref 1024)),(152,(i6 s152.1))]:EL) ([(1001,bd 35 (B9 a0)),(1024,some (.blk (mapQ (mpairs (eI .i64) A5f m150)))),(3004,some (C9 p277))]:OL)) hx289 (mp [] _ _ hB) (fun s256 y h => ?_) (fun e E' O' hR => ?_)
             ·unfold A01 at h
              refine sr (SQ tt) ?_
              apply seq
              apply AWp.cond rfl<;>intro hg278
              ·have h:=A4 hg278 h
               apply AWp.skip
               apply A0
               apply seq
               apply block
               obtain⟨x279,hx279,h⟩:=bindS h
               refine sr (SQ (fa hx279 tt)) ?_
               refine sr (SQ tt) ?_
               refine gh [(1,_),(4,_),(5,_),(16,_),(20,_),(152,_),(172,_),(173,_),(174,_),(181,_)] [(1001,some _),(1020,some _),(1024,some _),(3004,some _)] hB rfl rfl (by rfl) ?_
               refine AWp.cut h (fun m283:(List A1)=>([(1,(pt 1001)),(4,(.sref 3004 3 0 m283.length)),(5,(.mref 1024)),(16,(i6 s152.1)),(152,(i6 s152.1)),(172,(B0 a0.fOther)),(173,(i6 (a0.fOther.length:Int))),(174,(i6 s256.1))]:EL)) (fun m283:(List A1)=>([(1001,bd 35 (B9 a0)),(1024,some (.blk (mapQ (mpairs (eI .i64) A5f m150)))),(3004,some (C9 m283))]:OL)) (fun m283 h E' O' hmat => ?_) (fun j284 hjj284 h => ?_)
               ·apply D7
                apply A0
                refine ghost hmat ?_
                refine rg (SQ tt) ?_
                obtain rfl:=oi h
                exact⟨rfl,(mp [] _ _ hB)⟩
               ·apply AWp.cond rfl<;>intro hg285
                ·have h:=A4 hg285 h
                 obtain⟨hc286,h⟩:=B6 h
                 obtain⟨hc287,h⟩:=B6 h
                 apply dr (c (mv hN (q 4)) rfl (c (fo 1020 0 [0] hN underlying69 0 tyS3 (q 20)) rfl (c (la hN 69 tyS3 (q 183)) rfl (c (mv hN (q 16)) rfl (c (fo 1020 2 [2] hN underlying69 2 tyS67 (q 20)) rfl (c (la hN 69 tyS67 (q 186)) rfl (cg (OpJ.frz (OpJ.appendN hB underlying67 tyE5 (nm:=1188) (by decide) (ys:=x279.fData.map (eI .u8)) (len:=x279.fData.length) (by simp) (A45 (f:=(eI .u8)) (fun _=>rfl)) (by rw [List.length_map];exact Y8 hc286 (by decide)) (by rw [List.length_map];exact A2c hc286) (L rfl) Opd.nils (q 187)) (by simp)) rfl (c (OpJ.coe (v:=(.st [(i6 x279.fFlags),(i6 s152.1),(.d (.list 1 (x279.fData.map (eI .u8))))])) (y:=(.st [(.int .i64 x279.fFlags),(.int .i64 s152.1),(.list 1 (x279.fData.map (eI .u8)))])) (Co.st (CoL.cons (Co.d _) (CoL.cons (Co.d _) (CoL.cons (Co.d _) CoL.nil)))) rfl (OpJ.build (places:=[(0,1),(1,1),(2,1)]) ⟨underlying69,fun w=>by kernel_rfl⟩ tyZS69 (Opds.cons (q 184) (Opds.cons (q 185) (Opds.cons (q 188) Opds.nil))) (by kernel_rfl) (r:=(.st [(i6 x279.fFlags),(i6 s152.1),(.d (.list 1 (x279.fData.map (eI .u8))))])) (by rfl) (L rfl))) rfl (c (buildSlice underlying33 tyS69 tyZD69 (by rfl) (by decide) (by decide) (Opds.cons (q 189) Opds.nil) (by kernel_rfl) (es:=([(.st [(.int .i64 x279.fFlags),(.int .i64 s152.1),(.list 1 (x279.fData.map (eI .u8)))])]:List D)) (by rfl) (by rfl) (by kernel_rfl) (by simp) (L rfl)) rfl (cg (apd hB underlying33 tyE69 1191 A7 s256.2 [(A1.mk x279.fFlags s152.1 x279.fData)] hc287 (L rfl) (q 182) (q 190)) rfl (c (assign (L rfl) (q 191)) rfl cn))))))))))) (by kernel_rfl) (by kernel_rfl)
                 exact hjj284 _ h _ _ (mp [(3004,1191)] _ _ hB)
                ·have h:=A5 hg285 h
                 apply AWp.skip
                 exact hjj284 _ h _ _ (mp [] _ _ hB)
              ·have h:=A5 hg278 h
               apply AWp.exit
               apply D8
               obtain rfl:=oi h
               exact⟨(fun hc=>by cases hc),rfl,(mp [] _ _ hB)⟩
             ·obtain⟨rfl,hmat⟩:=hR
              apply C3
              apply D7
              apply A0
              refine ghost hmat ?_
              refine rg (SQ tt) ?_
              obtain rfl:=oi h
              exact⟨rfl,(mp [] _ _ hB)⟩
            ·apply AWp.cond rfl<;>intro hg290
             ·have h:=A4 hg290 h
              obtain⟨r291,hr291,h⟩:=bindS h
              obtain⟨hc292,h⟩:=B6 h
              obtain⟨hc293,h⟩:=B6 h
              apply rg (c (mv hN (q 4)) rfl (c (mv hN (q 16)) rfl (cg (cf hB fnOk101 (A4g s152.1 r291 hr291) (L rfl) (OpdL.cons (q 163) OpdL.nil)) rfl (c (mv hN (q 16)) rfl (c (mv hN (q 17)) rfl (cg (OpJ.frz (OpJ.appendN hB underlying67 tyE5 (nm:=1167) (by decide) (ys:=((mget keq3 m150 s152.1).getD ([]:List Int)).map (eI .u8)) (len:=((mget keq3 m150 s152.1).getD ([]:List Int)).length) (by simp) (A45 (f:=(eI .u8)) (fun _=>rfl)) (by rw [List.length_map];exact Y8 hc292 (by decide)) (by rw [List.length_map];exact A2c hc292) (L rfl) Opd.nils (q 166)) (by simp)) rfl (c (OpJ.coe (v:=(.st [(i6 r291),(i6 s152.1),(.d (.list 1 (((mget keq3 m150 s152.1).getD ([]:List Int)).map (eI .u8))))])) (y:=(.st [(.int .i64 r291),(.int .i64 s152.1),(.list 1 (((mget keq3 m150 s152.1).getD ([]:List Int)).map (eI .u8)))])) (Co.st (CoL.cons (Co.d _) (CoL.cons (Co.d _) (CoL.cons (Co.d _) CoL.nil)))) rfl (OpJ.build (places:=[(0,1),(1,1),(2,1)]) ⟨underlying69,fun w=>by kernel_rfl⟩ tyZS69 (Opds.cons (q 164) (Opds.cons (q 165) (Opds.cons (q 167) Opds.nil))) (by kernel_rfl) (r:=(.st [(i6 r291),(i6 s152.1),(.d (.list 1 (((mget keq3 m150 s152.1).getD ([]:List Int)).map (eI .u8))))])) (by rfl) (L rfl))) rfl (c (buildSlice underlying33 tyS69 tyZD69 (by rfl) (by decide) (by decide) (Opds.cons (q 168) Opds.nil) (by kernel_rfl) (es:=([(.st [(.int .i64 r291),(.int .i64 s152.1),(.list 1 (((mget keq3 m150 s152.1).getD ([]:List Int)).map (eI .u8)))])]:List D)) (by rfl) (by rfl) (by kernel_rfl) (by simp) (L rfl)) rfl (cg (apd hB underlying33 tyE69 1170 A7 s152.2 ([(A1.mk r291 s152.1 ((mget keq3 m150 s152.1).getD ([]:List Int)))]:List A1) hc293 (L rfl) (q 162) (q 169)) rfl (c (assign (L rfl) (q 170)) rfl cn))))))))))
              exact hjj255 _ h _ _ (mp [(3004,1170)] _ _ hB)
             ·have h:=A5 hg290 h
              apply AWp.skip
              exact hjj255 _ h _ _ (mp [] _ _ hB)
           ·have h:=A5 hg249 h
            apply AWp.exit
            apply D8
            obtain rfl:=oi h
            exact⟨(fun hc=>by cases hc),rfl,(mp [] _ _ hB)⟩
          ·obtain⟨rfl,hmat⟩:=hR
           apply C3
           apply A0
           refine ghost hmat ?_
           refine sr (SQ tt) ?_
           apply ret
           obtain rfl:=oi h
           exact rt (Mat.trans (Mat.freezeP (n:=3004) (e:=69) (sz:=3) (es:=p248.map A7) (Ts:=[(2,(B0 p248))]) (Bs:=[]) (by rfl) (TwT.cons (x:=(.sref 3004 3 0 p248.length)) (by rfl) (FrzL.all (by first | rfl | (simp;done) | (simp;omega) | omega)) TwT.nil) TwB.nil) (mp [] [(2,(B0 p248)),(3,(i6 0))] [] hB)) [(B0 p248),(i6 0)] (rT (rT rN)) rfl
         ·apply AWp.cond rfl<;>intro hg296
          ·have h:=A4 hg296 h
           obtain⟨r297,hr297,h⟩:=bindS h
           apply rg (c (mv hN (q 5)) rfl (c (fo 1001 7 [5] hN underlying35 7 tyS3 (q 1)) rfl (c (la hN 35 tyS3 (q 149)) rfl (cg (cf hB fnOk106 (J1 a0.fOTC 4 r297 hr297) (L rfl) (OpdL.cons (q 150) (OpdL.cons (ii 4) OpdL.nil))) rfl (cg (OpJ.mputM (h:=(eI .u8)) (e2:=5) (sz2:=1) (own:=[8,32]) (eq:=keq3) (l:=p137) (k:=35) (xs:=r297) (fun _ _=>rfl) tyU147 underlying3 (by decide) (q 148) (ii 35) (q 151)) rfl cn)))))
           exact hjj151 _ h _ _ (mp [] _ _ hB)
          ·have h:=A5 hg296 h
           apply AWp.skip
           exact hjj151 _ h _ _ (mp [] _ _ hB)
      ·apply AWp.cond rfl<;>intro hg298
       ·have h:=A4 hg298 h
        obtain⟨r299,hr299,h⟩:=bindS h
        apply rg (c (mv hN (q 5)) rfl (c (fo 1001 6 [4] hN underlying35 6 tyS3 (q 1)) rfl (c (la hN 35 tyS3 (q 100)) rfl (cg (cf hB fnOk106 (J1 a0.fPref 4 r299 hr299) (L rfl) (OpdL.cons (q 101) (OpdL.cons (ii 4) OpdL.nil))) rfl (cg (OpJ.mputM (h:=(eI .u8)) (e2:=5) (sz2:=1) (own:=[8,32]) (eq:=keq3) (l:=m92) (k:=5) (xs:=r299) (fun _ _=>rfl) tyU147 underlying3 (by decide) (q 99) (ii 5) (q 102)) rfl cn)))))
        exact hjj97 _ h _ _ (mp [] _ _ hB)
       ·have h:=A5 hg298 h
        apply AWp.skip
        exact hjj97 _ h _ _ (mp [] _ _ hB)
     ·apply AWp.cond rfl<;>intro hg300
      ·have h:=A4 hg300 h
       obtain⟨r301,hr301,h⟩:=bindS h
       apply rg (c (mv hN (q 5)) rfl (c (fo 1001 5 [3] hN underlying35 5 tyS3 (q 1)) rfl (c (la hN 35 tyS3 (q 93)) rfl (cg (cf hB fnOk106 (J1 a0.fMED 4 r301 hr301) (L rfl) (OpdL.cons (q 94) (OpdL.cons (ii 4) OpdL.nil))) rfl (cg (OpJ.mputM (h:=(eI .u8)) (e2:=5) (sz2:=1) (own:=[8,32]) (eq:=keq3) (l:=m88) (k:=4) (xs:=r301) (fun _ _=>rfl) tyU147 underlying3 (by decide) (q 92) (ii 4) (q 95)) rfl cn)))))
       exact hjj93 _ h _ _ (mp [] _ _ hB)
      ·have h:=A5 hg300 h
       apply AWp.skip
       exact hjj93 _ h _ _ (mp [] _ _ hB)
    ·apply AWp.cond rfl<;>intro hg302
     ·have h:=A4 hg302 h
      obtain⟨r303,hr303,h⟩:=bindS h
      apply rg (c (mv hN (q 5)) rfl (c (fo 1001 2 [2] hN underlying35 2 tyS27 (q 1)) rfl (c (la hN 35 tyS27 (q 86)) rfl (cg (cf hB fnOk84 (A26 a0.fNext r303 hr303) (L rfl) (OpdL.cons (q 87) OpdL.nil)) rfl (cg (OpJ.mputM (h:=(eI .u8)) (e2:=5) (sz2:=1) (own:=[8,32]) (eq:=keq3) (l:=m84) (k:=3) (xs:=r303) (fun _ _=>rfl) tyU147 underlying3 (by decide) (q 85) (ii 3) (q 88)) rfl cn)))))
      exact hjj89 _ h _ _ (mp [] _ _ hB)
     ·have h:=A5 hg302 h
      apply AWp.skip
      exact hjj89 _ h _ _ (mp [] _ _ hB)
   ·apply AWp.cond rfl<;>intro hg304
    ·have h:=A4 hg304 h
     apply sr (cg (OpJ.buildSliceR underlying67 tyS5 tyZD5 (by rfl) (by decide) (by decide) hB (nm:=1042) (by decide) (len:=([]:List Int).length) (by rfl) Opds.nil (by kernel_rfl) (es:=([]:List Int).map (eI .u8)) (by rfl) (by rfl) (by kernel_rfl) (by simp) (L rfl)) rfl (c (assign (L rfl) (q 42)) rfl cn))
     apply seq
     refine sr (SQ tt) ?_
     apply block
     obtain⟨p354,hx379,h⟩:=bindS h
     refine lg (O9 a0) (fun s305:Int×(List Int)=>([(1,(pt 1001)),(4,.nils),(5,(.mref 1024)),(6,(.sref 3006 1 0 s305.2.length)),(44,(B5 a0.fPath)),(45,(i6 (a0.fPath.length:Int))),(46,(i6 s305.1))]:EL)) (fun s305:Int×(List Int)=>([(1001,bd 35 (B9 a0)),(1024,some (.reg (mrow (eI .u8) 5 1 [8,32] m4 none))),(3006,some (.row 5 1 (s305.2.map (eI .u8))))]:OL)) (fun(p354:((List Int))) e E' O'=>e = .exit 0∧Mat B E' O' ([(1,(pt 1001)),(4,.nils),(5,(.mref 1024)),(6,(.sref 3006 1 0 p354.length))]:EL) ([(1001,bd 35 (B9 a0)),(1024,some (.reg (mrow (eI .u8) 5 1 [8,32] m4 none))),(3006,some (.row 5 1 (p354.map (eI .u8))))]:OL)) hx379 (mp [(3006,1042)] _ _ hB) (fun s305 y h => ?_) (fun e E' O' hR => ?_)
     ·unfold O9 at h
      refine sr (SQ tt) ?_
      apply seq
      apply AWp.cond rfl<;>intro hg355
      ·have h:=A4 hg355 h
       apply AWp.skip
       apply A0
       apply seq
       apply block
       obtain⟨x356,hx356,h⟩:=bindS h
       refine sr (SQ (fa hx356 tt)) ?_
       refine sr (SQ tt) ?_
       apply seq
       refine sr (SQ tt) ?_
       refine gh [(1,_),(4,_),(5,_),(6,_),(8,_),(9,_),(44,_),(45,_),(46,_),(51,_)] [(1001,some _),(1008,some _),(1024,some _),(3006,some _)] hB rfl rfl (by rfl) ?_
       refine AWp.cut h (fun m358:Int=>([(1,(pt 1001)),(4,.nils),(5,(.mref 1024)),(6,(.sref 3006 1 0 s305.2.length)),(8,(pt 1008)),(9,(.d (.int .u8 m358))),(44,(B5 a0.fPath)),(45,(i6 (a0.fPath.length:Int))),(46,(i6 s305.1))]:EL)) (fun m358:Int=>([(1001,bd 35 (B9 a0)),(1008,bd 66 (C7 x356)),(1024,some (.reg (mrow (eI .u8) 5 1 [8,32] m4 none))),(3006,some (.row 5 1 (s305.2.map (eI .u8))))]:OL)) (fun m358 h E' O' hmat => ?_) (fun j359 hjj359 h => ?_)
       ·apply A0
        refine ghost hmat ?_
        obtain⟨hc360,h⟩:=B6 h
        refine sr (SQ (fa hc360 tt)) ?_
        refine sr (SQ tt) ?_
        apply block
        obtain⟨p370,hx376,h⟩:=bindS h
        refine lg (U4 x356) (fun s361:Int×(List Int)=>([(1,(pt 1001)),(4,.nils),(5,(.mref 1024)),(6,(.sref 3006 1 0 s361.2.length)),(44,(B5 a0.fPath)),(45,(i6 (a0.fPath.length:Int))),(46,(i6 s305.1)),(61,(qI_1 x356.fASNs)),(62,(i6 (x356.fASNs.length:Int))),(63,(i6 s361.1))]:EL)) (fun s361:Int×(List Int)=>([(1001,bd 35 (B9 a0)),(1024,some (.reg (mrow (eI .u8) 5 1 [8,32] m4 none))),(3006,some (.row 5 1 (s361.2.map (eI .u8))))]:OL)) (fun(p370:((List Int))) e E' O'=>e = .exit 2∧Mat B E' O' ([(1,(pt 1001)),(4,.nils),(5,(.mref 1024)),(6,(.sref 3006 1 0 p370.length)),(44,(B5 a0.fPath)),(45,(i6 (a0.fPath.length:Int))),(46,(i6 s305.1))]:EL) ([(1001,bd 35 (B9 a0)),(1024,some (.reg (mrow (eI .u8) 5 1 [8,32] m4 none))),(3006,some (.row 5 1 (p370.map (eI .u8))))]:OL)) hx376 (mp [(3006,1059)] _ _ hB) (fun s361 y h => ?_) (fun e E' O' hR => ?_)
        ·unfold U4 at h
         refine sr (SQ tt) ?_
         apply seq
         apply AWp.cond rfl<;>intro hg371
         ·have h:=A4 hg371 h
          apply AWp.skip
          apply A0
          apply seq
          apply block
          obtain⟨x372,hx372,h⟩:=bindS h
          refine sr (SQ (fa hx372 tt)) ?_
          obtain⟨r373,hr373,h⟩:=bindS h
          obtain⟨hc374,h⟩:=B6 h
          refine rg (SQ (fa (cl [] (J1 x372 4 r373 hr373)) (fa hc374 tt))) ?_
          apply D7
          apply A0
          refine rg (SQ tt) ?_
          obtain rfl:=oi h
          exact⟨rfl,(mp [(3006,1070)] _ _ hB)⟩
         ·have h:=A5 hg371 h
          apply AWp.exit
          apply D8
          obtain rfl:=oi h
          exact⟨(fun hc=>by cases hc),rfl,(mp [] _ _ hB)⟩
        ·obtain⟨rfl,hmat⟩:=hR
         apply C3
         apply D7
         apply A0
         refine ghost hmat ?_
         refine rg (SQ tt) ?_
         obtain rfl:=oi h
         exact⟨rfl,(mp [] _ _ hB)⟩
       ·apply AWp.cond rfl<;>intro hg377
        ·have h:=A4 hg377 h
         refine rg (SQ tt) ?_
         exact hjj359 _ h _ _ (mp [] _ _ hB)
        ·have h:=A5 hg377 h
         apply AWp.skip
         exact hjj359 _ h _ _ (mp [] _ _ hB)
      ·have h:=A5 hg355 h
       apply AWp.exit
       apply D8
       obtain rfl:=oi h
       exact⟨(fun hc=>by cases hc),rfl,(mp [] _ _ hB)⟩
     ·obtain⟨rfl,hmat⟩:=hR
      apply C3
      apply A0
      refine ghost hmat ?_
      refine ghost (Mat.freezeP (n:=3006) (e:=5) (sz:=1) (es:=p354.map (eI .u8)) (Ts:=[(6,(.d (.list 1 (p354.map (eI .u8)))))]) (Bs:=[]) (by rfl) (TwT.cons (x:=(.sref 3006 1 0 p354.length)) (by rfl) (FrzL.all (by first | rfl | (simp;done) | (simp;omega) | omega)) TwT.nil) TwB.nil) ?_
      apply rg (c (mv hN (q 5)) rfl (c (mv hN (q 6)) rfl (cg (OpJ.mputM (h:=(eI .u8)) (e2:=5) (sz2:=1) (own:=[8,32]) (eq:=keq3) (l:=m4) (k:=2) (xs:=p354) (fun _ _=>rfl) tyU147 underlying3 (by decide) (q 73) (ii 2) (q 74)) rfl cn)))
      exact hjj85 _ h _ _ (mp [] _ _ hB)
    ·have h:=A5 hg304 h
     apply AWp.skip
     exact hjj85 _ h _ _ (mp [] _ _ hB)
  ·apply AWp.cond rfl<;>intro hg380
   ·have h:=A4 hg380 h
    apply rg (c (mv hN (q 5)) rfl (c (fo 1001 0 [0] hN underlying35 0 tyS3 (q 1)) rfl (c (la hN 35 tyS3 (q 29)) rfl (c (OpJ.conv underlying3 underlying5 (L rfl) (q 30)) rfl (c (buildSlice underlying67 tyS5 tyZD5 (by rfl) (by decide) (by decide) (Opds.cons (q 31) Opds.nil) (by kernel_rfl) (es:=([(.int .u8 (IntKind.u8.wrap a0.fOrigin))]:List D)) (by rfl) (by rfl) (by kernel_rfl) (by simp) (L rfl)) rfl (cg (OpJ.mputM (h:=(eI .u8)) (e2:=5) (sz2:=1) (own:=[8,32]) (eq:=keq3) (l:=([]:List (Int×(List Int)))) (k:=1) (xs:=([(IntKind.u8.wrap a0.fOrigin)]:List Int)) (fun _ _=>rfl) tyU147 underlying3 (by decide) (q 28) (ii 1) (q 32)) rfl cn))))))
    exact hjj5 _ h _ _ (mp [] _ _ hB)
   ·have h:=A5 hg380 h
    apply AWp.skip
    exact hjj5 _ h _ _ (mp [] _ _ hB)
def U5 (a0:(List A2)) (a1:Bool) (s1:Int×(List Int)):Option ((((List Int)))⊕(Int×(List Int))) :=
 (if (decide (s1.1<(a0.length:Int)))=true then
 (idx a0 s1.1).bind fun x32 =>
 jn (fun m38:(List Int) =>
 some (.inr ((w64 (s1.1+1)),m38))) (fun j39 =>
 (if (x32.fAddr.fV6==a1)=true then
 chk (decide ((s1.2++([(IntKind.u8.wrap x32.fLen)]:List Int)).length≤LIM)) <|
 (L3 x32.fAddr).bind fun r42 =>
 chk ((decide (0≤(w64 (Int.tdiv (w64 (x32.fLen+7)) 8)))&&decide (0≤(w64 (Int.tdiv (w64 (x32.fLen+7)) 8)).toNat)&&decide ((w64 (Int.tdiv (w64 (x32.fLen+7)) 8)).toNat≤r42.length))) <|
 chk (decide (((s1.2++([(IntKind.u8.wrap x32.fLen)]:List Int))++((r42.take ((w64 (Int.tdiv (w64 (x32.fLen+7)) 8)).toNat)).drop 0)).length≤LIM)) <|
 j39 ((s1.2++([(IntKind.u8.wrap x32.fLen)]:List Int))++((r42.take ((w64 (Int.tdiv (w64 (x32.fLen+7)) 8)).toNat)).drop 0))
 else
 j39 s1.2))
 else
 some (.inl s1.2))
def H2 (a0:(List A2)) (a1:Bool):Option ((List Int)) :=
 (loop (U5 a0 a1) (0,([]:List Int))).bind fun p30 =>
 some p30
theorem A02 (a0:(List A2)) (a1:Bool) (r:(List Int)) (h:H2 a0 a1=some r):AC Tryz.prog 82 [(.d (.list 4 (a0.map C4))),(.d (.bool a1))] [] (.d (.list 1 (r.map (eI .u8)))) []:=by
 refine ac2 Tryz.func82 rfl rfl fun B hB hN L => ?_
 delta H2 at h
 refine sr (SQ tt) ?_
 refine sr (SQ tt) ?_
 apply seq
 refine sr (SQ tt) ?_
 apply block
 obtain⟨p30,hx46,h⟩:=bindS h
 refine lg (U5 a0 a1) (fun s1:Int×(List Int)=>([(1,(bo a1)),(5,(.sref 3005 1 0 s1.2.length)),(8,(E6 a0)),(9,(i6 (a0.length:Int))),(10,(i6 s1.1))]:EL)) (fun s1:Int×(List Int)=>([(3005,some (.row 5 1 (s1.2.map (eI .u8))))]:OL)) (fun(p30:((List Int))) e E' O'=>e = .exit 0∧Mat B E' O' ([(5,(.sref 3005 1 0 p30.length))]:EL) ([(3005,some (.row 5 1 (p30.map (eI .u8))))]:OL)) hx46 (Mat.trans (Mat.beginP (n:=3005) (e:=5) (sz:=1) (Ts:=[(5,(.sref 3005 1 0 0))]) (Bs:=[]) hB (by decide) (by rfl) (by decide) (TwT.cons (x:=.nils) (by rfl) (Tw.leaf ⟨rfl,rfl⟩) TwT.nil) TwB.nil) (mp [] _ _ hB)) (fun s1 y h => ?_) (fun e E' O' hR => ?_)
 ·unfold U5 at h
  refine sr (SQ tt) ?_
  apply seq
  apply AWp.cond rfl<;>intro hg31
  ·have h:=A4 hg31 h
   apply AWp.skip
   apply A0
   apply seq
   apply block
   obtain⟨x32,hx32,h⟩:=bindS h
   refine sr (SQ (fa hx32 tt)) ?_
   refine sr (SQ tt) ?_
   refine gh [(1,_),(5,_),(7,_),(8,_),(9,_),(10,_),(18,_)] [(1007,some _),(3005,some _)] hB rfl rfl (by rfl) ?_
   refine AWp.cut h (fun m38:(List Int)=>([(1,(bo a1)),(5,(.sref 3005 1 0 m38.length)),(8,(E6 a0)),(9,(i6 (a0.length:Int))),(10,(i6 s1.1))]:EL)) (fun m38:(List Int)=>([(3005,some (.row 5 1 (m38.map (eI .u8))))]:OL)) (fun m38 h E' O' hmat => ?_) (fun j39 hjj39 h => ?_)
   ·apply D7
    apply A0
    refine ghost hmat ?_
    refine rg (SQ tt) ?_
    obtain rfl:=oi h
    exact⟨rfl,(mp [] _ _ hB)⟩
   ·apply AWp.cond rfl<;>intro hg40
    ·have h:=A4 hg40 h
     obtain⟨hc41,h⟩:=B6 h
     obtain⟨r42,hr42,h⟩:=bindS h
     obtain⟨hc43,h⟩:=B6 h
     obtain⟨hc44,h⟩:=B6 h
     refine drS (SQ (fa hc41 (fa (cl [] (A26 x32.fAddr r42 hr42)) (fa hc43 (fa hc44 tt))))) ?_
     exact hjj39 _ h _ _ (mp [(3005,1033)] _ _ hB)
    ·have h:=A5 hg40 h
     apply AWp.skip
     exact hjj39 _ h _ _ (mp [] _ _ hB)
  ·have h:=A5 hg31 h
   apply AWp.exit
   apply D8
   obtain rfl:=oi h
   exact⟨(fun hc=>by cases hc),rfl,(mp [] _ _ hB)⟩
 ·obtain⟨rfl,hmat⟩:=hR
  apply C3
  apply A0
  refine ghost hmat ?_
  refine sr (SQ tt) ?_
  apply ret
  obtain rfl:=oi h
  exact rt (Mat.trans (Mat.freezeP (n:=3005) (e:=5) (sz:=1) (es:=p30.map (eI .u8)) (Ts:=[(4,(.d (.list 1 (p30.map (eI .u8)))))]) (Bs:=[]) (by rfl) (TwT.cons (x:=(.sref 3005 1 0 p30.length)) (by rfl) (FrzL.all (by first | rfl | (simp;done) | (simp;omega) | omega)) TwT.nil) TwB.nil) (mp [] [(4,(.d (.list 1 (p30.map (eI .u8)))))] [] hB)) [(.d (.list 1 (p30.map (eI .u8))))] (rT rN) rfl
def A1p (a0:(List A1)) (a1:A1) (s1:Int):Option (((Int))⊕(Int)) :=
 jn (fun m19:Bool =>
 (if m19=true then
 some (.inr (w64 (s1+1)))
 else
 some (.inl s1))) (fun j20 =>
 (if (decide (s1<(a0.length:Int)))=true then
 (idx a0 s1).bind fun x23 =>
 j20 (decide (x23.fType<a1.fType))
 else
 j20 false))
def A1i (a0:(List A1)) (a1:A1):Option ((List A1)) :=
 (loop (A1p a0 a1) 0).bind fun p16 =>
 chk ((decide (0≤p16)&&decide (0≤p16.toNat)&&decide (p16.toNat≤a0.length))) <|
 chk (decide (((a0.take p16.toNat).drop 0).length≤LIM)) <|
 chk (decide ((((a0.take p16.toNat).drop 0)++[a1]).length≤LIM)) <|
 chk ((decide (0≤p16)&&decide (p16.toNat≤a0.length)&&decide (a0.length≤a0.length))) <|
 chk (decide (((((a0.take p16.toNat).drop 0)++[a1])++((a0.take a0.length).drop p16.toNat)).length≤LIM)) <|
 some ((((a0.take p16.toNat).drop 0)++[a1])++((a0.take a0.length).drop p16.toNat))
theorem A5p (a0:(List A1)) (a1:A1) (r:(List A1)) (h:A1i a0 a1=some r):AC Tryz.prog 83 [(.d (.list 3 (a0.map A7))),(.d (A7 a1))] [] (.d (.list 3 (r.map A7))) []:=by
 refine ac2 Tryz.func83 rfl rfl fun B hB hN L => ?_
 delta A1i at h
 refine sr (SQ tt) ?_
 refine sr (SQ tt) ?_
 apply seq
 apply block
 obtain⟨p16,hx25,h⟩:=bindS h
 refine lg (A1p a0 a1) (fun s1:Int=>([(0,(B0 a0)),(3,(pt 1003)),(5,(i6 s1))]:EL)) (fun s1:Int=>([(1003,bd 69 (A7 a1))]:OL)) (fun(p16:(Int)) e E' O'=>e = .exit 0∧Mat B E' O' ([(0,(B0 a0)),(3,(pt 1003)),(5,(i6 p16))]:EL) ([(1003,bd 69 (A7 a1))]:OL)) hx25 (mp [] _ _ hB) (fun s1 y h => ?_) (fun e E' O' hR => ?_)
 ·unfold A1p at h
  apply seq
  apply seq
  refine AWp.cut h (fun m19:Bool=>([(0,(B0 a0)),(3,(pt 1003)),(5,(i6 s1)),(19,(bo m19))]:EL)) (fun m19:Bool=>([(1003,bd 69 (A7 a1))]:OL)) (fun m19 h E' O' hmat => ?_) (fun j20 hjj20 h => ?_)
  ·apply A0
   refine ghost hmat ?_
   apply AWp.cond rfl<;>intro hg21
   ·have h:=A4 hg21 h
    apply AWp.skip
    apply A0
    apply block
    refine rg (SQ tt) ?_
    apply D7
    obtain rfl:=oi h
    exact⟨rfl,(mp [] _ _ hB)⟩
   ·have h:=A5 hg21 h
    apply AWp.exit
    apply D8
    obtain rfl:=oi h
    exact⟨(fun hc=>by cases hc),rfl,(mp [] _ _ hB)⟩
  ·rcases bft (decide (s1<(a0.length:Int))) with hg22 | hg22
   ·have h:=A4 hg22 h
    obtain⟨_,hx23,h⟩:=bindS h
    refine drS (SQ (fa hg22 (fa hx23 tt))) ?_
    exact hjj20 _ h _ _ (mp [] _ _ hB)
   ·have h:=A5 hg22 h
    refine drS (SQ (fa hg22 tt)) ?_
    exact hjj20 _ h _ _ (mp [] _ _ hB)
 ·obtain⟨rfl,hmat⟩:=hR
  apply C3
  apply A0
  refine ghost hmat ?_
  obtain⟨hc26,h⟩:=B6 h
  obtain⟨hc27,h⟩:=B6 h
  obtain⟨hc28,h⟩:=B6 h
  obtain⟨hc29,h⟩:=B6 h
  obtain⟨hc30,h⟩:=B6 h
  refine sdS (SQ (fa hc26 (fa hc27 (fa hc28 (fa hc29 (fa hc30 tt)))))) ?_
  apply ret
  obtain rfl:=oi h
  exact rt (Mat.trans (Mat.freezeP (n:=1032) (e:=69) (sz:=3) (es:=((((a0.take p16.toNat).drop 0)++[a1])++((a0.take a0.length).drop p16.toNat)).map A7) (Ts:=[(4,(B0 ((((a0.take p16.toNat).drop 0)++[a1])++((a0.take a0.length).drop p16.toNat))))]) (Bs:=[]) (by rfl) (TwT.cons (x:=(.sref 1032 3 0 (((((a0.take p16.toNat).drop 0)++[a1])++((a0.take a0.length).drop p16.toNat)).length))) (by rfl) (FrzL.all (by first | rfl | (simp;done) | (simp;omega) | omega)) TwT.nil) TwB.nil) (mp [] [(4,(B0 ((((a0.take p16.toNat).drop 0)++[a1])++((a0.take a0.length).drop p16.toNat))))] [] hB)) [(B0 ((((a0.take p16.toNat).drop 0)++[a1])++((a0.take a0.length).drop p16.toNat)))] (rT rN) rfl
def X0 (a0:(List A1)) (s1:Int):Option (((Unit)⊕(Unit))⊕(Int)) :=
 (if (decide (s1<(a0.length:Int)))=true then
 (idx a0 s1).bind fun x11 =>
 (if (((((decide (x11.fFlags<0)) || (decide (255<x11.fFlags))) || (decide (x11.fType<0))) || (decide (255<x11.fType))) || (decide (65535<(x11.fData.length:Int))))=true then
 some (.inl (.inl ()))
 else
 some (.inr (w64 (s1+1))))
 else
 some (.inl (.inr ())))
def X1 (a0:(List A1)) (s15:Int×(List Int)):Option ((((List Int)))⊕(Int×(List Int))) :=
 (if (decide (s15.1<(a0.length:Int)))=true then
 (idx a0 s15.1).bind fun x40 =>
 jn (fun m44:(List Int) =>
 chk (decide ((m44++x40.fData).length≤LIM)) <|
 some (.inr ((w64 (s15.1+1)),(m44++x40.fData)))) (fun j45 =>
 (if (decide (255<(x40.fData.length:Int)))=true then
 chk (decide ((s15.2++([(bitI .or .u8 (bitI .and .u8 (IntKind.u8.wrap x40.fFlags) 224) 16),(IntKind.u8.wrap x40.fType),(IntKind.u8.wrap (shrI .i64 (x40.fData.length:Int) 8)),(IntKind.u8.wrap (x40.fData.length:Int))]:List Int)).length≤LIM)) <|
 j45 (s15.2++([(bitI .or .u8 (bitI .and .u8 (IntKind.u8.wrap x40.fFlags) 224) 16),(IntKind.u8.wrap x40.fType),(IntKind.u8.wrap (shrI .i64 (x40.fData.length:Int) 8)),(IntKind.u8.wrap (x40.fData.length:Int))]:List Int))
 else
 chk (decide ((s15.2++([(bitI .and .u8 (IntKind.u8.wrap x40.fFlags) 224),(IntKind.u8.wrap x40.fType),(IntKind.u8.wrap (x40.fData.length:Int))]:List Int)).length≤LIM)) <|
 j45 (s15.2++([(bitI .and .u8 (IntKind.u8.wrap x40.fFlags) 224),(IntKind.u8.wrap x40.fType),(IntKind.u8.wrap (x40.fData.length:Int))]:List Int))))
 else
 some (.inl s15.2))
def A0f (a0:(List A1)):Option ((List Int)×Int) :=
 (loop (X0 a0) 0).bind fun x13=>match x13 with
 | (.inl _) =>
  some (([]:List Int),1)
 | (.inr _) =>
  (loop (X1 a0) (0,([]:List Int))).bind fun p38 =>
  (if (decide (2048<(p38.length:Int)))=true then
  some (([]:List Int),3)
  else
  some (p38,0))
theorem A8w (a0:(List A1)) (r:(List Int)×Int) (h:A0f a0=some r):AC Tryz.prog 85 [(.d (.list 3 (a0.map A7)))] [] (.tup [(.d (.list 1 (r.1.map (eI .u8)))),(.d (.int .i64 r.2))]) []:=by
 refine ac2 Tryz.func85 rfl rfl fun B hB hN L => ?_
 delta A0f at h
 refine sr (SQ tt) ?_
 apply seq
 refine sr (SQ tt) ?_
 apply block
 obtain⟨x13,hx14,h⟩:=bindS h
 refine lg (X0 a0) (fun s1:Int=>([(0,(B0 a0)),(10,(B0 a0)),(11,(i6 (a0.length:Int))),(12,(i6 s1))]:EL)) (fun s1:Int=>([]:OL)) (fun(x:(Unit)⊕(Unit)) e E' O'=>match x with | (.inl _p)=>e = .ret∧Mat B E' O' ([(2,.nils),(3,(i6 1))]:EL) ([]:OL) | (.inr _p)=>e = .exit 0∧Mat B E' O' ([(0,(B0 a0))]:EL) ([]:OL)) hx14 (mp [] _ _ hB) (fun s1 y h => ?_) (fun e E' O' hR => ?_)
 ·unfold X0 at h
  refine sr (SQ tt) ?_
  apply seq
  apply AWp.cond rfl<;>intro hg10
  ·have h:=A4 hg10 h
   apply AWp.skip
   apply A0
   apply seq
   apply block
   obtain⟨_,hx11,h⟩:=bindS h
   refine sr (SQ (fa hx11 tt)) ?_
   refine sr (SQ tt) ?_
   apply AWp.cond rfl<;>intro hg12
   ·have h:=A4 hg12 h
    refine sr (SQ tt) ?_
    apply ret
    apply D4
    apply B3
    obtain rfl:=oi h
    exact⟨(fun hc=>by cases hc),rfl,(mp [] _ _ hB)⟩
   ·have h:=A5 hg12 h
    apply AWp.skip
    apply D7
    apply A0
    refine rg (SQ tt) ?_
    obtain rfl:=oi h
    exact⟨rfl,(mp [] _ _ hB)⟩
  ·have h:=A5 hg10 h
   apply AWp.exit
   apply D8
   obtain rfl:=oi h
   exact⟨(fun hc=>by cases hc),rfl,(mp [] _ _ hB)⟩
 ·rcases x13 with _ | _
  ·obtain⟨rfl,hmat⟩:=hR
   apply D4
   apply B3
   obtain rfl:=oi h
   exact rt (Mat.trans hmat (Mat.trans (Mat.coeP (Ts:=[(2,(.d (.list 1 (([]:List Int).map (eI .u8)))))]) (Bs:=[]) (TwT.cons (x:=.nils) (by rfl) (Tw.leaf ⟨_,(Co.nils 1),rfl⟩) TwT.nil) TwB.nil) (mp [] [(2,(.d (.list 1 (([]:List Int).map (eI .u8))))),(3,(i6 1))] [] hB))) [(.d (.list 1 (([]:List Int).map (eI .u8)))),(i6 1)] (rT (rT rN)) rfl
  ·obtain⟨rfl,hmat⟩:=hR
   apply C3
   apply A0
   refine ghost hmat ?_
   refine sr (SQ tt) ?_
   apply seq
   refine sr (SQ tt) ?_
   apply block
   obtain⟨p38,hx51,h⟩:=bindS h
   refine lg (X1 a0) (fun s15:Int×(List Int)=>([(6,(.sref 3006 1 0 s15.2.length)),(41,(B0 a0)),(42,(i6 (a0.length:Int))),(43,(i6 s15.1))]:EL)) (fun s15:Int×(List Int)=>([(3006,some (.row 5 1 (s15.2.map (eI .u8))))]:OL)) (fun(p38:((List Int))) e E' O'=>e = .exit 2∧Mat B E' O' ([(6,(.sref 3006 1 0 p38.length))]:EL) ([(3006,some (.row 5 1 (p38.map (eI .u8))))]:OL)) hx51 (Mat.trans (Mat.beginP (n:=3006) (e:=5) (sz:=1) (Ts:=[(6,(.sref 3006 1 0 0))]) (Bs:=[]) hB (by decide) (by rfl) (by decide) (TwT.cons (x:=.nils) (by rfl) (Tw.leaf ⟨rfl,rfl⟩) TwT.nil) TwB.nil) (mp [] _ _ hB)) (fun s15 y h => ?_) (fun e E' O' hR => ?_)
   ·unfold X1 at h
    refine sr (SQ tt) ?_
    apply seq
    apply AWp.cond rfl<;>intro hg39
    ·have h:=A4 hg39 h
     apply AWp.skip
     apply A0
     apply seq
     apply block
     obtain⟨x40,hx40,h⟩:=bindS h
     refine sr (SQ (fa hx40 tt)) ?_
     refine sr (SQ tt) ?_
     apply seq
     refine sr (SQ tt) ?_
     refine gh [(6,_),(8,_),(9,_),(41,_),(42,_),(43,_),(51,_)] [(1008,some _),(3006,some _)] hB rfl rfl (by rfl) ?_
     refine AWp.cut h (fun m44:(List Int)=>([(6,(.sref 3006 1 0 m44.length)),(8,(pt 1008)),(41,(B0 a0)),(42,(i6 (a0.length:Int))),(43,(i6 s15.1))]:EL)) (fun m44:(List Int)=>([(1008,bd 69 (A7 x40)),(3006,some (.row 5 1 (m44.map (eI .u8))))]:OL)) (fun m44 h E' O' hmat => ?_) (fun j45 hjj45 h => ?_)
     ·apply A0
      refine ghost hmat ?_
      obtain⟨hc46,h⟩:=B6 h
      refine rg (SQ (fa hc46 tt)) ?_
      apply D7
      apply A0
      refine rg (SQ tt) ?_
      obtain rfl:=oi h
      exact⟨rfl,(mp [(3006,1083)] _ _ hB)⟩
     ·apply AWp.cond rfl<;>intro hg47
      ·have h:=A4 hg47 h
       obtain⟨hc48,h⟩:=B6 h
       refine rg (SQ (fa hc48 tt)) ?_
       exact hjj45 _ h _ _ (mp [(3006,1067)] _ _ hB)
      ·have h:=A5 hg47 h
       obtain⟨hc49,h⟩:=B6 h
       refine rg (SQ (fa hc49 tt)) ?_
       exact hjj45 _ h _ _ (mp [(3006,1079)] _ _ hB)
    ·have h:=A5 hg39 h
     apply AWp.exit
     apply D8
     obtain rfl:=oi h
     exact⟨(fun hc=>by cases hc),rfl,(mp [] _ _ hB)⟩
   ·obtain⟨rfl,hmat⟩:=hR
    apply C3
    apply A0
    refine ghost hmat ?_
    apply seq
    refine sr (SQ tt) ?_
    apply AWp.cond rfl<;>intro hg52
    ·have h:=A4 hg52 h
     refine sr (SQ tt) ?_
     apply ret
     apply B3
     obtain rfl:=oi h
     exact rt (Mat.trans (Mat.coeP (Ts:=[(2,(.d (.list 1 (([]:List Int).map (eI .u8)))))]) (Bs:=[]) (TwT.cons (x:=.nils) (by rfl) (Tw.leaf ⟨_,(Co.nils 1),rfl⟩) TwT.nil) TwB.nil) (mp [] [(2,(.d (.list 1 (([]:List Int).map (eI .u8))))),(3,(i6 3))] [] hB)) [(.d (.list 1 (([]:List Int).map (eI .u8)))),(i6 3)] (rT (rT rN)) rfl
    ·have h:=A5 hg52 h
     apply AWp.skip
     apply A0
     refine sr (SQ tt) ?_
     apply ret
     obtain rfl:=oi h
     exact rt (Mat.trans (Mat.freezeP (n:=3006) (e:=5) (sz:=1) (es:=p38.map (eI .u8)) (Ts:=[(2,(.d (.list 1 (p38.map (eI .u8)))))]) (Bs:=[]) (by rfl) (TwT.cons (x:=(.sref 3006 1 0 p38.length)) (by rfl) (FrzL.all (by first | rfl | (simp;done) | (simp;omega) | omega)) TwT.nil) TwB.nil) (mp [] [(2,(.d (.list 1 (p38.map (eI .u8))))),(3,(i6 0))] [] hB)) [(.d (.list 1 (p38.map (eI .u8)))),(i6 0)] (rT (rT rN)) rfl
def T1 (a0:A6):Option ((List Int)×Int) :=
 jn (fun m4:(List A1) =>
 (H2 a0.fAnnounce true).bind fun r6 =>
 jn (fun m17:(List A1) =>
 (H2 a0.fWithdraw true).bind fun r19 =>
 jn (fun m24:(List A1) =>
 (A0f m24).bind fun r26 =>
 (if (r26.2 != 0)=true then
 some (([]:List Int),r26.2)
 else
 (H2 a0.fWithdraw false).bind fun r28 =>
 chk (decide ((([(IntKind.u8.wrap (shrI .i64 (r28.length:Int) 8)),(IntKind.u8.wrap (r28.length:Int))]:List Int)++r28).length≤LIM)) <|
 chk (decide (((([(IntKind.u8.wrap (shrI .i64 (r28.length:Int) 8)),(IntKind.u8.wrap (r28.length:Int))]:List Int)++r28)++([(IntKind.u8.wrap (shrI .i64 (r26.1.length:Int) 8)),(IntKind.u8.wrap (r26.1.length:Int))]:List Int)).length≤LIM)) <|
 chk (decide ((((([(IntKind.u8.wrap (shrI .i64 (r28.length:Int) 8)),(IntKind.u8.wrap (r28.length:Int))]:List Int)++r28)++([(IntKind.u8.wrap (shrI .i64 (r26.1.length:Int) 8)),(IntKind.u8.wrap (r26.1.length:Int))]:List Int))++r26.1).length≤LIM)) <|
 (H2 a0.fAnnounce false).bind fun r32 =>
 chk (decide (((((([(IntKind.u8.wrap (shrI .i64 (r28.length:Int) 8)),(IntKind.u8.wrap (r28.length:Int))]:List Int)++r28)++([(IntKind.u8.wrap (shrI .i64 (r26.1.length:Int) 8)),(IntKind.u8.wrap (r26.1.length:Int))]:List Int))++r26.1)++r32).length≤LIM)) <|
 some (((((([(IntKind.u8.wrap (shrI .i64 (r28.length:Int) 8)),(IntKind.u8.wrap (r28.length:Int))]:List Int)++r28)++([(IntKind.u8.wrap (shrI .i64 (r26.1.length:Int) 8)),(IntKind.u8.wrap (r26.1.length:Int))]:List Int))++r26.1)++r32),0))) (fun j25 =>
 (if (decide (0<(r19.length:Int)))=true then
 chk (decide ((([0,2,1]:List Int)++r19).length≤LIM)) <|
 (A1i m17 (A1.mk 128 15 (([0,2,1]:List Int)++r19))).bind fun r36 =>
 j25 r36
 else
 j25 m17))) (fun j18 =>
 (if (decide (0<(r6.length:Int)))=true then
 (L3 a0.fAttrs.fNext).bind fun r38 =>
 chk (decide ((([0,2,1,16]:List Int)++r38).length≤LIM)) <|
 chk (decide (((([0,2,1,16]:List Int)++r38)++([0]:List Int)).length≤LIM)) <|
 chk (decide ((((([0,2,1,16]:List Int)++r38)++([0]:List Int))++r6).length≤LIM)) <|
 (A1i m4 (A1.mk 128 14 (((([0,2,1,16]:List Int)++r38)++([0]:List Int))++r6))).bind fun r42 =>
 j18 r42
 else
 j18 m4))) (fun j5 =>
 (if (decide (0<(a0.fAnnounce.length:Int)))=true then
 (A19 a0.fAttrs).bind fun r44 =>
 (if (r44.2 != 0)=true then
 some (([]:List Int),r44.2)
 else
 j5 r44.1)
 else
 j5 ([]:List A1)))
theorem A7u (a0:A6) (r:(List Int)×Int) (h:T1 a0=some r):AC Tryz.prog 45 [(.d (D1 a0))] [] (.tup [(.d (.list 1 (r.1.map (eI .u8)))),(.d (.int .i64 r.2))]) []:=by
 refine ac2 Tryz.func45 rfl rfl fun B hB hN L => ?_
 delta T1 at h
 refine sr (SQ tt) ?_
 refine sr (SQ tt) ?_
 apply seq
 refine sr (SQ tt) ?_
 refine gh [(1,_),(4,_),(16,_)] [(1001,some _)] hB rfl rfl (by rfl) ?_
 refine AWp.cut h (fun m4:(List A1)=>([(1,(pt 1001)),(4,(B0 m4))]:EL)) (fun m4:(List A1)=>([(1001,bd 61 (D1 a0))]:OL)) (fun m4 h E' O' hmat => ?_) (fun j5 hjj5 h => ?_)
 ·apply A0
  refine ghost hmat ?_
  apply seq
  obtain⟨r6,hr6,h⟩:=bindS h
  refine sr (SQ (fa (cl [] (A02 a0.fAnnounce true r6 hr6)) tt)) ?_
  refine sr (SQ tt) ?_
  refine gh [(1,_),(4,_),(7,_),(32,_)] [(1001,some _)] hB rfl rfl (by rfl) ?_
  refine AWp.cut h (fun m17:(List A1)=>([(1,(pt 1001)),(4,(B0 m17))]:EL)) (fun m17:(List A1)=>([(1001,bd 61 (D1 a0))]:OL)) (fun m17 h E' O' hmat => ?_) (fun j18 hjj18 h => ?_)
  ·apply A0
   refine ghost hmat ?_
   apply seq
   obtain⟨r19,hr19,h⟩:=bindS h
   refine sr (SQ (fa (cl [] (A02 a0.fWithdraw true r19 hr19)) tt)) ?_
   refine sr (SQ tt) ?_
   refine gh [(1,_),(4,_),(8,_),(51,_)] [(1001,some _)] hB rfl rfl (by rfl) ?_
   refine AWp.cut h (fun m24:(List A1)=>([(1,(pt 1001)),(4,(B0 m24))]:EL)) (fun m24:(List A1)=>([(1001,bd 61 (D1 a0))]:OL)) (fun m24 h E' O' hmat => ?_) (fun j25 hjj25 h => ?_)
   ·apply A0
    refine ghost hmat ?_
    obtain⟨r26,hr26,h⟩:=bindS h
    refine sr (SQ (fa (cl [] (A8w m24 r26 hr26)) tt)) ?_
    apply seq
    refine sr (SQ tt) ?_
    apply AWp.cond rfl<;>intro hg27
    ·have h:=A4 hg27 h
     refine sr (SQ tt) ?_
     apply ret
     apply B3
     obtain rfl:=oi h
     exact rt (Mat.trans (Mat.coeP (Ts:=[(2,(.d (.list 1 (([]:List Int).map (eI .u8)))))]) (Bs:=[]) (TwT.cons (x:=.nils) (by rfl) (Tw.leaf ⟨_,(Co.nils 1),rfl⟩) TwT.nil) TwB.nil) (mp [] [(2,(.d (.list 1 (([]:List Int).map (eI .u8))))),(3,(i6 r26.2))] [] hB)) [(.d (.list 1 (([]:List Int).map (eI .u8)))),(i6 r26.2)] (rT (rT rN)) rfl
    ·have h:=A5 hg27 h
     apply AWp.skip
     apply A0
     obtain⟨r28,hr28,h⟩:=bindS h
     refine sr (SQ (fa (cl [] (A02 a0.fWithdraw false r28 hr28)) tt)) ?_
     obtain⟨hc29,h⟩:=B6 h
     apply sr (c (mv hN (q 11)) rfl (c (OpJ.val (v':=(i6 (r28.length:Int))) (by simp) (lenD underlying67 (L rfl) (q 69))) rfl (c (OpJ.shr (L rfl) (q 70) (Opd.int .u64 (8)) (by decide)) rfl (c (OpJ.conv underlying3 underlying5 (L rfl) (q 71)) rfl (c (mv hN (q 11)) rfl (c (OpJ.val (v':=(i6 (r28.length:Int))) (by simp) (lenD underlying67 (L rfl) (q 73))) rfl (c (OpJ.conv underlying3 underlying5 (L rfl) (q 74)) rfl (cg (OpJ.buildSliceR underlying67 tyS5 tyZD5 (by rfl) (by decide) (by decide) hB (nm:=1076) (by decide) (len:=([(IntKind.u8.wrap (shrI .i64 (r28.length:Int) 8)),(IntKind.u8.wrap (r28.length:Int))]:List Int).length) (by rfl) (Opds.cons (q 72) (Opds.cons (q 75) Opds.nil)) (by kernel_rfl) (es:=([(IntKind.u8.wrap (shrI .i64 (r28.length:Int) 8)),(IntKind.u8.wrap (r28.length:Int))]:List Int).map (eI .u8)) (by rfl) (by rfl) (by kernel_rfl) (by simp) (L rfl)) rfl (c (mv hN (q 11)) rfl (cg (apd hB underlying67 tyE5 1078 (eI .u8) ([(IntKind.u8.wrap (shrI .i64 (r28.length:Int) 8)),(IntKind.u8.wrap (r28.length:Int))]:List Int) r28 hc29 (L rfl) (q 76) (q 77)) rfl (c (assign (L rfl) (q 78)) rfl cn)))))))))))
     obtain⟨hc30,h⟩:=B6 h
     obtain⟨hc31,h⟩:=B6 h
     refine sr (SQ (fa hc30 (fa hc31 tt))) ?_
     obtain⟨r32,hr32,h⟩:=bindS h
     obtain⟨hc33,h⟩:=B6 h
     refine sr (SQ (fa (cl [] (A02 a0.fAnnounce false r32 hr32)) (fa hc33 tt))) ?_
     apply ret
     obtain rfl:=oi h
     exact rt (Mat.trans (Mat.freezeP (n:=1095) (e:=5) (sz:=1) (es:=((((([(IntKind.u8.wrap (shrI .i64 (r28.length:Int) 8)),(IntKind.u8.wrap (r28.length:Int))]:List Int)++r28)++([(IntKind.u8.wrap (shrI .i64 (r26.1.length:Int) 8)),(IntKind.u8.wrap (r26.1.length:Int))]:List Int))++r26.1)++r32).map (eI .u8)) (Ts:=[(2,(.d (.list 1 (((((([(IntKind.u8.wrap (shrI .i64 (r28.length:Int) 8)),(IntKind.u8.wrap (r28.length:Int))]:List Int)++r28)++([(IntKind.u8.wrap (shrI .i64 (r26.1.length:Int) 8)),(IntKind.u8.wrap (r26.1.length:Int))]:List Int))++r26.1)++r32).map (eI .u8)))))]) (Bs:=[]) (by rfl) (TwT.cons (x:=(.sref 1095 1 0 (((((([(IntKind.u8.wrap (shrI .i64 (r28.length:Int) 8)),(IntKind.u8.wrap (r28.length:Int))]:List Int)++r28)++([(IntKind.u8.wrap (shrI .i64 (r26.1.length:Int) 8)),(IntKind.u8.wrap (r26.1.length:Int))]:List Int))++r26.1)++r32).length))) (by rfl) (FrzL.all (by first | rfl | (simp;done) | (simp;omega) | omega)) TwT.nil) TwB.nil) (mp [] [(2,(.d (.list 1 (((((([(IntKind.u8.wrap (shrI .i64 (r28.length:Int) 8)),(IntKind.u8.wrap (r28.length:Int))]:List Int)++r28)++([(IntKind.u8.wrap (shrI .i64 (r26.1.length:Int) 8)),(IntKind.u8.wrap (r26.1.length:Int))]:List Int))++r26.1)++r32).map (eI .u8))))),(3,(i6 0))] [] hB)) [(.d (.list 1 (((((([(IntKind.u8.wrap (shrI .i64 (r28.length:Int) 8)),(IntKind.u8.wrap (r28.length:Int))]:List Int)++r28)++([(IntKind.u8.wrap (shrI .i64 (r26.1.length:Int) 8)),(IntKind.u8.wrap (r26.1.length:Int))]:List Int))++r26.1)++r32).map (eI .u8)))),(i6 0)] (rT (rT rN)) rfl
   ·apply AWp.cond rfl<;>intro hg34
    ·have h:=A4 hg34 h
     obtain⟨hc35,h⟩:=B6 h
     obtain⟨r36,hr36,h⟩:=bindS h
     apply rg (c (mv hN (q 4)) rfl (cg (OpJ.buildSliceR underlying67 tyS5 tyZD5 (by rfl) (by decide) (by decide) hB (nm:=1053) (by decide) (len:=([0,2,1]:List Int).length) (by rfl) (Opds.cons (Opd.int .u8 (0)) (Opds.cons (Opd.int .u8 (2)) (Opds.cons (Opd.int .u8 (1)) Opds.nil))) (by kernel_rfl) (es:=([0,2,1]:List Int).map (eI .u8)) (by rfl) (by rfl) (by kernel_rfl) (by simp) (L rfl)) rfl (c (mv hN (q 8)) rfl (cg (OpJ.frz (apd hB underlying67 tyE5 1055 (eI .u8) ([0,2,1]:List Int) r19 hc35 (L rfl) (q 53) (q 54)) (by simp)) rfl (c (OpJ.coe (v:=(.st [(i6 128),(i6 15),(.d (.list 1 ((([0,2,1]:List Int)++r19).map (eI .u8))))])) (y:=(.st [(.int .i64 128),(.int .i64 15),(.list 1 ((([0,2,1]:List Int)++r19).map (eI .u8)))])) (Co.st (CoL.cons (Co.d _) (CoL.cons (Co.d _) (CoL.cons (Co.d _) CoL.nil)))) rfl (OpJ.build (places:=[(0,1),(1,1),(2,1)]) ⟨underlying69,fun w=>by kernel_rfl⟩ tyZS69 (Opds.cons (ii 128) (Opds.cons (ii 15) (Opds.cons (q 55) Opds.nil))) (by kernel_rfl) (r:=(.st [(i6 128),(i6 15),(.d (.list 1 ((([0,2,1]:List Int)++r19).map (eI .u8))))])) (by rfl) (L rfl))) rfl (cg (OpJ.callFn hB fnOk83 (A5p m17 (A1.mk 128 15 (([0,2,1]:List Int)++r19)) r36 hr36) [] (by kernel_rfl) (L rfl) (by kernel_rfl) (OpdL.cons (q 52) (OpdL.cons (q 56) OpdL.nil))) rfl (c (assign (L rfl) (q 57)) rfl cn)))))))
     exact hjj25 _ h _ _ (mp [] _ _ hB)
    ·have h:=A5 hg34 h
     apply AWp.skip
     exact hjj25 _ h _ _ (mp [] _ _ hB)
  ·apply AWp.cond rfl<;>intro hg37
   ·have h:=A4 hg37 h
    obtain⟨r38,hr38,h⟩:=bindS h
    obtain⟨hc39,h⟩:=B6 h
    obtain⟨hc40,h⟩:=B6 h
    obtain⟨hc41,h⟩:=B6 h
    obtain⟨r42,hr42,h⟩:=bindS h
    apply rg (c (mv hN (q 4)) rfl (cg (OpJ.buildSliceR underlying67 tyS5 tyZD5 (by rfl) (by decide) (by decide) hB (nm:=1034) (by decide) (len:=([0,2,1,16]:List Int).length) (by rfl) (Opds.cons (Opd.int .u8 (0)) (Opds.cons (Opd.int .u8 (2)) (Opds.cons (Opd.int .u8 (1)) (Opds.cons (Opd.int .u8 (16)) Opds.nil)))) (by kernel_rfl) (es:=([0,2,1,16]:List Int).map (eI .u8)) (by rfl) (by rfl) (by kernel_rfl) (by simp) (L rfl)) rfl (c (fo 1001 1 [1] hN underlying61 1 tyS35 (q 1)) rfl (c (fo 1001 3 [1,2] hN underlying35 2 tyS27 (q 35)) rfl (c (lb hN 61 _ _ tyS27 (At.dst1 (by rfl) (by rfl) (ad _) (by first | rfl | omega)) (q 36)) rfl (cg (cf hB fnOk84 (A26 a0.fAttrs.fNext r38 hr38) (L rfl) (OpdL.cons (q 37) OpdL.nil)) rfl (cg (apd hB underlying67 tyE5 1039 (eI .u8) ([0,2,1,16]:List Int) r38 hc39 (L rfl) (q 34) (q 38)) rfl (c (buildSlice underlying67 tyS5 tyZD5 (by rfl) (by decide) (by decide) (Opds.cons (Opd.int .u8 (0)) Opds.nil) (by kernel_rfl) (es:=([(.int .u8 0)]:List D)) (by rfl) (by rfl) (by kernel_rfl) (by simp) (L rfl)) rfl (cg (apd hB underlying67 tyE5 1041 (eI .u8) (([0,2,1,16]:List Int)++r38) ([0]:List Int) hc40 (L rfl) (q 39) (q 40)) rfl (c (mv hN (q 7)) rfl (cg (OpJ.frz (apd hB underlying67 tyE5 1043 (eI .u8) ((([0,2,1,16]:List Int)++r38)++([0]:List Int)) r6 hc41 (L rfl) (q 41) (q 42)) (by simp)) rfl (c (OpJ.coe (v:=(.st [(i6 128),(i6 14),(.d (.list 1 ((((([0,2,1,16]:List Int)++r38)++([0]:List Int))++r6).map (eI .u8))))])) (y:=(.st [(.int .i64 128),(.int .i64 14),(.list 1 ((((([0,2,1,16]:List Int)++r38)++([0]:List Int))++r6).map (eI .u8)))])) (Co.st (CoL.cons (Co.d _) (CoL.cons (Co.d _) (CoL.cons (Co.d _) CoL.nil)))) rfl (OpJ.build (places:=[(0,1),(1,1),(2,1)]) ⟨underlying69,fun w=>by kernel_rfl⟩ tyZS69 (Opds.cons (ii 128) (Opds.cons (ii 14) (Opds.cons (q 43) Opds.nil))) (by kernel_rfl) (r:=(.st [(i6 128),(i6 14),(.d (.list 1 ((((([0,2,1,16]:List Int)++r38)++([0]:List Int))++r6).map (eI .u8))))])) (by rfl) (L rfl))) rfl (cg (OpJ.callFn hB fnOk83 (A5p m4 (A1.mk 128 14 (((([0,2,1,16]:List Int)++r38)++([0]:List Int))++r6)) r42 hr42) [] (by kernel_rfl) (L rfl) (by kernel_rfl) (OpdL.cons (q 33) (OpdL.cons (q 44) OpdL.nil))) rfl (c (assign (L rfl) (q 45)) rfl cn))))))))))))))
    exact hjj18 _ h _ _ (mp [] _ _ hB)
   ·have h:=A5 hg37 h
    apply AWp.skip
    exact hjj18 _ h _ _ (mp [] _ _ hB)
 ·apply AWp.cond rfl<;>intro hg43
  ·have h:=A4 hg43 h
   obtain⟨r44,hr44,h⟩:=bindS h
   refine sr (SQ (fa (cl [] (A7t a0.fAttrs r44 hr44)) tt)) ?_
   apply seq
   refine sr (SQ tt) ?_
   apply AWp.cond rfl<;>intro hg45
   ·have h:=A4 hg45 h
    refine sr (SQ tt) ?_
    apply ret
    apply B3
    apply B3
    obtain rfl:=oi h
    exact rt (Mat.trans (Mat.coeP (Ts:=[(2,(.d (.list 1 (([]:List Int).map (eI .u8)))))]) (Bs:=[]) (TwT.cons (x:=.nils) (by rfl) (Tw.leaf ⟨_,(Co.nils 1),rfl⟩) TwT.nil) TwB.nil) (mp [] [(2,(.d (.list 1 (([]:List Int).map (eI .u8))))),(3,(i6 r44.2))] [] hB)) [(.d (.list 1 (([]:List Int).map (eI .u8)))),(i6 r44.2)] (rT (rT rN)) rfl
   ·have h:=A5 hg45 h
    apply AWp.skip
    apply A0
    refine rg (SQ tt) ?_
    exact hjj5 _ h _ _ (mp [] _ _ hB)
  ·have h:=A5 hg43 h
   apply AWp.skip
   exact hjj5 _ h _ _ (Mat.trans (Mat.coeP (Ts:=[(4,(B0 ([]:List A1)))]) (Bs:=[]) (TwT.cons (x:=.nils) (by rfl) (Tw.leaf ⟨_,(Co.nils 3),rfl⟩) TwT.nil) TwB.nil) (mp [] _ _ hB))
def P0 (a0:A6) (s4:Int):Option (((Unit)⊕(Unit))⊕(Int)) :=
 (if (decide (s4<((a0.fWithdraw++a0.fAnnounce).length:Int)))=true then
 (idx (a0.fWithdraw++a0.fAnnounce) s4).bind fun _ =>
 (idx (a0.fWithdraw++a0.fAnnounce) s4).bind fun x19 =>
 (Y4 x19).bind fun r20 =>
 (if (!r20)=true then
 some (.inl (.inl ()))
 else
 some (.inr (w64 (s4+1))))
 else
 some (.inl (.inr ())))
def P1 (a0:A6) (s30:Int):Option (((Unit)⊕(Unit))⊕(Int)) :=
 (if (decide (s30<(a0.fAnnounce.length:Int)))=true then
 (idx a0.fAnnounce s30).bind fun x52 =>
 jn (fun m55:Bool =>
 (if m55=true then
 some (.inl (.inl ()))
 else
 some (.inr (w64 (s30+1))))) (fun j56 =>
 (if (((x52.fAddr.fV6 != a0.fAttrs.fNext.fV6) || (a0.fAttrs.fOrigin==(-1))) || ((a0.fAttrs.fNext.fV6==false)&&((a0.fAttrs.fNext.fHi==0)&&((a0.fAttrs.fNext.fLo==0)&&true))))=true then
 j56 true
 else
 (T0 a0.fAttrs).bind fun r59 =>
 j56 (!r59)))
 else
 some (.inl (.inr ())))
def L4 (a0:A6):Option (Bool) :=
 (if ((decide (256<(a0.fWithdraw.length:Int))) || (decide (256<(a0.fAnnounce.length:Int))))=true then
 some false
 else
 chk (decide (a0.fWithdraw.length≤LIM)) <|
 chk (decide ((a0.fWithdraw++a0.fAnnounce).length≤LIM)) <|
 (loop (P0 a0) 0).bind fun x22=>match x22 with
 | (.inl _) =>
  some false
 | (.inr _) =>
  jn (fun m27:Bool =>
  (if m27=true then
  some false
  else
  (loop (P1 a0) 0).bind fun x60=>match x60 with
  | (.inl _) =>
   some false
  | (.inr _) =>
   (T1 a0).bind fun r62 =>
   some ((r62.2==0)&&(decide ((r62.1.length:Int)≤4077))))) (fun j28 =>
  (if ((a0.fAnnounce.length:Int)==0)=true then
  (Y3).bind fun r64 =>
  (A0e a0.fAttrs r64).bind fun r65 =>
  j28 (!r65)
  else
  j28 false)))
theorem A4i (a0:A6) (r:Bool) (h:L4 a0=some r):AC Tryz.prog 20 [(.d (D1 a0))] [] (.d (.bool r)) []:=by
 refine ac2 Tryz.func20 rfl rfl fun B hB hN L => ?_
 delta L4 at h
 refine sr (SQ tt) ?_
 apply seq
 refine sr (SQ tt) ?_
 apply AWp.cond rfl<;>intro hg1
 ·have h:=A4 hg1 h
  refine sr (SQ tt) ?_
  apply ret
  apply B3
  obtain rfl:=oi h
  exact rt (kp [(2,_)] [] hB rfl rfl (by rfl)) [(bo false)] (rT rN) rfl
 ·have h:=A5 hg1 h
  apply AWp.skip
  apply A0
  apply seq
  obtain⟨hc2,h⟩:=B6 h
  obtain⟨hc3,h⟩:=B6 h
  refine sdS (SQ (fa hc2 (fa hc3 tt))) ?_
  apply block
  obtain⟨x22,hx23,h⟩:=bindS h
  refine lg (P0 a0) (fun s4:Int=>([(1,(pt 1001)),(24,(.sref 1024 4 0 ((a0.fWithdraw++a0.fAnnounce).length))),(25,(i6 ((a0.fWithdraw++a0.fAnnounce).length:Int))),(26,(i6 s4))]:EL)) (fun s4:Int=>([(1001,bd 61 (D1 a0)),(1024,some (I1 (a0.fWithdraw++a0.fAnnounce)))]:OL)) (fun(x:(Unit)⊕(Unit)) e E' O'=>match x with | (.inl _p)=>e = .ret∧Mat B E' O' ([(2,(bo false))]:EL) ([]:OL) | (.inr _p)=>e = .exit 0∧Mat B E' O' ([(1,(pt 1001))]:EL) ([(1001,bd 61 (D1 a0))]:OL)) hx23 (mp [] _ _ hB) (fun s4 y h => ?_) (fun e E' O' hR => ?_)
  ·unfold P0 at h
   refine sr (SQ tt) ?_
   apply seq
   apply AWp.cond rfl<;>intro hg17
   ·have h:=A4 hg17 h
    apply AWp.skip
    apply A0
    apply seq
    apply block
    obtain⟨_,hx18,h⟩:=bindS h
    obtain⟨x19,hx19,h⟩:=bindS h
    refine sr (SQ (fa hx18 (fa hx19 tt))) ?_
    obtain⟨r20,hr20,h⟩:=bindS h
    refine sr (SQ (fa (cl [] (A4f x19 r20 hr20)) tt)) ?_
    apply AWp.cond rfl<;>intro hg21
    ·have h:=A4 hg21 h
     refine sr (SQ tt) ?_
     apply ret
     apply D4
     apply B3
     obtain rfl:=oi h
     exact⟨(fun hc=>by cases hc),rfl,(mp [] _ _ hB)⟩
    ·have h:=A5 hg21 h
     apply AWp.skip
     apply D7
     apply A0
     refine rg (SQ tt) ?_
     obtain rfl:=oi h
     exact⟨rfl,(mp [] _ _ hB)⟩
   ·have h:=A5 hg17 h
    apply AWp.exit
    apply D8
    obtain rfl:=oi h
    exact⟨(fun hc=>by cases hc),rfl,(mp [] _ _ hB)⟩
  ·rcases x22 with _ | _
   ·obtain⟨rfl,hmat⟩:=hR
    apply D4
    apply B3
    obtain rfl:=oi h
    exact rt (Mat.trans hmat (mp [] [(2,(bo false))] [] hB)) [(bo false)] (rT rN) rfl
   ·obtain⟨rfl,hmat⟩:=hR
    apply C3
    apply A0
    refine ghost hmat ?_
    apply seq
    apply seq
    refine AWp.cut h (fun m27:Bool=>([(1,(pt 1001)),(44,(bo m27))]:EL)) (fun m27:Bool=>([(1001,bd 61 (D1 a0))]:OL)) (fun m27 h E' O' hmat => ?_) (fun j28 hjj28 h => ?_)
    ·apply A0
     refine ghost hmat ?_
     apply AWp.cond rfl<;>intro hg29
     ·have h:=A4 hg29 h
      refine sr (SQ tt) ?_
      apply ret
      apply B3
      obtain rfl:=oi h
      exact rt (kp [(2,_)] [] hB rfl rfl (by rfl)) [(bo false)] (rT rN) rfl
     ·have h:=A5 hg29 h
      apply AWp.skip
      apply A0
      apply seq
      refine sr (SQ tt) ?_
      apply block
      obtain⟨x60,hx61,h⟩:=bindS h
      refine lg (P1 a0) (fun s30:Int=>([(1,(pt 1001)),(46,(E6 a0.fAnnounce)),(47,(i6 (a0.fAnnounce.length:Int))),(48,(i6 s30))]:EL)) (fun s30:Int=>([(1001,bd 61 (D1 a0))]:OL)) (fun(x:(Unit)⊕(Unit)) e E' O'=>match x with | (.inl _p)=>e = .ret∧Mat B E' O' ([(2,(bo false))]:EL) ([]:OL) | (.inr _p)=>e = .exit 2∧Mat B E' O' ([(1,(pt 1001))]:EL) ([(1001,bd 61 (D1 a0))]:OL)) hx61 (mp [] _ _ hB) (fun s30 y h => ?_) (fun e E' O' hR => ?_)
      ·unfold P1 at h
       refine sr (SQ tt) ?_
       apply seq
       apply AWp.cond rfl<;>intro hg51
       ·have h:=A4 hg51 h
        apply AWp.skip
        apply A0
        apply seq
        apply block
        obtain⟨x52,hx52,h⟩:=bindS h
        refine sr (SQ (fa hx52 tt)) ?_
        apply seq
        refine AWp.cut h (fun m55:Bool=>([(1,(pt 1001)),(46,(E6 a0.fAnnounce)),(47,(i6 (a0.fAnnounce.length:Int))),(48,(i6 s30)),(78,(bo m55))]:EL)) (fun m55:Bool=>([(1001,bd 61 (D1 a0))]:OL)) (fun m55 h E' O' hmat => ?_) (fun j56 hjj56 h => ?_)
        ·apply A0
         refine ghost hmat ?_
         apply AWp.cond rfl<;>intro hg57
         ·have h:=A4 hg57 h
          refine sr (SQ tt) ?_
          apply ret
          apply D4
          apply B3
          obtain rfl:=oi h
          exact⟨(fun hc=>by cases hc),rfl,(mp [] _ _ hB)⟩
         ·have h:=A5 hg57 h
          apply AWp.skip
          apply D7
          apply A0
          refine rg (SQ tt) ?_
          obtain rfl:=oi h
          exact⟨rfl,(mp [] _ _ hB)⟩
        ·rcases bft (((x52.fAddr.fV6 != a0.fAttrs.fNext.fV6) || (a0.fAttrs.fOrigin==(-1))) || ((a0.fAttrs.fNext.fV6==false)&&((a0.fAttrs.fNext.fHi==0)&&((a0.fAttrs.fNext.fLo==0)&&true)))) with hg58 | hg58
         ·have h:=A4 hg58 h
          refine rg (SQ (fa hg58 tt)) ?_
          exact hjj56 _ h _ _ (mp [] _ _ hB)
         ·have h:=A5 hg58 h
          obtain⟨r59,hr59,h⟩:=bindS h
          refine rg (SQ (fa hg58 (fa (cl [] (A4h a0.fAttrs r59 hr59)) tt))) ?_
          exact hjj56 _ h _ _ (mp [] _ _ hB)
       ·have h:=A5 hg51 h
        apply AWp.exit
        apply D8
        obtain rfl:=oi h
        exact⟨(fun hc=>by cases hc),rfl,(mp [] _ _ hB)⟩
      ·rcases x60 with _ | _
       ·obtain⟨rfl,hmat⟩:=hR
        apply D4
        apply B3
        obtain rfl:=oi h
        exact rt (Mat.trans hmat (mp [] [(2,(bo false))] [] hB)) [(bo false)] (rT rN) rfl
       ·obtain⟨rfl,hmat⟩:=hR
        apply C3
        apply A0
        refine ghost hmat ?_
        obtain⟨r62,hr62,h⟩:=bindS h
        refine sr (SQ (fa (cl [] (A7u a0 r62 hr62)) tt)) ?_
        refine sr (SQ tt) ?_
        apply ret
        obtain rfl:=oi h
        exact rt (kp [(2,_)] [] hB rfl rfl (by rfl)) [(bo ((r62.2==0)&&(decide ((r62.1.length:Int)≤4077))))] (rT rN) rfl
    ·rcases bft ((a0.fAnnounce.length:Int)==0) with hg63 | hg63
     ·have h:=A4 hg63 h
      obtain⟨r64,hr64,h⟩:=bindS h
      obtain⟨r65,hr65,h⟩:=bindS h
      refine drS (SQ (fa hg63 (fa (cl [] (A25 r64 hr64)) (fa (cl [] (A8u a0.fAttrs r64 r65 hr65)) tt)))) ?_
      exact hjj28 _ h _ _ (mp [] _ _ hB)
     ·have h:=A5 hg63 h
      refine drS (SQ (fa hg63 tt)) ?_
      exact hjj28 _ h _ _ (mp [] _ _ hB)
def A1x (a0:B8):Option (Bool) :=
 (Y4 a0.fPrefix).bind fun r1 =>
 (if (!r1)=true then
 some false
 else
 jn (fun m6:Bool =>
 some m6) (fun j7 =>
 (if (!a0.fHas)=true then
 j7 true
 else
 (if (((a0.fRoute.fPrefix.fAddr.fV6==a0.fPrefix.fAddr.fV6)&&((a0.fRoute.fPrefix.fAddr.fHi==a0.fPrefix.fAddr.fHi)&&((a0.fRoute.fPrefix.fAddr.fLo==a0.fPrefix.fAddr.fLo)&&true)))&&((a0.fRoute.fPrefix.fLen==a0.fPrefix.fLen)&&true))=true then
 (L4 (A6.mk ([]:List A2) a0.fRoute.fAttrs [a0.fPrefix])).bind fun r10 =>
 j7 r10
 else
 j7 false))))
theorem A2x (a0:B8) (r:Bool) (h:A1x a0=some r):AC Tryz.prog 34 [(.d (F4 a0))] [] (.d (.bool r)) []:=by
 refine ac2 Tryz.func34 rfl rfl fun B hB hN L => ?_
 delta A1x at h
 refine sr (SQ tt) ?_
 apply seq
 obtain⟨r1,hr1,h⟩:=bindS h
 refine sr (SQ (fa (cl [] (A4f a0.fPrefix r1 hr1)) tt)) ?_
 apply AWp.cond rfl<;>intro hg2
 ·have h:=A4 hg2 h
  refine sr (SQ tt) ?_
  apply ret
  apply B3
  obtain rfl:=oi h
  exact rt (kp [(2,_)] [] hB rfl rfl (by rfl)) [(bo false)] (rT rN) rfl
 ·have h:=A5 hg2 h
  apply AWp.skip
  apply A0
  apply seq
  refine AWp.cut h (fun m6:Bool=>([(2,(bo m6))]:EL)) (fun m6:Bool=>([]:OL)) (fun m6 h E' O' hmat => ?_) (fun j7 hjj7 h => ?_)
  ·apply A0
   refine ghost hmat ?_
   apply ret
   obtain rfl:=oi h
   exact rt (kp [(2,_)] [] hB rfl rfl (by rfl)) [(bo m6)] (rT rN) rfl
  ·rcases bft (!a0.fHas) with hg8 | hg8
   ·have h:=A4 hg8 h
    refine rg (SQ (fa hg8 tt)) ?_
    exact hjj7 _ h _ _ (mp [] _ _ hB)
   ·have h:=A5 hg8 h
    rcases bft (((a0.fRoute.fPrefix.fAddr.fV6==a0.fPrefix.fAddr.fV6)&&((a0.fRoute.fPrefix.fAddr.fHi==a0.fPrefix.fAddr.fHi)&&((a0.fRoute.fPrefix.fAddr.fLo==a0.fPrefix.fAddr.fLo)&&true)))&&((a0.fRoute.fPrefix.fLen==a0.fPrefix.fLen)&&true)) with hg9 | hg9
    ·have h:=A4 hg9 h
     obtain⟨r10,hr10,h⟩:=bindS h
     refine rg (SQ (fa hg8 (fa hg9 (fa (cl [] (A4i (A6.mk ([]:List A2) a0.fRoute.fAttrs [a0.fPrefix]) r10 hr10)) tt)))) ?_
     exact hjj7 _ h _ _ (mp [] _ _ hB)
    ·have h:=A5 hg9 h
     refine rg (SQ (fa hg8 (fa hg9 tt))) ?_
     exact hjj7 _ h _ _ (mp [] _ _ hB)
def F9 (a0:(List A6)) (a1:A6) (a2:A2) (a3:Bool):Option ((List A6)) :=
 jn (fun _:Unit =>
 chk (decide ((a0++[a1]).length≤LIM)) <|
 some (a0++[a1])) (fun j19 =>
 (if (!a3)=true then
 (idx a0 (w64 ((a0.length:Int)-1))).bind fun _ =>
 (idx a0 (w64 ((a0.length:Int)-1))).bind fun x23 =>
 chk (decide (x23.fWithdraw.length≤LIM)) <|
 chk (decide (x23.fAnnounce.length≤LIM)) <|
 jn (fun m29:(List A2)×(List A2) =>
 (L4 (A6.mk m29.2 x23.fAttrs m29.1)).bind fun r31 =>
 (if r31=true then
 (idx a0 (w64 ((a0.length:Int)-1))).bind fun _ =>
 (idx a0 (w64 ((a0.length:Int)-1))).bind fun _ =>
 some (a0.set (w64 ((a0.length:Int)-1)).toNat (A6.mk m29.2 x23.fAttrs m29.1))
 else
 j19 ())) (fun j30 =>
 (if (decide (0<(x23.fWithdraw.length:Int)))=true then
 chk (decide ((x23.fWithdraw++[a2]).length≤LIM)) <|
 j30 (x23.fAnnounce,(x23.fWithdraw++[a2]))
 else
 chk (decide ((x23.fAnnounce++[a2]).length≤LIM)) <|
 j30 ((x23.fAnnounce++[a2]),x23.fWithdraw)))
 else
 j19 ()))
theorem A2y (a0:(List A6)) (a1:A6) (a2:A2) (a3:Bool) (r:(List A6)) (h:F9 a0 a1 a2 a3=some r):AC Tryz.prog 36 [(.sref 0 13 0 a0.length),(.d (D1 a1)),(.d (C4 a2)),(.d (.bool a3))] [(0,(.row 61 13 (a0.map D1)))] (.sref 900000 13 0 r.length) [(0,none),(900000,some (.row 61 13 (r.map D1)))]:=by
 refine ac2 Tryz.func36 rfl rfl fun B hB hN L => ?_
 delta F9 at h
 refine sr (SQ tt) ?_
 apply seq
 refine sr (SQ tt) ?_
 refine gh [(0,_),(5,_),(6,_),(11,_)] [(0,some _),(1005,some _),(1006,some _)] hB rfl rfl (by rfl) ?_
 refine AWp.cut h (fun _:Unit=>([(0,(.sref 0 13 0 a0.length)),(5,(pt 1005))]:EL)) (fun _:Unit=>([(0,some (C6 a0)),(1005,bd 61 (D1 a1))]:OL)) (fun _m h E' O' hmat => ?_) (fun j19 hjj19 h => ?_)
 ·apply A0
  refine ghost hmat ?_
  obtain⟨hc20,h⟩:=B6 h
  have hc20_o:=hc20
  simp only [decide_eq_true_eq] at hc20_o
  refine sr (SQ (fa hc20 tt)) ?_
  apply ret
  obtain rfl:=oi h
  exact rt (mp [(900000,1054)] [(8,(.sref 900000 13 0 ((a0++[a1]).length)))] [(900000,some (C6 (a0++[a1])))] hB) [(.sref 900000 13 0 ((a0++[a1]).length))] (rT rN) rfl
 ·apply AWp.cond rfl<;>intro hg21
  ·have h:=A4 hg21 h
   obtain⟨_,hx22,h⟩:=bindS h
   obtain⟨x23,hx23,h⟩:=bindS h
   refine sr (SQ (fa hx22 (fa hx23 tt))) ?_
   obtain⟨hc24,h⟩:=B6 h
   have hc24_o:=hc24
   simp only [decide_eq_true_eq] at hc24_o
   obtain⟨hc25,h⟩:=B6 h
   have hc25_o:=hc25
   simp only [decide_eq_true_eq] at hc25_o
   refine sdS (SQ (fa hc24 (fa hc25 tt))) ?_
   apply seq
   refine sr (SQ tt) ?_
   refine gh [(0,_),(5,_),(6,_),(9,_),(29,_)] [(0,some _),(1005,some _),(1006,some _),(1009,some _),(1020,some _),(1023,some _)] hB rfl rfl (by rfl) ?_
   refine AWp.cut h (fun m29:(List A2)×(List A2)=>([(0,(.sref 0 13 0 a0.length)),(5,(pt 1005)),(9,(pt 1009))]:EL)) (fun m29:(List A2)×(List A2)=>([(0,some (C6 a0)),(1005,bd 61 (D1 a1)),(1009,some (.box 61 (.st [(.sref 13090 4 0 m29.2.length),(.d (B9 x23.fAttrs)),(.sref 13092 4 0 m29.1.length)]))),(13090,some (I1 m29.2)),(13092,some (I1 m29.1))]:OL)) (fun m29 h E' O' hmat => ?_) (fun j30 hjj30 h => ?_)
   ·apply A0
    refine ghost hmat ?_
    apply seq
    refine ghost (Mat.freezeP (n:=13090) (e:=29) (sz:=4) (es:=m29.2.map C4) (Ts:=[]) (Bs:=[(1009,some (.box 61 (.st [(E6 m29.2),(.d (B9 x23.fAttrs)),(.sref 13092 4 0 m29.1.length)])))]) (by rfl) TwT.nil (TwB.cons (x:=(.st [(.sref 13090 4 0 m29.2.length),(.d (B9 x23.fAttrs)),(.sref 13092 4 0 m29.1.length)])) (by rfl) (Tw.st (TwL.cons (FrzL.all (by first | rfl | (simp;done) | (simp;omega) | omega)) (TwL.cons (Tw.same _) (TwL.cons (Tw.same _) TwL.nil)))) TwB.nil)) ?_
    refine ghost (Mat.freezeP (n:=13092) (e:=29) (sz:=4) (es:=m29.1.map C4) (Ts:=[]) (Bs:=[(1009,some (.box 61 (.st [(E6 m29.2),(.d (B9 x23.fAttrs)),(E6 m29.1)])))]) (by rfl) TwT.nil (TwB.cons (x:=(.st [(E6 m29.2),(.d (B9 x23.fAttrs)),(.sref 13092 4 0 m29.1.length)])) (by rfl) (Tw.st (TwL.cons (Tw.same _) (TwL.cons (Tw.same _) (TwL.cons (FrzL.all (by first | rfl | (simp;done) | (simp;omega) | omega)) TwL.nil)))) TwB.nil)) ?_
    obtain⟨r31,hr31,h⟩:=bindS h
    refine rg (SQ (fa (cl [] (A4i (A6.mk m29.2 x23.fAttrs m29.1) r31 hr31)) tt)) ?_
    apply A0
    apply AWp.cond rfl<;>intro hg32
    ·have h:=A4 hg32 h
     obtain⟨_,hx33,h⟩:=bindS h
     obtain⟨_,hx34,h⟩:=bindS h
     apply sr (c (mv hN (q 0)) rfl (c (mv hN (q 0)) rfl (c (lenS underlying47 (L rfl) (q 45)) rfl (c (sub6 (L rfl) (q 46) (ii 1)) rfl (c (lb hN 61 _ _ tyS61 (At.here _) (q 9)) rfl (c (OpJ.val (v':=(.ptr 0 ((w64 ((a0.length:Int)-1)).toNat*13) [(w64 ((a0.length:Int)-1)).toNat])) (by simp) (indexS underlying47 tyS61 (E9 hx33).1 (by have:=B08 hx33;first | (simpa using this) | ((try simp only [List.length_map] at this);(try simp only [List.length_map]);omega)) (L rfl) (q 44) (q 47))) rfl (cg (OpJ.storeR (e:=61) (sz:=13) (es':=(a0.set (w64 ((a0.length:Int)-1)).toNat (A6.mk m29.2 x23.fAttrs m29.1)).map D1) tyS61 (Q3 D1 (E9 hx34).2) (o:=0) (SetAt.here _ _) (by rfl) (A7y _ _ _ _) (by rfl) (by rfl) (q 49) (Opd.co (Co.st (CoL.cons (Co.d _) (CoL.cons (Co.d _) (CoL.cons (Co.d _) CoL.nil)))) (q 48))) rfl cn)))))))
     refine sr (SQ tt) ?_
     apply ret
     apply B3
     obtain rfl:=oi h
     exact rt (Mat.trans (Mat.lenP (Ts:=[(8,(.sref 0 13 0 ((a0.set (w64 ((a0.length:Int)-1)).toNat (A6.mk m29.2 x23.fAttrs m29.1)).length)))]) (Bs:=[]) (TwT.cons (x:=(.sref 0 13 0 a0.length)) (by rfl) (Tw.leaf ⟨_,_,_,_,_,rfl,rfl,(by first | rfl | (simp;done) | (simp;omega) | omega)⟩) TwT.nil) TwB.nil) (mp [(900000,0)] [(8,(.sref 900000 13 0 ((a0.set (w64 ((a0.length:Int)-1)).toNat (A6.mk m29.2 x23.fAttrs m29.1)).length)))] [(900000,some (C6 (a0.set (w64 ((a0.length:Int)-1)).toNat (A6.mk m29.2 x23.fAttrs m29.1))))] hB)) [(.sref 900000 13 0 ((a0.set (w64 ((a0.length:Int)-1)).toNat (A6.mk m29.2 x23.fAttrs m29.1)).length))] (rT rN) rfl
    ·have h:=A5 hg32 h
     apply AWp.skip
     exact hjj19 _ h _ _ (mp [] _ _ hB)
   ·apply AWp.cond rfl<;>intro hg35
    ·have h:=A4 hg35 h
     obtain⟨hc36,h⟩:=B6 h
     have hc36_o:=hc36
     simp only [decide_eq_true_eq] at hc36_o
     refine rg (SQ (fa hc36 tt)) ?_
     exact hjj30 _ h _ _ (mp [(13090,1034),(13092,1023)] _ _ hB)
    ·have h:=A5 hg35 h
     obtain⟨hc37,h⟩:=B6 h
     have hc37_o:=hc37
     simp only [decide_eq_true_eq] at hc37_o
     refine rg (SQ (fa hc37 tt)) ?_
     exact hjj30 _ h _ _ (mp [(13090,1020),(13092,1040)] _ _ hB)
  ·have h:=A5 hg21 h
   apply AWp.skip
   exact hjj19 _ h _ _ (mp [] _ _ hB)
def R6 (a0:(List B8)) (s1:Int):Option (((Unit)⊕(Unit))⊕(Int)) :=
 (if (decide (s1<(a0.length:Int)))=true then
 (idx a0 s1).bind fun x37 =>
 jn (fun m44:Bool =>
 (if m44=true then
 some (.inl (.inl ()))
 else
 some (.inr (w64 (s1+1))))) (fun j45 =>
 (A1x x37).bind fun r47 =>
 (if (!r47)=true then
 j45 true
 else
 (if (decide (0<s1))=true then
 (idx a0 (w64 (s1-1))).bind fun x50 =>
 (A2t x50.fPrefix x37.fPrefix).bind fun r51 =>
 j45 (decide (0≤r51))
 else
 j45 false)))
 else
 some (.inl (.inr ())))
def R7 (a0:(List B8)) (s54:Int×(List A6)):Option ((((List A6)))⊕(Int×(List A6))) :=
 (if (decide (s54.1<(a0.length:Int)))=true then
 (idx a0 s54.1).bind fun x77 =>
 jn (fun m81:(List A6) =>
 some (.inr ((w64 (s54.1+1)),m81))) (fun j82 =>
 (if (!x77.fHas)=true then
 (Y3).bind fun r84 =>
 (F9 s54.2 (A6.mk [x77.fPrefix] r84 ([]:List A2)) x77.fPrefix ((s54.2.length:Int)==0)).bind fun r85 =>
 j82 r85
 else
 j82 s54.2))
 else
 some (.inl s54.2))
def R8 (a0:(List B8)) (x475:B8) (s482:Bool×Int×(List Bool)×(List A6)):Option ((((List Bool)×(List A6)))⊕(Bool×Int×(List Bool)×(List A6))) :=
 (if (decide (s482.2.1<(a0.length:Int)))=true then
 (idx a0 s482.2.1).bind fun x525 =>
 jn (fun m528:Bool =>
 jn (fun m535:Bool×(List Bool)×(List A6) =>
 some (.inr (m535.1,(w64 (s482.2.1+1)),m535.2.1,m535.2.2))) (fun j536 =>
 (if m528=true then
 (N1 x525.fRoute.fAttrs).bind fun r538 =>
 (F9 s482.2.2.2 (A6.mk ([]:List A2) r538 [x525.fPrefix]) x525.fPrefix s482.1).bind fun r539 =>
 (idx s482.2.2.1 s482.2.1).bind fun _ =>
 (idx s482.2.2.1 s482.2.1).bind fun _ =>
 j536 (false,(s482.2.2.1.set s482.2.1.toNat true),r539)
 else
 j536 (s482.1,s482.2.2.1,s482.2.2.2)))) (fun j529 =>
 (if x525.fHas=true then
 (G6 x525.fRoute.fAttrs x475.fRoute.fAttrs).bind fun r543 =>
 j529 r543
 else
 j529 false))
 else
 some (.inl (s482.2.2.1,s482.2.2.2)))
def X2 (a0:(List B8)) (s89:Int×(List Bool)×(List A6)):Option ((((List A6)))⊕(Int×(List Bool)×(List A6))) :=
 (if (decide (s89.1<(a0.length:Int)))=true then
 jn (fun m473:(List Bool)×(List A6) =>
 some (.inr ((w64 (s89.1+1)),m473.1,m473.2))) (fun j474 =>
 (idx a0 s89.1).bind fun x475 =>
 jn (fun m479:Bool =>
 (if m479=true then
 j474 (s89.2.1,s89.2.2)
 else
 (loop (R8 a0 x475) (true,s89.1,s89.2.1,s89.2.2)).bind fun p523 =>
 j474 (p523.1,p523.2))) (fun j480 =>
 (if (!x475.fHas)=true then
 j480 true
 else
 (idx s89.2.1 s89.1).bind fun _ =>
 (idx s89.2.1 s89.1).bind fun x548 =>
 j480 x548)))
 else
 some (.inl s89.2.2))
def A1y (a0:(List B8)):Option ((List A6)×Int) :=
 (loop (R6 a0) 0).bind fun x52=>match x52 with
 | (.inl _) =>
  some (([]:List A6),1)
 | (.inr _) =>
  (loop (R7 a0) (0,([]:List A6))).bind fun p75 =>
  chk ((decide (0≤(a0.length:Int))&&decide ((a0.length:Int)≤(a0.length:Int))&&decide ((a0.length:Int)≤(LIM:Int)))) <|
  (loop (X2 a0) (0,(List.replicate (a0.length:Int).toNat false),p75)).bind fun p396 =>
  some (p396,0)
theorem A8x (a0:(List B8)) (r:(List A6)×Int) (h:A1y a0=some r):AC Tryz.prog 13 [(.d (.list 22 (a0.map F4)))] [] (.tup [(.d (.list 13 (r.1.map D1))),(.d (.int .i64 r.2))]) []:=by
 refine ac2 Tryz.func13 rfl rfl fun B hB hN L => ?_
 delta A1y at h
 refine sr (SQ tt) ?_
 apply seq
 refine sr (SQ tt) ?_
 apply block
 obtain⟨x52,hx53,h⟩:=bindS h
 refine lg (R6 a0) (fun s1:Int=>([(0,(C1 a0)),(15,(C1 a0)),(16,(i6 (a0.length:Int))),(17,(i6 s1))]:EL)) (fun s1:Int=>([]:OL)) (fun(x:(Unit)⊕(Unit)) e E' O'=>match x with | (.inl _p)=>e = .ret∧Mat B E' O' ([(2,.nils),(3,(i6 1))]:EL) ([]:OL) | (.inr _p)=>e = .exit 0∧Mat B E' O' ([(0,(C1 a0))]:EL) ([]:OL)) hx53 (mp [] _ _ hB) (fun s1 y h => ?_) (fun e E' O' hR => ?_)
 ·unfold R6 at h
  refine sr (SQ tt) ?_
  apply seq
  apply AWp.cond rfl<;>intro hg36
  ·have h:=A4 hg36 h
   apply AWp.skip
   apply A0
   apply seq
   apply block
   obtain⟨x37,hx37,h⟩:=bindS h
   refine sr (SQ (fa hx37 tt)) ?_
   apply seq
   refine AWp.cut h (fun m44:Bool=>([(0,(C1 a0)),(15,(C1 a0)),(16,(i6 (a0.length:Int))),(17,(i6 s1)),(40,(bo m44))]:EL)) (fun m44:Bool=>([]:OL)) (fun m44 h E' O' hmat => ?_) (fun j45 hjj45 h => ?_)
   ·apply A0
    refine ghost hmat ?_
    apply AWp.cond rfl<;>intro hg46
    ·have h:=A4 hg46 h
     refine sr (SQ tt) ?_
     apply ret
     apply D4
     apply B3
     obtain rfl:=oi h
     exact⟨(fun hc=>by cases hc),rfl,(mp [] _ _ hB)⟩
    ·have h:=A5 hg46 h
     apply AWp.skip
     apply D7
     apply A0
     refine rg (SQ tt) ?_
     obtain rfl:=oi h
     exact⟨rfl,(mp [] _ _ hB)⟩
   ·obtain⟨r47,hr47,h⟩:=bindS h
    rcases bft (!r47) with hg48 | hg48
    ·have h:=A4 hg48 h
     refine drS (SQ (fa (cl [] (A2x x37 r47 hr47)) (fa hg48 tt))) ?_
     exact hjj45 _ h _ _ (mp [] _ _ hB)
    ·have h:=A5 hg48 h
     rcases bft (decide (0<s1)) with hg49 | hg49
     ·have h:=A4 hg49 h
      obtain⟨x50,hx50,h⟩:=bindS h
      obtain⟨r51,hr51,h⟩:=bindS h
      refine drS (SQ (fa (cl [] (A2x x37 r47 hr47)) (fa hg48 (fa hg49 (fa hx50 (fa (cl [] (A9i x50.fPrefix x37.fPrefix r51 hr51)) tt)))))) ?_
      exact hjj45 _ h _ _ (mp [] _ _ hB)
     ·have h:=A5 hg49 h
      refine drS (SQ (fa (cl [] (A2x x37 r47 hr47)) (fa hg48 (fa hg49 tt)))) ?_
      exact hjj45 _ h _ _ (mp [] _ _ hB)
  ·have h:=A5 hg36 h
   apply AWp.exit
   apply D8
   obtain rfl:=oi h
   exact⟨(fun hc=>by cases hc),rfl,(mp [] _ _ hB)⟩
 ·rcases x52 with _ | _
  ·obtain⟨rfl,hmat⟩:=hR
   apply D4
   apply B3
   obtain rfl:=oi h
   exact rt (Mat.trans hmat (Mat.trans (Mat.coeP (Ts:=[(2,(E4 ([]:List A6)))]) (Bs:=[]) (TwT.cons (x:=.nils) (by rfl) (Tw.leaf ⟨_,(Co.nils 13),rfl⟩) TwT.nil) TwB.nil) (mp [] [(2,(E4 ([]:List A6))),(3,(i6 1))] [] hB))) [(E4 ([]:List A6)),(i6 1)] (rT (rT rN)) rfl
  ·obtain⟨rfl,hmat⟩:=hR
   apply C3
   apply A0
   refine ghost hmat ?_
   refine sr (SQ tt) ?_
   apply seq
   refine sr (SQ tt) ?_
   apply block
   obtain⟨p75,hx87,h⟩:=bindS h
   refine lg (R7 a0) (fun s54:Int×(List A6)=>([(0,(C1 a0)),(6,(.sref 3006 13 0 s54.2.length)),(42,(C1 a0)),(43,(i6 (a0.length:Int))),(44,(i6 s54.1))]:EL)) (fun s54:Int×(List A6)=>([(3006,some (C6 s54.2))]:OL)) (fun(p75:((List A6))) e E' O'=>e = .exit 2∧Mat B E' O' ([(0,(C1 a0)),(6,(.sref 3006 13 0 p75.length))]:EL) ([(3006,some (C6 p75))]:OL)) hx87 (Mat.trans (Mat.beginP (n:=3006) (e:=61) (sz:=13) (Ts:=[(6,(.sref 3006 13 0 0))]) (Bs:=[]) hB (by decide) (by rfl) (by decide) (TwT.cons (x:=.nils) (by rfl) (Tw.leaf ⟨rfl,rfl⟩) TwT.nil) TwB.nil) (mp [] _ _ hB)) (fun s54 y h => ?_) (fun e E' O' hR => ?_)
   ·unfold R7 at h
    refine sr (SQ tt) ?_
    apply seq
    apply AWp.cond rfl<;>intro hg76
    ·have h:=A4 hg76 h
     apply AWp.skip
     apply A0
     apply seq
     apply block
     obtain⟨x77,hx77,h⟩:=bindS h
     refine sr (SQ (fa hx77 tt)) ?_
     refine sr (SQ tt) ?_
     refine gh [(0,_),(6,_),(8,_),(42,_),(43,_),(44,_),(50,_)] [(1008,some _),(3006,some _)] hB rfl rfl (by rfl) ?_
     refine AWp.cut h (fun m81:(List A6)=>([(0,(C1 a0)),(6,(.sref 3006 13 0 m81.length)),(42,(C1 a0)),(43,(i6 (a0.length:Int))),(44,(i6 s54.1))]:EL)) (fun m81:(List A6)=>([(3006,some (C6 m81))]:OL)) (fun m81 h E' O' hmat => ?_) (fun j82 hjj82 h => ?_)
     ·apply D7
      apply A0
      refine ghost hmat ?_
      refine rg (SQ tt) ?_
      obtain rfl:=oi h
      exact⟨rfl,(mp [] _ _ hB)⟩
     ·apply AWp.cond rfl<;>intro hg83
      ·have h:=A4 hg83 h
       obtain⟨r84,hr84,h⟩:=bindS h
       obtain⟨r85,hr85,h⟩:=bindS h
       refine drS (SQ (fa (cl [] (A25  r84 hr84)) (fa (cl [(0,3006),(900000,100300)] (A2y s54.2 (A6.mk [x77.fPrefix] r84 ([]:List A2)) x77.fPrefix ((s54.2.length:Int)==0) r85 hr85)) tt))) ?_
       exact hjj82 _ h _ _ (mp [(3006,100300)] _ _ hB)
      ·have h:=A5 hg83 h
       apply AWp.skip
       exact hjj82 _ h _ _ (mp [] _ _ hB)
    ·have h:=A5 hg76 h
     apply AWp.exit
     apply D8
     obtain rfl:=oi h
     exact⟨(fun hc=>by cases hc),rfl,(mp [] _ _ hB)⟩
   ·obtain⟨rfl,hmat⟩:=hR
    apply C3
    apply A0
    refine ghost hmat ?_
    obtain⟨hc88,h⟩:=B6 h
    refine sr (SQ (fa hc88 tt)) ?_
    apply seq
    refine sr (SQ tt) ?_
    apply block
    obtain⟨p396,hx550,h⟩:=bindS h
    refine lg (X2 a0) (fun s89:Int×(List Bool)×(List A6)=>([(0,(C1 a0)),(6,(.sref 3006 13 0 s89.2.2.length)),(9,(.sref 1066 1 0 s89.2.1.length)),(67,(C1 a0)),(68,(i6 (a0.length:Int))),(69,(i6 s89.1))]:EL)) (fun s89:Int×(List Bool)×(List A6)=>([(1066,some (.row 4 1 (s89.2.1.map eB))),(3006,some (C6 s89.2.2))]:OL)) (fun(p396:((List A6))) e E' O'=>e = .exit 4∧Mat B E' O' ([(6,(.sref 3006 13 0 p396.length))]:EL) ([(3006,some (C6 p396))]:OL)) hx550 (mp [] _ _ hB) (fun s89 y h => ?_) (fun e E' O' hR => ?_)
    ·unfold X2 at h
     refine sr (SQ tt) ?_
     apply seq
     apply AWp.cond rfl<;>intro hg397
     ·have h:=A4 hg397 h
      apply AWp.skip
      apply A0
      apply seq
      refine AWp.cut h (fun m473:(List Bool)×(List A6)=>([(0,(C1 a0)),(6,(.sref 3006 13 0 m473.2.length)),(9,(.sref 1066 1 0 m473.1.length)),(67,(C1 a0)),(68,(i6 (a0.length:Int))),(69,(i6 s89.1))]:EL)) (fun m473:(List Bool)×(List A6)=>([(1066,some (.row 4 1 (m473.1.map eB))),(3006,some (C6 m473.2))]:OL)) (fun m473 h E' O' hmat => ?_) (fun j474 hjj474 h => ?_)
      ·apply A0
       refine ghost hmat ?_
       refine rg (SQ tt) ?_
       obtain rfl:=oi h
       exact⟨rfl,(mp [] _ _ hB)⟩
      ·apply block
       obtain⟨x475,hx475,h⟩:=bindS h
       refine sr (SQ (fa hx475 tt)) ?_
       apply seq
       apply seq
       refine AWp.cut h (fun m479:Bool=>([(0,(C1 a0)),(6,(.sref 3006 13 0 s89.2.2.length)),(9,(.sref 1066 1 0 s89.2.1.length)),(10,(i6 s89.1)),(11,(pt 1011)),(67,(C1 a0)),(68,(i6 (a0.length:Int))),(69,(i6 s89.1)),(82,(bo m479))]:EL)) (fun m479:Bool=>([(1011,bd 39 (F4 x475)),(1066,some (.row 4 1 (s89.2.1.map eB))),(3006,some (C6 s89.2.2))]:OL)) (fun m479 h E' O' hmat => ?_) (fun j480 hjj480 h => ?_)
       ·apply A0
        refine ghost hmat ?_
        apply AWp.cond rfl<;>intro hg481
        ·have h:=A4 hg481 h
         apply AWp.exit
         apply D8
         apply C3
         exact hjj474 _ h _ _ (mp [] _ _ hB)
        ·have h:=A5 hg481 h
         apply AWp.skip
         apply A0
         refine sr (SQ tt) ?_
         refine sr (SQ tt) ?_
         apply block
         obtain⟨p523,hx545,h⟩:=bindS h
         refine lg (R8 a0 x475) (fun s482:Bool×Int×(List Bool)×(List A6)=>([(0,(C1 a0)),(6,(.sref 3006 13 0 s482.2.2.2.length)),(9,(.sref 1066 1 0 s482.2.2.1.length)),(11,(pt 1011)),(12,(bo s482.1)),(13,(i6 s482.2.1)),(67,(C1 a0)),(68,(i6 (a0.length:Int))),(69,(i6 s89.1))]:EL)) (fun s482:Bool×Int×(List Bool)×(List A6)=>([(1011,bd 39 (F4 x475)),(1066,some (.row 4 1 (s482.2.2.1.map eB))),(3006,some (C6 s482.2.2.2))]:OL)) (fun(p523:((List Bool)×(List A6))) e E' O'=>e = .exit 6∧Mat B E' O' ([(0,(C1 a0)),(6,(.sref 3006 13 0 p523.2.length)),(9,(.sref 1066 1 0 p523.1.length)),(67,(C1 a0)),(68,(i6 (a0.length:Int))),(69,(i6 s89.1))]:EL) ([(1066,some (.row 4 1 (p523.1.map eB))),(3006,some (C6 p523.2))]:OL)) hx545 (mp [] _ _ hB) (fun s482 y h => ?_) (fun e E' O' hR => ?_)
         ·unfold R8 at h
          apply seq
          refine sr (SQ tt) ?_
          apply AWp.cond rfl<;>intro hg524
          ·have h:=A4 hg524 h
           apply AWp.skip
           apply A0
           apply seq
           apply block
           obtain⟨x525,hx525,h⟩:=bindS h
           refine sr (SQ (fa hx525 tt)) ?_
           apply seq
           refine AWp.cut h (fun m528:Bool=>([(0,(C1 a0)),(6,(.sref 3006 13 0 s482.2.2.2.length)),(9,(.sref 1066 1 0 s482.2.2.1.length)),(11,(pt 1011)),(12,(bo s482.1)),(13,(i6 s482.2.1)),(14,(pt 1014)),(67,(C1 a0)),(68,(i6 (a0.length:Int))),(69,(i6 s89.1)),(104,(bo m528))]:EL)) (fun m528:Bool=>([(1011,bd 39 (F4 x475)),(1014,bd 39 (F4 x525)),(1066,some (.row 4 1 (s482.2.2.1.map eB))),(3006,some (C6 s482.2.2.2))]:OL)) (fun m528 h E' O' hmat => ?_) (fun j529 hjj529 h => ?_)
           ·apply A0
            refine ghost hmat ?_
            refine AWp.cut h (fun m535:Bool×(List Bool)×(List A6)=>([(0,(C1 a0)),(6,(.sref 3006 13 0 m535.2.2.length)),(9,(.sref 1066 1 0 m535.2.1.length)),(11,(pt 1011)),(12,(bo m535.1)),(13,(i6 s482.2.1)),(67,(C1 a0)),(68,(i6 (a0.length:Int))),(69,(i6 s89.1))]:EL)) (fun m535:Bool×(List Bool)×(List A6)=>([(1011,bd 39 (F4 x475)),(1066,some (.row 4 1 (m535.2.1.map eB))),(3006,some (C6 m535.2.2))]:OL)) (fun m535 h E' O' hmat => ?_) (fun j536 hjj536 h => ?_)
            ·apply D7
             apply A0
             refine ghost hmat ?_
             refine rg (SQ tt) ?_
             obtain rfl:=oi h
             exact⟨rfl,(mp [] _ _ hB)⟩
            ·apply AWp.cond rfl<;>intro hg537
             ·have h:=A4 hg537 h
              apply seq
              obtain⟨r538,hr538,h⟩:=bindS h
              obtain⟨r539,hr539,h⟩:=bindS h
              refine drS (SQ (fa (cl [] (A5j x525.fRoute.fAttrs r538 hr538)) (fa (cl [(0,3006),(900000,100600)] (A2y s482.2.2.2 (A6.mk ([]:List A2) r538 [x525.fPrefix]) x525.fPrefix s482.1 r539 hr539)) tt))) ?_
              apply A0
              refine ghost (mp [] [(0,(C1 a0)),(6,(.sref 100600 13 0 r539.length)),(9,(.sref 1066 1 0 s482.2.2.1.length)),(11,(pt 1011)),(13,(i6 s482.2.1)),(67,(C1 a0)),(68,(i6 (a0.length:Int))),(69,(i6 s89.1))] [(1011,bd 39 (F4 x475)),(1066,some (.row 4 1 (s482.2.2.1.map eB))),(100600,some (C6 r539))] hB) ?_
              obtain⟨_,hx540,h⟩:=bindS h
              obtain⟨_,hx541,h⟩:=bindS h
              refine rg (SQ (fa hx540 (fa hx541 (fa (sv true) tt)))) ?_
              exact hjj536 _ h _ _ (Mat.trans (mp [] [(0,(C1 a0)),(6,(.sref 100600 13 0 r539.length)),(9,(.sref 1066 1 0 s482.2.2.1.length)),(11,(pt 1011)),(12,(bo false)),(13,(i6 s482.2.1)),(67,(C1 a0)),(68,(i6 (a0.length:Int))),(69,(i6 s89.1))] [(1011,bd 39 (F4 x475)),(1066,some (.row 4 1 ((s482.2.2.1.set s482.2.1.toNat true).map eB))),(100600,some (C6 r539))] hB) (Mat.trans (Mat.lenP (Ts:=[(9,(.sref 1066 1 0 ((s482.2.2.1.set s482.2.1.toNat true).length)))]) (Bs:=[]) (TwT.cons (x:=(.sref 1066 1 0 s482.2.2.1.length)) (by rfl) (Tw.leaf ⟨_,_,_,_,_,rfl,rfl,(by first | rfl | (simp;done) | (simp;omega) | omega)⟩) TwT.nil) TwB.nil) (mp [(3006,100600)] _ _ hB)))
             ·have h:=A5 hg537 h
              apply AWp.skip
              exact hjj536 _ h _ _ (mp [] _ _ hB)
           ·rcases bft x525.fHas with hg542 | hg542
            ·have h:=A4 hg542 h
             obtain⟨r543,hr543,h⟩:=bindS h
             refine rg (SQ (fa hg542 (fa (cl [] (A2a x525.fRoute.fAttrs x475.fRoute.fAttrs r543 hr543)) tt))) ?_
             exact hjj529 _ h _ _ (mp [] _ _ hB)
            ·have h:=A5 hg542 h
             refine rg (SQ (fa hg542 tt)) ?_
             exact hjj529 _ h _ _ (mp [] _ _ hB)
          ·have h:=A5 hg524 h
           apply AWp.exit
           apply D8
           obtain rfl:=oi h
           exact⟨(fun hc=>by cases hc),rfl,(mp [] _ _ hB)⟩
         ·obtain⟨rfl,hmat⟩:=hR
          apply C3
          apply D7
          exact hjj474 _ h _ _ (Mat.trans hmat (mp [] _ _ hB))
       ·rcases bft (!x475.fHas) with hg546 | hg546
        ·have h:=A4 hg546 h
         refine rg (SQ (fa hg546 tt)) ?_
         exact hjj480 _ h _ _ (mp [] _ _ hB)
        ·have h:=A5 hg546 h
         obtain⟨_,hx547,h⟩:=bindS h
         obtain⟨_,hx548,h⟩:=bindS h
         refine rg (SQ (fa hg546 (fa hx547 (fa hx548 tt)))) ?_
         exact hjj480 _ h _ _ (mp [] _ _ hB)
     ·have h:=A5 hg397 h
      apply AWp.exit
      apply D8
      obtain rfl:=oi h
      exact⟨(fun hc=>by cases hc),rfl,(mp [] _ _ hB)⟩
    ·obtain⟨rfl,hmat⟩:=hR
     apply C3
     apply A0
     refine ghost hmat ?_
     refine sr (SQ tt) ?_
     apply ret
     obtain rfl:=oi h
     exact rt (Mat.trans (Mat.freezeP (n:=3006) (e:=61) (sz:=13) (es:=p396.map D1) (Ts:=[(2,(E4 p396))]) (Bs:=[]) (by rfl) (TwT.cons (x:=(.sref 3006 13 0 p396.length)) (by rfl) (FrzL.all (by first | rfl | (simp;done) | (simp;omega) | omega)) TwT.nil) TwB.nil) (mp [] [(2,(E4 p396)),(3,(i6 0))] [] hB)) [(E4 p396),(i6 0)] (rT (rT rN)) rfl
def J2 (a0:(List A2)) (a1:(List A2)) (s2:Int):Option (((Unit)⊕(Unit))⊕(Int)) :=
 (if (decide (s2<(a0.length:Int)))=true then
 (idx a0 s2).bind fun x14 =>
 (idx a1 s2).bind fun x15 =>
 (if (!(((x14.fAddr.fV6==x15.fAddr.fV6)&&((x14.fAddr.fHi==x15.fAddr.fHi)&&((x14.fAddr.fLo==x15.fAddr.fLo)&&true)))&&((x14.fLen==x15.fLen)&&true)))=true then
 some (.inl (.inl ()))
 else
 some (.inr (w64 (s2+1))))
 else
 some (.inl (.inr ())))
def J7 (a0:(List A2)) (a1:(List A2)):Option (Bool) :=
 (if ((a0.length:Int) != (a1.length:Int))=true then
 some false
 else
 (loop (J2 a0 a1) 0).bind fun x17=>match x17 with
 | (.inl _) =>
  some false
 | (.inr _) =>
  some true)
theorem J3 (a0:(List A2)) (a1:(List A2)) (r:Bool) (h:J7 a0 a1=some r):AC Tryz.prog 38 [(.d (.list 4 (a0.map C4))),(.d (.list 4 (a1.map C4)))] [] (.d (.bool r)) []:=by
 refine ac2 Tryz.func38 rfl rfl fun B hB hN L => ?_
 delta J7 at h
 refine sr (SQ tt) ?_
 apply seq
 refine sr (SQ tt) ?_
 apply AWp.cond rfl<;>intro hg1
 ·have h:=A4 hg1 h
  refine sr (SQ tt) ?_
  apply ret
  apply B3
  obtain rfl:=oi h
  exact rt (kp [(4,_)] [] hB rfl rfl (by rfl)) [(bo false)] (rT rN) rfl
 ·have h:=A5 hg1 h
  apply AWp.skip
  apply A0
  apply seq
  refine sr (SQ tt) ?_
  apply block
  obtain⟨x17,hx18,h⟩:=bindS h
  refine lg (J2 a0 a1) (fun s2:Int=>([(0,(E6 a0)),(1,(E6 a1)),(12,(i6 (a0.length:Int))),(13,(i6 s2))]:EL)) (fun s2:Int=>([]:OL)) (fun(x:(Unit)⊕(Unit)) e E' O'=>match x with | (.inl _p)=>e = .ret∧Mat B E' O' ([(4,(bo false))]:EL) ([]:OL) | (.inr _p)=>e = .exit 0∧Mat B E' O' ([]:EL) ([]:OL)) hx18 (mp [] _ _ hB) (fun s2 y h => ?_) (fun e E' O' hR => ?_)
  ·unfold J2 at h
   refine sr (SQ tt) ?_
   apply seq
   apply AWp.cond rfl<;>intro hg13
   ·have h:=A4 hg13 h
    apply AWp.skip
    apply A0
    apply seq
    apply block
    refine sr (SQ tt) ?_
    obtain⟨_,hx14,h⟩:=bindS h
    obtain⟨_,hx15,h⟩:=bindS h
    refine sdS (SQ (fa hx14 (fa hx15 tt))) ?_
    apply AWp.cond rfl<;>intro hg16
    ·have h:=A4 hg16 h
     refine sr (SQ tt) ?_
     apply ret
     apply D4
     apply B3
     obtain rfl:=oi h
     exact⟨(fun hc=>by cases hc),rfl,(mp [] _ _ hB)⟩
    ·have h:=A5 hg16 h
     apply AWp.skip
     apply D7
     apply A0
     refine rg (SQ tt) ?_
     obtain rfl:=oi h
     exact⟨rfl,(mp [] _ _ hB)⟩
   ·have h:=A5 hg13 h
    apply AWp.exit
    apply D8
    obtain rfl:=oi h
    exact⟨(fun hc=>by cases hc),rfl,(mp [] _ _ hB)⟩
  ·rcases x17 with _ | _
   ·obtain⟨rfl,hmat⟩:=hR
    apply D4
    apply B3
    obtain rfl:=oi h
    exact rt (Mat.trans hmat (mp [] [(4,(bo false))] [] hB)) [(bo false)] (rT rN) rfl
   ·obtain⟨rfl,hmat⟩:=hR
    apply C3
    apply A0
    refine ghost hmat ?_
    refine sr (SQ tt) ?_
    apply ret
    obtain rfl:=oi h
    exact rt (kp [(4,_)] [] hB rfl rfl (by rfl)) [(bo true)] (rT rN) rfl
def X3 (a0:(List A6)) (a1:(List A6)) (s2:Int):Option (((Unit)⊕(Unit))⊕(Int)) :=
 (if (decide (s2<(a0.length:Int)))=true then
 jn (fun m78:Bool =>
 (if m78=true then
 some (.inl (.inl ()))
 else
 some (.inr (w64 (s2+1))))) (fun j79 =>
 (idx a0 s2).bind fun x81 =>
 (idx a1 s2).bind fun x82 =>
 (J7 x81.fWithdraw x82.fWithdraw).bind fun r83 =>
 (if (!r83)=true then
 j79 true
 else
 (idx a0 s2).bind fun x85 =>
 (idx a1 s2).bind fun x86 =>
 (J7 x85.fAnnounce x86.fAnnounce).bind fun r87 =>
 (if (!r87)=true then
 j79 true
 else
 (idx a0 s2).bind fun x89 =>
 (idx a1 s2).bind fun x90 =>
 (G6 x89.fAttrs x90.fAttrs).bind fun r91 =>
 j79 (!r91))))
 else
 some (.inl (.inr ())))
def A1z (a0:(List A6)) (a1:(List A6)):Option (Bool) :=
 (if ((a0.length:Int) != (a1.length:Int))=true then
 some false
 else
 (loop (X3 a0 a1) 0).bind fun x92=>match x92 with
 | (.inl _) =>
  some false
 | (.inr _) =>
  some true)
theorem A5a (a0:(List A6)) (a1:(List A6)) (r:Bool) (h:A1z a0 a1=some r):AC Tryz.prog 14 [(.d (.list 13 (a0.map D1))),(.d (.list 13 (a1.map D1)))] [] (.d (.bool r)) []:=by
 refine ac2 Tryz.func14 rfl rfl fun B hB hN L => ?_
 delta A1z at h
 refine sr (SQ tt) ?_
 apply seq
 refine sr (SQ tt) ?_
 apply AWp.cond rfl<;>intro hg1
 ·have h:=A4 hg1 h
  refine sr (SQ tt) ?_
  apply ret
  apply B3
  obtain rfl:=oi h
  exact rt (kp [(4,_)] [] hB rfl rfl (by rfl)) [(bo false)] (rT rN) rfl
 ·have h:=A5 hg1 h
  apply AWp.skip
  apply A0
  apply seq
  refine sr (SQ tt) ?_
  apply block
  obtain⟨x92,hx93,h⟩:=bindS h
  refine lg (X3 a0 a1) (fun s2:Int=>([(0,(E4 a0)),(1,(E4 a1)),(12,(i6 (a0.length:Int))),(13,(i6 s2))]:EL)) (fun s2:Int=>([]:OL)) (fun(x:(Unit)⊕(Unit)) e E' O'=>match x with | (.inl _p)=>e = .ret∧Mat B E' O' ([(4,(bo false))]:EL) ([]:OL) | (.inr _p)=>e = .exit 0∧Mat B E' O' ([]:EL) ([]:OL)) hx93 (mp [] _ _ hB) (fun s2 y h => ?_) (fun e E' O' hR => ?_)
  ·unfold X3 at h
   refine sr (SQ tt) ?_
   apply seq
   apply AWp.cond rfl<;>intro hg63
   ·have h:=A4 hg63 h
    apply AWp.skip
    apply A0
    apply seq
    apply block
    refine sr (SQ tt) ?_
    apply seq
    refine AWp.cut h (fun m78:Bool=>([(0,(E4 a0)),(1,(E4 a1)),(12,(i6 (a0.length:Int))),(13,(i6 s2)),(55,(bo m78))]:EL)) (fun m78:Bool=>([]:OL)) (fun m78 h E' O' hmat => ?_) (fun j79 hjj79 h => ?_)
    ·apply A0
     refine ghost hmat ?_
     apply AWp.cond rfl<;>intro hg80
     ·have h:=A4 hg80 h
      refine sr (SQ tt) ?_
      apply ret
      apply D4
      apply B3
      obtain rfl:=oi h
      exact⟨(fun hc=>by cases hc),rfl,(mp [] _ _ hB)⟩
     ·have h:=A5 hg80 h
      apply AWp.skip
      apply D7
      apply A0
      refine rg (SQ tt) ?_
      obtain rfl:=oi h
      exact⟨rfl,(mp [] _ _ hB)⟩
    ·obtain⟨x81,hx81,h⟩:=bindS h
     obtain⟨x82,hx82,h⟩:=bindS h
     obtain⟨r83,hr83,h⟩:=bindS h
     rcases bft (!r83) with hg84 | hg84
     ·have h:=A4 hg84 h
      refine drS (SQ (fa hx81 (fa hx82 (fa (cl [] (J3 x81.fWithdraw x82.fWithdraw r83 hr83)) (fa hg84 tt))))) ?_
      exact hjj79 _ h _ _ (mp [] _ _ hB)
     ·have h:=A5 hg84 h
      obtain⟨x85,hx85,h⟩:=bindS h
      obtain⟨x86,hx86,h⟩:=bindS h
      obtain⟨r87,hr87,h⟩:=bindS h
      rcases bft (!r87) with hg88 | hg88
      ·have h:=A4 hg88 h
       refine drS (SQ (fa hx81 (fa hx82 (fa (cl [] (J3 x81.fWithdraw x82.fWithdraw r83 hr83)) (fa hg84 (fa hx85 (fa hx86 (fa (cl [] (J3 x85.fAnnounce x86.fAnnounce r87 hr87)) (fa hg88 tt))))))))) ?_
       exact hjj79 _ h _ _ (mp [] _ _ hB)
      ·have h:=A5 hg88 h
       obtain⟨x89,hx89,h⟩:=bindS h
       obtain⟨x90,hx90,h⟩:=bindS h
       obtain⟨r91,hr91,h⟩:=bindS h
       refine drS (SQ (fa hx81 (fa hx82 (fa (cl [] (J3 x81.fWithdraw x82.fWithdraw r83 hr83)) (fa hg84 (fa hx85 (fa hx86 (fa (cl [] (J3 x85.fAnnounce x86.fAnnounce r87 hr87)) (fa hg88 (fa hx89 (fa hx90 (fa (cl [] (A2a x89.fAttrs x90.fAttrs r91 hr91)) tt)))))))))))) ?_
       exact hjj79 _ h _ _ (mp [] _ _ hB)
   ·have h:=A5 hg63 h
    apply AWp.exit
    apply D8
    obtain rfl:=oi h
    exact⟨(fun hc=>by cases hc),rfl,(mp [] _ _ hB)⟩
  ·rcases x92 with _ | _
   ·obtain⟨rfl,hmat⟩:=hR
    apply D4
    apply B3
    obtain rfl:=oi h
    exact rt (Mat.trans hmat (mp [] [(4,(bo false))] [] hB)) [(bo false)] (rT rN) rfl
   ·obtain⟨rfl,hmat⟩:=hR
    apply C3
    apply A0
    refine ghost hmat ?_
    refine sr (SQ tt) ?_
    apply ret
    obtain rfl:=oi h
    exact rt (kp [(4,_)] [] hB rfl rfl (by rfl)) [(bo true)] (rT rN) rfl
def X4 (a1:Int) (s1:Int×(List B8)×B7):Option (((B7×(List B8)))⊕(Int×(List B8)×B7)) :=
 (if (decide (s1.1<a1))=true then
 (F7 s1.2.2 3).bind fun r26 =>
 jn (fun m30:Bool×Int×Int×Int×(List B2)×Int×Int×Int×Int×(List A9)×(List E0)×(List A1)×B7 =>
 chk (decide ((s1.2.1++[(B8.mk 5 (A2.mk (D0.mk false 0 (bitI .or .u64 335544320 (shlI .u64 (IntKind.u64.wrap s1.1) 8))) 24) m30.1 (V7.mk (A2.mk (D0.mk false 0 m30.2.1) m30.2.2.1) m30.2.2.2.1 (C8.mk 0 m30.2.2.2.2.1 (D0.mk false 0 m30.2.2.2.2.2.1) m30.2.2.2.2.2.2.1 m30.2.2.2.2.2.2.2.1 m30.2.2.2.2.2.2.2.2.1 m30.2.2.2.2.2.2.2.2.2.1 m30.2.2.2.2.2.2.2.2.2.2.1 m30.2.2.2.2.2.2.2.2.2.2.2.1)))]).length≤LIM)) <|
 some (.inr ((w64 (s1.1+1)),(s1.2.1++[(B8.mk 5 (A2.mk (D0.mk false 0 (bitI .or .u64 335544320 (shlI .u64 (IntKind.u64.wrap s1.1) 8))) 24) m30.1 (V7.mk (A2.mk (D0.mk false 0 m30.2.1) m30.2.2.1) m30.2.2.2.1 (C8.mk 0 m30.2.2.2.2.1 (D0.mk false 0 m30.2.2.2.2.2.1) m30.2.2.2.2.2.2.1 m30.2.2.2.2.2.2.2.1 m30.2.2.2.2.2.2.2.2.1 m30.2.2.2.2.2.2.2.2.2.1 m30.2.2.2.2.2.2.2.2.2.2.1 m30.2.2.2.2.2.2.2.2.2.2.2.1)))]),m30.2.2.2.2.2.2.2.2.2.2.2.2))) (fun j31 =>
 (if (decide (0<r26.1))=true then
 (Y3).bind fun r34 =>
 (F7 r26.2 2).bind fun r35 =>
 j31 (true,(bitI .or .u64 335544320 (shlI .u64 (IntKind.u64.wrap s1.1) 8)),24,101,([(B2.mk false ([101]:List Int))]:List B2),7,r35.1,r34.fPref,r34.fOTC,r34.fCommunities,r34.fLarge,r34.fOther,r35.2)
 else
 j31 (false,0,0,0,([]:List B2),0,0,0,0,([]:List A9),([]:List E0),([]:List A1),r26.2)))
 else
 some (.inl (s1.2.2,s1.2.1)))
def A0g (a0:B7) (a1:Int):Option ((List B8)×B7) :=
 (loop (X4 a1) (0,([]:List B8),a0)).bind fun p24 =>
 some (p24.2,p24.1)
theorem A8y (a0:B7) (a1:Int) (r:(List B8)×B7) (h:A0g a0 a1=some r):AC Tryz.prog 18 [(pt 0),(.d (.int .i64 a1))] [(0,(.box 71 (.d (E5 a0))))] (.d (.list 22 (r.1.map F4))) [(0,bd 71 (E5 r.2))]:=by
 refine ac2 Tryz.func18 rfl rfl fun B hB hN L => ?_
 delta A0g at h
 refine sr (SQ tt) ?_
 refine sr (SQ tt) ?_
 apply seq
 refine sr (SQ tt) ?_
 apply block
 obtain⟨p24,hx37,h⟩:=bindS h
 refine lg (X4 a1) (fun s1:Int×(List B8)×B7=>([(0,(pt 0)),(1,(i6 a1)),(5,(.sref 3005 22 0 s1.2.1.length)),(6,(i6 s1.1))]:EL)) (fun s1:Int×(List B8)×B7=>([(0,bd 71 (E5 s1.2.2)),(3005,some (G0 s1.2.1))]:OL)) (fun(p24:(B7×(List B8))) e E' O'=>e = .exit 0∧Mat B E' O' ([(5,(.sref 3005 22 0 p24.2.length))]:EL) ([(0,bd 71 (E5 p24.1)),(3005,some (G0 p24.2))]:OL)) hx37 (Mat.trans (Mat.beginP (n:=3005) (e:=39) (sz:=22) (Ts:=[(5,(.sref 3005 22 0 0))]) (Bs:=[]) hB (by decide) (by rfl) (by decide) (TwT.cons (x:=.nils) (by rfl) (Tw.leaf ⟨rfl,rfl⟩) TwT.nil) TwB.nil) (mp [] _ _ hB)) (fun s1 y h => ?_) (fun e E' O' hR => ?_)
 ·unfold X4 at h
  apply seq
  refine sr (SQ tt) ?_
  apply AWp.cond rfl<;>intro hg25
  ·have h:=A4 hg25 h
   apply AWp.skip
   apply A0
   apply seq
   apply block
   refine sr (SQ tt) ?_
   apply seq
   apply seq
   obtain⟨r26,hr26,h⟩:=bindS h
   refine rg (SQ (fa (cl [(0,0)] (R3 s1.2.2 3 r26 hr26)) tt)) ?_
   apply A0
   refine ghost (mp [] [(0,(pt 0)),(1,(i6 a1)),(5,(.sref 3005 22 0 s1.2.1.length)),(6,(i6 s1.1)),(7,(pt 1007)),(23,(bo (decide (0<r26.1))))] [(0,bd 71 (E5 r26.2)),(1007,some (.box 39 (.st [(i6 5),(.d (.st [(.st [(.bool false),(.int .u64 0),(.int .u64 (bitI .or .u64 335544320 (shlI .u64 (IntKind.u64.wrap s1.1) 8)))]),(.int .i64 24)])),(bo false),(.st [(.d (.st [(.st [(.bool false),(.int .u64 0),(.int .u64 0)]),(.int .i64 0)])),(i6 0),(.st [(i6 0),.nils,(.d (.st [(.bool false),(.int .u64 0),(.int .u64 0)])),(i6 0),(i6 0),(i6 0),.nils,.nils,.nils])])]))),(3005,some (G0 s1.2.1))] hB) ?_
   refine AWp.cut h (fun m30:Bool×Int×Int×Int×(List B2)×Int×Int×Int×Int×(List A9)×(List E0)×(List A1)×B7=>([(0,(pt 0)),(1,(i6 a1)),(5,(.sref 3005 22 0 s1.2.1.length)),(6,(i6 s1.1)),(7,(pt 1007))]:EL)) (fun m30:Bool×Int×Int×Int×(List B2)×Int×Int×Int×Int×(List A9)×(List E0)×(List A1)×B7=>([(0,bd 71 (E5 m30.2.2.2.2.2.2.2.2.2.2.2.2)),(1007,some (.box 39 (.st [(i6 5),(.d (.st [(.st [(.bool false),(.int .u64 0),(.int .u64 (bitI .or .u64 335544320 (shlI .u64 (IntKind.u64.wrap s1.1) 8)))]),(.int .i64 24)])),(bo m30.1),(.d (.st [(.st [(.st [(.bool false),(.int .u64 0),(.int .u64 m30.2.1)]),(.int .i64 m30.2.2.1)]),(.int .i64 m30.2.2.2.1),(.st [(.int .i64 0),(.list 2 (m30.2.2.2.2.1.map C7)),(.st [(.bool false),(.int .u64 0),(.int .u64 m30.2.2.2.2.2.1)]),(.int .i64 m30.2.2.2.2.2.2.1),(.int .i64 m30.2.2.2.2.2.2.2.1),(.int .i64 m30.2.2.2.2.2.2.2.2.1),(.list 2 (m30.2.2.2.2.2.2.2.2.2.1.map C0)),(.list 3 (m30.2.2.2.2.2.2.2.2.2.2.1.map D9)),(.list 3 (m30.2.2.2.2.2.2.2.2.2.2.2.1.map A7))])]))]))),(3005,some (G0 s1.2.1))]:OL)) (fun m30 h E' O' hmat => ?_) (fun j31 hjj31 h => ?_)
   ·apply A0
    refine ghost hmat ?_
    obtain⟨hc32,h⟩:=B6 h
    refine rg (SQ (fa hc32 tt)) ?_
    apply D7
    apply A0
    refine rg (SQ tt) ?_
    obtain rfl:=oi h
    exact⟨rfl,(mp [(3005,1044)] _ _ hB)⟩
   ·apply AWp.cond rfl<;>intro hg33
    ·have h:=A4 hg33 h
     refine sr (SQ tt) ?_
     obtain⟨r34,hr34,h⟩:=bindS h
     refine sr (SQ (fa (cl [] (A25 r34 hr34)) tt)) ?_
     apply seq
     obtain⟨r35,hr35,h⟩:=bindS h
     refine rg (SQ (fa (cl [(0,0)] (R3 r26.2 2 r35 hr35)) tt)) ?_
     apply A0
     refine ghost (mp [] [(0,(pt 0)),(1,(i6 a1)),(5,(.sref 3005 22 0 s1.2.1.length)),(6,(i6 s1.1)),(7,(pt 1007)),(8,(pt 1008))] [(0,bd 71 (E5 r35.2)),(1007,some (.box 39 (.st [(i6 5),(.d (.st [(.st [(.bool false),(.int .u64 0),(.int .u64 (bitI .or .u64 335544320 (shlI .u64 (IntKind.u64.wrap s1.1) 8)))]),(.int .i64 24)])),(bo true),(.st [(.d (.st [(.st [(.bool false),(.int .u64 0),(.int .u64 0)]),(.int .i64 0)])),(i6 0),(.st [(i6 0),.nils,(.d (.st [(.bool false),(.int .u64 0),(.int .u64 0)])),(i6 0),(i6 0),(i6 0),.nils,.nils,.nils])])]))),(1008,some (.box 35 (.d (.st [(.int .i64 0),(.list 2 (([(B2.mk false ([101]:List Int))]:List B2).map C7)),(.st [(.bool false),(.int .u64 0),(.int .u64 7)]),(.int .i64 r35.1),(.int .i64 r34.fPref),(.int .i64 r34.fOTC),(.list 2 (r34.fCommunities.map C0)),(.list 3 (r34.fLarge.map D9)),(.list 3 (r34.fOther.map A7))])))),(3005,some (G0 s1.2.1))] hB) ?_
     refine rg (SQ tt) ?_
     exact hjj31 _ h _ _ (mp [] _ _ hB)
    ·have h:=A5 hg33 h
     apply AWp.skip
     exact hjj31 _ h _ _ (Mat.trans (Mat.coeP (Ts:=[]) (Bs:=[(1007,some (.box 39 (.st [(i6 5),(.d (.st [(.st [(.bool false),(.int .u64 0),(.int .u64 (bitI .or .u64 335544320 (shlI .u64 (IntKind.u64.wrap s1.1) 8)))]),(.int .i64 24)])),(bo false),(.d (.st [(.st [(.st [(.bool false),(.int .u64 0),(.int .u64 0)]),(.int .i64 0)]),(.int .i64 0),(.st [(.int .i64 0),(.list 2 (([]:List B2).map C7)),(.st [(.bool false),(.int .u64 0),(.int .u64 0)]),(.int .i64 0),(.int .i64 0),(.int .i64 0),(.list 2 (([]:List A9).map C0)),(.list 3 (([]:List E0).map D9)),(.list 3 (([]:List A1).map A7))])]))])))]) TwT.nil (TwB.cons (x:=(.st [(i6 5),(.d (.st [(.st [(.bool false),(.int .u64 0),(.int .u64 (bitI .or .u64 335544320 (shlI .u64 (IntKind.u64.wrap s1.1) 8)))]),(.int .i64 24)])),(bo false),(.st [(.d (.st [(.st [(.bool false),(.int .u64 0),(.int .u64 0)]),(.int .i64 0)])),(i6 0),(.st [(i6 0),.nils,(.d (.st [(.bool false),(.int .u64 0),(.int .u64 0)])),(i6 0),(i6 0),(i6 0),.nils,.nils,.nils])])])) (by rfl) (Tw.st (TwL.cons (Tw.same _) (TwL.cons (Tw.same _) (TwL.cons (Tw.same _) (TwL.cons (Tw.leaf ⟨_,(Co.st (CoL.cons (Co.d _) (CoL.cons (Co.d _) (CoL.cons (Co.st (CoL.cons (Co.d _) (CoL.cons (Co.nils 2) (CoL.cons (Co.d _) (CoL.cons (Co.d _) (CoL.cons (Co.d _) (CoL.cons (Co.d _) (CoL.cons (Co.nils 2) (CoL.cons (Co.nils 3) (CoL.cons (Co.nils 3) CoL.nil)))))))))) CoL.nil)))),rfl⟩) TwL.nil))))) TwB.nil)) (mp [] _ _ hB))
  ·have h:=A5 hg25 h
   apply AWp.exit
   apply D8
   obtain rfl:=oi h
   exact⟨(fun hc=>by cases hc),rfl,(mp [] _ _ hB)⟩
 ·obtain⟨rfl,hmat⟩:=hR
  apply C3
  apply A0
  refine ghost hmat ?_
  refine sr (SQ tt) ?_
  apply ret
  obtain rfl:=oi h
  exact rt (Mat.trans (Mat.freezeP (n:=3005) (e:=39) (sz:=22) (es:=p24.2.map F4) (Ts:=[(4,(C1 p24.2))]) (Bs:=[]) (by rfl) (TwT.cons (x:=(.sref 3005 22 0 p24.2.length)) (by rfl) (FrzL.all (by first | rfl | (simp;done) | (simp;omega) | omega)) TwT.nil) TwB.nil) (mp [] [(4,(C1 p24.2))] [(0,bd 71 (E5 p24.1))] hB)) [(C1 p24.2)] (rT rN) rfl
def A03 (a0:(List Int)) (a1:Int):Option (Bool) :=
 (K5 a0).bind fun r1 =>
 (G7 a1 300).bind fun r2 =>
 (A0g r1 (w64 (250+r2))).bind fun r3 =>
 (A1g r3.1).bind fun r4 =>
 (A1y r3.1).bind fun r5 =>
 jn (fun m10:Bool =>
 some m10) (fun j11 =>
 (if (r4.2==r5.2)=true then
 (A1z r4.1 r5.1).bind fun r13 =>
 (if r13=true then
 (A10).bind fun r15 =>
 j11 r15
 else
 j11 false)
 else
 j11 false))
theorem A5y (a0:(List Int)) (a1:Int) (r:Bool) (h:A03 a0 a1=some r):AC Tryz.prog 4 [(.d (.list 1 (a0.map (eI .i64)))),(.d (.int .i64 a1))] [(500,(.know (globD 0 (.imap gv0))))] (.d (.bool r)) [(500,some (.know (globD 0 (.imap gv0))))]:=by
 refine ac2 Tryz.func4 rfl rfl fun B hB hN L => ?_
 delta A03 at h
 refine sr (SQ tt) ?_
 apply seq
 obtain⟨r1,hr1,h⟩:=bindS h
 obtain⟨r2,hr2,h⟩:=bindS h
 obtain⟨r3,hr3,h⟩:=bindS h
 refine rg (SQ (fa (cl [(1005,100000)] (A3n a0 r1 hr1)) (fa (cl [] (Z6 a1 300 r2 hr2)) (fa (cl [(0,100000)] (A8y r1 (w64 (250+r2)) r3 hr3)) tt)))) ?_
 apply A0
 refine ghost (mp [] [(5,(C1 r3.1))] [(500,some (.know (globD 0 (.imap gv0))))] hB) ?_
 apply seq
 obtain⟨r4,hr4,h⟩:=bindS h
 refine rg (SQ (fa (cl [(500,500)] (A6c r3.1 r4 hr4)) tt)) ?_
 apply A0
 refine ghost (mp [] [(5,(C1 r3.1)),(6,(E4 r4.1)),(7,(i6 r4.2))] [(500,some (.know (globD 0 (.imap gv0))))] hB) ?_
 obtain⟨r5,hr5,h⟩:=bindS h
 refine sr (SQ (fa (cl [] (A8x r3.1 r5 hr5)) tt)) ?_
 apply seq
 refine AWp.cut h (fun m10:Bool=>([(4,(bo m10))]:EL)) (fun m10:Bool=>([(500,some (.know (globD 0 (.imap gv0))))]:OL)) (fun m10 h E' O' hmat => ?_) (fun j11 hjj11 h => ?_)
 ·apply A0
  refine ghost hmat ?_
  apply ret
  obtain rfl:=oi h
  exact rt (kp [(4,_)] [(500,some _)] hB rfl rfl (by rfl)) [(bo m10)] (rT rN) rfl
 ·rcases bft (r4.2==r5.2) with hg12 | hg12
  ·have h:=A4 hg12 h
   obtain⟨r13,hr13,h⟩:=bindS h
   rcases bft r13 with hg14 | hg14
   ·have h:=A4 hg14 h
    obtain⟨r15,hr15,h⟩:=bindS h
    refine rg (SQ (fa hg12 (fa (cl [] (A5a r4.1 r5.1 r13 hr13)) (fa hg14 (fa (cl [(500,500)] (A7r  r15 hr15)) tt))))) ?_
    exact hjj11 _ h _ _ (mp [] _ _ hB)
   ·have h:=A5 hg14 h
    refine rg (SQ (fa hg12 (fa (cl [] (A5a r4.1 r5.1 r13 hr13)) (fa hg14 tt)))) ?_
    exact hjj11 _ h _ _ (mp [] _ _ hB)
  ·have h:=A5 hg12 h
   refine rg (SQ (fa hg12 tt)) ?_
   exact hjj11 _ h _ _ (mp [] _ _ hB)
end
end Go.Proofs.YtkhjkjojjdkidaaGreatDoor
