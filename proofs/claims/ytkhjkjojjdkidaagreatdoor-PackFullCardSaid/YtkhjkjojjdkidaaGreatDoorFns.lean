/- Printed by gen.py: the Go functions as plain functions, and that the code does what they say. -/
import Derived.Test.YtkhjkjojjdkidaaGreatDoorChecked
import Derived.Test.YtkhjkjojjdkidaaGreatDoorVcYB
import Derived.Test.YtkhjkjojjdkidaaGreatDoorVcZ
import Derived.Test.YtkhjkjojjdkidaaGreatDoorVcGC
import Derived.KernelRfl
import Derived.Test.YtkhjkjojjdkidaaGreatDoorVcMD
import Derived.Test.YtkhjkjojjdkidaaGreatDoorVcMQ
import Derived.Test.YtkhjkjojjdkidaaGreatDoorVcSG
import Derived.Test.YtkhjkjojjdkidaaGreatDoorFnsC
import Derived.Test.YtkhjkjojjdkidaaGreatDoorExt
import Derived.Test.YtkhjkjojjdkidaaGreatDoorVcPm
import Derived.Test.YtkhjkjojjdkidaaGreatDoorVcRg
import Derived.Test.YtkhjkjojjdkidaaGreatDoorVcSt
import Derived.Test.YtkhjkjojjdkidaaGreatDoorVcMR
namespace Go.Proofs.YtkhjkjojjdkidaaGreatDoor
open Go Go.Vc
open Tryz
open Go.Vc.OpJ (assign alloc lss pickT pickF extract lenD indexD loadD eqlI gtr callVal leq geq loadR nilP indexS buildSlice lenS fieldD neqI pickAnd pickOr)
set_option maxHeartbeats 4000000
set_option maxRecDepth 100000
noncomputable section
def xref18_Write_L0 (a0:aAttrs) (s98:Int×(List (Int×(List Int)))):Option ((((List (Int×(List Int)))))⊕(Int×(List (Int×(List Int))))) :=
 (if (decide (s98.1<(a0.fCommunities.length:Int)))=true then
 (idx a0.fCommunities s98.1).bind fun x113 =>
 (xref18_word x113.fA 2).bind fun r114 =>
 chk (decide ((((mget keq3 s98.2 8).getD [])++r114).length≤LIM)) <|
 (xref18_word x113.fB 2).bind fun r116 =>
 chk (decide (((((mget keq3 s98.2 8).getD [])++r114)++r116).length≤LIM)) <|
 some (.inr ((w64 (s98.1+1)),(mput keq3 s98.2 8 ((((mget keq3 s98.2 8).getD [])++r114)++r116))))
 else
 some (.inl s98.2))
def xref18_Write_L1 (a0:aAttrs) (s120:Int×(List (Int×(List Int)))):Option ((((List (Int×(List Int)))))⊕(Int×(List (Int×(List Int))))) :=
 (if (decide (s120.1<(a0.fLarge.length:Int)))=true then
 (idx a0.fLarge s120.1).bind fun x139 =>
 (xref18_word x139.fA 4).bind fun r140 =>
 chk (decide ((((mget keq3 s120.2 32).getD [])++r140).length≤LIM)) <|
 (xref18_word x139.fB 4).bind fun r142 =>
 chk (decide (((((mget keq3 s120.2 32).getD [])++r140)++r142).length≤LIM)) <|
 (xref18_word x139.fC 4).bind fun r144 =>
 chk (decide ((((((mget keq3 s120.2 32).getD [])++r140)++r142)++r144).length≤LIM)) <|
 some (.inr ((w64 (s120.1+1)),(mput keq3 s120.2 32 (((((mget keq3 s120.2 32).getD [])++r140)++r142)++r144))))
 else
 some (.inl s120.2))
def xref18_Write_L3 (a0:aAttrs) (s152:Int×(List aUnknown)) (s256:Int×(List aUnknown)):Option ((((List aUnknown)))⊕(Int×(List aUnknown))) :=
 (if (decide (s256.1<(a0.fOther.length:Int)))=true then
 (idx a0.fOther s256.1).bind fun x279 =>
 jn (fun m283:(List aUnknown) =>
 some (.inr ((w64 (s256.1+1)),m283))) (fun j284 =>
 (if (x279.fType==s152.1)=true then
 chk (decide (x279.fData.length≤LIM)) <|
 chk (decide ((s256.2++[(aUnknown.mk x279.fFlags s152.1 x279.fData)]).length≤LIM)) <|
 j284 (s256.2++[(aUnknown.mk x279.fFlags s152.1 x279.fData)])
 else
 j284 s256.2))
 else
 some (.inl s256.2))
def xref18_Write_L2 (a0:aAttrs) (m150:(List (Int×(List Int)))) (s152:Int×(List aUnknown)):Option ((((List aUnknown)))⊕(Int×(List aUnknown))) :=
 (if (decide (s152.1<256))=true then
 jn (fun m254:(List aUnknown) =>
 (loop (xref18_Write_L3 a0 s152) (0,m254)).bind fun p277 =>
 some (.inr ((w64 (s152.1+1)),p277))) (fun j255 =>
 (if (mget keq3 m150 s152.1).isSome=true then
 (xref18_flags s152.1).bind fun r291 =>
 chk (decide (((mget keq3 m150 s152.1).getD ([]:List Int)).length≤LIM)) <|
 chk (decide ((s152.2++([(aUnknown.mk r291 s152.1 ((mget keq3 m150 s152.1).getD ([]:List Int)))]:List aUnknown)).length≤LIM)) <|
 j255 (s152.2++([(aUnknown.mk r291 s152.1 ((mget keq3 m150 s152.1).getD ([]:List Int)))]:List aUnknown))
 else
 j255 s152.2))
 else
 some (.inl s152.2))
def xref18_Write_L5 (x356:aSegment) (s361:Int×(List Int)):Option ((((List Int)))⊕(Int×(List Int))) :=
 (if (decide (s361.1<(x356.fASNs.length:Int)))=true then
 (idx x356.fASNs s361.1).bind fun x372 =>
 (xref18_word x372 4).bind fun r373 =>
 chk (decide ((s361.2++r373).length≤LIM)) <|
 some (.inr ((w64 (s361.1+1)),(s361.2++r373)))
 else
 some (.inl s361.2))
def xref18_Write_L4 (a0:aAttrs) (s305:Int×(List Int)):Option ((((List Int)))⊕(Int×(List Int))) :=
 (if (decide (s305.1<(a0.fPath.length:Int)))=true then
 (idx a0.fPath s305.1).bind fun x356 =>
 jn (fun m358:Int =>
 chk (decide ((s305.2++([m358,(IntKind.u8.wrap (x356.fASNs.length:Int))]:List Int)).length≤LIM)) <|
 (loop (xref18_Write_L5 x356) (0,(s305.2++([m358,(IntKind.u8.wrap (x356.fASNs.length:Int))]:List Int)))).bind fun p370 =>
 some (.inr ((w64 (s305.1+1)),p370))) (fun j359 =>
 (if x356.fSet=true then
 j359 1
 else
 j359 2))
 else
 some (.inl s305.2))
def xref18_Write (a0:aAttrs):Option ((List aUnknown)×Int) :=
 (xref18_Valid a0).bind fun r1 =>
 (if (!r1)=true then
 some (([]:List aUnknown),1)
 else
 jn (fun m4:(List (Int×(List Int))) =>
 jn (fun m84:(List (Int×(List Int))) =>
 jn (fun m88:(List (Int×(List Int))) =>
 jn (fun m92:(List (Int×(List Int))) =>
 jn (fun m96:(List (Int×(List Int))) =>
 (loop (xref18_Write_L0 a0) (0,m96)).bind fun p111 =>
 (loop (xref18_Write_L1 a0) (0,p111)).bind fun p137 =>
 jn (fun m150:(List (Int×(List Int))) =>
 (loop (xref18_Write_L2 a0 m150) (0,([]:List aUnknown))).bind fun p248 =>
 some (p248,0)) (fun j151 =>
 (if (decide (0≤a0.fOTC))=true then
 (xref18_word a0.fOTC 4).bind fun r297 =>
 j151 (mput keq3 p137 35 r297)
 else
 j151 p137))) (fun j97 =>
 (if (decide (0≤a0.fPref))=true then
 (xref18_word a0.fPref 4).bind fun r299 =>
 j97 (mput keq3 m92 5 r299)
 else
 j97 m92))) (fun j93 =>
 (if (decide (0≤a0.fMED))=true then
 (xref18_word a0.fMED 4).bind fun r301 =>
 j93 (mput keq3 m88 4 r301)
 else
 j93 m88))) (fun j89 =>
 (if ((!((a0.fNext.fV6==false)&&((a0.fNext.fHi==0)&&((a0.fNext.fLo==0)&&true))))&&(!a0.fNext.fV6))=true then
 (xref01_Bytes a0.fNext).bind fun r303 =>
 j89 (mput keq3 m84 3 r303)
 else
 j89 m84))) (fun j85 =>
 (if ((decide (0≤a0.fOrigin)) || (decide (0<(a0.fPath.length:Int))))=true then
 (loop (xref18_Write_L4 a0) (0,([]:List Int))).bind fun p354 =>
 j85 (mput keq3 m4 2 p354)
 else
 j85 m4))) (fun j5 =>
 (if (decide (0≤a0.fOrigin))=true then
 j5 (mput keq3 ([]:List (Int×(List Int))) 1 ([(IntKind.u8.wrap a0.fOrigin)]:List Int))
 else
 j5 ([]:List (Int×(List Int))))))
theorem xref18_Write_ac (a0:aAttrs) (r:(List aUnknown)×Int) (h:xref18_Write a0=some r):AC Tryz.prog 81 [(.d (e_aAttrs a0))] [] (.tup [(.d (.list 3 (r.1.map e_aUnknown))),(.d (.int .i64 r.2))]) []:=by
 refine ac2 Tryz.func81 rfl rfl fun B hB hN L => ?_
 delta xref18_Write at h
 refine sr (SQ tt) ?_
 apply AWp.seq
 obtain⟨r1,hr1,h⟩:=bindS h
 refine sr (SQ (fa (cl [] (xref18_Valid_ac a0 r1 hr1)) tt)) ?_
 apply AWp.cond rfl<;>intro hg2
 ·have h:=ite_t hg2 h
  refine sr (SQ tt) ?_
  apply AWp.ret
  apply seqQ_r
  obtain rfl:=oi h
  exact rt (Mat.trans (Mat.coeP (Ts:=[(2,(qe_aUnknown_3 ([]:List aUnknown)))]) (Bs:=[]) (TwT.cons (x:=.nils) (by rfl) (Tw.leaf ⟨_,(Co.nils 3),rfl⟩) TwT.nil) TwB.nil) (mp [] [(2,(qe_aUnknown_3 ([]:List aUnknown))),(3,(i6 1))] [] hB)) [(qe_aUnknown_3 ([]:List aUnknown)),(i6 1)] (Res.tmp (by rfl) (by rfl) (Res.tmp (by rfl) (by rfl) Res.nil)) rfl
 ·have h:=ite_f hg2 h
  apply AWp.skip
  apply seqQ_n
  refine sr (SQ tt) ?_
  apply sr (cg (OpJ.mkmapM hB (nm:=1024) (by decide) (h:=(eI .u8)) (e2:=5) (sz2:=1) (own:=[8,32]) (by decide) (fun _=>rfl) (L rfl)) rfl (c (assign (L rfl) (q 24)) rfl cn))
  apply AWp.seq
  refine sr (SQ tt) ?_
  refine gh [(1,_),(4,_),(5,_),(27,_)] [(1001,some _),(1024,some _)] hB rfl rfl (by rfl) ?_
  refine AWp.cut h (fun m4:(List (Int×(List Int)))=>([(1,(pt 1001)),(4,.nils),(5,(.mref 1024))]:EL)) (fun m4:(List (Int×(List Int)))=>([(1001,bd 35 (e_aAttrs a0)),(1024,some (.reg (mrow (eI .u8) 5 1 [8,32] m4 none)))]:OL)) (fun m4 h E' O' hmat => ?_) (fun j5 hjj5 h => ?_)
  ·apply seqQ_n
   refine AWp.ghost hmat ?_
   apply AWp.seq
   refine sr (SQ tt) ?_
   refine gh [(1,_),(4,_),(5,_),(41,_)] [(1001,some _),(1024,some _)] hB rfl rfl (by rfl) ?_
   refine AWp.cut h (fun m84:(List (Int×(List Int)))=>([(1,(pt 1001)),(4,.nils),(5,(.mref 1024))]:EL)) (fun m84:(List (Int×(List Int)))=>([(1001,bd 35 (e_aAttrs a0)),(1024,some (.reg (mrow (eI .u8) 5 1 [8,32] m84 none)))]:OL)) (fun m84 h E' O' hmat => ?_) (fun j85 hjj85 h => ?_)
   ·apply seqQ_n
    refine AWp.ghost hmat ?_
    apply AWp.seq
    apply sr (c (fo 1001 2 [2] hN underlying35 2 tyS27 (q 1)) rfl (c (la hN 35 tyS27 (q 75)) rfl (c (OpJ.coe (v:=(.st [(bo false),(.d (.int .u64 0)),(.d (.int .u64 0))])) (y:=(.st [(.bool false),(.int .u64 0),(.int .u64 0)])) (Co.st (CoL.cons (Co.d _) (CoL.cons (Co.d _) (CoL.cons (Co.d _) CoL.nil)))) rfl (OpJ.build (places:=[(0,1),(1,1),(2,1)]) ⟨underlying27,fun w=>by kernel_rfl⟩ tyZS27 Opds.nil (by kernel_rfl) (r:=(.st [(bo false),(.d (.int .u64 0)),(.d (.int .u64 0))])) (by rfl) (L rfl))) rfl (c (OpJ.neqD (h:=2) (FitE.st underlying27 rfl held27 (FitF.cons (x:=(.bool a0.fNext.fV6)) (y:=(.bool false)) (by decide) rfl tyS4 ⟨rfl,rfl⟩ ⟨rfl,rfl⟩ (FitE.bool (h:=0) a0.fNext.fV6 false underlying4) (FitF.cons (x:=(.int .u64 a0.fNext.fHi)) (y:=(.int .u64 0)) (by decide) rfl tyS25 ⟨rfl,rfl⟩ ⟨rfl,rfl⟩ (FitE.int (h:=0) a0.fNext.fHi 0 underlying25) (FitF.cons (x:=(.int .u64 a0.fNext.fLo)) (y:=(.int .u64 0)) (by decide) rfl tyS25 ⟨rfl,rfl⟩ ⟨rfl,rfl⟩ (FitE.int (h:=0) a0.fNext.fLo 0 underlying25) FitF.nil)))) eqg27 ⟨rfl,rfl⟩ (by rfl) (L rfl) (q 76) (q 77)) rfl (c (mv hN (q 78)) rfl (c (oq hN 79 (fo 1001 2 [2] hN underlying35 2 tyS27 (q 1)) (OptL.keep (by rfl) OptL.nil) (GuardV.plain _)) rfl (c (oq hN 79 (fo 1001 2 [2,0] hN underlying27 0 tyS4 (q 80)) (OptL.opt OptL.nil) (GuardV.plain _)) rfl (c (oq hN 79 (lb hN 35 _ _ tyS4 (At.dst1 (by rfl) (by rfl) (ad _) (by first | rfl | omega)) (q 81)) (OptL.opt OptL.nil) (GuardV.plain _)) rfl (c (oq hN 79 (OpJ.not (L rfl) (q 82)) (OptL.opt OptL.nil) (GuardV.plain _)) rfl (c (pickAnd rfl (L rfl) (q 79) (q 83)) rfl cn))))))))))
    refine gh [(1,_),(4,_),(5,_),(84,_)] [(1001,some _),(1024,some _)] hB rfl rfl (by rfl) ?_
    refine AWp.cut h (fun m88:(List (Int×(List Int)))=>([(1,(pt 1001)),(4,.nils),(5,(.mref 1024))]:EL)) (fun m88:(List (Int×(List Int)))=>([(1001,bd 35 (e_aAttrs a0)),(1024,some (.reg (mrow (eI .u8) 5 1 [8,32] m88 none)))]:OL)) (fun m88 h E' O' hmat => ?_) (fun j89 hjj89 h => ?_)
    ·apply seqQ_n
     refine AWp.ghost hmat ?_
     apply AWp.seq
     refine sr (SQ tt) ?_
     refine gh [(1,_),(4,_),(5,_),(91,_)] [(1001,some _),(1024,some _)] hB rfl rfl (by rfl) ?_
     refine AWp.cut h (fun m92:(List (Int×(List Int)))=>([(1,(pt 1001)),(4,.nils),(5,(.mref 1024))]:EL)) (fun m92:(List (Int×(List Int)))=>([(1001,bd 35 (e_aAttrs a0)),(1024,some (.reg (mrow (eI .u8) 5 1 [8,32] m92 none)))]:OL)) (fun m92 h E' O' hmat => ?_) (fun j93 hjj93 h => ?_)
     ·apply seqQ_n
      refine AWp.ghost hmat ?_
      apply AWp.seq
      refine sr (SQ tt) ?_
      refine gh [(1,_),(4,_),(5,_),(98,_)] [(1001,some _),(1024,some _)] hB rfl rfl (by rfl) ?_
      refine AWp.cut h (fun m96:(List (Int×(List Int)))=>([(1,(pt 1001)),(4,.nils),(5,(.mref 1024))]:EL)) (fun m96:(List (Int×(List Int)))=>([(1001,bd 35 (e_aAttrs a0)),(1024,some (.reg (mrow (eI .u8) 5 1 [8,32] m96 none)))]:OL)) (fun m96 h E' O' hmat => ?_) (fun j97 hjj97 h => ?_)
      ·apply seqQ_n
       refine AWp.ghost hmat ?_
       apply AWp.seq
       refine sr (SQ tt) ?_
       apply AWp.block
       obtain⟨p111,hx119,h⟩:=bindS h
       refine lg (xref18_Write_L0 a0) (fun s98:Int×(List (Int×(List Int)))=>([(1,(pt 1001)),(4,.nils),(5,(.mref 1024)),(104,(qe_aCommunity_2 a0.fCommunities)),(105,(i6 (a0.fCommunities.length:Int))),(106,(i6 s98.1))]:EL)) (fun s98:Int×(List (Int×(List Int)))=>([(1001,bd 35 (e_aAttrs a0)),(1024,some (.reg (mrow (eI .u8) 5 1 [8,32] s98.2 none)))]:OL)) (fun(p111:((List (Int×(List Int))))) e E' O'=>e = .exit 4∧Mat B E' O' ([(1,(pt 1001)),(4,.nils),(5,(.mref 1024))]:EL) ([(1001,bd 35 (e_aAttrs a0)),(1024,some (.reg (mrow (eI .u8) 5 1 [8,32] p111 none)))]:OL)) hx119 (mp [] _ _ hB) (fun s98 y h => ?_) (fun e E' O' hR => ?_)
       ·unfold xref18_Write_L0 at h
        refine sr (SQ tt) ?_
        apply AWp.seq
        apply AWp.cond rfl<;>intro hg112
        ·have h:=ite_t hg112 h
         apply AWp.skip
         apply seqQ_n
         apply AWp.seq
         apply AWp.block
         obtain⟨x113,hx113,h⟩:=bindS h
         refine sr (SQ (fa hx113 tt)) ?_
         obtain⟨r114,hr114,h⟩:=bindS h
         obtain⟨hc115,h⟩:=chk_some h
         obtain⟨r116,hr116,h⟩:=bindS h
         obtain⟨hc117,h⟩:=chk_some h
         apply dr (c (mv hN (q 5)) rfl (c (mv hN (q 5)) rfl (cg (OpJ.mtakeM (m:=1112) (h:=(eI .u8)) (e2:=5) (sz2:=1) (own:=[8,32]) (eq:=keq3) (l:=s98.2) (k:=8) hB (fun _ _=>rfl) tyU147 underlying3 tyZ67 (by decide) (by decide) (xs:=((mget keq3 s98.2 8).getD [])) rfl (len:=((mget keq3 s98.2 8).getD []).length) rfl (L rfl) (q 111) (ii 8)) rfl (c (fo 1013 0 [0] hN underlying98 0 tyS3 (q 13)) rfl (c (la hN 98 tyS3 (q 113)) rfl (cg (cf hB fnOk106 (xref18_word_ac x113.fA 2 r114 hr114) (L rfl) (OpdL.cons (q 114) (OpdL.cons (ii 2) OpdL.nil))) rfl (cg (apd hB underlying67 tyE5 1116 (eI .u8) ((mget keq3 s98.2 8).getD []) r114 hc115 (L rfl) (q 112) (q 115)) rfl (c (fo 1013 1 [1] hN underlying98 1 tyS3 (q 13)) rfl (c (la hN 98 tyS3 (q 117)) rfl (cg (cf hB fnOk106 (xref18_word_ac x113.fB 2 r116 hr116) (L rfl) (OpdL.cons (q 118) (OpdL.cons (ii 2) OpdL.nil))) rfl (cg (apd hB underlying67 tyE5 1120 (eI .u8) (((mget keq3 s98.2 8).getD [])++r114) r116 hc117 (L rfl) (q 116) (q 119)) rfl (cg (OpJ.mputR (h:=(eI .u8)) (e2:=5) (sz2:=1) (own:=[8,32]) (eq:=keq3) (l:=s98.2) (k:=8) (xs:=((((mget keq3 s98.2 8).getD [])++r114)++r116)) (fun _ _=>rfl) tyU147 underlying3 (by decide) (len:=((((mget keq3 s98.2 8).getD [])++r114)++r116).length) rfl (q 110) (ii 8) (q 120)) rfl cn)))))))))))) (by kernel_rfl) (by kernel_rfl)
         apply blkQ_n
         apply seqQ_n
         refine rg (SQ tt) ?_
         obtain rfl:=oi h
         exact⟨rfl,(mp [] _ _ hB)⟩
        ·have h:=ite_f hg112 h
         apply AWp.exit
         apply seqQ_e
         obtain rfl:=oi h
         exact⟨(fun hc=>by cases hc),rfl,(mp [] _ _ hB)⟩
       ·obtain⟨rfl,hmat⟩:=hR
        apply blkQ_hit
        apply seqQ_n
        refine AWp.ghost hmat ?_
        apply AWp.seq
        refine sr (SQ tt) ?_
        apply AWp.block
        obtain⟨p137,hx147,h⟩:=bindS h
        refine lg (xref18_Write_L1 a0) (fun s120:Int×(List (Int×(List Int)))=>([(1,(pt 1001)),(4,.nils),(5,(.mref 1024)),(123,(qe_aLarge_3 a0.fLarge)),(124,(i6 (a0.fLarge.length:Int))),(125,(i6 s120.1))]:EL)) (fun s120:Int×(List (Int×(List Int)))=>([(1001,bd 35 (e_aAttrs a0)),(1024,some (.reg (mrow (eI .u8) 5 1 [8,32] s120.2 none)))]:OL)) (fun(p137:((List (Int×(List Int))))) e E' O'=>e = .exit 6∧Mat B E' O' ([(1,(pt 1001)),(4,.nils),(5,(.mref 1024))]:EL) ([(1001,bd 35 (e_aAttrs a0)),(1024,some (.reg (mrow (eI .u8) 5 1 [8,32] p137 none)))]:OL)) hx147 (mp [] _ _ hB) (fun s120 y h => ?_) (fun e E' O' hR => ?_)
        ·unfold xref18_Write_L1 at h
         refine sr (SQ tt) ?_
         apply AWp.seq
         apply AWp.cond rfl<;>intro hg138
         ·have h:=ite_t hg138 h
          apply AWp.skip
          apply seqQ_n
          apply AWp.seq
          apply AWp.block
          obtain⟨x139,hx139,h⟩:=bindS h
          refine sr (SQ (fa hx139 tt)) ?_
          obtain⟨r140,hr140,h⟩:=bindS h
          obtain⟨hc141,h⟩:=chk_some h
          obtain⟨r142,hr142,h⟩:=bindS h
          obtain⟨hc143,h⟩:=chk_some h
          obtain⟨r144,hr144,h⟩:=bindS h
          obtain⟨hc145,h⟩:=chk_some h
          apply dr (c (mv hN (q 5)) rfl (c (mv hN (q 5)) rfl (cg (OpJ.mtakeM (m:=1131) (h:=(eI .u8)) (e2:=5) (sz2:=1) (own:=[8,32]) (eq:=keq3) (l:=s120.2) (k:=32) hB (fun _ _=>rfl) tyU147 underlying3 tyZ67 (by decide) (by decide) (xs:=((mget keq3 s120.2 32).getD [])) rfl (len:=((mget keq3 s120.2 32).getD []).length) rfl (L rfl) (q 130) (ii 32)) rfl (c (fo 1015 0 [0] hN underlying100 0 tyS3 (q 15)) rfl (c (la hN 100 tyS3 (q 132)) rfl (cg (cf hB fnOk106 (xref18_word_ac x139.fA 4 r140 hr140) (L rfl) (OpdL.cons (q 133) (OpdL.cons (ii 4) OpdL.nil))) rfl (cg (apd hB underlying67 tyE5 1135 (eI .u8) ((mget keq3 s120.2 32).getD []) r140 hc141 (L rfl) (q 131) (q 134)) rfl (c (fo 1015 1 [1] hN underlying100 1 tyS3 (q 15)) rfl (c (la hN 100 tyS3 (q 136)) rfl (cg (cf hB fnOk106 (xref18_word_ac x139.fB 4 r142 hr142) (L rfl) (OpdL.cons (q 137) (OpdL.cons (ii 4) OpdL.nil))) rfl (cg (apd hB underlying67 tyE5 1139 (eI .u8) (((mget keq3 s120.2 32).getD [])++r140) r142 hc143 (L rfl) (q 135) (q 138)) rfl (c (fo 1015 2 [2] hN underlying100 2 tyS3 (q 15)) rfl (c (la hN 100 tyS3 (q 140)) rfl (cg (cf hB fnOk106 (xref18_word_ac x139.fC 4 r144 hr144) (L rfl) (OpdL.cons (q 141) (OpdL.cons (ii 4) OpdL.nil))) rfl (cg (apd hB underlying67 tyE5 1143 (eI .u8) ((((mget keq3 s120.2 32).getD [])++r140)++r142) r144 hc145 (L rfl) (q 139) (q 142)) rfl (cg (OpJ.mputR (h:=(eI .u8)) (e2:=5) (sz2:=1) (own:=[8,32]) (eq:=keq3) (l:=s120.2) (k:=32) (xs:=(((((mget keq3 s120.2 32).getD [])++r140)++r142)++r144)) (fun _ _=>rfl) tyU147 underlying3 (by decide) (len:=(((((mget keq3 s120.2 32).getD [])++r140)++r142)++r144).length) rfl (q 129) (ii 32) (q 143)) rfl cn)))))))))))))))) (by kernel_rfl) (by kernel_rfl)
          apply blkQ_n
          apply seqQ_n
          refine rg (SQ tt) ?_
          obtain rfl:=oi h
          exact⟨rfl,(mp [] _ _ hB)⟩
         ·have h:=ite_f hg138 h
          apply AWp.exit
          apply seqQ_e
          obtain rfl:=oi h
          exact⟨(fun hc=>by cases hc),rfl,(mp [] _ _ hB)⟩
        ·obtain⟨rfl,hmat⟩:=hR
         apply blkQ_hit
         apply seqQ_n
         refine AWp.ghost hmat ?_
         apply AWp.seq
         refine sr (SQ tt) ?_
         refine gh [(1,_),(4,_),(5,_),(147,_)] [(1001,some _),(1024,some _)] hB rfl rfl (by rfl) ?_
         refine AWp.cut h (fun m150:(List (Int×(List Int)))=>([(1,(pt 1001)),(4,.nils),(5,(.mref 1024))]:EL)) (fun m150:(List (Int×(List Int)))=>([(1001,bd 35 (e_aAttrs a0)),(1024,some (.reg (mrow (eI .u8) 5 1 [8,32] m150 none)))]:OL)) (fun m150 h E' O' hmat => ?_) (fun j151 hjj151 h => ?_)
         ·apply seqQ_n
          refine AWp.ghost hmat ?_
          apply AWp.seq
          refine sr (SQ tt) ?_
          apply AWp.block
          obtain⟨p248,hx295,h⟩:=bindS h
          refine lg (xref18_Write_L2 a0 m150) (fun s152:Int×(List aUnknown)=>([(1,(pt 1001)),(4,(.sref 3004 3 0 s152.2.length)),(5,(.mref 1024)),(152,(i6 s152.1))]:EL)) (fun s152:Int×(List aUnknown)=>([(1001,bd 35 (e_aAttrs a0)),(1024,some (.blk (mapQ (mpairs (eI .i64) e_LeIu8 m150)))),(3004,some (we_aUnknown_69_3 s152.2))]:OL)) (fun(p248:((List aUnknown))) e E' O'=>e = .exit 8∧Mat B E' O' ([(4,(.sref 3004 3 0 p248.length))]:EL) ([(3004,some (we_aUnknown_69_3 p248))]:OL)) hx295 (Mat.trans (Mat.freezeM (n:=1024) (h:=(eI .u8)) (e2:=5) (sz2:=1) (own:=[8,32]) (l:=m150) (by rfl)) (Mat.trans (Mat.beginP (n:=3004) (e:=69) (sz:=3) (Ts:=[(4,(.sref 3004 3 0 0))]) (Bs:=[]) hB (by decide) (by rfl) (by decide) (TwT.cons (x:=.nils) (by rfl) (Tw.leaf ⟨rfl,rfl⟩) TwT.nil) TwB.nil) (mp [] _ _ hB))) (fun s152 y h => ?_) (fun e E' O' hR => ?_)
          ·unfold xref18_Write_L2 at h
           refine sr (SQ tt) ?_
           apply AWp.seq
           apply AWp.cond rfl<;>intro hg249
           ·have h:=ite_t hg249 h
            apply AWp.skip
            apply seqQ_n
            apply AWp.seq
            apply AWp.block
            refine sr (SQ tt) ?_
            apply AWp.seq
            apply sr (c (mv hN (q 5)) rfl (c (mv hN (q 16)) rfl (cg (OpJ.mlook2Q (g:=e_LeIu8) (l:=m150) (k:=s152.1) tyU147 underlying3 keyEq3 (z:=([]:List Int)) tyZD67 (L rfl) (q 156) (q 157)) rfl (c (mv hN (q 158)) rfl (c (extract (by rfl) rfl (L rfl) (q 155)) rfl (c (extract (by rfl) rfl (L rfl) (q 155)) rfl (c (assign (L rfl) (q 159)) rfl (c (assign (L rfl) (q 160)) rfl cn))))))))
            refine sr (SQ tt) ?_
            refine gh [(1,_),(4,_),(5,_),(16,_),(17,_),(152,_),(161,_)] [(1001,some _),(1024,some _),(3004,some _)] hB rfl rfl (by rfl) ?_
            refine AWp.cut h (fun m254:(List aUnknown)=>([(1,(pt 1001)),(4,(.sref 3004 3 0 m254.length)),(5,(.mref 1024)),(16,(i6 s152.1)),(152,(i6 s152.1))]:EL)) (fun m254:(List aUnknown)=>([(1001,bd 35 (e_aAttrs a0)),(1024,some (.blk (mapQ (mpairs (eI .i64) e_LeIu8 m150)))),(3004,some (we_aUnknown_69_3 m254))]:OL)) (fun m254 h E' O' hmat => ?_) (fun j255 hjj255 h => ?_)
            ·apply seqQ_n
             refine AWp.ghost hmat ?_
             refine sr (SQ tt) ?_
             apply AWp.block
             obtain⟨p277,hx289,h⟩:=bindS h
             refine lg (xref18_Write_L3 a0 s152) (fun s256:Int×(List aUnknown)=>([(1,(pt 1001)),(4,(.sref 3004 3 0 s256.2.length)),(5,(.mref 1024)),(16,(i6 s152.1)),(152,(i6 s152.1)),(172,(qe_aUnknown_3 a0.fOther)),(173,(i6 (a0.fOther.length:Int))),(174,(i6 s256.1))]:EL)) (fun s256:Int×(List aUnknown)=>([(1001,bd 35 (e_aAttrs a0)),(1024,some (.blk (mapQ (mpairs (eI .i64) e_LeIu8 m150)))),(3004,some (we_aUnknown_69_3 s256.2))]:OL)) (fun(p277:((List aUnknown))) e E' O'=>e = .exit 10∧Mat B E' O' ([(1,(pt 1001)),(4,(.sref 3004 3 0 p277.length)),(5,(.mref 1024)),(152,(i6 s152.1))]:EL) ([(1001,bd 35 (e_aAttrs a0)),(1024,some (.blk (mapQ (mpairs (eI .i64) e_LeIu8 m150)))),(3004,some (we_aUnknown_69_3 p277))]:OL)) hx289 (mp [] _ _ hB) (fun s256 y h => ?_) (fun e E' O' hR => ?_)
             ·unfold xref18_Write_L3 at h
              refine sr (SQ tt) ?_
              apply AWp.seq
              apply AWp.cond rfl<;>intro hg278
              ·have h:=ite_t hg278 h
               apply AWp.skip
               apply seqQ_n
               apply AWp.seq
               apply AWp.block
               obtain⟨x279,hx279,h⟩:=bindS h
               refine sr (SQ (fa hx279 tt)) ?_
               refine sr (SQ tt) ?_
               refine gh [(1,_),(4,_),(5,_),(16,_),(20,_),(152,_),(172,_),(173,_),(174,_),(181,_)] [(1001,some _),(1020,some _),(1024,some _),(3004,some _)] hB rfl rfl (by rfl) ?_
               refine AWp.cut h (fun m283:(List aUnknown)=>([(1,(pt 1001)),(4,(.sref 3004 3 0 m283.length)),(5,(.mref 1024)),(16,(i6 s152.1)),(152,(i6 s152.1)),(172,(qe_aUnknown_3 a0.fOther)),(173,(i6 (a0.fOther.length:Int))),(174,(i6 s256.1))]:EL)) (fun m283:(List aUnknown)=>([(1001,bd 35 (e_aAttrs a0)),(1024,some (.blk (mapQ (mpairs (eI .i64) e_LeIu8 m150)))),(3004,some (we_aUnknown_69_3 m283))]:OL)) (fun m283 h E' O' hmat => ?_) (fun j284 hjj284 h => ?_)
               ·apply blkQ_n
                apply seqQ_n
                refine AWp.ghost hmat ?_
                refine rg (SQ tt) ?_
                obtain rfl:=oi h
                exact⟨rfl,(mp [] _ _ hB)⟩
               ·apply AWp.cond rfl<;>intro hg285
                ·have h:=ite_t hg285 h
                 obtain⟨hc286,h⟩:=chk_some h
                 obtain⟨hc287,h⟩:=chk_some h
                 apply dr (c (mv hN (q 4)) rfl (c (fo 1020 0 [0] hN underlying69 0 tyS3 (q 20)) rfl (c (la hN 69 tyS3 (q 183)) rfl (c (mv hN (q 16)) rfl (c (fo 1020 2 [2] hN underlying69 2 tyS67 (q 20)) rfl (c (la hN 69 tyS67 (q 186)) rfl (cg (OpJ.frz (OpJ.appendN hB underlying67 tyE5 (nm:=1188) (by decide) (ys:=x279.fData.map (eI .u8)) (len:=x279.fData.length) (by simp) (map_sz (f:=(eI .u8)) (fun _=>rfl)) (by rw [List.length_map];exact lim_mulN hc286 (by decide)) (by rw [List.length_map];exact lim_leN hc286) (L rfl) Opd.nils (q 187)) (by simp)) rfl (c (OpJ.coe (v:=(.st [(i6 x279.fFlags),(i6 s152.1),(.d (.list 1 (x279.fData.map (eI .u8))))])) (y:=(.st [(.int .i64 x279.fFlags),(.int .i64 s152.1),(.list 1 (x279.fData.map (eI .u8)))])) (Co.st (CoL.cons (Co.d _) (CoL.cons (Co.d _) (CoL.cons (Co.d _) CoL.nil)))) rfl (OpJ.build (places:=[(0,1),(1,1),(2,1)]) ⟨underlying69,fun w=>by kernel_rfl⟩ tyZS69 (Opds.cons (q 184) (Opds.cons (q 185) (Opds.cons (q 188) Opds.nil))) (by kernel_rfl) (r:=(.st [(i6 x279.fFlags),(i6 s152.1),(.d (.list 1 (x279.fData.map (eI .u8))))])) (by rfl) (L rfl))) rfl (c (buildSlice underlying33 tyS69 tyZD69 (by rfl) (by decide) (by decide) (Opds.cons (q 189) Opds.nil) (by kernel_rfl) (es:=([(.st [(.int .i64 x279.fFlags),(.int .i64 s152.1),(.list 1 (x279.fData.map (eI .u8)))])]:List D)) (by rfl) (by rfl) (by kernel_rfl) (by simp) (L rfl)) rfl (cg (apd hB underlying33 tyE69 1191 e_aUnknown s256.2 [(aUnknown.mk x279.fFlags s152.1 x279.fData)] hc287 (L rfl) (q 182) (q 190)) rfl (c (assign (L rfl) (q 191)) rfl cn))))))))))) (by kernel_rfl) (by kernel_rfl)
                 exact hjj284 _ h _ _ (mp [(3004,1191)] _ _ hB)
                ·have h:=ite_f hg285 h
                 apply AWp.skip
                 exact hjj284 _ h _ _ (mp [] _ _ hB)
              ·have h:=ite_f hg278 h
               apply AWp.exit
               apply seqQ_e
               obtain rfl:=oi h
               exact⟨(fun hc=>by cases hc),rfl,(mp [] _ _ hB)⟩
             ·obtain⟨rfl,hmat⟩:=hR
              apply blkQ_hit
              apply blkQ_n
              apply seqQ_n
              refine AWp.ghost hmat ?_
              refine rg (SQ tt) ?_
              obtain rfl:=oi h
              exact⟨rfl,(mp [] _ _ hB)⟩
            ·apply AWp.cond rfl<;>intro hg290
             ·have h:=ite_t hg290 h
              obtain⟨r291,hr291,h⟩:=bindS h
              obtain⟨hc292,h⟩:=chk_some h
              obtain⟨hc293,h⟩:=chk_some h
              apply rg (c (mv hN (q 4)) rfl (c (mv hN (q 16)) rfl (cg (cf hB fnOk101 (xref18_flags_ac s152.1 r291 hr291) (L rfl) (OpdL.cons (q 163) OpdL.nil)) rfl (c (mv hN (q 16)) rfl (c (mv hN (q 17)) rfl (cg (OpJ.frz (OpJ.appendN hB underlying67 tyE5 (nm:=1167) (by decide) (ys:=((mget keq3 m150 s152.1).getD ([]:List Int)).map (eI .u8)) (len:=((mget keq3 m150 s152.1).getD ([]:List Int)).length) (by simp) (map_sz (f:=(eI .u8)) (fun _=>rfl)) (by rw [List.length_map];exact lim_mulN hc292 (by decide)) (by rw [List.length_map];exact lim_leN hc292) (L rfl) Opd.nils (q 166)) (by simp)) rfl (c (OpJ.coe (v:=(.st [(i6 r291),(i6 s152.1),(.d (.list 1 (((mget keq3 m150 s152.1).getD ([]:List Int)).map (eI .u8))))])) (y:=(.st [(.int .i64 r291),(.int .i64 s152.1),(.list 1 (((mget keq3 m150 s152.1).getD ([]:List Int)).map (eI .u8)))])) (Co.st (CoL.cons (Co.d _) (CoL.cons (Co.d _) (CoL.cons (Co.d _) CoL.nil)))) rfl (OpJ.build (places:=[(0,1),(1,1),(2,1)]) ⟨underlying69,fun w=>by kernel_rfl⟩ tyZS69 (Opds.cons (q 164) (Opds.cons (q 165) (Opds.cons (q 167) Opds.nil))) (by kernel_rfl) (r:=(.st [(i6 r291),(i6 s152.1),(.d (.list 1 (((mget keq3 m150 s152.1).getD ([]:List Int)).map (eI .u8))))])) (by rfl) (L rfl))) rfl (c (buildSlice underlying33 tyS69 tyZD69 (by rfl) (by decide) (by decide) (Opds.cons (q 168) Opds.nil) (by kernel_rfl) (es:=([(.st [(.int .i64 r291),(.int .i64 s152.1),(.list 1 (((mget keq3 m150 s152.1).getD ([]:List Int)).map (eI .u8)))])]:List D)) (by rfl) (by rfl) (by kernel_rfl) (by simp) (L rfl)) rfl (cg (apd hB underlying33 tyE69 1170 e_aUnknown s152.2 ([(aUnknown.mk r291 s152.1 ((mget keq3 m150 s152.1).getD ([]:List Int)))]:List aUnknown) hc293 (L rfl) (q 162) (q 169)) rfl (c (assign (L rfl) (q 170)) rfl cn))))))))))
              exact hjj255 _ h _ _ (mp [(3004,1170)] _ _ hB)
             ·have h:=ite_f hg290 h
              apply AWp.skip
              exact hjj255 _ h _ _ (mp [] _ _ hB)
           ·have h:=ite_f hg249 h
            apply AWp.exit
            apply seqQ_e
            obtain rfl:=oi h
            exact⟨(fun hc=>by cases hc),rfl,(mp [] _ _ hB)⟩
          ·obtain⟨rfl,hmat⟩:=hR
           apply blkQ_hit
           apply seqQ_n
           refine AWp.ghost hmat ?_
           refine sr (SQ tt) ?_
           apply AWp.ret
           obtain rfl:=oi h
           exact rt (Mat.trans (Mat.freezeP (n:=3004) (e:=69) (sz:=3) (es:=p248.map e_aUnknown) (Ts:=[(2,(qe_aUnknown_3 p248))]) (Bs:=[]) (by rfl) (TwT.cons (x:=(.sref 3004 3 0 p248.length)) (by rfl) (FrzL.all (by first | rfl | (simp;done) | (simp;omega) | omega)) TwT.nil) TwB.nil) (mp [] [(2,(qe_aUnknown_3 p248)),(3,(i6 0))] [] hB)) [(qe_aUnknown_3 p248),(i6 0)] (Res.tmp (by rfl) (by rfl) (Res.tmp (by rfl) (by rfl) Res.nil)) rfl
         ·apply AWp.cond rfl<;>intro hg296
          ·have h:=ite_t hg296 h
           obtain⟨r297,hr297,h⟩:=bindS h
           apply rg (c (mv hN (q 5)) rfl (c (fo 1001 7 [5] hN underlying35 7 tyS3 (q 1)) rfl (c (la hN 35 tyS3 (q 149)) rfl (cg (cf hB fnOk106 (xref18_word_ac a0.fOTC 4 r297 hr297) (L rfl) (OpdL.cons (q 150) (OpdL.cons (ii 4) OpdL.nil))) rfl (cg (OpJ.mputM (h:=(eI .u8)) (e2:=5) (sz2:=1) (own:=[8,32]) (eq:=keq3) (l:=p137) (k:=35) (xs:=r297) (fun _ _=>rfl) tyU147 underlying3 (by decide) (q 148) (ii 35) (q 151)) rfl cn)))))
           exact hjj151 _ h _ _ (mp [] _ _ hB)
          ·have h:=ite_f hg296 h
           apply AWp.skip
           exact hjj151 _ h _ _ (mp [] _ _ hB)
      ·apply AWp.cond rfl<;>intro hg298
       ·have h:=ite_t hg298 h
        obtain⟨r299,hr299,h⟩:=bindS h
        apply rg (c (mv hN (q 5)) rfl (c (fo 1001 6 [4] hN underlying35 6 tyS3 (q 1)) rfl (c (la hN 35 tyS3 (q 100)) rfl (cg (cf hB fnOk106 (xref18_word_ac a0.fPref 4 r299 hr299) (L rfl) (OpdL.cons (q 101) (OpdL.cons (ii 4) OpdL.nil))) rfl (cg (OpJ.mputM (h:=(eI .u8)) (e2:=5) (sz2:=1) (own:=[8,32]) (eq:=keq3) (l:=m92) (k:=5) (xs:=r299) (fun _ _=>rfl) tyU147 underlying3 (by decide) (q 99) (ii 5) (q 102)) rfl cn)))))
        exact hjj97 _ h _ _ (mp [] _ _ hB)
       ·have h:=ite_f hg298 h
        apply AWp.skip
        exact hjj97 _ h _ _ (mp [] _ _ hB)
     ·apply AWp.cond rfl<;>intro hg300
      ·have h:=ite_t hg300 h
       obtain⟨r301,hr301,h⟩:=bindS h
       apply rg (c (mv hN (q 5)) rfl (c (fo 1001 5 [3] hN underlying35 5 tyS3 (q 1)) rfl (c (la hN 35 tyS3 (q 93)) rfl (cg (cf hB fnOk106 (xref18_word_ac a0.fMED 4 r301 hr301) (L rfl) (OpdL.cons (q 94) (OpdL.cons (ii 4) OpdL.nil))) rfl (cg (OpJ.mputM (h:=(eI .u8)) (e2:=5) (sz2:=1) (own:=[8,32]) (eq:=keq3) (l:=m88) (k:=4) (xs:=r301) (fun _ _=>rfl) tyU147 underlying3 (by decide) (q 92) (ii 4) (q 95)) rfl cn)))))
       exact hjj93 _ h _ _ (mp [] _ _ hB)
      ·have h:=ite_f hg300 h
       apply AWp.skip
       exact hjj93 _ h _ _ (mp [] _ _ hB)
    ·apply AWp.cond rfl<;>intro hg302
     ·have h:=ite_t hg302 h
      obtain⟨r303,hr303,h⟩:=bindS h
      apply rg (c (mv hN (q 5)) rfl (c (fo 1001 2 [2] hN underlying35 2 tyS27 (q 1)) rfl (c (la hN 35 tyS27 (q 86)) rfl (cg (cf hB fnOk84 (xref01_Bytes_ac a0.fNext r303 hr303) (L rfl) (OpdL.cons (q 87) OpdL.nil)) rfl (cg (OpJ.mputM (h:=(eI .u8)) (e2:=5) (sz2:=1) (own:=[8,32]) (eq:=keq3) (l:=m84) (k:=3) (xs:=r303) (fun _ _=>rfl) tyU147 underlying3 (by decide) (q 85) (ii 3) (q 88)) rfl cn)))))
      exact hjj89 _ h _ _ (mp [] _ _ hB)
     ·have h:=ite_f hg302 h
      apply AWp.skip
      exact hjj89 _ h _ _ (mp [] _ _ hB)
   ·apply AWp.cond rfl<;>intro hg304
    ·have h:=ite_t hg304 h
     apply sr (cg (OpJ.buildSliceR underlying67 tyS5 tyZD5 (by rfl) (by decide) (by decide) hB (nm:=1042) (by decide) (len:=([]:List Int).length) (by rfl) Opds.nil (by kernel_rfl) (es:=([]:List Int).map (eI .u8)) (by rfl) (by rfl) (by kernel_rfl) (by simp) (L rfl)) rfl (c (assign (L rfl) (q 42)) rfl cn))
     apply AWp.seq
     refine sr (SQ tt) ?_
     apply AWp.block
     obtain⟨p354,hx379,h⟩:=bindS h
     refine lg (xref18_Write_L4 a0) (fun s305:Int×(List Int)=>([(1,(pt 1001)),(4,.nils),(5,(.mref 1024)),(6,(.sref 3006 1 0 s305.2.length)),(44,(qe_aSegment_2 a0.fPath)),(45,(i6 (a0.fPath.length:Int))),(46,(i6 s305.1))]:EL)) (fun s305:Int×(List Int)=>([(1001,bd 35 (e_aAttrs a0)),(1024,some (.reg (mrow (eI .u8) 5 1 [8,32] m4 none))),(3006,some (.row 5 1 (s305.2.map (eI .u8))))]:OL)) (fun(p354:((List Int))) e E' O'=>e = .exit 0∧Mat B E' O' ([(1,(pt 1001)),(4,.nils),(5,(.mref 1024)),(6,(.sref 3006 1 0 p354.length))]:EL) ([(1001,bd 35 (e_aAttrs a0)),(1024,some (.reg (mrow (eI .u8) 5 1 [8,32] m4 none))),(3006,some (.row 5 1 (p354.map (eI .u8))))]:OL)) hx379 (mp [(3006,1042)] _ _ hB) (fun s305 y h => ?_) (fun e E' O' hR => ?_)
     ·unfold xref18_Write_L4 at h
      refine sr (SQ tt) ?_
      apply AWp.seq
      apply AWp.cond rfl<;>intro hg355
      ·have h:=ite_t hg355 h
       apply AWp.skip
       apply seqQ_n
       apply AWp.seq
       apply AWp.block
       obtain⟨x356,hx356,h⟩:=bindS h
       refine sr (SQ (fa hx356 tt)) ?_
       refine sr (SQ tt) ?_
       apply AWp.seq
       refine sr (SQ tt) ?_
       refine gh [(1,_),(4,_),(5,_),(6,_),(8,_),(9,_),(44,_),(45,_),(46,_),(51,_)] [(1001,some _),(1008,some _),(1024,some _),(3006,some _)] hB rfl rfl (by rfl) ?_
       refine AWp.cut h (fun m358:Int=>([(1,(pt 1001)),(4,.nils),(5,(.mref 1024)),(6,(.sref 3006 1 0 s305.2.length)),(8,(pt 1008)),(9,(.d (.int .u8 m358))),(44,(qe_aSegment_2 a0.fPath)),(45,(i6 (a0.fPath.length:Int))),(46,(i6 s305.1))]:EL)) (fun m358:Int=>([(1001,bd 35 (e_aAttrs a0)),(1008,bd 66 (e_aSegment x356)),(1024,some (.reg (mrow (eI .u8) 5 1 [8,32] m4 none))),(3006,some (.row 5 1 (s305.2.map (eI .u8))))]:OL)) (fun m358 h E' O' hmat => ?_) (fun j359 hjj359 h => ?_)
       ·apply seqQ_n
        refine AWp.ghost hmat ?_
        obtain⟨hc360,h⟩:=chk_some h
        refine sr (SQ (fa hc360 tt)) ?_
        refine sr (SQ tt) ?_
        apply AWp.block
        obtain⟨p370,hx376,h⟩:=bindS h
        refine lg (xref18_Write_L5 x356) (fun s361:Int×(List Int)=>([(1,(pt 1001)),(4,.nils),(5,(.mref 1024)),(6,(.sref 3006 1 0 s361.2.length)),(44,(qe_aSegment_2 a0.fPath)),(45,(i6 (a0.fPath.length:Int))),(46,(i6 s305.1)),(61,(qI_1 x356.fASNs)),(62,(i6 (x356.fASNs.length:Int))),(63,(i6 s361.1))]:EL)) (fun s361:Int×(List Int)=>([(1001,bd 35 (e_aAttrs a0)),(1024,some (.reg (mrow (eI .u8) 5 1 [8,32] m4 none))),(3006,some (.row 5 1 (s361.2.map (eI .u8))))]:OL)) (fun(p370:((List Int))) e E' O'=>e = .exit 2∧Mat B E' O' ([(1,(pt 1001)),(4,.nils),(5,(.mref 1024)),(6,(.sref 3006 1 0 p370.length)),(44,(qe_aSegment_2 a0.fPath)),(45,(i6 (a0.fPath.length:Int))),(46,(i6 s305.1))]:EL) ([(1001,bd 35 (e_aAttrs a0)),(1024,some (.reg (mrow (eI .u8) 5 1 [8,32] m4 none))),(3006,some (.row 5 1 (p370.map (eI .u8))))]:OL)) hx376 (mp [(3006,1059)] _ _ hB) (fun s361 y h => ?_) (fun e E' O' hR => ?_)
        ·unfold xref18_Write_L5 at h
         refine sr (SQ tt) ?_
         apply AWp.seq
         apply AWp.cond rfl<;>intro hg371
         ·have h:=ite_t hg371 h
          apply AWp.skip
          apply seqQ_n
          apply AWp.seq
          apply AWp.block
          obtain⟨x372,hx372,h⟩:=bindS h
          refine sr (SQ (fa hx372 tt)) ?_
          obtain⟨r373,hr373,h⟩:=bindS h
          obtain⟨hc374,h⟩:=chk_some h
          refine rg (SQ (fa (cl [] (xref18_word_ac x372 4 r373 hr373)) (fa hc374 tt))) ?_
          apply blkQ_n
          apply seqQ_n
          refine rg (SQ tt) ?_
          obtain rfl:=oi h
          exact⟨rfl,(mp [(3006,1070)] _ _ hB)⟩
         ·have h:=ite_f hg371 h
          apply AWp.exit
          apply seqQ_e
          obtain rfl:=oi h
          exact⟨(fun hc=>by cases hc),rfl,(mp [] _ _ hB)⟩
        ·obtain⟨rfl,hmat⟩:=hR
         apply blkQ_hit
         apply blkQ_n
         apply seqQ_n
         refine AWp.ghost hmat ?_
         refine rg (SQ tt) ?_
         obtain rfl:=oi h
         exact⟨rfl,(mp [] _ _ hB)⟩
       ·apply AWp.cond rfl<;>intro hg377
        ·have h:=ite_t hg377 h
         refine rg (SQ tt) ?_
         exact hjj359 _ h _ _ (mp [] _ _ hB)
        ·have h:=ite_f hg377 h
         apply AWp.skip
         exact hjj359 _ h _ _ (mp [] _ _ hB)
      ·have h:=ite_f hg355 h
       apply AWp.exit
       apply seqQ_e
       obtain rfl:=oi h
       exact⟨(fun hc=>by cases hc),rfl,(mp [] _ _ hB)⟩
     ·obtain⟨rfl,hmat⟩:=hR
      apply blkQ_hit
      apply seqQ_n
      refine AWp.ghost hmat ?_
      refine AWp.ghost (Mat.freezeP (n:=3006) (e:=5) (sz:=1) (es:=p354.map (eI .u8)) (Ts:=[(6,(.d (.list 1 (p354.map (eI .u8)))))]) (Bs:=[]) (by rfl) (TwT.cons (x:=(.sref 3006 1 0 p354.length)) (by rfl) (FrzL.all (by first | rfl | (simp;done) | (simp;omega) | omega)) TwT.nil) TwB.nil) ?_
      apply rg (c (mv hN (q 5)) rfl (c (mv hN (q 6)) rfl (cg (OpJ.mputM (h:=(eI .u8)) (e2:=5) (sz2:=1) (own:=[8,32]) (eq:=keq3) (l:=m4) (k:=2) (xs:=p354) (fun _ _=>rfl) tyU147 underlying3 (by decide) (q 73) (ii 2) (q 74)) rfl cn)))
      exact hjj85 _ h _ _ (mp [] _ _ hB)
    ·have h:=ite_f hg304 h
     apply AWp.skip
     exact hjj85 _ h _ _ (mp [] _ _ hB)
  ·apply AWp.cond rfl<;>intro hg380
   ·have h:=ite_t hg380 h
    apply rg (c (mv hN (q 5)) rfl (c (fo 1001 0 [0] hN underlying35 0 tyS3 (q 1)) rfl (c (la hN 35 tyS3 (q 29)) rfl (c (OpJ.conv underlying3 underlying5 (L rfl) (q 30)) rfl (c (buildSlice underlying67 tyS5 tyZD5 (by rfl) (by decide) (by decide) (Opds.cons (q 31) Opds.nil) (by kernel_rfl) (es:=([(.int .u8 (IntKind.u8.wrap a0.fOrigin))]:List D)) (by rfl) (by rfl) (by kernel_rfl) (by simp) (L rfl)) rfl (cg (OpJ.mputM (h:=(eI .u8)) (e2:=5) (sz2:=1) (own:=[8,32]) (eq:=keq3) (l:=([]:List (Int×(List Int)))) (k:=1) (xs:=([(IntKind.u8.wrap a0.fOrigin)]:List Int)) (fun _ _=>rfl) tyU147 underlying3 (by decide) (q 28) (ii 1) (q 32)) rfl cn))))))
    exact hjj5 _ h _ _ (mp [] _ _ hB)
   ·have h:=ite_f hg380 h
    apply AWp.skip
    exact hjj5 _ h _ _ (mp [] _ _ hB)
def xref19_codes_L0 (a0:(List aPrefix)) (a1:Bool) (s1:Int×(List Int)):Option ((((List Int)))⊕(Int×(List Int))) :=
 (if (decide (s1.1<(a0.length:Int)))=true then
 (idx a0 s1.1).bind fun x32 =>
 jn (fun m38:(List Int) =>
 some (.inr ((w64 (s1.1+1)),m38))) (fun j39 =>
 (if (x32.fAddr.fV6==a1)=true then
 chk (decide ((s1.2++([(IntKind.u8.wrap x32.fLen)]:List Int)).length≤LIM)) <|
 (xref01_Bytes x32.fAddr).bind fun r42 =>
 chk ((decide (0≤(w64 (Int.tdiv (w64 (x32.fLen+7)) 8)))&&decide (0≤(w64 (Int.tdiv (w64 (x32.fLen+7)) 8)).toNat)&&decide ((w64 (Int.tdiv (w64 (x32.fLen+7)) 8)).toNat≤r42.length))) <|
 chk (decide (((s1.2++([(IntKind.u8.wrap x32.fLen)]:List Int))++((r42.take ((w64 (Int.tdiv (w64 (x32.fLen+7)) 8)).toNat)).drop 0)).length≤LIM)) <|
 j39 ((s1.2++([(IntKind.u8.wrap x32.fLen)]:List Int))++((r42.take ((w64 (Int.tdiv (w64 (x32.fLen+7)) 8)).toNat)).drop 0))
 else
 j39 s1.2))
 else
 some (.inl s1.2))
def xref19_codes (a0:(List aPrefix)) (a1:Bool):Option ((List Int)) :=
 (loop (xref19_codes_L0 a0 a1) (0,([]:List Int))).bind fun p30 =>
 some p30
theorem xref19_codes_ac (a0:(List aPrefix)) (a1:Bool) (r:(List Int)) (h:xref19_codes a0 a1=some r):AC Tryz.prog 82 [(.d (.list 4 (a0.map e_aPrefix))),(.d (.bool a1))] [] (.d (.list 1 (r.map (eI .u8)))) []:=by
 refine ac2 Tryz.func82 rfl rfl fun B hB hN L => ?_
 delta xref19_codes at h
 refine sr (SQ tt) ?_
 refine sr (SQ tt) ?_
 apply AWp.seq
 refine sr (SQ tt) ?_
 apply AWp.block
 obtain⟨p30,hx46,h⟩:=bindS h
 refine lg (xref19_codes_L0 a0 a1) (fun s1:Int×(List Int)=>([(1,(bo a1)),(5,(.sref 3005 1 0 s1.2.length)),(8,(qe_aPrefix_4 a0)),(9,(i6 (a0.length:Int))),(10,(i6 s1.1))]:EL)) (fun s1:Int×(List Int)=>([(3005,some (.row 5 1 (s1.2.map (eI .u8))))]:OL)) (fun(p30:((List Int))) e E' O'=>e = .exit 0∧Mat B E' O' ([(5,(.sref 3005 1 0 p30.length))]:EL) ([(3005,some (.row 5 1 (p30.map (eI .u8))))]:OL)) hx46 (Mat.trans (Mat.beginP (n:=3005) (e:=5) (sz:=1) (Ts:=[(5,(.sref 3005 1 0 0))]) (Bs:=[]) hB (by decide) (by rfl) (by decide) (TwT.cons (x:=.nils) (by rfl) (Tw.leaf ⟨rfl,rfl⟩) TwT.nil) TwB.nil) (mp [] _ _ hB)) (fun s1 y h => ?_) (fun e E' O' hR => ?_)
 ·unfold xref19_codes_L0 at h
  refine sr (SQ tt) ?_
  apply AWp.seq
  apply AWp.cond rfl<;>intro hg31
  ·have h:=ite_t hg31 h
   apply AWp.skip
   apply seqQ_n
   apply AWp.seq
   apply AWp.block
   obtain⟨x32,hx32,h⟩:=bindS h
   refine sr (SQ (fa hx32 tt)) ?_
   refine sr (SQ tt) ?_
   refine gh [(1,_),(5,_),(7,_),(8,_),(9,_),(10,_),(18,_)] [(1007,some _),(3005,some _)] hB rfl rfl (by rfl) ?_
   refine AWp.cut h (fun m38:(List Int)=>([(1,(bo a1)),(5,(.sref 3005 1 0 m38.length)),(8,(qe_aPrefix_4 a0)),(9,(i6 (a0.length:Int))),(10,(i6 s1.1))]:EL)) (fun m38:(List Int)=>([(3005,some (.row 5 1 (m38.map (eI .u8))))]:OL)) (fun m38 h E' O' hmat => ?_) (fun j39 hjj39 h => ?_)
   ·apply blkQ_n
    apply seqQ_n
    refine AWp.ghost hmat ?_
    refine rg (SQ tt) ?_
    obtain rfl:=oi h
    exact⟨rfl,(mp [] _ _ hB)⟩
   ·apply AWp.cond rfl<;>intro hg40
    ·have h:=ite_t hg40 h
     obtain⟨hc41,h⟩:=chk_some h
     obtain⟨r42,hr42,h⟩:=bindS h
     obtain⟨hc43,h⟩:=chk_some h
     obtain⟨hc44,h⟩:=chk_some h
     apply dr (c (mv hN (q 5)) rfl (c (fo 1007 3 [1] hN underlying29 3 tyS3 (q 7)) rfl (c (la hN 29 tyS3 (q 20)) rfl (c (OpJ.conv underlying3 underlying5 (L rfl) (q 21)) rfl (c (buildSlice underlying67 tyS5 tyZD5 (by rfl) (by decide) (by decide) (Opds.cons (q 22) Opds.nil) (by kernel_rfl) (es:=([(.int .u8 (IntKind.u8.wrap x32.fLen))]:List D)) (by rfl) (by rfl) (by kernel_rfl) (by simp) (L rfl)) rfl (cg (apd hB underlying67 tyE5 1024 (eI .u8) s1.2 ([(IntKind.u8.wrap x32.fLen)]:List Int) hc41 (L rfl) (q 19) (q 23)) rfl (c (fo 1007 0 [0] hN underlying29 0 tyS27 (q 7)) rfl (c (la hN 29 tyS27 (q 25)) rfl (cg (cf hB fnOk84 (xref01_Bytes_ac x32.fAddr r42 hr42) (L rfl) (OpdL.cons (q 26) OpdL.nil)) rfl (c (fo 1007 3 [1] hN underlying29 3 tyS3 (q 7)) rfl (c (la hN 29 tyS3 (q 28)) rfl (c (add6 (L rfl) (q 29) (ii 7)) rfl (c (quo6 (L rfl) (q 30) (ii 8) (by decide)) rfl (c (OpJ.cutD underlying67 tyS5 (es':=((r42.take ((w64 (Int.tdiv (w64 (x32.fLen+7)) 8)).toNat)).drop 0).map (eI .u8)) (l:=0) (h:=(w64 (Int.tdiv (w64 (x32.fLen+7)) 8)).toNat) (.inl ⟨rfl,rfl,rfl⟩) (.inr ⟨_,_,_,rfl,(ot 31 (i6 (w64 (Int.tdiv (w64 (x32.fLen+7)) 8)))),(of_decide_eq_true (and_l2 (and_l2 hc43))),rfl⟩) (of_decide_eq_true (and_r2 (and_l2 hc43))) (by first | (simp;done) | simpa using (of_decide_eq_true (and_r2 hc43))) (by first | rw [List.map_drop,List.map_take] | (simp [List.map_take,List.map_drop];done) | simp [List.take_of_length_le]) (L rfl) (q 27)) rfl (cg (apd hB underlying67 tyE5 1033 (eI .u8) (s1.2++([(IntKind.u8.wrap x32.fLen)]:List Int)) ((r42.take ((w64 (Int.tdiv (w64 (x32.fLen+7)) 8)).toNat)).drop 0) hc44 (L rfl) (q 24) (q 32)) rfl (c (assign (L rfl) (q 33)) rfl cn)))))))))))))))) (by kernel_rfl) (by kernel_rfl)
     exact hjj39 _ h _ _ (mp [(3005,1033)] _ _ hB)
    ·have h:=ite_f hg40 h
     apply AWp.skip
     exact hjj39 _ h _ _ (mp [] _ _ hB)
  ·have h:=ite_f hg31 h
   apply AWp.exit
   apply seqQ_e
   obtain rfl:=oi h
   exact⟨(fun hc=>by cases hc),rfl,(mp [] _ _ hB)⟩
 ·obtain⟨rfl,hmat⟩:=hR
  apply blkQ_hit
  apply seqQ_n
  refine AWp.ghost hmat ?_
  refine sr (SQ tt) ?_
  apply AWp.ret
  obtain rfl:=oi h
  exact rt (Mat.trans (Mat.freezeP (n:=3005) (e:=5) (sz:=1) (es:=p30.map (eI .u8)) (Ts:=[(4,(.d (.list 1 (p30.map (eI .u8)))))]) (Bs:=[]) (by rfl) (TwT.cons (x:=(.sref 3005 1 0 p30.length)) (by rfl) (FrzL.all (by first | rfl | (simp;done) | (simp;omega) | omega)) TwT.nil) TwB.nil) (mp [] [(4,(.d (.list 1 (p30.map (eI .u8)))))] [] hB)) [(.d (.list 1 (p30.map (eI .u8))))] (Res.tmp (by rfl) (by rfl) Res.nil) rfl
def xref19_put_L0 (a0:(List aUnknown)) (a1:aUnknown) (s1:Int):Option (((Int))⊕(Int)) :=
 jn (fun m19:Bool =>
 (if m19=true then
 some (.inr (w64 (s1+1)))
 else
 some (.inl s1))) (fun j20 =>
 (if (decide (s1<(a0.length:Int)))=true then
 (idx a0 s1).bind fun x23 =>
 j20 (decide (x23.fType<a1.fType))
 else
 j20 false))
def xref19_put (a0:(List aUnknown)) (a1:aUnknown):Option ((List aUnknown)) :=
 (loop (xref19_put_L0 a0 a1) 0).bind fun p16 =>
 chk ((decide (0≤p16)&&decide (0≤p16.toNat)&&decide (p16.toNat≤a0.length))) <|
 chk (decide (((a0.take p16.toNat).drop 0).length≤LIM)) <|
 chk (decide ((((a0.take p16.toNat).drop 0)++[a1]).length≤LIM)) <|
 chk ((decide (0≤p16)&&decide (p16.toNat≤a0.length)&&decide (a0.length≤a0.length))) <|
 chk (decide (((((a0.take p16.toNat).drop 0)++[a1])++((a0.take a0.length).drop p16.toNat)).length≤LIM)) <|
 some ((((a0.take p16.toNat).drop 0)++[a1])++((a0.take a0.length).drop p16.toNat))
theorem xref19_put_ac (a0:(List aUnknown)) (a1:aUnknown) (r:(List aUnknown)) (h:xref19_put a0 a1=some r):AC Tryz.prog 83 [(.d (.list 3 (a0.map e_aUnknown))),(.d (e_aUnknown a1))] [] (.d (.list 3 (r.map e_aUnknown))) []:=by
 refine ac2 Tryz.func83 rfl rfl fun B hB hN L => ?_
 delta xref19_put at h
 refine sr (SQ tt) ?_
 refine sr (SQ tt) ?_
 apply AWp.seq
 apply AWp.block
 obtain⟨p16,hx25,h⟩:=bindS h
 refine lg (xref19_put_L0 a0 a1) (fun s1:Int=>([(0,(qe_aUnknown_3 a0)),(3,(pt 1003)),(5,(i6 s1))]:EL)) (fun s1:Int=>([(1003,bd 69 (e_aUnknown a1))]:OL)) (fun(p16:(Int)) e E' O'=>e = .exit 0∧Mat B E' O' ([(0,(qe_aUnknown_3 a0)),(3,(pt 1003)),(5,(i6 p16))]:EL) ([(1003,bd 69 (e_aUnknown a1))]:OL)) hx25 (mp [] _ _ hB) (fun s1 y h => ?_) (fun e E' O' hR => ?_)
 ·unfold xref19_put_L0 at h
  apply AWp.seq
  apply AWp.seq
  refine AWp.cut h (fun m19:Bool=>([(0,(qe_aUnknown_3 a0)),(3,(pt 1003)),(5,(i6 s1)),(19,(bo m19))]:EL)) (fun m19:Bool=>([(1003,bd 69 (e_aUnknown a1))]:OL)) (fun m19 h E' O' hmat => ?_) (fun j20 hjj20 h => ?_)
  ·apply seqQ_n
   refine AWp.ghost hmat ?_
   apply AWp.cond rfl<;>intro hg21
   ·have h:=ite_t hg21 h
    apply AWp.skip
    apply seqQ_n
    apply AWp.block
    refine rg (SQ tt) ?_
    apply blkQ_n
    obtain rfl:=oi h
    exact⟨rfl,(mp [] _ _ hB)⟩
   ·have h:=ite_f hg21 h
    apply AWp.exit
    apply seqQ_e
    obtain rfl:=oi h
    exact⟨(fun hc=>by cases hc),rfl,(mp [] _ _ hB)⟩
  ·rcases bft (decide (s1<(a0.length:Int))) with hg22 | hg22
   ·have h:=ite_t hg22 h
    obtain⟨_,hx23,h⟩:=bindS h
    refine drS (SQ (fa hg22 (fa hx23 tt))) ?_
    exact hjj20 _ h _ _ (mp [] _ _ hB)
   ·have h:=ite_f hg22 h
    refine drS (SQ (fa hg22 tt)) ?_
    exact hjj20 _ h _ _ (mp [] _ _ hB)
 ·obtain⟨rfl,hmat⟩:=hR
  apply blkQ_hit
  apply seqQ_n
  refine AWp.ghost hmat ?_
  obtain⟨hc26,h⟩:=chk_some h
  obtain⟨hc27,h⟩:=chk_some h
  obtain⟨hc28,h⟩:=chk_some h
  obtain⟨hc29,h⟩:=chk_some h
  obtain⟨hc30,h⟩:=chk_some h
  apply sd (c (mv hN (q 0)) rfl (c (mv hN (q 5)) rfl (c (OpJ.cutD underlying33 tyS69 (es':=((a0.take p16.toNat).drop 0).map e_aUnknown) (l:=0) (h:=p16.toNat) (.inl ⟨rfl,rfl,rfl⟩) (.inr ⟨_,_,_,rfl,(ot 23 (i6 p16)),(of_decide_eq_true (and_l2 (and_l2 hc26))),rfl⟩) (of_decide_eq_true (and_r2 (and_l2 hc26))) (by first | (simp;done) | simpa using (of_decide_eq_true (and_r2 hc26))) (by first | rw [List.map_drop,List.map_take] | (simp [List.map_take,List.map_drop];done) | simp [List.take_of_length_le]) (L rfl) (q 22)) rfl (cg (OpJ.appendN hB underlying33 tyE69 (nm:=1025) (by decide) (ys:=((a0.take p16.toNat).drop 0).map e_aUnknown) (len:=((a0.take p16.toNat).drop 0).length) (by simp) (map_sz (f:=e_aUnknown) (fun _=>rfl)) (by rw [List.length_map];exact lim_mulN hc27 (by decide)) (by rw [List.length_map];exact lim_leN hc27) (L rfl) Opd.nils (q 24)) rfl (c (lb hN 69 _ _ tyS69 (At.here _) (q 3)) rfl (c (buildSlice underlying33 tyS69 tyZD69 (by rfl) (by decide) (by decide) (Opds.cons (q 26) Opds.nil) (by kernel_rfl) (es:=([(e_aUnknown a1)]:List D)) (by rfl) (by rfl) (by kernel_rfl) (by simp) (L rfl)) rfl (cg (apd hB underlying33 tyE69 1028 e_aUnknown ((a0.take p16.toNat).drop 0) [a1] hc28 (L rfl) (q 25) (q 27)) rfl (c (mv hN (q 0)) rfl (c (mv hN (q 5)) rfl (c (OpJ.cutD underlying33 tyS69 (es':=((a0.take a0.length).drop p16.toNat).map e_aUnknown) (l:=p16.toNat) (h:=a0.length) (.inr ⟨_,_,_,rfl,(ot 30 (i6 p16)),(of_decide_eq_true (and_l2 (and_l2 hc29))),rfl⟩) (.inl ⟨rfl,by simp,rfl⟩) (of_decide_eq_true (and_r2 (and_l2 hc29))) (by first | (simp;done) | simpa using (of_decide_eq_true (and_r2 hc29))) (by first | rw [List.map_drop,List.map_take] | (simp [List.map_take,List.map_drop];done) | simp [List.take_of_length_le]) (L rfl) (q 29)) rfl (cg (apd hB underlying33 tyE69 1032 e_aUnknown (((a0.take p16.toNat).drop 0)++[a1]) ((a0.take a0.length).drop p16.toNat) hc30 (L rfl) (q 28) (q 31)) rfl (c (assign (L rfl) (q 32)) rfl cn)))))))))))) (by kernel_rfl) (by kernel_rfl)
  apply AWp.ret
  obtain rfl:=oi h
  exact rt (Mat.trans (Mat.freezeP (n:=1032) (e:=69) (sz:=3) (es:=((((a0.take p16.toNat).drop 0)++[a1])++((a0.take a0.length).drop p16.toNat)).map e_aUnknown) (Ts:=[(4,(qe_aUnknown_3 ((((a0.take p16.toNat).drop 0)++[a1])++((a0.take a0.length).drop p16.toNat))))]) (Bs:=[]) (by rfl) (TwT.cons (x:=(.sref 1032 3 0 (((((a0.take p16.toNat).drop 0)++[a1])++((a0.take a0.length).drop p16.toNat)).length))) (by rfl) (FrzL.all (by first | rfl | (simp;done) | (simp;omega) | omega)) TwT.nil) TwB.nil) (mp [] [(4,(qe_aUnknown_3 ((((a0.take p16.toNat).drop 0)++[a1])++((a0.take a0.length).drop p16.toNat))))] [] hB)) [(qe_aUnknown_3 ((((a0.take p16.toNat).drop 0)++[a1])++((a0.take a0.length).drop p16.toNat)))] (Res.tmp (by rfl) (by rfl) Res.nil) rfl
def xref18_Join_L0 (a0:(List aUnknown)) (s1:Int):Option (((Unit)⊕(Unit))⊕(Int)) :=
 (if (decide (s1<(a0.length:Int)))=true then
 (idx a0 s1).bind fun x11 =>
 (if (((((decide (x11.fFlags<0)) || (decide (255<x11.fFlags))) || (decide (x11.fType<0))) || (decide (255<x11.fType))) || (decide (65535<(x11.fData.length:Int))))=true then
 some (.inl (.inl ()))
 else
 some (.inr (w64 (s1+1))))
 else
 some (.inl (.inr ())))
def xref18_Join_L1 (a0:(List aUnknown)) (s15:Int×(List Int)):Option ((((List Int)))⊕(Int×(List Int))) :=
 (if (decide (s15.1<(a0.length:Int)))=true then
 (idx a0 s15.1).bind fun x40 =>
 jn (fun m44:(List Int) =>
 chk (decide ((m44++x40.fData).length≤LIM)) <|
 some (.inr ((w64 (s15.1+1)),(m44++x40.fData)))) (fun j45 =>
 (if (decide (255<(x40.fData.length:Int)))=true then
 chk (decide ((s15.2++([(bitI .or .u8 (bitI .and .u8 (IntKind.u8.wrap x40.fFlags) 224) 16),(IntKind.u8.wrap x40.fType),(IntKind.u8.wrap (shrI .i64 (x40.fData.length:Int) 8)),(IntKind.u8.wrap (x40.fData.length:Int))]:List Int)).length≤LIM)) <|
 j45 (s15.2++([(bitI .or .u8 (bitI .and .u8 (IntKind.u8.wrap x40.fFlags) 224) 16),(IntKind.u8.wrap x40.fType),(IntKind.u8.wrap (shrI .i64 (x40.fData.length:Int) 8)),(IntKind.u8.wrap (x40.fData.length:Int))]:List Int))
 else
 chk (decide ((s15.2++([(bitI .and .u8 (IntKind.u8.wrap x40.fFlags) 224),(IntKind.u8.wrap x40.fType),(IntKind.u8.wrap (x40.fData.length:Int))]:List Int)).length≤LIM)) <|
 j45 (s15.2++([(bitI .and .u8 (IntKind.u8.wrap x40.fFlags) 224),(IntKind.u8.wrap x40.fType),(IntKind.u8.wrap (x40.fData.length:Int))]:List Int))))
 else
 some (.inl s15.2))
def xref18_Join (a0:(List aUnknown)):Option ((List Int)×Int) :=
 (loop (xref18_Join_L0 a0) 0).bind fun x13=>match x13 with
 | (.inl _) =>
  some (([]:List Int),1)
 | (.inr _) =>
  (loop (xref18_Join_L1 a0) (0,([]:List Int))).bind fun p38 =>
  (if (decide (2048<(p38.length:Int)))=true then
  some (([]:List Int),3)
  else
  some (p38,0))
theorem xref18_Join_ac (a0:(List aUnknown)) (r:(List Int)×Int) (h:xref18_Join a0=some r):AC Tryz.prog 85 [(.d (.list 3 (a0.map e_aUnknown)))] [] (.tup [(.d (.list 1 (r.1.map (eI .u8)))),(.d (.int .i64 r.2))]) []:=by
 refine ac2 Tryz.func85 rfl rfl fun B hB hN L => ?_
 delta xref18_Join at h
 refine sr (SQ tt) ?_
 apply AWp.seq
 refine sr (SQ tt) ?_
 apply AWp.block
 obtain⟨x13,hx14,h⟩:=bindS h
 refine lg (xref18_Join_L0 a0) (fun s1:Int=>([(0,(qe_aUnknown_3 a0)),(10,(qe_aUnknown_3 a0)),(11,(i6 (a0.length:Int))),(12,(i6 s1))]:EL)) (fun s1:Int=>([]:OL)) (fun(x:(Unit)⊕(Unit)) e E' O'=>match x with | (.inl _p)=>e = .ret∧Mat B E' O' ([(2,.nils),(3,(i6 1))]:EL) ([]:OL) | (.inr _p)=>e = .exit 0∧Mat B E' O' ([(0,(qe_aUnknown_3 a0))]:EL) ([]:OL)) hx14 (mp [] _ _ hB) (fun s1 y h => ?_) (fun e E' O' hR => ?_)
 ·unfold xref18_Join_L0 at h
  refine sr (SQ tt) ?_
  apply AWp.seq
  apply AWp.cond rfl<;>intro hg10
  ·have h:=ite_t hg10 h
   apply AWp.skip
   apply seqQ_n
   apply AWp.seq
   apply AWp.block
   obtain⟨_,hx11,h⟩:=bindS h
   refine sr (SQ (fa hx11 tt)) ?_
   refine sr (SQ tt) ?_
   apply AWp.cond rfl<;>intro hg12
   ·have h:=ite_t hg12 h
    refine sr (SQ tt) ?_
    apply AWp.ret
    apply blkQ_r
    apply seqQ_r
    obtain rfl:=oi h
    exact⟨(fun hc=>by cases hc),rfl,(mp [] _ _ hB)⟩
   ·have h:=ite_f hg12 h
    apply AWp.skip
    apply blkQ_n
    apply seqQ_n
    refine rg (SQ tt) ?_
    obtain rfl:=oi h
    exact⟨rfl,(mp [] _ _ hB)⟩
  ·have h:=ite_f hg10 h
   apply AWp.exit
   apply seqQ_e
   obtain rfl:=oi h
   exact⟨(fun hc=>by cases hc),rfl,(mp [] _ _ hB)⟩
 ·rcases x13 with _ | _
  ·obtain⟨rfl,hmat⟩:=hR
   apply blkQ_r
   apply seqQ_r
   obtain rfl:=oi h
   exact rt (Mat.trans hmat (Mat.trans (Mat.coeP (Ts:=[(2,(.d (.list 1 (([]:List Int).map (eI .u8)))))]) (Bs:=[]) (TwT.cons (x:=.nils) (by rfl) (Tw.leaf ⟨_,(Co.nils 1),rfl⟩) TwT.nil) TwB.nil) (mp [] [(2,(.d (.list 1 (([]:List Int).map (eI .u8))))),(3,(i6 1))] [] hB))) [(.d (.list 1 (([]:List Int).map (eI .u8)))),(i6 1)] (Res.tmp (by rfl) (by rfl) (Res.tmp (by rfl) (by rfl) Res.nil)) rfl
  ·obtain⟨rfl,hmat⟩:=hR
   apply blkQ_hit
   apply seqQ_n
   refine AWp.ghost hmat ?_
   refine sr (SQ tt) ?_
   apply AWp.seq
   refine sr (SQ tt) ?_
   apply AWp.block
   obtain⟨p38,hx51,h⟩:=bindS h
   refine lg (xref18_Join_L1 a0) (fun s15:Int×(List Int)=>([(6,(.sref 3006 1 0 s15.2.length)),(41,(qe_aUnknown_3 a0)),(42,(i6 (a0.length:Int))),(43,(i6 s15.1))]:EL)) (fun s15:Int×(List Int)=>([(3006,some (.row 5 1 (s15.2.map (eI .u8))))]:OL)) (fun(p38:((List Int))) e E' O'=>e = .exit 2∧Mat B E' O' ([(6,(.sref 3006 1 0 p38.length))]:EL) ([(3006,some (.row 5 1 (p38.map (eI .u8))))]:OL)) hx51 (Mat.trans (Mat.beginP (n:=3006) (e:=5) (sz:=1) (Ts:=[(6,(.sref 3006 1 0 0))]) (Bs:=[]) hB (by decide) (by rfl) (by decide) (TwT.cons (x:=.nils) (by rfl) (Tw.leaf ⟨rfl,rfl⟩) TwT.nil) TwB.nil) (mp [] _ _ hB)) (fun s15 y h => ?_) (fun e E' O' hR => ?_)
   ·unfold xref18_Join_L1 at h
    refine sr (SQ tt) ?_
    apply AWp.seq
    apply AWp.cond rfl<;>intro hg39
    ·have h:=ite_t hg39 h
     apply AWp.skip
     apply seqQ_n
     apply AWp.seq
     apply AWp.block
     obtain⟨x40,hx40,h⟩:=bindS h
     refine sr (SQ (fa hx40 tt)) ?_
     refine sr (SQ tt) ?_
     apply AWp.seq
     refine sr (SQ tt) ?_
     refine gh [(6,_),(8,_),(9,_),(41,_),(42,_),(43,_),(51,_)] [(1008,some _),(3006,some _)] hB rfl rfl (by rfl) ?_
     refine AWp.cut h (fun m44:(List Int)=>([(6,(.sref 3006 1 0 m44.length)),(8,(pt 1008)),(41,(qe_aUnknown_3 a0)),(42,(i6 (a0.length:Int))),(43,(i6 s15.1))]:EL)) (fun m44:(List Int)=>([(1008,bd 69 (e_aUnknown x40)),(3006,some (.row 5 1 (m44.map (eI .u8))))]:OL)) (fun m44 h E' O' hmat => ?_) (fun j45 hjj45 h => ?_)
     ·apply seqQ_n
      refine AWp.ghost hmat ?_
      obtain⟨hc46,h⟩:=chk_some h
      refine rg (SQ (fa hc46 tt)) ?_
      apply blkQ_n
      apply seqQ_n
      refine rg (SQ tt) ?_
      obtain rfl:=oi h
      exact⟨rfl,(mp [(3006,1083)] _ _ hB)⟩
     ·apply AWp.cond rfl<;>intro hg47
      ·have h:=ite_t hg47 h
       obtain⟨hc48,h⟩:=chk_some h
       refine rg (SQ (fa hc48 tt)) ?_
       exact hjj45 _ h _ _ (mp [(3006,1067)] _ _ hB)
      ·have h:=ite_f hg47 h
       obtain⟨hc49,h⟩:=chk_some h
       refine rg (SQ (fa hc49 tt)) ?_
       exact hjj45 _ h _ _ (mp [(3006,1079)] _ _ hB)
    ·have h:=ite_f hg39 h
     apply AWp.exit
     apply seqQ_e
     obtain rfl:=oi h
     exact⟨(fun hc=>by cases hc),rfl,(mp [] _ _ hB)⟩
   ·obtain⟨rfl,hmat⟩:=hR
    apply blkQ_hit
    apply seqQ_n
    refine AWp.ghost hmat ?_
    apply AWp.seq
    refine sr (SQ tt) ?_
    apply AWp.cond rfl<;>intro hg52
    ·have h:=ite_t hg52 h
     refine sr (SQ tt) ?_
     apply AWp.ret
     apply seqQ_r
     obtain rfl:=oi h
     exact rt (Mat.trans (Mat.coeP (Ts:=[(2,(.d (.list 1 (([]:List Int).map (eI .u8)))))]) (Bs:=[]) (TwT.cons (x:=.nils) (by rfl) (Tw.leaf ⟨_,(Co.nils 1),rfl⟩) TwT.nil) TwB.nil) (mp [] [(2,(.d (.list 1 (([]:List Int).map (eI .u8))))),(3,(i6 3))] [] hB)) [(.d (.list 1 (([]:List Int).map (eI .u8)))),(i6 3)] (Res.tmp (by rfl) (by rfl) (Res.tmp (by rfl) (by rfl) Res.nil)) rfl
    ·have h:=ite_f hg52 h
     apply AWp.skip
     apply seqQ_n
     refine sr (SQ tt) ?_
     apply AWp.ret
     obtain rfl:=oi h
     exact rt (Mat.trans (Mat.freezeP (n:=3006) (e:=5) (sz:=1) (es:=p38.map (eI .u8)) (Ts:=[(2,(.d (.list 1 (p38.map (eI .u8)))))]) (Bs:=[]) (by rfl) (TwT.cons (x:=(.sref 3006 1 0 p38.length)) (by rfl) (FrzL.all (by first | rfl | (simp;done) | (simp;omega) | omega)) TwT.nil) TwB.nil) (mp [] [(2,(.d (.list 1 (p38.map (eI .u8))))),(3,(i6 0))] [] hB)) [(.d (.list 1 (p38.map (eI .u8)))),(i6 0)] (Res.tmp (by rfl) (by rfl) (Res.tmp (by rfl) (by rfl) Res.nil)) rfl
def xref19_parts (a0:aUpdate):Option ((List Int)×Int) :=
 jn (fun m4:(List aUnknown) =>
 (xref19_codes a0.fAnnounce true).bind fun r6 =>
 jn (fun m17:(List aUnknown) =>
 (xref19_codes a0.fWithdraw true).bind fun r19 =>
 jn (fun m24:(List aUnknown) =>
 (xref18_Join m24).bind fun r26 =>
 (if (r26.2 != 0)=true then
 some (([]:List Int),r26.2)
 else
 (xref19_codes a0.fWithdraw false).bind fun r28 =>
 chk (decide ((([(IntKind.u8.wrap (shrI .i64 (r28.length:Int) 8)),(IntKind.u8.wrap (r28.length:Int))]:List Int)++r28).length≤LIM)) <|
 chk (decide (((([(IntKind.u8.wrap (shrI .i64 (r28.length:Int) 8)),(IntKind.u8.wrap (r28.length:Int))]:List Int)++r28)++([(IntKind.u8.wrap (shrI .i64 (r26.1.length:Int) 8)),(IntKind.u8.wrap (r26.1.length:Int))]:List Int)).length≤LIM)) <|
 chk (decide ((((([(IntKind.u8.wrap (shrI .i64 (r28.length:Int) 8)),(IntKind.u8.wrap (r28.length:Int))]:List Int)++r28)++([(IntKind.u8.wrap (shrI .i64 (r26.1.length:Int) 8)),(IntKind.u8.wrap (r26.1.length:Int))]:List Int))++r26.1).length≤LIM)) <|
 (xref19_codes a0.fAnnounce false).bind fun r32 =>
 chk (decide (((((([(IntKind.u8.wrap (shrI .i64 (r28.length:Int) 8)),(IntKind.u8.wrap (r28.length:Int))]:List Int)++r28)++([(IntKind.u8.wrap (shrI .i64 (r26.1.length:Int) 8)),(IntKind.u8.wrap (r26.1.length:Int))]:List Int))++r26.1)++r32).length≤LIM)) <|
 some (((((([(IntKind.u8.wrap (shrI .i64 (r28.length:Int) 8)),(IntKind.u8.wrap (r28.length:Int))]:List Int)++r28)++([(IntKind.u8.wrap (shrI .i64 (r26.1.length:Int) 8)),(IntKind.u8.wrap (r26.1.length:Int))]:List Int))++r26.1)++r32),0))) (fun j25 =>
 (if (decide (0<(r19.length:Int)))=true then
 chk (decide ((([0,2,1]:List Int)++r19).length≤LIM)) <|
 (xref19_put m17 (aUnknown.mk 128 15 (([0,2,1]:List Int)++r19))).bind fun r36 =>
 j25 r36
 else
 j25 m17))) (fun j18 =>
 (if (decide (0<(r6.length:Int)))=true then
 (xref01_Bytes a0.fAttrs.fNext).bind fun r38 =>
 chk (decide ((([0,2,1,16]:List Int)++r38).length≤LIM)) <|
 chk (decide (((([0,2,1,16]:List Int)++r38)++([0]:List Int)).length≤LIM)) <|
 chk (decide ((((([0,2,1,16]:List Int)++r38)++([0]:List Int))++r6).length≤LIM)) <|
 (xref19_put m4 (aUnknown.mk 128 14 (((([0,2,1,16]:List Int)++r38)++([0]:List Int))++r6))).bind fun r42 =>
 j18 r42
 else
 j18 m4))) (fun j5 =>
 (if (decide (0<(a0.fAnnounce.length:Int)))=true then
 (xref18_Write a0.fAttrs).bind fun r44 =>
 (if (r44.2 != 0)=true then
 some (([]:List Int),r44.2)
 else
 j5 r44.1)
 else
 j5 ([]:List aUnknown)))
theorem xref19_parts_ac (a0:aUpdate) (r:(List Int)×Int) (h:xref19_parts a0=some r):AC Tryz.prog 45 [(.d (e_aUpdate a0))] [] (.tup [(.d (.list 1 (r.1.map (eI .u8)))),(.d (.int .i64 r.2))]) []:=by
 refine ac2 Tryz.func45 rfl rfl fun B hB hN L => ?_
 delta xref19_parts at h
 refine sr (SQ tt) ?_
 refine sr (SQ tt) ?_
 apply AWp.seq
 refine sr (SQ tt) ?_
 refine gh [(1,_),(4,_),(16,_)] [(1001,some _)] hB rfl rfl (by rfl) ?_
 refine AWp.cut h (fun m4:(List aUnknown)=>([(1,(pt 1001)),(4,(qe_aUnknown_3 m4))]:EL)) (fun m4:(List aUnknown)=>([(1001,bd 61 (e_aUpdate a0))]:OL)) (fun m4 h E' O' hmat => ?_) (fun j5 hjj5 h => ?_)
 ·apply seqQ_n
  refine AWp.ghost hmat ?_
  apply AWp.seq
  obtain⟨r6,hr6,h⟩:=bindS h
  refine sr (SQ (fa (cl [] (xref19_codes_ac a0.fAnnounce true r6 hr6)) tt)) ?_
  refine sr (SQ tt) ?_
  refine gh [(1,_),(4,_),(7,_),(32,_)] [(1001,some _)] hB rfl rfl (by rfl) ?_
  refine AWp.cut h (fun m17:(List aUnknown)=>([(1,(pt 1001)),(4,(qe_aUnknown_3 m17))]:EL)) (fun m17:(List aUnknown)=>([(1001,bd 61 (e_aUpdate a0))]:OL)) (fun m17 h E' O' hmat => ?_) (fun j18 hjj18 h => ?_)
  ·apply seqQ_n
   refine AWp.ghost hmat ?_
   apply AWp.seq
   obtain⟨r19,hr19,h⟩:=bindS h
   refine sr (SQ (fa (cl [] (xref19_codes_ac a0.fWithdraw true r19 hr19)) tt)) ?_
   refine sr (SQ tt) ?_
   refine gh [(1,_),(4,_),(8,_),(51,_)] [(1001,some _)] hB rfl rfl (by rfl) ?_
   refine AWp.cut h (fun m24:(List aUnknown)=>([(1,(pt 1001)),(4,(qe_aUnknown_3 m24))]:EL)) (fun m24:(List aUnknown)=>([(1001,bd 61 (e_aUpdate a0))]:OL)) (fun m24 h E' O' hmat => ?_) (fun j25 hjj25 h => ?_)
   ·apply seqQ_n
    refine AWp.ghost hmat ?_
    obtain⟨r26,hr26,h⟩:=bindS h
    refine sr (SQ (fa (cl [] (xref18_Join_ac m24 r26 hr26)) tt)) ?_
    apply AWp.seq
    refine sr (SQ tt) ?_
    apply AWp.cond rfl<;>intro hg27
    ·have h:=ite_t hg27 h
     refine sr (SQ tt) ?_
     apply AWp.ret
     apply seqQ_r
     obtain rfl:=oi h
     exact rt (Mat.trans (Mat.coeP (Ts:=[(2,(.d (.list 1 (([]:List Int).map (eI .u8)))))]) (Bs:=[]) (TwT.cons (x:=.nils) (by rfl) (Tw.leaf ⟨_,(Co.nils 1),rfl⟩) TwT.nil) TwB.nil) (mp [] [(2,(.d (.list 1 (([]:List Int).map (eI .u8))))),(3,(i6 r26.2))] [] hB)) [(.d (.list 1 (([]:List Int).map (eI .u8)))),(i6 r26.2)] (Res.tmp (by rfl) (by rfl) (Res.tmp (by rfl) (by rfl) Res.nil)) rfl
    ·have h:=ite_f hg27 h
     apply AWp.skip
     apply seqQ_n
     obtain⟨r28,hr28,h⟩:=bindS h
     refine sr (SQ (fa (cl [] (xref19_codes_ac a0.fWithdraw false r28 hr28)) tt)) ?_
     obtain⟨hc29,h⟩:=chk_some h
     apply sr (c (mv hN (q 11)) rfl (c (OpJ.val (v':=(i6 (r28.length:Int))) (by simp) (lenD underlying67 (L rfl) (q 69))) rfl (c (OpJ.shr (L rfl) (q 70) (Opd.int .u64 (8)) (by decide)) rfl (c (OpJ.conv underlying3 underlying5 (L rfl) (q 71)) rfl (c (mv hN (q 11)) rfl (c (OpJ.val (v':=(i6 (r28.length:Int))) (by simp) (lenD underlying67 (L rfl) (q 73))) rfl (c (OpJ.conv underlying3 underlying5 (L rfl) (q 74)) rfl (cg (OpJ.buildSliceR underlying67 tyS5 tyZD5 (by rfl) (by decide) (by decide) hB (nm:=1076) (by decide) (len:=([(IntKind.u8.wrap (shrI .i64 (r28.length:Int) 8)),(IntKind.u8.wrap (r28.length:Int))]:List Int).length) (by rfl) (Opds.cons (q 72) (Opds.cons (q 75) Opds.nil)) (by kernel_rfl) (es:=([(IntKind.u8.wrap (shrI .i64 (r28.length:Int) 8)),(IntKind.u8.wrap (r28.length:Int))]:List Int).map (eI .u8)) (by rfl) (by rfl) (by kernel_rfl) (by simp) (L rfl)) rfl (c (mv hN (q 11)) rfl (cg (apd hB underlying67 tyE5 1078 (eI .u8) ([(IntKind.u8.wrap (shrI .i64 (r28.length:Int) 8)),(IntKind.u8.wrap (r28.length:Int))]:List Int) r28 hc29 (L rfl) (q 76) (q 77)) rfl (c (assign (L rfl) (q 78)) rfl cn)))))))))))
     obtain⟨hc30,h⟩:=chk_some h
     obtain⟨hc31,h⟩:=chk_some h
     refine sr (SQ (fa hc30 (fa hc31 tt))) ?_
     obtain⟨r32,hr32,h⟩:=bindS h
     obtain⟨hc33,h⟩:=chk_some h
     refine sr (SQ (fa (cl [] (xref19_codes_ac a0.fAnnounce false r32 hr32)) (fa hc33 tt))) ?_
     apply AWp.ret
     obtain rfl:=oi h
     exact rt (Mat.trans (Mat.freezeP (n:=1095) (e:=5) (sz:=1) (es:=((((([(IntKind.u8.wrap (shrI .i64 (r28.length:Int) 8)),(IntKind.u8.wrap (r28.length:Int))]:List Int)++r28)++([(IntKind.u8.wrap (shrI .i64 (r26.1.length:Int) 8)),(IntKind.u8.wrap (r26.1.length:Int))]:List Int))++r26.1)++r32).map (eI .u8)) (Ts:=[(2,(.d (.list 1 (((((([(IntKind.u8.wrap (shrI .i64 (r28.length:Int) 8)),(IntKind.u8.wrap (r28.length:Int))]:List Int)++r28)++([(IntKind.u8.wrap (shrI .i64 (r26.1.length:Int) 8)),(IntKind.u8.wrap (r26.1.length:Int))]:List Int))++r26.1)++r32).map (eI .u8)))))]) (Bs:=[]) (by rfl) (TwT.cons (x:=(.sref 1095 1 0 (((((([(IntKind.u8.wrap (shrI .i64 (r28.length:Int) 8)),(IntKind.u8.wrap (r28.length:Int))]:List Int)++r28)++([(IntKind.u8.wrap (shrI .i64 (r26.1.length:Int) 8)),(IntKind.u8.wrap (r26.1.length:Int))]:List Int))++r26.1)++r32).length))) (by rfl) (FrzL.all (by first | rfl | (simp;done) | (simp;omega) | omega)) TwT.nil) TwB.nil) (mp [] [(2,(.d (.list 1 (((((([(IntKind.u8.wrap (shrI .i64 (r28.length:Int) 8)),(IntKind.u8.wrap (r28.length:Int))]:List Int)++r28)++([(IntKind.u8.wrap (shrI .i64 (r26.1.length:Int) 8)),(IntKind.u8.wrap (r26.1.length:Int))]:List Int))++r26.1)++r32).map (eI .u8))))),(3,(i6 0))] [] hB)) [(.d (.list 1 (((((([(IntKind.u8.wrap (shrI .i64 (r28.length:Int) 8)),(IntKind.u8.wrap (r28.length:Int))]:List Int)++r28)++([(IntKind.u8.wrap (shrI .i64 (r26.1.length:Int) 8)),(IntKind.u8.wrap (r26.1.length:Int))]:List Int))++r26.1)++r32).map (eI .u8)))),(i6 0)] (Res.tmp (by rfl) (by rfl) (Res.tmp (by rfl) (by rfl) Res.nil)) rfl
   ·apply AWp.cond rfl<;>intro hg34
    ·have h:=ite_t hg34 h
     obtain⟨hc35,h⟩:=chk_some h
     obtain⟨r36,hr36,h⟩:=bindS h
     apply rg (c (mv hN (q 4)) rfl (cg (OpJ.buildSliceR underlying67 tyS5 tyZD5 (by rfl) (by decide) (by decide) hB (nm:=1053) (by decide) (len:=([0,2,1]:List Int).length) (by rfl) (Opds.cons (Opd.int .u8 (0)) (Opds.cons (Opd.int .u8 (2)) (Opds.cons (Opd.int .u8 (1)) Opds.nil))) (by kernel_rfl) (es:=([0,2,1]:List Int).map (eI .u8)) (by rfl) (by rfl) (by kernel_rfl) (by simp) (L rfl)) rfl (c (mv hN (q 8)) rfl (cg (OpJ.frz (apd hB underlying67 tyE5 1055 (eI .u8) ([0,2,1]:List Int) r19 hc35 (L rfl) (q 53) (q 54)) (by simp)) rfl (c (OpJ.coe (v:=(.st [(i6 128),(i6 15),(.d (.list 1 ((([0,2,1]:List Int)++r19).map (eI .u8))))])) (y:=(.st [(.int .i64 128),(.int .i64 15),(.list 1 ((([0,2,1]:List Int)++r19).map (eI .u8)))])) (Co.st (CoL.cons (Co.d _) (CoL.cons (Co.d _) (CoL.cons (Co.d _) CoL.nil)))) rfl (OpJ.build (places:=[(0,1),(1,1),(2,1)]) ⟨underlying69,fun w=>by kernel_rfl⟩ tyZS69 (Opds.cons (ii 128) (Opds.cons (ii 15) (Opds.cons (q 55) Opds.nil))) (by kernel_rfl) (r:=(.st [(i6 128),(i6 15),(.d (.list 1 ((([0,2,1]:List Int)++r19).map (eI .u8))))])) (by rfl) (L rfl))) rfl (cg (OpJ.callFn hB fnOk83 (xref19_put_ac m17 (aUnknown.mk 128 15 (([0,2,1]:List Int)++r19)) r36 hr36) [] (by kernel_rfl) (L rfl) (by kernel_rfl) (OpdL.cons (q 52) (OpdL.cons (q 56) OpdL.nil))) rfl (c (assign (L rfl) (q 57)) rfl cn)))))))
     exact hjj25 _ h _ _ (mp [] _ _ hB)
    ·have h:=ite_f hg34 h
     apply AWp.skip
     exact hjj25 _ h _ _ (mp [] _ _ hB)
  ·apply AWp.cond rfl<;>intro hg37
   ·have h:=ite_t hg37 h
    obtain⟨r38,hr38,h⟩:=bindS h
    obtain⟨hc39,h⟩:=chk_some h
    obtain⟨hc40,h⟩:=chk_some h
    obtain⟨hc41,h⟩:=chk_some h
    obtain⟨r42,hr42,h⟩:=bindS h
    apply rg (c (mv hN (q 4)) rfl (cg (OpJ.buildSliceR underlying67 tyS5 tyZD5 (by rfl) (by decide) (by decide) hB (nm:=1034) (by decide) (len:=([0,2,1,16]:List Int).length) (by rfl) (Opds.cons (Opd.int .u8 (0)) (Opds.cons (Opd.int .u8 (2)) (Opds.cons (Opd.int .u8 (1)) (Opds.cons (Opd.int .u8 (16)) Opds.nil)))) (by kernel_rfl) (es:=([0,2,1,16]:List Int).map (eI .u8)) (by rfl) (by rfl) (by kernel_rfl) (by simp) (L rfl)) rfl (c (fo 1001 1 [1] hN underlying61 1 tyS35 (q 1)) rfl (c (fo 1001 3 [1,2] hN underlying35 2 tyS27 (q 35)) rfl (c (lb hN 61 _ _ tyS27 (At.dst1 (by rfl) (by rfl) (ad _) (by first | rfl | omega)) (q 36)) rfl (cg (cf hB fnOk84 (xref01_Bytes_ac a0.fAttrs.fNext r38 hr38) (L rfl) (OpdL.cons (q 37) OpdL.nil)) rfl (cg (apd hB underlying67 tyE5 1039 (eI .u8) ([0,2,1,16]:List Int) r38 hc39 (L rfl) (q 34) (q 38)) rfl (c (buildSlice underlying67 tyS5 tyZD5 (by rfl) (by decide) (by decide) (Opds.cons (Opd.int .u8 (0)) Opds.nil) (by kernel_rfl) (es:=([(.int .u8 0)]:List D)) (by rfl) (by rfl) (by kernel_rfl) (by simp) (L rfl)) rfl (cg (apd hB underlying67 tyE5 1041 (eI .u8) (([0,2,1,16]:List Int)++r38) ([0]:List Int) hc40 (L rfl) (q 39) (q 40)) rfl (c (mv hN (q 7)) rfl (cg (OpJ.frz (apd hB underlying67 tyE5 1043 (eI .u8) ((([0,2,1,16]:List Int)++r38)++([0]:List Int)) r6 hc41 (L rfl) (q 41) (q 42)) (by simp)) rfl (c (OpJ.coe (v:=(.st [(i6 128),(i6 14),(.d (.list 1 ((((([0,2,1,16]:List Int)++r38)++([0]:List Int))++r6).map (eI .u8))))])) (y:=(.st [(.int .i64 128),(.int .i64 14),(.list 1 ((((([0,2,1,16]:List Int)++r38)++([0]:List Int))++r6).map (eI .u8)))])) (Co.st (CoL.cons (Co.d _) (CoL.cons (Co.d _) (CoL.cons (Co.d _) CoL.nil)))) rfl (OpJ.build (places:=[(0,1),(1,1),(2,1)]) ⟨underlying69,fun w=>by kernel_rfl⟩ tyZS69 (Opds.cons (ii 128) (Opds.cons (ii 14) (Opds.cons (q 43) Opds.nil))) (by kernel_rfl) (r:=(.st [(i6 128),(i6 14),(.d (.list 1 ((((([0,2,1,16]:List Int)++r38)++([0]:List Int))++r6).map (eI .u8))))])) (by rfl) (L rfl))) rfl (cg (OpJ.callFn hB fnOk83 (xref19_put_ac m4 (aUnknown.mk 128 14 (((([0,2,1,16]:List Int)++r38)++([0]:List Int))++r6)) r42 hr42) [] (by kernel_rfl) (L rfl) (by kernel_rfl) (OpdL.cons (q 33) (OpdL.cons (q 44) OpdL.nil))) rfl (c (assign (L rfl) (q 45)) rfl cn))))))))))))))
    exact hjj18 _ h _ _ (mp [] _ _ hB)
   ·have h:=ite_f hg37 h
    apply AWp.skip
    exact hjj18 _ h _ _ (mp [] _ _ hB)
 ·apply AWp.cond rfl<;>intro hg43
  ·have h:=ite_t hg43 h
   obtain⟨r44,hr44,h⟩:=bindS h
   refine sr (SQ (fa (cl [] (xref18_Write_ac a0.fAttrs r44 hr44)) tt)) ?_
   apply AWp.seq
   refine sr (SQ tt) ?_
   apply AWp.cond rfl<;>intro hg45
   ·have h:=ite_t hg45 h
    refine sr (SQ tt) ?_
    apply AWp.ret
    apply seqQ_r
    apply seqQ_r
    obtain rfl:=oi h
    exact rt (Mat.trans (Mat.coeP (Ts:=[(2,(.d (.list 1 (([]:List Int).map (eI .u8)))))]) (Bs:=[]) (TwT.cons (x:=.nils) (by rfl) (Tw.leaf ⟨_,(Co.nils 1),rfl⟩) TwT.nil) TwB.nil) (mp [] [(2,(.d (.list 1 (([]:List Int).map (eI .u8))))),(3,(i6 r44.2))] [] hB)) [(.d (.list 1 (([]:List Int).map (eI .u8)))),(i6 r44.2)] (Res.tmp (by rfl) (by rfl) (Res.tmp (by rfl) (by rfl) Res.nil)) rfl
   ·have h:=ite_f hg45 h
    apply AWp.skip
    apply seqQ_n
    refine rg (SQ tt) ?_
    exact hjj5 _ h _ _ (mp [] _ _ hB)
  ·have h:=ite_f hg43 h
   apply AWp.skip
   exact hjj5 _ h _ _ (Mat.trans (Mat.coeP (Ts:=[(4,(qe_aUnknown_3 ([]:List aUnknown)))]) (Bs:=[]) (TwT.cons (x:=.nils) (by rfl) (Tw.leaf ⟨_,(Co.nils 3),rfl⟩) TwT.nil) TwB.nil) (mp [] _ _ hB))
def xref19_Valid_L0 (a0:aUpdate) (s4:Int):Option (((Unit)⊕(Unit))⊕(Int)) :=
 (if (decide (s4<((a0.fWithdraw++a0.fAnnounce).length:Int)))=true then
 (idx (a0.fWithdraw++a0.fAnnounce) s4).bind fun _ =>
 (idx (a0.fWithdraw++a0.fAnnounce) s4).bind fun x19 =>
 (xref02_Valid x19).bind fun r20 =>
 (if (!r20)=true then
 some (.inl (.inl ()))
 else
 some (.inr (w64 (s4+1))))
 else
 some (.inl (.inr ())))
def xref19_Valid_L1 (a0:aUpdate) (s30:Int):Option (((Unit)⊕(Unit))⊕(Int)) :=
 (if (decide (s30<(a0.fAnnounce.length:Int)))=true then
 (idx a0.fAnnounce s30).bind fun x52 =>
 jn (fun m55:Bool =>
 (if m55=true then
 some (.inl (.inl ()))
 else
 some (.inr (w64 (s30+1))))) (fun j56 =>
 (if (((x52.fAddr.fV6 != a0.fAttrs.fNext.fV6) || (a0.fAttrs.fOrigin==(-1))) || ((a0.fAttrs.fNext.fV6==false)&&((a0.fAttrs.fNext.fHi==0)&&((a0.fAttrs.fNext.fLo==0)&&true))))=true then
 j56 true
 else
 (xref18_Valid a0.fAttrs).bind fun r59 =>
 j56 (!r59)))
 else
 some (.inl (.inr ())))
def xref19_Valid (a0:aUpdate):Option (Bool) :=
 (if ((decide (256<(a0.fWithdraw.length:Int))) || (decide (256<(a0.fAnnounce.length:Int))))=true then
 some false
 else
 chk (decide (a0.fWithdraw.length≤LIM)) <|
 chk (decide ((a0.fWithdraw++a0.fAnnounce).length≤LIM)) <|
 (loop (xref19_Valid_L0 a0) 0).bind fun x22=>match x22 with
 | (.inl _) =>
  some false
 | (.inr _) =>
  jn (fun m27:Bool =>
  (if m27=true then
  some false
  else
  (loop (xref19_Valid_L1 a0) 0).bind fun x60=>match x60 with
  | (.inl _) =>
   some false
  | (.inr _) =>
   (xref19_parts a0).bind fun r62 =>
   some ((r62.2==0)&&(decide ((r62.1.length:Int)≤4077))))) (fun j28 =>
  (if ((a0.fAnnounce.length:Int)==0)=true then
  (xref18_Empty).bind fun r64 =>
  (xref18_Same a0.fAttrs r64).bind fun r65 =>
  j28 (!r65)
  else
  j28 false)))
theorem xref19_Valid_ac (a0:aUpdate) (r:Bool) (h:xref19_Valid a0=some r):AC Tryz.prog 20 [(.d (e_aUpdate a0))] [] (.d (.bool r)) []:=by
 refine ac2 Tryz.func20 rfl rfl fun B hB hN L => ?_
 delta xref19_Valid at h
 refine sr (SQ tt) ?_
 apply AWp.seq
 refine sr (SQ tt) ?_
 apply AWp.cond rfl<;>intro hg1
 ·have h:=ite_t hg1 h
  refine sr (SQ tt) ?_
  apply AWp.ret
  apply seqQ_r
  obtain rfl:=oi h
  exact rt (kp [(2,_)] [] hB rfl rfl (by rfl)) [(bo false)] (Res.tmp (by rfl) (by rfl) Res.nil) rfl
 ·have h:=ite_f hg1 h
  apply AWp.skip
  apply seqQ_n
  apply AWp.seq
  obtain⟨hc2,h⟩:=chk_some h
  obtain⟨hc3,h⟩:=chk_some h
  refine sdS (SQ (fa hc2 (fa hc3 tt))) ?_
  apply AWp.block
  obtain⟨x22,hx23,h⟩:=bindS h
  refine lg (xref19_Valid_L0 a0) (fun s4:Int=>([(1,(pt 1001)),(24,(.sref 1024 4 0 ((a0.fWithdraw++a0.fAnnounce).length))),(25,(i6 ((a0.fWithdraw++a0.fAnnounce).length:Int))),(26,(i6 s4))]:EL)) (fun s4:Int=>([(1001,bd 61 (e_aUpdate a0)),(1024,some (we_aPrefix_29_4 (a0.fWithdraw++a0.fAnnounce)))]:OL)) (fun(x:(Unit)⊕(Unit)) e E' O'=>match x with | (.inl _p)=>e = .ret∧Mat B E' O' ([(2,(bo false))]:EL) ([]:OL) | (.inr _p)=>e = .exit 0∧Mat B E' O' ([(1,(pt 1001))]:EL) ([(1001,bd 61 (e_aUpdate a0))]:OL)) hx23 (mp [] _ _ hB) (fun s4 y h => ?_) (fun e E' O' hR => ?_)
  ·unfold xref19_Valid_L0 at h
   refine sr (SQ tt) ?_
   apply AWp.seq
   apply AWp.cond rfl<;>intro hg17
   ·have h:=ite_t hg17 h
    apply AWp.skip
    apply seqQ_n
    apply AWp.seq
    apply AWp.block
    obtain⟨_,hx18,h⟩:=bindS h
    obtain⟨x19,hx19,h⟩:=bindS h
    refine sr (SQ (fa hx18 (fa hx19 tt))) ?_
    obtain⟨r20,hr20,h⟩:=bindS h
    refine sr (SQ (fa (cl [] (xref02_Valid_ac x19 r20 hr20)) tt)) ?_
    apply AWp.cond rfl<;>intro hg21
    ·have h:=ite_t hg21 h
     refine sr (SQ tt) ?_
     apply AWp.ret
     apply blkQ_r
     apply seqQ_r
     obtain rfl:=oi h
     exact⟨(fun hc=>by cases hc),rfl,(mp [] _ _ hB)⟩
    ·have h:=ite_f hg21 h
     apply AWp.skip
     apply blkQ_n
     apply seqQ_n
     refine rg (SQ tt) ?_
     obtain rfl:=oi h
     exact⟨rfl,(mp [] _ _ hB)⟩
   ·have h:=ite_f hg17 h
    apply AWp.exit
    apply seqQ_e
    obtain rfl:=oi h
    exact⟨(fun hc=>by cases hc),rfl,(mp [] _ _ hB)⟩
  ·rcases x22 with _ | _
   ·obtain⟨rfl,hmat⟩:=hR
    apply blkQ_r
    apply seqQ_r
    obtain rfl:=oi h
    exact rt (Mat.trans hmat (mp [] [(2,(bo false))] [] hB)) [(bo false)] (Res.tmp (by rfl) (by rfl) Res.nil) rfl
   ·obtain⟨rfl,hmat⟩:=hR
    apply blkQ_hit
    apply seqQ_n
    refine AWp.ghost hmat ?_
    apply AWp.seq
    apply AWp.seq
    refine AWp.cut h (fun m27:Bool=>([(1,(pt 1001)),(44,(bo m27))]:EL)) (fun m27:Bool=>([(1001,bd 61 (e_aUpdate a0))]:OL)) (fun m27 h E' O' hmat => ?_) (fun j28 hjj28 h => ?_)
    ·apply seqQ_n
     refine AWp.ghost hmat ?_
     apply AWp.cond rfl<;>intro hg29
     ·have h:=ite_t hg29 h
      refine sr (SQ tt) ?_
      apply AWp.ret
      apply seqQ_r
      obtain rfl:=oi h
      exact rt (kp [(2,_)] [] hB rfl rfl (by rfl)) [(bo false)] (Res.tmp (by rfl) (by rfl) Res.nil) rfl
     ·have h:=ite_f hg29 h
      apply AWp.skip
      apply seqQ_n
      apply AWp.seq
      refine sr (SQ tt) ?_
      apply AWp.block
      obtain⟨x60,hx61,h⟩:=bindS h
      refine lg (xref19_Valid_L1 a0) (fun s30:Int=>([(1,(pt 1001)),(46,(qe_aPrefix_4 a0.fAnnounce)),(47,(i6 (a0.fAnnounce.length:Int))),(48,(i6 s30))]:EL)) (fun s30:Int=>([(1001,bd 61 (e_aUpdate a0))]:OL)) (fun(x:(Unit)⊕(Unit)) e E' O'=>match x with | (.inl _p)=>e = .ret∧Mat B E' O' ([(2,(bo false))]:EL) ([]:OL) | (.inr _p)=>e = .exit 2∧Mat B E' O' ([(1,(pt 1001))]:EL) ([(1001,bd 61 (e_aUpdate a0))]:OL)) hx61 (mp [] _ _ hB) (fun s30 y h => ?_) (fun e E' O' hR => ?_)
      ·unfold xref19_Valid_L1 at h
       refine sr (SQ tt) ?_
       apply AWp.seq
       apply AWp.cond rfl<;>intro hg51
       ·have h:=ite_t hg51 h
        apply AWp.skip
        apply seqQ_n
        apply AWp.seq
        apply AWp.block
        obtain⟨x52,hx52,h⟩:=bindS h
        refine sr (SQ (fa hx52 tt)) ?_
        apply AWp.seq
        refine AWp.cut h (fun m55:Bool=>([(1,(pt 1001)),(46,(qe_aPrefix_4 a0.fAnnounce)),(47,(i6 (a0.fAnnounce.length:Int))),(48,(i6 s30)),(78,(bo m55))]:EL)) (fun m55:Bool=>([(1001,bd 61 (e_aUpdate a0))]:OL)) (fun m55 h E' O' hmat => ?_) (fun j56 hjj56 h => ?_)
        ·apply seqQ_n
         refine AWp.ghost hmat ?_
         apply AWp.cond rfl<;>intro hg57
         ·have h:=ite_t hg57 h
          refine sr (SQ tt) ?_
          apply AWp.ret
          apply blkQ_r
          apply seqQ_r
          obtain rfl:=oi h
          exact⟨(fun hc=>by cases hc),rfl,(mp [] _ _ hB)⟩
         ·have h:=ite_f hg57 h
          apply AWp.skip
          apply blkQ_n
          apply seqQ_n
          refine rg (SQ tt) ?_
          obtain rfl:=oi h
          exact⟨rfl,(mp [] _ _ hB)⟩
        ·rcases bft (((x52.fAddr.fV6 != a0.fAttrs.fNext.fV6) || (a0.fAttrs.fOrigin==(-1))) || ((a0.fAttrs.fNext.fV6==false)&&((a0.fAttrs.fNext.fHi==0)&&((a0.fAttrs.fNext.fLo==0)&&true)))) with hg58 | hg58
         ·have h:=ite_t hg58 h
          apply rg (c (fo 1006 0 [0] hN underlying29 0 tyS27 (q 6)) rfl (c (fo 1006 0 [0,0] hN underlying27 0 tyS4 (q 52)) rfl (c (lb hN 29 _ _ tyS4 (At.dst1 (by rfl) (by rfl) (ad _) (by first | rfl | omega)) (q 53)) rfl (c (fo 1001 1 [1] hN underlying61 1 tyS35 (q 1)) rfl (c (fo 1001 3 [1,2] hN underlying35 2 tyS27 (q 55)) rfl (c (fo 1001 3 [1,2,0] hN underlying27 0 tyS4 (q 56)) rfl (c (lb hN 61 _ _ tyS4 (At.dst1 (by rfl) (by rfl) (At.dst1 (by rfl) (by rfl) (ad _) (by first | rfl | omega)) (by first | rfl | omega)) (q 57)) rfl (c (OpJ.neqB underlying4 (L rfl) (q 54) (q 58)) rfl (c (mv hN (q 59)) rfl (c (oq hN 60 (fo 1001 1 [1] hN underlying61 1 tyS35 (q 1)) (OptL.keep (by rfl) OptL.nil) (GuardV.plain _)) rfl (c (oq hN 60 (fo 1001 1 [1,0] hN underlying35 0 tyS3 (q 61)) (OptL.opt OptL.nil) (GuardV.plain _)) rfl (c (oq hN 60 (lb hN 61 _ _ tyS3 (At.dst1 (by rfl) (by rfl) (ad _) (by first | rfl | omega)) (q 62)) (OptL.opt OptL.nil) (GuardV.plain _)) rfl (c (oq hN 60 (eqlI (L rfl) (q 63) (ii (-1))) (OptL.opt OptL.nil) (GuardV.plain _)) rfl (c (pickOr rfl (L rfl) (q 60) (q 64)) rfl (c (mv hN (q 65)) rfl (c (oq hN 66 (fo 1001 1 [1] hN underlying61 1 tyS35 (q 1)) (OptL.keep (by rfl) OptL.nil) (GuardV.plain _)) rfl (c (oq hN 66 (fo 1001 3 [1,2] hN underlying35 2 tyS27 (q 67)) (OptL.opt OptL.nil) (GuardV.plain _)) rfl (c (oq hN 66 (lb hN 61 _ _ tyS27 (At.dst1 (by rfl) (by rfl) (ad _) (by first | rfl | omega)) (q 68)) (OptL.opt OptL.nil) (GuardV.plain _)) rfl (c (oq hN 66 (OpJ.coe (v:=(.st [(bo false),(.d (.int .u64 0)),(.d (.int .u64 0))])) (y:=(.st [(.bool false),(.int .u64 0),(.int .u64 0)])) (Co.st (CoL.cons (Co.d _) (CoL.cons (Co.d _) (CoL.cons (Co.d _) CoL.nil)))) rfl (OpJ.build (places:=[(0,1),(1,1),(2,1)]) ⟨underlying27,fun w=>by kernel_rfl⟩ tyZS27 Opds.nil (by kernel_rfl) (r:=(.st [(bo false),(.d (.int .u64 0)),(.d (.int .u64 0))])) (by rfl) (L rfl))) OptL.nil (GuardV.plain _)) rfl (c (oq hN 66 (OpJ.eqlD (h:=2) (FitE.st underlying27 rfl held27 (FitF.cons (x:=(.bool a0.fAttrs.fNext.fV6)) (y:=(.bool false)) (by decide) rfl tyS4 ⟨rfl,rfl⟩ ⟨rfl,rfl⟩ (FitE.bool (h:=0) a0.fAttrs.fNext.fV6 false underlying4) (FitF.cons (x:=(.int .u64 a0.fAttrs.fNext.fHi)) (y:=(.int .u64 0)) (by decide) rfl tyS25 ⟨rfl,rfl⟩ ⟨rfl,rfl⟩ (FitE.int (h:=0) a0.fAttrs.fNext.fHi 0 underlying25) (FitF.cons (x:=(.int .u64 a0.fAttrs.fNext.fLo)) (y:=(.int .u64 0)) (by decide) rfl tyS25 ⟨rfl,rfl⟩ ⟨rfl,rfl⟩ (FitE.int (h:=0) a0.fAttrs.fNext.fLo 0 underlying25) FitF.nil)))) eqg27 ⟨rfl,rfl⟩ (by rfl) (L rfl) (q 69) (q 70)) (OptL.opt (OptL.opt OptL.nil)) (GuardV.plain _)) rfl (c (pickOr rfl (L rfl) (q 66) (q 71)) rfl (c (OpJ.val (v':=.d (.bool true)) (by rw [hg58]<;>rfl) (mv hN (q 72))) rfl (ks 73 (L rfl) (ks 73 (L rfl) (ks 73 (L rfl) (ks 73 (L rfl) (c (pickT (L rfl) (q 73) (Opd.bool true)) rfl cn)))))))))))))))))))))))))))
          exact hjj56 _ h _ _ (mp [] _ _ hB)
         ·have h:=ite_f hg58 h
          obtain⟨r59,hr59,h⟩:=bindS h
          apply rg (c (fo 1006 0 [0] hN underlying29 0 tyS27 (q 6)) rfl (c (fo 1006 0 [0,0] hN underlying27 0 tyS4 (q 52)) rfl (c (lb hN 29 _ _ tyS4 (At.dst1 (by rfl) (by rfl) (ad _) (by first | rfl | omega)) (q 53)) rfl (c (fo 1001 1 [1] hN underlying61 1 tyS35 (q 1)) rfl (c (fo 1001 3 [1,2] hN underlying35 2 tyS27 (q 55)) rfl (c (fo 1001 3 [1,2,0] hN underlying27 0 tyS4 (q 56)) rfl (c (lb hN 61 _ _ tyS4 (At.dst1 (by rfl) (by rfl) (At.dst1 (by rfl) (by rfl) (ad _) (by first | rfl | omega)) (by first | rfl | omega)) (q 57)) rfl (c (OpJ.neqB underlying4 (L rfl) (q 54) (q 58)) rfl (c (mv hN (q 59)) rfl (c (oq hN 60 (fo 1001 1 [1] hN underlying61 1 tyS35 (q 1)) (OptL.keep (by rfl) OptL.nil) (GuardV.plain _)) rfl (c (oq hN 60 (fo 1001 1 [1,0] hN underlying35 0 tyS3 (q 61)) (OptL.opt OptL.nil) (GuardV.plain _)) rfl (c (oq hN 60 (lb hN 61 _ _ tyS3 (At.dst1 (by rfl) (by rfl) (ad _) (by first | rfl | omega)) (q 62)) (OptL.opt OptL.nil) (GuardV.plain _)) rfl (c (oq hN 60 (eqlI (L rfl) (q 63) (ii (-1))) (OptL.opt OptL.nil) (GuardV.plain _)) rfl (c (pickOr rfl (L rfl) (q 60) (q 64)) rfl (c (mv hN (q 65)) rfl (c (oq hN 66 (fo 1001 1 [1] hN underlying61 1 tyS35 (q 1)) (OptL.keep (by rfl) OptL.nil) (GuardV.plain _)) rfl (c (oq hN 66 (fo 1001 3 [1,2] hN underlying35 2 tyS27 (q 67)) (OptL.opt OptL.nil) (GuardV.plain _)) rfl (c (oq hN 66 (lb hN 61 _ _ tyS27 (At.dst1 (by rfl) (by rfl) (ad _) (by first | rfl | omega)) (q 68)) (OptL.opt OptL.nil) (GuardV.plain _)) rfl (c (oq hN 66 (OpJ.coe (v:=(.st [(bo false),(.d (.int .u64 0)),(.d (.int .u64 0))])) (y:=(.st [(.bool false),(.int .u64 0),(.int .u64 0)])) (Co.st (CoL.cons (Co.d _) (CoL.cons (Co.d _) (CoL.cons (Co.d _) CoL.nil)))) rfl (OpJ.build (places:=[(0,1),(1,1),(2,1)]) ⟨underlying27,fun w=>by kernel_rfl⟩ tyZS27 Opds.nil (by kernel_rfl) (r:=(.st [(bo false),(.d (.int .u64 0)),(.d (.int .u64 0))])) (by rfl) (L rfl))) OptL.nil (GuardV.plain _)) rfl (c (oq hN 66 (OpJ.eqlD (h:=2) (FitE.st underlying27 rfl held27 (FitF.cons (x:=(.bool a0.fAttrs.fNext.fV6)) (y:=(.bool false)) (by decide) rfl tyS4 ⟨rfl,rfl⟩ ⟨rfl,rfl⟩ (FitE.bool (h:=0) a0.fAttrs.fNext.fV6 false underlying4) (FitF.cons (x:=(.int .u64 a0.fAttrs.fNext.fHi)) (y:=(.int .u64 0)) (by decide) rfl tyS25 ⟨rfl,rfl⟩ ⟨rfl,rfl⟩ (FitE.int (h:=0) a0.fAttrs.fNext.fHi 0 underlying25) (FitF.cons (x:=(.int .u64 a0.fAttrs.fNext.fLo)) (y:=(.int .u64 0)) (by decide) rfl tyS25 ⟨rfl,rfl⟩ ⟨rfl,rfl⟩ (FitE.int (h:=0) a0.fAttrs.fNext.fLo 0 underlying25) FitF.nil)))) eqg27 ⟨rfl,rfl⟩ (by rfl) (L rfl) (q 69) (q 70)) (OptL.opt (OptL.opt OptL.nil)) (GuardV.plain _)) rfl (c (pickOr rfl (L rfl) (q 66) (q 71)) rfl (c (OpJ.val (v':=.d (.bool false)) (by rw [hg58]<;>rfl) (mv hN (q 72))) rfl (c (gd 73 (fo 1001 1 [1] hN underlying61 1 tyS35 (q 1))) rfl (c (gd 73 (la hN 61 tyS35 (q 74))) rfl (cg (gd 73 (cf hB fnOk44 (xref18_Valid_ac a0.fAttrs r59 hr59) (L rfl) (OpdL.cons (q 75) OpdL.nil))) rfl (c (gd 73 (OpJ.not (L rfl) (q 76))) rfl (c (pickF (L rfl) (q 73) (q 77)) rfl cn)))))))))))))))))))))))))))
          exact hjj56 _ h _ _ (mp [] _ _ hB)
       ·have h:=ite_f hg51 h
        apply AWp.exit
        apply seqQ_e
        obtain rfl:=oi h
        exact⟨(fun hc=>by cases hc),rfl,(mp [] _ _ hB)⟩
      ·rcases x60 with _ | _
       ·obtain⟨rfl,hmat⟩:=hR
        apply blkQ_r
        apply seqQ_r
        obtain rfl:=oi h
        exact rt (Mat.trans hmat (mp [] [(2,(bo false))] [] hB)) [(bo false)] (Res.tmp (by rfl) (by rfl) Res.nil) rfl
       ·obtain⟨rfl,hmat⟩:=hR
        apply blkQ_hit
        apply seqQ_n
        refine AWp.ghost hmat ?_
        obtain⟨r62,hr62,h⟩:=bindS h
        refine sr (SQ (fa (cl [] (xref19_parts_ac a0 r62 hr62)) tt)) ?_
        refine sr (SQ tt) ?_
        apply AWp.ret
        obtain rfl:=oi h
        exact rt (kp [(2,_)] [] hB rfl rfl (by rfl)) [(bo ((r62.2==0)&&(decide ((r62.1.length:Int)≤4077))))] (Res.tmp (by rfl) (by rfl) Res.nil) rfl
    ·rcases bft ((a0.fAnnounce.length:Int)==0) with hg63 | hg63
     ·have h:=ite_t hg63 h
      obtain⟨r64,hr64,h⟩:=bindS h
      obtain⟨r65,hr65,h⟩:=bindS h
      refine drS (SQ (fa hg63 (fa (cl [] (xref18_Empty_ac r64 hr64)) (fa (cl [] (xref18_Same_ac a0.fAttrs r64 r65 hr65)) tt)))) ?_
      exact hjj28 _ h _ _ (mp [] _ _ hB)
     ·have h:=ite_f hg63 h
      refine drS (SQ (fa hg63 tt)) ?_
      exact hjj28 _ h _ _ (mp [] _ _ hB)
def xlaw30_many_L0 (a1:Int) (s1:Int×(List aChange)×exchangepointmill_Deck):Option (((exchangepointmill_Deck×(List aChange)))⊕(Int×(List aChange)×exchangepointmill_Deck)) :=
 (if (decide (s1.1<a1))=true then
 (exchangepointmill_Deck_Next s1.2.2 3).bind fun r26 =>
 jn (fun m30:Bool×Int×Int×Int×(List aSegment)×Int×Int×Int×Int×(List aCommunity)×(List aLarge)×(List aUnknown)×exchangepointmill_Deck =>
 chk (decide ((s1.2.1++[(aChange.mk 5 (aPrefix.mk (aAddr.mk false 0 (bitI .or .u64 335544320 (shlI .u64 (IntKind.u64.wrap s1.1) 8))) 24) m30.1 (aRoute.mk (aPrefix.mk (aAddr.mk false 0 m30.2.1) m30.2.2.1) m30.2.2.2.1 (aAttrs.mk 0 m30.2.2.2.2.1 (aAddr.mk false 0 m30.2.2.2.2.2.1) m30.2.2.2.2.2.2.1 m30.2.2.2.2.2.2.2.1 m30.2.2.2.2.2.2.2.2.1 m30.2.2.2.2.2.2.2.2.2.1 m30.2.2.2.2.2.2.2.2.2.2.1 m30.2.2.2.2.2.2.2.2.2.2.2.1)))]).length≤LIM)) <|
 some (.inr ((w64 (s1.1+1)),(s1.2.1++[(aChange.mk 5 (aPrefix.mk (aAddr.mk false 0 (bitI .or .u64 335544320 (shlI .u64 (IntKind.u64.wrap s1.1) 8))) 24) m30.1 (aRoute.mk (aPrefix.mk (aAddr.mk false 0 m30.2.1) m30.2.2.1) m30.2.2.2.1 (aAttrs.mk 0 m30.2.2.2.2.1 (aAddr.mk false 0 m30.2.2.2.2.2.1) m30.2.2.2.2.2.2.1 m30.2.2.2.2.2.2.2.1 m30.2.2.2.2.2.2.2.2.1 m30.2.2.2.2.2.2.2.2.2.1 m30.2.2.2.2.2.2.2.2.2.2.1 m30.2.2.2.2.2.2.2.2.2.2.2.1)))]),m30.2.2.2.2.2.2.2.2.2.2.2.2))) (fun j31 =>
 (if (decide (0<r26.1))=true then
 (xref18_Empty).bind fun r34 =>
 (exchangepointmill_Deck_Next r26.2 2).bind fun r35 =>
 j31 (true,(bitI .or .u64 335544320 (shlI .u64 (IntKind.u64.wrap s1.1) 8)),24,101,([(aSegment.mk false ([101]:List Int))]:List aSegment),7,r35.1,r34.fPref,r34.fOTC,r34.fCommunities,r34.fLarge,r34.fOther,r35.2)
 else
 j31 (false,0,0,0,([]:List aSegment),0,0,0,0,([]:List aCommunity),([]:List aLarge),([]:List aUnknown),r26.2)))
 else
 some (.inl (s1.2.2,s1.2.1)))
def xlaw30_many (a0:exchangepointmill_Deck) (a1:Int):Option ((List aChange)×exchangepointmill_Deck) :=
 (loop (xlaw30_many_L0 a1) (0,([]:List aChange),a0)).bind fun p24 =>
 some (p24.2,p24.1)
theorem xlaw30_many_ac (a0:exchangepointmill_Deck) (a1:Int) (r:(List aChange)×exchangepointmill_Deck) (h:xlaw30_many a0 a1=some r):AC Tryz.prog 18 [(pt 0),(.d (.int .i64 a1))] [(0,(.box 71 (.d (e_exchangepointmill_Deck a0))))] (.d (.list 22 (r.1.map e_aChange))) [(0,bd 71 (e_exchangepointmill_Deck r.2))]:=by
 refine ac2 Tryz.func18 rfl rfl fun B hB hN L => ?_
 delta xlaw30_many at h
 refine sr (SQ tt) ?_
 refine sr (SQ tt) ?_
 apply AWp.seq
 refine sr (SQ tt) ?_
 apply AWp.block
 obtain⟨p24,hx37,h⟩:=bindS h
 refine lg (xlaw30_many_L0 a1) (fun s1:Int×(List aChange)×exchangepointmill_Deck=>([(0,(pt 0)),(1,(i6 a1)),(5,(.sref 3005 22 0 s1.2.1.length)),(6,(i6 s1.1))]:EL)) (fun s1:Int×(List aChange)×exchangepointmill_Deck=>([(0,bd 71 (e_exchangepointmill_Deck s1.2.2)),(3005,some (we_aChange_39_22 s1.2.1))]:OL)) (fun(p24:(exchangepointmill_Deck×(List aChange))) e E' O'=>e = .exit 0∧Mat B E' O' ([(5,(.sref 3005 22 0 p24.2.length))]:EL) ([(0,bd 71 (e_exchangepointmill_Deck p24.1)),(3005,some (we_aChange_39_22 p24.2))]:OL)) hx37 (Mat.trans (Mat.beginP (n:=3005) (e:=39) (sz:=22) (Ts:=[(5,(.sref 3005 22 0 0))]) (Bs:=[]) hB (by decide) (by rfl) (by decide) (TwT.cons (x:=.nils) (by rfl) (Tw.leaf ⟨rfl,rfl⟩) TwT.nil) TwB.nil) (mp [] _ _ hB)) (fun s1 y h => ?_) (fun e E' O' hR => ?_)
 ·unfold xlaw30_many_L0 at h
  apply AWp.seq
  refine sr (SQ tt) ?_
  apply AWp.cond rfl<;>intro hg25
  ·have h:=ite_t hg25 h
   apply AWp.skip
   apply seqQ_n
   apply AWp.seq
   apply AWp.block
   refine sr (SQ tt) ?_
   apply AWp.seq
   apply AWp.seq
   obtain⟨r26,hr26,h⟩:=bindS h
   refine rg (SQ (fa (cl [(0,0)] (exchangepointmill_Deck_Next_ac s1.2.2 3 r26 hr26)) tt)) ?_
   apply seqQ_n
   refine AWp.ghost (mp [] [(0,(pt 0)),(1,(i6 a1)),(5,(.sref 3005 22 0 s1.2.1.length)),(6,(i6 s1.1)),(7,(pt 1007)),(23,(bo (decide (0<r26.1))))] [(0,bd 71 (e_exchangepointmill_Deck r26.2)),(1007,some (.box 39 (.st [(i6 5),(.d (.st [(.st [(.bool false),(.int .u64 0),(.int .u64 (bitI .or .u64 335544320 (shlI .u64 (IntKind.u64.wrap s1.1) 8)))]),(.int .i64 24)])),(bo false),(.st [(.d (.st [(.st [(.bool false),(.int .u64 0),(.int .u64 0)]),(.int .i64 0)])),(i6 0),(.st [(i6 0),.nils,(.d (.st [(.bool false),(.int .u64 0),(.int .u64 0)])),(i6 0),(i6 0),(i6 0),.nils,.nils,.nils])])]))),(3005,some (we_aChange_39_22 s1.2.1))] hB) ?_
   refine AWp.cut h (fun m30:Bool×Int×Int×Int×(List aSegment)×Int×Int×Int×Int×(List aCommunity)×(List aLarge)×(List aUnknown)×exchangepointmill_Deck=>([(0,(pt 0)),(1,(i6 a1)),(5,(.sref 3005 22 0 s1.2.1.length)),(6,(i6 s1.1)),(7,(pt 1007))]:EL)) (fun m30:Bool×Int×Int×Int×(List aSegment)×Int×Int×Int×Int×(List aCommunity)×(List aLarge)×(List aUnknown)×exchangepointmill_Deck=>([(0,bd 71 (e_exchangepointmill_Deck m30.2.2.2.2.2.2.2.2.2.2.2.2)),(1007,some (.box 39 (.st [(i6 5),(.d (.st [(.st [(.bool false),(.int .u64 0),(.int .u64 (bitI .or .u64 335544320 (shlI .u64 (IntKind.u64.wrap s1.1) 8)))]),(.int .i64 24)])),(bo m30.1),(.d (.st [(.st [(.st [(.bool false),(.int .u64 0),(.int .u64 m30.2.1)]),(.int .i64 m30.2.2.1)]),(.int .i64 m30.2.2.2.1),(.st [(.int .i64 0),(.list 2 (m30.2.2.2.2.1.map e_aSegment)),(.st [(.bool false),(.int .u64 0),(.int .u64 m30.2.2.2.2.2.1)]),(.int .i64 m30.2.2.2.2.2.2.1),(.int .i64 m30.2.2.2.2.2.2.2.1),(.int .i64 m30.2.2.2.2.2.2.2.2.1),(.list 2 (m30.2.2.2.2.2.2.2.2.2.1.map e_aCommunity)),(.list 3 (m30.2.2.2.2.2.2.2.2.2.2.1.map e_aLarge)),(.list 3 (m30.2.2.2.2.2.2.2.2.2.2.2.1.map e_aUnknown))])]))]))),(3005,some (we_aChange_39_22 s1.2.1))]:OL)) (fun m30 h E' O' hmat => ?_) (fun j31 hjj31 h => ?_)
   ·apply seqQ_n
    refine AWp.ghost hmat ?_
    obtain⟨hc32,h⟩:=chk_some h
    refine rg (SQ (fa hc32 tt)) ?_
    apply blkQ_n
    apply seqQ_n
    refine rg (SQ tt) ?_
    obtain rfl:=oi h
    exact⟨rfl,(mp [(3005,1044)] _ _ hB)⟩
   ·apply AWp.cond rfl<;>intro hg33
    ·have h:=ite_t hg33 h
     refine sr (SQ tt) ?_
     obtain⟨r34,hr34,h⟩:=bindS h
     refine sr (SQ (fa (cl [] (xref18_Empty_ac r34 hr34)) tt)) ?_
     apply AWp.seq
     obtain⟨r35,hr35,h⟩:=bindS h
     refine rg (SQ (fa (cl [(0,0)] (exchangepointmill_Deck_Next_ac r26.2 2 r35 hr35)) tt)) ?_
     apply seqQ_n
     refine AWp.ghost (mp [] [(0,(pt 0)),(1,(i6 a1)),(5,(.sref 3005 22 0 s1.2.1.length)),(6,(i6 s1.1)),(7,(pt 1007)),(8,(pt 1008))] [(0,bd 71 (e_exchangepointmill_Deck r35.2)),(1007,some (.box 39 (.st [(i6 5),(.d (.st [(.st [(.bool false),(.int .u64 0),(.int .u64 (bitI .or .u64 335544320 (shlI .u64 (IntKind.u64.wrap s1.1) 8)))]),(.int .i64 24)])),(bo true),(.st [(.d (.st [(.st [(.bool false),(.int .u64 0),(.int .u64 0)]),(.int .i64 0)])),(i6 0),(.st [(i6 0),.nils,(.d (.st [(.bool false),(.int .u64 0),(.int .u64 0)])),(i6 0),(i6 0),(i6 0),.nils,.nils,.nils])])]))),(1008,some (.box 35 (.d (.st [(.int .i64 0),(.list 2 (([(aSegment.mk false ([101]:List Int))]:List aSegment).map e_aSegment)),(.st [(.bool false),(.int .u64 0),(.int .u64 7)]),(.int .i64 r35.1),(.int .i64 r34.fPref),(.int .i64 r34.fOTC),(.list 2 (r34.fCommunities.map e_aCommunity)),(.list 3 (r34.fLarge.map e_aLarge)),(.list 3 (r34.fOther.map e_aUnknown))])))),(3005,some (we_aChange_39_22 s1.2.1))] hB) ?_
     refine rg (SQ tt) ?_
     exact hjj31 _ h _ _ (mp [] _ _ hB)
    ·have h:=ite_f hg33 h
     apply AWp.skip
     exact hjj31 _ h _ _ (Mat.trans (Mat.coeP (Ts:=[]) (Bs:=[(1007,some (.box 39 (.st [(i6 5),(.d (.st [(.st [(.bool false),(.int .u64 0),(.int .u64 (bitI .or .u64 335544320 (shlI .u64 (IntKind.u64.wrap s1.1) 8)))]),(.int .i64 24)])),(bo false),(.d (.st [(.st [(.st [(.bool false),(.int .u64 0),(.int .u64 0)]),(.int .i64 0)]),(.int .i64 0),(.st [(.int .i64 0),(.list 2 (([]:List aSegment).map e_aSegment)),(.st [(.bool false),(.int .u64 0),(.int .u64 0)]),(.int .i64 0),(.int .i64 0),(.int .i64 0),(.list 2 (([]:List aCommunity).map e_aCommunity)),(.list 3 (([]:List aLarge).map e_aLarge)),(.list 3 (([]:List aUnknown).map e_aUnknown))])]))])))]) TwT.nil (TwB.cons (x:=(.st [(i6 5),(.d (.st [(.st [(.bool false),(.int .u64 0),(.int .u64 (bitI .or .u64 335544320 (shlI .u64 (IntKind.u64.wrap s1.1) 8)))]),(.int .i64 24)])),(bo false),(.st [(.d (.st [(.st [(.bool false),(.int .u64 0),(.int .u64 0)]),(.int .i64 0)])),(i6 0),(.st [(i6 0),.nils,(.d (.st [(.bool false),(.int .u64 0),(.int .u64 0)])),(i6 0),(i6 0),(i6 0),.nils,.nils,.nils])])])) (by rfl) (Tw.st (TwL.cons (Tw.same _) (TwL.cons (Tw.same _) (TwL.cons (Tw.same _) (TwL.cons (Tw.leaf ⟨_,(Co.st (CoL.cons (Co.d _) (CoL.cons (Co.d _) (CoL.cons (Co.st (CoL.cons (Co.d _) (CoL.cons (Co.nils 2) (CoL.cons (Co.d _) (CoL.cons (Co.d _) (CoL.cons (Co.d _) (CoL.cons (Co.d _) (CoL.cons (Co.nils 2) (CoL.cons (Co.nils 3) (CoL.cons (Co.nils 3) CoL.nil)))))))))) CoL.nil)))),rfl⟩) TwL.nil))))) TwB.nil)) (mp [] _ _ hB))
  ·have h:=ite_f hg25 h
   apply AWp.exit
   apply seqQ_e
   obtain rfl:=oi h
   exact⟨(fun hc=>by cases hc),rfl,(mp [] _ _ hB)⟩
 ·obtain⟨rfl,hmat⟩:=hR
  apply blkQ_hit
  apply seqQ_n
  refine AWp.ghost hmat ?_
  refine sr (SQ tt) ?_
  apply AWp.ret
  obtain rfl:=oi h
  exact rt (Mat.trans (Mat.freezeP (n:=3005) (e:=39) (sz:=22) (es:=p24.2.map e_aChange) (Ts:=[(4,(qe_aChange_22 p24.2))]) (Bs:=[]) (by rfl) (TwT.cons (x:=(.sref 3005 22 0 p24.2.length)) (by rfl) (FrzL.all (by first | rfl | (simp;done) | (simp;omega) | omega)) TwT.nil) TwB.nil) (mp [] [(4,(qe_aChange_22 p24.2))] [(0,bd 71 (e_exchangepointmill_Deck p24.1))] hB)) [(qe_aChange_22 p24.2)] (Res.tmp (by rfl) (by rfl) Res.nil) rfl
def xlaw30_PackFull_L0 (r4:(List aUpdate)×Int) (s6:Int):Option (((Unit)⊕(Unit))⊕(Int)) :=
 (if (decide (s6<(r4.1.length:Int)))=true then
 jn (fun _:Unit =>
 some (.inr (w64 (s6+1)))) (fun j177 =>
 (idx r4.1 (w64 (s6-1))).bind fun x178 =>
 (idx r4.1 s6).bind fun x179 =>
 chk (decide (x178.fWithdraw.length≤LIM)) <|
 chk (decide (x178.fAnnounce.length≤LIM)) <|
 jn (fun m194:(List aPrefix)×(List aPrefix) =>
 (xref19_Valid (aUpdate.mk m194.2 x178.fAttrs m194.1)).bind fun r196 =>
 (if r196=true then
 some (.inl (.inl ()))
 else
 j177 ())) (fun j195 =>
 (if ((decide (0<(x178.fWithdraw.length:Int)))&&(decide (0<(x179.fWithdraw.length:Int))))=true then
 (idx x179.fWithdraw 0).bind fun x199 =>
 chk (decide ((x178.fWithdraw++[x199]).length≤LIM)) <|
 j195 (x178.fAnnounce,(x178.fWithdraw++[x199]))
 else
 jn (fun m203:Bool =>
 (if m203=true then
 (idx x179.fAnnounce 0).bind fun x206 =>
 chk (decide ((x178.fAnnounce++[x206]).length≤LIM)) <|
 j195 ((x178.fAnnounce++[x206]),x178.fWithdraw)
 else
 j177 ())) (fun j204 =>
 (if ((decide (0<(x178.fAnnounce.length:Int)))&&(decide (0<(x179.fAnnounce.length:Int))))=true then
 (xref23_SameAttrs x178.fAttrs x179.fAttrs).bind fun r209 =>
 j204 r209
 else
 j204 false)))))
 else
 some (.inl (.inr ())))
def xlaw30_PackFull (a0:(List Int)) (a1:Int):Option (Bool) :=
 (exchangepointmill_New a0).bind fun r1 =>
 (exchangepointmill_Mod a1 400).bind fun r2 =>
 (xlaw30_many r1 (w64 (200+r2))).bind fun r3 =>
 (pack_Pack r3.1).bind fun r4 =>
 (if (r4.2 != 0)=true then
 some false
 else
 (loop (xlaw30_PackFull_L0 r4) 1).bind fun x210=>match x210 with
 | (.inl _) =>
  some false
 | (.inr _) =>
  (xlaw30_awake).bind fun r212 =>
  some r212)
theorem xlaw30_PackFull_ac (a0:(List Int)) (a1:Int) (r:Bool) (h:xlaw30_PackFull a0 a1=some r):AC Tryz.prog 6 [(.d (.list 1 (a0.map (eI .i64)))),(.d (.int .i64 a1))] [(500,(.know (globD 0 (.imap gv0))))] (.d (.bool r)) [(500,some (.know (globD 0 (.imap gv0))))]:=by
 refine ac2 Tryz.func6 rfl rfl fun B hB hN L => ?_
 delta xlaw30_PackFull at h
 refine sr (SQ tt) ?_
 apply AWp.seq
 obtain⟨r1,hr1,h⟩:=bindS h
 obtain⟨r2,hr2,h⟩:=bindS h
 obtain⟨r3,hr3,h⟩:=bindS h
 obtain⟨r4,hr4,h⟩:=bindS h
 refine rg (SQ (fa (cl [(1005,100000)] (exchangepointmill_New_ac a0 r1 hr1)) (fa (cl [] (exchangepointmill_Mod_ac a1 400 r2 hr2)) (fa (cl [(0,100000)] (xlaw30_many_ac r1 (w64 (200+r2)) r3 hr3)) (fa (cl [(500,500)] (pack_Pack_ac r3.1 r4 hr4)) tt))))) ?_
 apply seqQ_n
 refine AWp.ghost (mp [] [(5,(qe_aUpdate_13 r4.1)),(6,(i6 r4.2))] [(500,some (.know (globD 0 (.imap gv0))))] hB) ?_
 apply AWp.seq
 refine sr (SQ tt) ?_
 apply AWp.cond rfl<;>intro hg5
 ·have h:=ite_t hg5 h
  refine sr (SQ tt) ?_
  apply AWp.ret
  apply seqQ_r
  obtain rfl:=oi h
  exact rt (kp [(4,_)] [(500,some _)] hB rfl rfl (by rfl)) [(bo false)] (Res.tmp (by rfl) (by rfl) Res.nil) rfl
 ·have h:=ite_f hg5 h
  apply AWp.skip
  apply seqQ_n
  apply AWp.seq
  refine sr (SQ tt) ?_
  apply AWp.block
  obtain⟨x210,hx211,h⟩:=bindS h
  refine lg (xlaw30_PackFull_L0 r4) (fun s6:Int=>([(5,(qe_aUpdate_13 r4.1)),(7,(i6 s6))]:EL)) (fun s6:Int=>([(500,some (.know (globD 0 (.imap gv0))))]:OL)) (fun(x:(Unit)⊕(Unit)) e E' O'=>match x with | (.inl _p)=>e = .ret∧Mat B E' O' ([(4,(bo false))]:EL) ([(500,some (.know (globD 0 (.imap gv0))))]:OL) | (.inr _p)=>e = .exit 0∧Mat B E' O' ([]:EL) ([(500,some (.know (globD 0 (.imap gv0))))]:OL)) hx211 (mp [] _ _ hB) (fun s6 y h => ?_) (fun e E' O' hR => ?_)
  ·unfold xlaw30_PackFull_L0 at h
   apply AWp.seq
   refine sr (SQ tt) ?_
   apply AWp.cond rfl<;>intro hg143
   ·have h:=ite_t hg143 h
    apply AWp.skip
    apply seqQ_n
    apply AWp.seq
    refine AWp.cut h (fun _:Unit=>([(5,(qe_aUpdate_13 r4.1)),(7,(i6 s6))]:EL)) (fun _:Unit=>([(500,some (.know (globD 0 (.imap gv0))))]:OL)) (fun _m h E' O' hmat => ?_) (fun j177 hjj177 h => ?_)
    ·apply seqQ_n
     refine AWp.ghost hmat ?_
     refine rg (SQ tt) ?_
     obtain rfl:=oi h
     exact⟨rfl,(mp [] _ _ hB)⟩
    ·apply AWp.block
     obtain⟨x178,hx178,h⟩:=bindS h
     obtain⟨x179,hx179,h⟩:=bindS h
     refine sdS (SQ (fa hx178 (fa hx179 tt))) ?_
     obtain⟨hc180,h⟩:=chk_some h
     obtain⟨hc181,h⟩:=chk_some h
     refine sdS (SQ (fa hc180 (fa hc181 tt))) ?_
     apply AWp.seq
     apply AWp.block
     refine sr (SQ tt) ?_
     refine gh [(5,_),(7,_),(8,_),(9,_),(10,_),(47,_)] [(500,some _),(1008,some _),(1009,some _),(1010,some _),(1040,some _),(1045,some _)] hB rfl rfl (by rfl) ?_
     refine AWp.cut h (fun m194:(List aPrefix)×(List aPrefix)=>([(5,(qe_aUpdate_13 r4.1)),(7,(i6 s6)),(10,(pt 1010))]:EL)) (fun m194:(List aPrefix)×(List aPrefix)=>([(500,some (.know (globD 0 (.imap gv0)))),(1010,some (.box 61 (.st [(.sref 13100 4 0 m194.2.length),(.d (e_aAttrs x178.fAttrs)),(.sref 13102 4 0 m194.1.length)]))),(13100,some (we_aPrefix_29_4 m194.2)),(13102,some (we_aPrefix_29_4 m194.1))]:OL)) (fun m194 h E' O' hmat => ?_) (fun j195 hjj195 h => ?_)
     ·apply blkQ_n
      apply seqQ_n
      refine AWp.ghost hmat ?_
      apply AWp.seq
      refine AWp.ghost (Mat.freezeP (n:=13100) (e:=29) (sz:=4) (es:=m194.2.map e_aPrefix) (Ts:=[]) (Bs:=[(1010,some (.box 61 (.st [(qe_aPrefix_4 m194.2),(.d (e_aAttrs x178.fAttrs)),(.sref 13102 4 0 m194.1.length)])))]) (by rfl) TwT.nil (TwB.cons (x:=(.st [(.sref 13100 4 0 m194.2.length),(.d (e_aAttrs x178.fAttrs)),(.sref 13102 4 0 m194.1.length)])) (by rfl) (Tw.st (TwL.cons (FrzL.all (by first | rfl | (simp;done) | (simp;omega) | omega)) (TwL.cons (Tw.same _) (TwL.cons (Tw.same _) TwL.nil)))) TwB.nil)) ?_
      refine AWp.ghost (Mat.freezeP (n:=13102) (e:=29) (sz:=4) (es:=m194.1.map e_aPrefix) (Ts:=[]) (Bs:=[(1010,some (.box 61 (.st [(qe_aPrefix_4 m194.2),(.d (e_aAttrs x178.fAttrs)),(qe_aPrefix_4 m194.1)])))]) (by rfl) TwT.nil (TwB.cons (x:=(.st [(qe_aPrefix_4 m194.2),(.d (e_aAttrs x178.fAttrs)),(.sref 13102 4 0 m194.1.length)])) (by rfl) (Tw.st (TwL.cons (Tw.same _) (TwL.cons (Tw.same _) (TwL.cons (FrzL.all (by first | rfl | (simp;done) | (simp;omega) | omega)) TwL.nil)))) TwB.nil)) ?_
      obtain⟨r196,hr196,h⟩:=bindS h
      refine rg (SQ (fa (cl [] (xref19_Valid_ac (aUpdate.mk m194.2 x178.fAttrs m194.1) r196 hr196)) tt)) ?_
      apply seqQ_n
      apply AWp.cond rfl<;>intro hg197
      ·have h:=ite_t hg197 h
       refine sr (SQ tt) ?_
       apply AWp.ret
       apply blkQ_r
       apply seqQ_r
       obtain rfl:=oi h
       exact⟨(fun hc=>by cases hc),rfl,(mp [] _ _ hB)⟩
      ·have h:=ite_f hg197 h
       apply AWp.skip
       apply blkQ_n
       exact hjj177 _ h _ _ (mp [] _ _ hB)
     ·apply AWp.cond rfl<;>intro hg198
      ·have h:=ite_t hg198 h
       obtain⟨_,hx199,h⟩:=bindS h
       obtain⟨hc200,h⟩:=chk_some h
       refine drS (SQ (fa hx199 (fa hc200 tt))) ?_
       exact hjj195 _ h _ _ (mp [(13100,1065),(13102,1045)] _ _ hB)
      ·have h:=ite_f hg198 h
       apply AWp.seq
       refine AWp.cut h (fun m203:Bool=>([(5,(qe_aUpdate_13 r4.1)),(7,(i6 s6)),(9,(pt 1009)),(10,(pt 1010)),(67,(bo m203))]:EL)) (fun m203:Bool=>([(500,some (.know (globD 0 (.imap gv0)))),(1009,bd 61 (e_aUpdate x179)),(1010,some (.box 61 (.st [(.sref 1040 4 0 x178.fWithdraw.length),(.d (e_aAttrs x178.fAttrs)),(.sref 1045 4 0 x178.fAnnounce.length)]))),(1040,some (we_aPrefix_29_4 x178.fWithdraw)),(1045,some (we_aPrefix_29_4 x178.fAnnounce))]:OL)) (fun m203 h E' O' hmat => ?_) (fun j204 hjj204 h => ?_)
       ·apply seqQ_n
        refine AWp.ghost hmat ?_
        apply AWp.cond rfl<;>intro hg205
        ·have h:=ite_t hg205 h
         obtain⟨_,hx206,h⟩:=bindS h
         obtain⟨hc207,h⟩:=chk_some h
         refine drS (SQ (fa hx206 (fa hc207 tt))) ?_
         exact hjj195 _ h _ _ (mp [(13100,1040),(13102,1092)] _ _ hB)
        ·have h:=ite_f hg205 h
         apply AWp.exit
         refine blkQ_miss (by rfl) ?_
         apply seqQ_e
         apply blkQ_hit
         exact hjj177 _ h _ _ (mp [] _ _ hB)
       ·rcases bft ((decide (0<(x178.fAnnounce.length:Int)))&&(decide (0<(x179.fAnnounce.length:Int)))) with hg208 | hg208
        ·have h:=ite_t hg208 h
         obtain⟨r209,hr209,h⟩:=bindS h
         refine rg (SQ (fa hg208 (fa (cl [] (xref23_SameAttrs_ac x178.fAttrs x179.fAttrs r209 hr209)) tt))) ?_
         exact hjj204 _ h _ _ (mp [] _ _ hB)
        ·have h:=ite_f hg208 h
         refine rg (SQ (fa hg208 tt)) ?_
         exact hjj204 _ h _ _ (mp [] _ _ hB)
   ·have h:=ite_f hg143 h
    apply AWp.exit
    apply seqQ_e
    obtain rfl:=oi h
    exact⟨(fun hc=>by cases hc),rfl,(mp [] _ _ hB)⟩
  ·rcases x210 with _ | _
   ·obtain⟨rfl,hmat⟩:=hR
    apply blkQ_r
    apply seqQ_r
    obtain rfl:=oi h
    exact rt (Mat.trans hmat (mp [] [(4,(bo false))] [(500,some (.know (globD 0 (.imap gv0))))] hB)) [(bo false)] (Res.tmp (by rfl) (by rfl) Res.nil) rfl
   ·obtain⟨rfl,hmat⟩:=hR
    apply blkQ_hit
    apply seqQ_n
    refine AWp.ghost hmat ?_
    apply AWp.seq
    obtain⟨r212,hr212,h⟩:=bindS h
    refine rg (SQ (fa (cl [(500,500)] (xlaw30_awake_ac  r212 hr212)) tt)) ?_
    apply seqQ_n
    refine AWp.ghost (mp [] [(4,(bo r212))] [(500,some (.know (globD 0 (.imap gv0))))] hB) ?_
    apply AWp.ret
    obtain rfl:=oi h
    exact rt (kp [(4,_)] [(500,some _)] hB rfl rfl (by rfl)) [(bo r212)] (Res.tmp (by rfl) (by rfl) Res.nil) rfl
end
end Go.Proofs.YtkhjkjojjdkidaaGreatDoor
