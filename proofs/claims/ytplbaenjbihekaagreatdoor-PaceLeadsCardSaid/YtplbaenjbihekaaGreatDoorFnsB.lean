/- Printed by gen.py: the Go functions as plain functions, and that the code does what they say. -/
import Derived.Test.YtplbaenjbihekaaGreatDoorChecked
import Derived.Test.YtplbaenjbihekaaGreatDoorVcYB
import Derived.Test.YtplbaenjbihekaaGreatDoorVcZ
import Derived.Test.YtplbaenjbihekaaGreatDoorVcGC
import Derived.KernelRfl
import Derived.Test.YtplbaenjbihekaaGreatDoorVcMD
import Derived.Test.YtplbaenjbihekaaGreatDoorVcMQ
import Derived.Test.YtplbaenjbihekaaGreatDoorVcSG
import Derived.Test.YtplbaenjbihekaaGreatDoorFnsA
import Derived.Test.YtplbaenjbihekaaGreatDoorExt
import Derived.Test.YtplbaenjbihekaaGreatDoorVcPm
import Derived.Test.YtplbaenjbihekaaGreatDoorVcRg
import Derived.Test.YtplbaenjbihekaaGreatDoorVcSt
import Derived.Test.YtplbaenjbihekaaGreatDoorVcMR
import Derived.Test.YtplbaenjbihekaaGreatDoorVcFu
namespace Go.Proofs.YtplbaenjbihekaaGreatDoor
open Go Go.Vc
open Tryz
open Go.Vc.OpJ (assign alloc lss pickT pickF extract lenD indexD loadD eqlI gtr callVal leq geq loadR nilP indexS buildSlice lenS fieldD neqI pickAnd pickOr)
open Go.Vc.AWp (seq ghost ret block)
set_option maxHeartbeats 4000000
set_option maxRecDepth 100000
noncomputable section
def G7 (s1:Int×(List B3)×(List B3)×C4):Option (((C4×(List B3)×(List B3)))⊕(Int×(List B3)×(List B3)×C4)) :=
 (if (decide (s1.1<8))=true then
 (M7 s1.1).bind fun r50 =>
 (G2 s1.2.2.2 3).bind fun r51 =>
 (A23).bind fun r52 =>
 (N8 (w64 (101+r51.1)) r50.fAddr.fV6).bind fun r53 =>
 (G2 r51.2 2).bind fun r54 =>
 (G2 r54.2 4).bind fun r55 =>
 jn (fun m63:(List B3)×(List B3) =>
 some (.inr ((w64 (s1.1+1)),m63.1,m63.2,r55.2))) (fun j64 =>
 (if (r55.1==0)=true then
 chk (decide ((s1.2.2.1++([(B3.mk r50 (w64 (101+r51.1)) (D9.mk 0 ([(B2.mk false ([(w64 (101+r51.1))]:List Int))]:List B2) r53 r54.1 r52.fPref r52.fOTC r52.fCommunities r52.fLarge r52.fOther))]:List B3)).length≤LIM)) <|
 j64 (s1.2.1,(s1.2.2.1++([(B3.mk r50 (w64 (101+r51.1)) (D9.mk 0 ([(B2.mk false ([(w64 (101+r51.1))]:List Int))]:List B2) r53 r54.1 r52.fPref r52.fOTC r52.fCommunities r52.fLarge r52.fOther))]:List B3)))
 else
 (if (r55.1==1)=true then
 chk (decide ((s1.2.1++([(B3.mk r50 (w64 (101+r51.1)) (D9.mk 0 ([(B2.mk false ([(w64 (101+r51.1))]:List Int))]:List B2) r53 r54.1 r52.fPref r52.fOTC r52.fCommunities r52.fLarge r52.fOther))]:List B3)).length≤LIM)) <|
 j64 ((s1.2.1++([(B3.mk r50 (w64 (101+r51.1)) (D9.mk 0 ([(B2.mk false ([(w64 (101+r51.1))]:List Int))]:List B2) r53 r54.1 r52.fPref r52.fOTC r52.fCommunities r52.fLarge r52.fOther))]:List B3)),s1.2.2.1)
 else
 (if (r55.1==2)=true then
 chk (decide ((s1.2.2.1++([(B3.mk r50 (w64 (101+r51.1)) (D9.mk 0 ([(B2.mk false ([(w64 (101+r51.1))]:List Int))]:List B2) r53 r54.1 r52.fPref r52.fOTC r52.fCommunities r52.fLarge r52.fOther))]:List B3)).length≤LIM)) <|
 chk (decide ((s1.2.1++([(B3.mk r50 (w64 (101+r51.1)) (D9.mk 0 ([(B2.mk false ([(w64 (101+r51.1))]:List Int))]:List B2) r53 5 r52.fPref r52.fOTC r52.fCommunities r52.fLarge r52.fOther))]:List B3)).length≤LIM)) <|
 j64 ((s1.2.1++([(B3.mk r50 (w64 (101+r51.1)) (D9.mk 0 ([(B2.mk false ([(w64 (101+r51.1))]:List Int))]:List B2) r53 5 r52.fPref r52.fOTC r52.fCommunities r52.fLarge r52.fOther))]:List B3)),(s1.2.2.1++([(B3.mk r50 (w64 (101+r51.1)) (D9.mk 0 ([(B2.mk false ([(w64 (101+r51.1))]:List Int))]:List B2) r53 r54.1 r52.fPref r52.fOTC r52.fCommunities r52.fLarge r52.fOther))]:List B3)))
 else
 j64 (s1.2.1,s1.2.2.1)))))
 else
 some (.inl (s1.2.2.2,s1.2.1,s1.2.2.1)))
def H3 (a0:C4) (a1:Int):Option ((List A1)×C4) :=
 (loop (G7) (0,([]:List B3),([]:List B3),a0)).bind fun p48 =>
 (A1q a1 p48.2.2 p48.2.1).bind fun r74 =>
 some (r74,p48.1)
theorem A0h (a0:C4) (a1:Int) (r:(List A1)×C4) (h:H3 a0 a1=some r):AC Tryz.prog 15 [(pt 0),(.d (.int .i64 a1))] [(0,(.box 80 (.d (E6 a0))))] (.d (.list 22 (r.1.map A6))) [(0,bd 80 (E6 r.2))]:=by
 refine ac2 Tryz.func15 rfl rfl fun B hB hN L => ?_
 delta H3 at h
 apply sr (c (assign (L rfl) Opd.nils) rfl cn)
 apply sr (c (assign (L rfl) Opd.nils) rfl (c (assign (L rfl) Opd.nils) rfl cn))
 apply seq
 apply sr (c (assign (L rfl) (ii 0)) rfl cn)
 apply block
 obtain⟨p48,hx73,h⟩:=bindS h
 refine lg (G7) (fun s1:Int×(List B3)×(List B3)×C4=>([(0,(pt 0)),(1,(i6 a1)),(5,(.sref 3005 16 0 s1.2.2.1.length)),(6,(.sref 3006 16 0 s1.2.1.length)),(7,(i6 s1.1))]:EL)) (fun s1:Int×(List B3)×(List B3)×C4=>([(0,bd 80 (E6 s1.2.2.2)),(3005,some (E9 s1.2.2.1)),(3006,some (E9 s1.2.1))]:OL)) (fun(p48:(C4×(List B3)×(List B3))) e E' O'=>e = .exit 0∧Mat B E' O' ([(1,(i6 a1)),(5,(.sref 3005 16 0 p48.2.2.length)),(6,(.sref 3006 16 0 p48.2.1.length))]:EL) ([(0,bd 80 (E6 p48.1)),(3005,some (E9 p48.2.2)),(3006,some (E9 p48.2.1))]:OL)) hx73 (Mat.trans (Mat.beginP (n:=3005) (e:=41) (sz:=16) (Ts:=[(5,(.sref 3005 16 0 0))]) (Bs:=[]) hB (by decide) (by rfl) (by decide) (TwT.cons (x:=.nils) (by rfl) (Tw.leaf ⟨rfl,rfl⟩) TwT.nil) TwB.nil) (Mat.trans (Mat.beginP (n:=3006) (e:=41) (sz:=16) (Ts:=[(6,(.sref 3006 16 0 0))]) (Bs:=[]) hB (by decide) (by rfl) (by decide) (TwT.cons (x:=.nils) (by rfl) (Tw.leaf ⟨rfl,rfl⟩) TwT.nil) TwB.nil) (mp [] _ _ hB))) (fun s1 y h => ?_) (fun e E' O' hR => ?_)
 ·unfold G7 at h
  apply seq
  apply sr (c (mv hN (q 7)) rfl (c (lss (L rfl) (q 10) (ii 8)) rfl cn))
  apply AWp.cond rfl<;>intro hg49
  ·have h:=B6 hg49 h
   apply AWp.skip
   apply A3
   apply seq
   apply block
   obtain⟨r50,hr50,h⟩:=bindS h
   apply sr (c (mv hN (q 7)) rfl (cg (cf hB fnOk34 (A2a s1.1 r50 hr50) (L rfl) (OpdL.cons (q 14) OpdL.nil)) rfl (cg (alloc hB tyZ33 (nm:=1008) (by decide) (L rfl)) rfl (cg (sB tyS33 (q 8) (q 15)) rfl cn))))
   apply seq
   obtain⟨r51,hr51,h⟩:=bindS h
   refine AWp.draws (by kernel_rfl) (oc (lb hN 33 (.d (A2 r50)) (.d (A2 r50)) tyS33 (At.here _) (ot 8 (pt 1008)))
    (oc (mv hN (ot 0 (pt 0)))
    (oc (OpJ.callFn hB fnOk25 (H2 s1.2.2.2 3 r51 hr51) [(0,0)] (by kernel_rfl) (L rfl) (by kernel_rfl) (OpdL.cons (ot 17 (pt 0)) (OpdL.cons (ii 3) OpdL.nil)))
    (oc (add6 (L rfl) (ii 101) (ot 18 (i6 r51.1)))
    (oc (OpJ.build (places:=[(0,4),(4,1),(5,11)]) ⟨underlying41,fun w=>by kernel_rfl⟩ tyZS41 (Opds.cons (ot 16 (.d (A2 r50))) (Opds.cons (ot 19 (i6 (w64 (101+r51.1)))) Opds.nil)) (by kernel_rfl) (r:=(.st [(.d (A2 r50)),(i6 (w64 (101+r51.1))),(.st [(i6 0),.nils,(.d (.st [(.bool false),(.int .u64 0),(.int .u64 0)])),(i6 0),(i6 0),(i6 0),.nils,.nils,.nils])])) (by rfl) (L rfl))
    (oc (alloc hB tyZ41 (nm:=1009) (by decide) (L rfl))
    (oc (OpJ.storeB (bt:=41) (c:=(.st [(.d (.st [(.st [(.bool false),(.int .u64 0),(.int .u64 0)]),(.int .i64 0)])),(i6 0),(.st [(i6 0),.nils,(.d (.st [(.bool false),(.int .u64 0),(.int .u64 0)])),(i6 0),(i6 0),(i6 0),.nils,.nils,.nils])])) (v:=(.st [(.d (A2 r50)),(i6 (w64 (101+r51.1))),(.st [(i6 0),.nils,(.d (.st [(.bool false),(.int .u64 0),(.int .u64 0)])),(i6 0),(i6 0),(i6 0),.nils,.nils,.nils])])) (c':=(.st [(.d (A2 r50)),(i6 (w64 (101+r51.1))),(.st [(i6 0),.nils,(.d (.st [(.bool false),(.int .u64 0),(.int .u64 0)])),(i6 0),(i6 0),(i6 0),.nils,.nils,.nils])])) tyS41 (SetAt.here _ _) (by rfl) (by rfl) (by simp) rfl (ot 9 (pt 1009)) (ot 20 (.st [(.d (A2 r50)),(i6 (w64 (101+r51.1))),(.st [(i6 0),.nils,(.d (.st [(.bool false),(.int .u64 0),(.int .u64 0)])),(i6 0),(i6 0),(i6 0),.nils,.nils,.nils])])))
    (OpJs.nil)))))))) (by kernel_rfl) (by rfl) (by rfl) ?_
   apply A3
   refine ghost (mp [] [(0,(pt 0)),(1,(i6 a1)),(5,(.sref 3005 16 0 s1.2.2.1.length)),(6,(.sref 3006 16 0 s1.2.1.length)),(7,(i6 s1.1)),(8,(pt 1008)),(9,(pt 1009))] [(0,bd 80 (E6 r51.2)),(1008,bd 33 (A2 r50)),(1009,some (.box 41 (.st [(.d (A2 r50)),(i6 (w64 (101+r51.1))),(.st [(i6 0),.nils,(.d (.st [(.bool false),(.int .u64 0),(.int .u64 0)])),(i6 0),(i6 0),(i6 0),.nils,.nils,.nils])]))),(3005,some (E9 s1.2.2.1)),(3006,some (E9 s1.2.1))] hB) ?_
   obtain⟨r52,hr52,h⟩:=bindS h
   apply sr (cg (cf hB fnOk35 (A7h r52 hr52) (L rfl) OpdL.nil) rfl (c (fo 1009 5 [2] hN underlying41 5 tyS39 (q 9)) rfl (cg (OpJ.storeB (c':=(.st [(.d (A2 r50)),(i6 (w64 (101+r51.1))),(.d (A8 r52))])) tyS39 (SetAt.st1 (f:=(.st [(i6 0),.nils,(.d (.st [(.bool false),(.int .u64 0),(.int .u64 0)])),(i6 0),(i6 0),(i6 0),.nils,.nils,.nils])) (by rfl) (by rfl) (SetAt.here _ _) (by rfl) (by rfl) (by first | rfl | omega)) (by rfl) (by rfl) (by simp) rfl (q 22) (q 21)) rfl cn)))
   obtain⟨r53,hr53,h⟩:=bindS h
   apply sd (c (fo 1009 4 [1] hN underlying41 4 tyS3 (q 9)) rfl (c (lb hN 41 _ (i6 (w64 (101+r51.1))) tyS3 (At.st1 (f:=(i6 (w64 (101+r51.1)))) (by rfl) (by rfl) (At.here _) (by first | rfl | omega)) (q 23)) rfl (c (buildSlice underlying27 tyS3 tyZD3 (by rfl) (by decide) (by decide) (Opds.cons (q 24) Opds.nil) (by kernel_rfl) (es:=([(.int .i64 (w64 (101+r51.1)))]:List D)) (by rfl) (by rfl) (by kernel_rfl) (by simp) (L rfl)) rfl (c (OpJ.coe (v:=(.st [(bo false),(qI_1 ([(w64 (101+r51.1))]:List Int))])) (y:=(.st [(.bool false),(.list 1 (([(w64 (101+r51.1))]:List Int).map (eI .i64)))])) (Co.st (CoL.cons (Co.d _) (CoL.cons (Co.d _) CoL.nil))) rfl (OpJ.build (places:=[(0,1),(1,1)]) ⟨underlying75,fun w=>by kernel_rfl⟩ tyZS75 (Opds.cons (q 25) Opds.nil) (by kernel_rfl) (r:=(.st [(bo false),(qI_1 ([(w64 (101+r51.1))]:List Int))])) (by rfl) (L rfl))) rfl (c (buildSlice underlying34 tyS75 tyZD75 (by rfl) (by decide) (by decide) (Opds.cons (q 26) Opds.nil) (by kernel_rfl) (es:=([(.st [(.bool false),(.list 1 (([(w64 (101+r51.1))]:List Int).map (eI .i64)))])]:List D)) (by rfl) (by rfl) (by kernel_rfl) (by simp) (L rfl)) rfl (c (fo 1009 4 [1] hN underlying41 4 tyS3 (q 9)) rfl (c (lb hN 41 _ (i6 (w64 (101+r51.1))) tyS3 (At.st1 (f:=(i6 (w64 (101+r51.1)))) (by rfl) (by rfl) (At.here _) (by first | rfl | omega)) (q 28)) rfl (c (fo 1008 0 [0] hN underlying33 0 tyS31 (q 8)) rfl (c (fo 1008 0 [0,0] hN underlying31 0 tyS4 (q 30)) rfl (c (lb hN 33 _ _ tyS4 (At.dst1 (by rfl) (by rfl) (ad _) (by first | rfl | omega)) (q 31)) rfl (cg (cf hB fnOk36 (A2i (w64 (101+r51.1)) r50.fAddr.fV6 r53 hr53) (L rfl) (OpdL.cons (q 29) (OpdL.cons (q 32) OpdL.nil))) rfl (c (fo 1009 5 [2] hN underlying41 5 tyS39 (q 9)) rfl (c (fo 1009 5 [2,0] hN underlying39 0 tyS3 (q 34)) rfl (cg (OpJ.storeB (c':=(.st [(.d (A2 r50)),(i6 (w64 (101+r51.1))),(.d (.st [(.int .i64 0),(.list 2 (r52.fPath.map B4)),(C5 r52.fNext),(.int .i64 r52.fMED),(.int .i64 r52.fPref),(.int .i64 r52.fOTC),(.list 2 (r52.fCommunities.map B1)),(.list 3 (r52.fLarge.map C7)),(.list 3 (r52.fOther.map A5))]))])) tyS3 (SetAt.st1 (f:=(.d (A8 r52))) (by rfl) (by rfl) (SetAt.dst1 (by rfl) (by rfl) (SetAt.here _ _) (by rfl) (by rfl) (by first | rfl | omega)) (by rfl) (by rfl) (by first | rfl | omega)) (by rfl) (by rfl) (by simp) rfl (q 35) (ii 0)) rfl (c (fo 1009 5 [2] hN underlying41 5 tyS39 (q 9)) rfl (c (fo 1009 6 [2,1] hN underlying39 1 tyS34 (q 36)) rfl (cg (OpJ.storeB (c':=(.st [(.d (A2 r50)),(i6 (w64 (101+r51.1))),(.d (.st [(.int .i64 0),(.list 2 (([(B2.mk false ([(w64 (101+r51.1))]:List Int))]:List B2).map B4)),(C5 r52.fNext),(.int .i64 r52.fMED),(.int .i64 r52.fPref),(.int .i64 r52.fOTC),(.list 2 (r52.fCommunities.map B1)),(.list 3 (r52.fLarge.map C7)),(.list 3 (r52.fOther.map A5))]))])) tyS34 (SetAt.st1 (f:=(.d (.st [(.int .i64 0),(.list 2 (r52.fPath.map B4)),(C5 r52.fNext),(.int .i64 r52.fMED),(.int .i64 r52.fPref),(.int .i64 r52.fOTC),(.list 2 (r52.fCommunities.map B1)),(.list 3 (r52.fLarge.map C7)),(.list 3 (r52.fOther.map A5))]))) (by rfl) (by rfl) (SetAt.dst1 (by rfl) (by rfl) (SetAt.here _ _) (by rfl) (by rfl) (by first | rfl | omega)) (by rfl) (by rfl) (by first | rfl | omega)) (by rfl) (by rfl) (by simp) rfl (q 37) (q 27)) rfl (c (fo 1009 5 [2] hN underlying41 5 tyS39 (q 9)) rfl (c (fo 1009 7 [2,2] hN underlying39 2 tyS31 (q 38)) rfl (cg (OpJ.storeB (c':=(.st [(.d (A2 r50)),(i6 (w64 (101+r51.1))),(.d (.st [(.int .i64 0),(.list 2 (([(B2.mk false ([(w64 (101+r51.1))]:List Int))]:List B2).map B4)),(C5 r53),(.int .i64 r52.fMED),(.int .i64 r52.fPref),(.int .i64 r52.fOTC),(.list 2 (r52.fCommunities.map B1)),(.list 3 (r52.fLarge.map C7)),(.list 3 (r52.fOther.map A5))]))])) tyS31 (SetAt.st1 (f:=(.d (.st [(.int .i64 0),(.list 2 (([(B2.mk false ([(w64 (101+r51.1))]:List Int))]:List B2).map B4)),(C5 r52.fNext),(.int .i64 r52.fMED),(.int .i64 r52.fPref),(.int .i64 r52.fOTC),(.list 2 (r52.fCommunities.map B1)),(.list 3 (r52.fLarge.map C7)),(.list 3 (r52.fOther.map A5))]))) (by rfl) (by rfl) (SetAt.dst1 (by rfl) (by rfl) (SetAt.here _ _) (by rfl) (by rfl) (by first | rfl | omega)) (by rfl) (by rfl) (by first | rfl | omega)) (by rfl) (by rfl) (by simp) rfl (q 39) (q 33)) rfl cn)))))))))))))))))))) (by kernel_rfl) (by kernel_rfl)
   apply seq
   obtain⟨r54,hr54,h⟩:=bindS h
   refine AWp.region (oc (mv hN (ot 0 (pt 0)))
    (oc (OpJ.callFn hB fnOk25 (H2 r51.2 2 r54 hr54) [(0,0)] (by kernel_rfl) (L rfl) (by kernel_rfl) (OpdL.cons (ot 40 (pt 0)) (OpdL.cons (ii 2) OpdL.nil)))
    (oc (ov (.ptr 1009 5 [2]) (fp hN underlying41 5 tyS39 (.box 41 (.st [(.d (A2 r50)),(i6 (w64 (101+r51.1))),(.d (.st [(.int .i64 0),(.list 2 (([(B2.mk false ([(w64 (101+r51.1))]:List Int))]:List B2).map B4)),(C5 r53),(.int .i64 r52.fMED),(.int .i64 r52.fPref),(.int .i64 r52.fOTC),(.list 2 (r52.fCommunities.map B1)),(.list 3 (r52.fLarge.map C7)),(.list 3 (r52.fOther.map A5))]))])) (ot 9 (pt 1009))))
    (oc (ov (.ptr 1009 10 [2,3]) (fp hN underlying39 5 tyS3 (.box 41 (.st [(.d (A2 r50)),(i6 (w64 (101+r51.1))),(.d (.st [(.int .i64 0),(.list 2 (([(B2.mk false ([(w64 (101+r51.1))]:List Int))]:List B2).map B4)),(C5 r53),(.int .i64 r52.fMED),(.int .i64 r52.fPref),(.int .i64 r52.fOTC),(.list 2 (r52.fCommunities.map B1)),(.list 3 (r52.fLarge.map C7)),(.list 3 (r52.fOther.map A5))]))])) (ot 42 (.ptr 1009 5 [2]))))
    (oc (OpJ.storeB (bt:=41) (c:=(.st [(.d (A2 r50)),(i6 (w64 (101+r51.1))),(.d (.st [(.int .i64 0),(.list 2 (([(B2.mk false ([(w64 (101+r51.1))]:List Int))]:List B2).map B4)),(C5 r53),(.int .i64 r52.fMED),(.int .i64 r52.fPref),(.int .i64 r52.fOTC),(.list 2 (r52.fCommunities.map B1)),(.list 3 (r52.fLarge.map C7)),(.list 3 (r52.fOther.map A5))]))])) (v:=(i6 r54.1)) (c':=(.st [(.d (A2 r50)),(i6 (w64 (101+r51.1))),(.d (.st [(.int .i64 0),(.list 2 (([(B2.mk false ([(w64 (101+r51.1))]:List Int))]:List B2).map B4)),(C5 r53),(.int .i64 r54.1),(.int .i64 r52.fPref),(.int .i64 r52.fOTC),(.list 2 (r52.fCommunities.map B1)),(.list 3 (r52.fLarge.map C7)),(.list 3 (r52.fOther.map A5))]))])) tyS3 (SetAt.st1 (f:=(.d (.st [(.int .i64 0),(.list 2 (([(B2.mk false ([(w64 (101+r51.1))]:List Int))]:List B2).map B4)),(C5 r53),(.int .i64 r52.fMED),(.int .i64 r52.fPref),(.int .i64 r52.fOTC),(.list 2 (r52.fCommunities.map B1)),(.list 3 (r52.fLarge.map C7)),(.list 3 (r52.fOther.map A5))]))) (by rfl) (by rfl) (SetAt.dst1 (f:=(.int .i64 r52.fMED)) (f':=(.int .i64 r54.1)) (by rfl) (by rfl) (SetAt.here _ _) (by rfl) (by rfl) (by first | rfl | omega)) (by rfl) (by rfl) (by first | rfl | omega)) (by rfl) (by rfl) (by simp) rfl (ot 43 (.ptr 1009 10 [2,3])) (ot 41 (i6 r54.1)))
    (OpJs.nil)))))) (by rfl) (by rfl) ?_
   apply A3
   refine ghost (mp [] [(0,(pt 0)),(1,(i6 a1)),(5,(.sref 3005 16 0 s1.2.2.1.length)),(6,(.sref 3006 16 0 s1.2.1.length)),(7,(i6 s1.1)),(9,(pt 1009))] [(0,bd 80 (E6 r54.2)),(1009,some (.box 41 (.st [(.d (A2 r50)),(i6 (w64 (101+r51.1))),(.d (.st [(.int .i64 0),(.list 2 (([(B2.mk false ([(w64 (101+r51.1))]:List Int))]:List B2).map B4)),(C5 r53),(.int .i64 r54.1),(.int .i64 r52.fPref),(.int .i64 r52.fOTC),(.list 2 (r52.fCommunities.map B1)),(.list 3 (r52.fLarge.map C7)),(.list 3 (r52.fOther.map A5))]))]))),(3005,some (E9 s1.2.2.1)),(3006,some (E9 s1.2.1))] hB) ?_
   apply seq
   obtain⟨r55,hr55,h⟩:=bindS h
   refine AWp.region (oc (mv hN (ot 0 (pt 0)))
    (oc (OpJ.callFn hB fnOk25 (H2 r54.2 4 r55 hr55) [(0,0)] (by kernel_rfl) (L rfl) (by kernel_rfl) (OpdL.cons (ot 44 (pt 0)) (OpdL.cons (ii 4) OpdL.nil)))
    (OpJs.nil))) (by rfl) (by rfl) ?_
   apply A3
   refine ghost (mp [] [(0,(pt 0)),(1,(i6 a1)),(5,(.sref 3005 16 0 s1.2.2.1.length)),(6,(.sref 3006 16 0 s1.2.1.length)),(7,(i6 s1.1)),(9,(pt 1009)),(45,(i6 r55.1))] [(0,bd 80 (E6 r55.2)),(1009,some (.box 41 (.st [(.d (A2 r50)),(i6 (w64 (101+r51.1))),(.d (.st [(.int .i64 0),(.list 2 (([(B2.mk false ([(w64 (101+r51.1))]:List Int))]:List B2).map B4)),(C5 r53),(.int .i64 r54.1),(.int .i64 r52.fPref),(.int .i64 r52.fOTC),(.list 2 (r52.fCommunities.map B1)),(.list 3 (r52.fLarge.map C7)),(.list 3 (r52.fOther.map A5))]))]))),(3005,some (E9 s1.2.2.1)),(3006,some (E9 s1.2.1))] hB) ?_
   apply block
   apply sr (c (eqlI (L rfl) (q 45) (ii 0)) rfl (c (assign (L rfl) (q 47)) rfl cn))
   refine gh [(0,_),(1,_),(5,_),(6,_),(7,_),(9,_),(45,_),(46,_)] [(0,some _),(1009,some _),(3005,some _),(3006,some _)] hB rfl rfl (by rfl) ?_
   refine AWp.cut h (fun m63:(List B3)×(List B3)=>([(0,(pt 0)),(1,(i6 a1)),(5,(.sref 3005 16 0 m63.2.length)),(6,(.sref 3006 16 0 m63.1.length)),(7,(i6 s1.1))]:EL)) (fun m63:(List B3)×(List B3)=>([(0,bd 80 (E6 r55.2)),(3005,some (E9 m63.2)),(3006,some (E9 m63.1))]:OL)) (fun m63 h E' O' hmat => ?_) (fun j64 hjj64 h => ?_)
   ·apply F8
    apply F8
    apply A3
    refine ghost hmat ?_
    apply rg (c (mv hN (q 7)) rfl (c (add6 (L rfl) (q 12) (ii 1)) rfl (c (assign (L rfl) (q 13)) rfl cn)))
    obtain rfl:=oi h
    exact⟨rfl,(mp [] _ _ hB)⟩
   ·apply AWp.cond rfl<;>intro hg65
    ·have h:=B6 hg65 h
     obtain⟨hc66,h⟩:=D3 h
     apply rg (c (mv hN (q 5)) rfl (c (lb hN 41 _ _ tyS41 (At.here _) (q 9)) rfl (c (buildSlice underlying65 tyS41 tyZD41 (by rfl) (by decide) (by decide) (Opds.cons (Opd.co (Co.st (CoL.cons (Co.d _) (CoL.cons (Co.d _) (CoL.cons (Co.d _) CoL.nil)))) (q 49)) Opds.nil) (by kernel_rfl) (es:=([(.st [(A2 r50),(.int .i64 (w64 (101+r51.1))),(.st [(.int .i64 0),(.list 2 (([(B2.mk false ([(w64 (101+r51.1))]:List Int))]:List B2).map B4)),(C5 r53),(.int .i64 r54.1),(.int .i64 r52.fPref),(.int .i64 r52.fOTC),(.list 2 (r52.fCommunities.map B1)),(.list 3 (r52.fLarge.map C7)),(.list 3 (r52.fOther.map A5))])])]:List D)) (by rfl) (by rfl) (by kernel_rfl) (by simp) (L rfl)) rfl (cg (apd hB underlying65 tyE41 1051 E5 s1.2.2.1 ([(B3.mk r50 (w64 (101+r51.1)) (D9.mk 0 ([(B2.mk false ([(w64 (101+r51.1))]:List Int))]:List B2) r53 r54.1 r52.fPref r52.fOTC r52.fCommunities r52.fLarge r52.fOther))]:List B3) hc66 (L rfl) (q 48) (q 50)) rfl (c (assign (L rfl) (q 51)) rfl cn)))))
     exact hjj64 _ h _ _ (mp [(3005,1051)] _ _ hB)
    ·have h:=B7 hg65 h
     apply sr (c (eqlI (L rfl) (q 45) (ii 1)) rfl (c (assign (L rfl) (q 53)) rfl cn))
     apply AWp.cond rfl<;>intro hg67
     ·have h:=B6 hg67 h
      obtain⟨hc68,h⟩:=D3 h
      apply rg (c (mv hN (q 6)) rfl (c (lb hN 41 _ _ tyS41 (At.here _) (q 9)) rfl (c (buildSlice underlying65 tyS41 tyZD41 (by rfl) (by decide) (by decide) (Opds.cons (Opd.co (Co.st (CoL.cons (Co.d _) (CoL.cons (Co.d _) (CoL.cons (Co.d _) CoL.nil)))) (q 55)) Opds.nil) (by kernel_rfl) (es:=([(.st [(A2 r50),(.int .i64 (w64 (101+r51.1))),(.st [(.int .i64 0),(.list 2 (([(B2.mk false ([(w64 (101+r51.1))]:List Int))]:List B2).map B4)),(C5 r53),(.int .i64 r54.1),(.int .i64 r52.fPref),(.int .i64 r52.fOTC),(.list 2 (r52.fCommunities.map B1)),(.list 3 (r52.fLarge.map C7)),(.list 3 (r52.fOther.map A5))])])]:List D)) (by rfl) (by rfl) (by kernel_rfl) (by simp) (L rfl)) rfl (cg (apd hB underlying65 tyE41 1057 E5 s1.2.1 ([(B3.mk r50 (w64 (101+r51.1)) (D9.mk 0 ([(B2.mk false ([(w64 (101+r51.1))]:List Int))]:List B2) r53 r54.1 r52.fPref r52.fOTC r52.fCommunities r52.fLarge r52.fOther))]:List B3) hc68 (L rfl) (q 54) (q 56)) rfl (c (assign (L rfl) (q 57)) rfl cn)))))
      exact hjj64 _ h _ _ (mp [(3006,1057)] _ _ hB)
     ·have h:=B7 hg67 h
      apply sr (c (eqlI (L rfl) (q 45) (ii 2)) rfl (c (assign (L rfl) (q 59)) rfl cn))
      apply AWp.cond rfl<;>intro hg69
      ·have h:=B6 hg69 h
       obtain⟨hc70,h⟩:=D3 h
       apply sr (c (mv hN (q 5)) rfl (c (lb hN 41 _ _ tyS41 (At.here _) (q 9)) rfl (c (buildSlice underlying65 tyS41 tyZD41 (by rfl) (by decide) (by decide) (Opds.cons (Opd.co (Co.st (CoL.cons (Co.d _) (CoL.cons (Co.d _) (CoL.cons (Co.d _) CoL.nil)))) (q 61)) Opds.nil) (by kernel_rfl) (es:=([(.st [(A2 r50),(.int .i64 (w64 (101+r51.1))),(.st [(.int .i64 0),(.list 2 (([(B2.mk false ([(w64 (101+r51.1))]:List Int))]:List B2).map B4)),(C5 r53),(.int .i64 r54.1),(.int .i64 r52.fPref),(.int .i64 r52.fOTC),(.list 2 (r52.fCommunities.map B1)),(.list 3 (r52.fLarge.map C7)),(.list 3 (r52.fOther.map A5))])])]:List D)) (by rfl) (by rfl) (by kernel_rfl) (by simp) (L rfl)) rfl (cg (apd hB underlying65 tyE41 1063 E5 s1.2.2.1 ([(B3.mk r50 (w64 (101+r51.1)) (D9.mk 0 ([(B2.mk false ([(w64 (101+r51.1))]:List Int))]:List B2) r53 r54.1 r52.fPref r52.fOTC r52.fCommunities r52.fLarge r52.fOther))]:List B3) hc70 (L rfl) (q 60) (q 62)) rfl (c (assign (L rfl) (q 63)) rfl cn)))))
       apply sr (c (fo 1009 5 [2] hN underlying41 5 tyS39 (q 9)) rfl (c (fo 1009 10 [2,3] hN underlying39 5 tyS3 (q 64)) rfl (cg (OpJ.storeB (c':=(.st [(.d (A2 r50)),(i6 (w64 (101+r51.1))),(.d (.st [(.int .i64 0),(.list 2 (([(B2.mk false ([(w64 (101+r51.1))]:List Int))]:List B2).map B4)),(C5 r53),(.int .i64 5),(.int .i64 r52.fPref),(.int .i64 r52.fOTC),(.list 2 (r52.fCommunities.map B1)),(.list 3 (r52.fLarge.map C7)),(.list 3 (r52.fOther.map A5))]))])) tyS3 (SetAt.st1 (f:=(.d (.st [(.int .i64 0),(.list 2 (([(B2.mk false ([(w64 (101+r51.1))]:List Int))]:List B2).map B4)),(C5 r53),(.int .i64 r54.1),(.int .i64 r52.fPref),(.int .i64 r52.fOTC),(.list 2 (r52.fCommunities.map B1)),(.list 3 (r52.fLarge.map C7)),(.list 3 (r52.fOther.map A5))]))) (by rfl) (by rfl) (SetAt.dst1 (by rfl) (by rfl) (SetAt.here _ _) (by rfl) (by rfl) (by first | rfl | omega)) (by rfl) (by rfl) (by first | rfl | omega)) (by rfl) (by rfl) (by simp) rfl (q 65) (ii 5)) rfl cn)))
       obtain⟨hc71,h⟩:=D3 h
       apply rg (c (mv hN (q 6)) rfl (c (lb hN 41 _ _ tyS41 (At.here _) (q 9)) rfl (c (buildSlice underlying65 tyS41 tyZD41 (by rfl) (by decide) (by decide) (Opds.cons (Opd.co (Co.st (CoL.cons (Co.d _) (CoL.cons (Co.d _) (CoL.cons (Co.d _) CoL.nil)))) (q 67)) Opds.nil) (by kernel_rfl) (es:=([(.st [(A2 r50),(.int .i64 (w64 (101+r51.1))),(.st [(.int .i64 0),(.list 2 (([(B2.mk false ([(w64 (101+r51.1))]:List Int))]:List B2).map B4)),(C5 r53),(.int .i64 5),(.int .i64 r52.fPref),(.int .i64 r52.fOTC),(.list 2 (r52.fCommunities.map B1)),(.list 3 (r52.fLarge.map C7)),(.list 3 (r52.fOther.map A5))])])]:List D)) (by rfl) (by rfl) (by kernel_rfl) (by simp) (L rfl)) rfl (cg (apd hB underlying65 tyE41 1069 E5 s1.2.1 ([(B3.mk r50 (w64 (101+r51.1)) (D9.mk 0 ([(B2.mk false ([(w64 (101+r51.1))]:List Int))]:List B2) r53 5 r52.fPref r52.fOTC r52.fCommunities r52.fLarge r52.fOther))]:List B3) hc71 (L rfl) (q 66) (q 68)) rfl (c (assign (L rfl) (q 69)) rfl cn)))))
       exact hjj64 _ h _ _ (mp [(3005,1063),(3006,1069)] _ _ hB)
      ·have h:=B7 hg69 h
       apply AWp.skip
       exact hjj64 _ h _ _ (mp [] _ _ hB)
  ·have h:=B7 hg49 h
   apply AWp.exit
   apply F6
   obtain rfl:=oi h
   exact⟨(fun hc=>by cases hc),rfl,(mp [] _ _ hB)⟩
 ·obtain⟨rfl,hmat⟩:=hR
  apply E4
  apply A3
  refine ghost hmat ?_
  apply seq
  refine ghost (Mat.freezeP (n:=3005) (e:=41) (sz:=16) (es:=p48.2.2.map E5) (Ts:=[(5,(D1 p48.2.2))]) (Bs:=[]) (by rfl) (TwT.cons (x:=(.sref 3005 16 0 p48.2.2.length)) (by rfl) (FrzL.all (by first | rfl | (simp;done) | (simp;omega) | omega)) TwT.nil) TwB.nil) ?_
  refine ghost (Mat.freezeP (n:=3006) (e:=41) (sz:=16) (es:=p48.2.1.map E5) (Ts:=[(6,(D1 p48.2.1))]) (Bs:=[]) (by rfl) (TwT.cons (x:=(.sref 3006 16 0 p48.2.1.length)) (by rfl) (FrzL.all (by first | rfl | (simp;done) | (simp;omega) | omega)) TwT.nil) TwB.nil) ?_
  obtain⟨r74,hr74,h⟩:=bindS h
  apply rg (c (mv hN (q 1)) rfl (c (mv hN (q 5)) rfl (c (mv hN (q 6)) rfl (cg (cf hB fnOk37 (A8e a1 p48.2.2 p48.2.1 r74 hr74) (L rfl) (OpdL.cons (q 70) (OpdL.cons (q 71) (OpdL.cons (q 72) OpdL.nil)))) rfl (c (assign (L rfl) (q 73)) rfl cn)))))
  apply A3
  apply ret
  obtain rfl:=oi h
  exact rt (kp [(4,_)] [(0,some _)] hB rfl rfl (by rfl)) [(B0 r74)] (rT rN) rfl
def U3 (x105:B2) (s112:Int):Option (((Unit)⊕(Unit))⊕(Int)) :=
 (if (decide (s112<(x105.fASNs.length:Int)))=true then
 (idx x105.fASNs s112).bind fun x138 =>
 jn (fun m142:Bool =>
 (if m142=true then
 some (.inl (.inl ()))
 else
 some (.inr (w64 (s112+1))))) (fun j143 =>
 (if ((decide (x138<1)) || (decide (4294967295<x138)))=true then
 j143 true
 else
 (if (x105.fSet&&(decide (0<s112)))=true then
 (idx x105.fASNs (w64 (s112-1))).bind fun x147 =>
 j143 (decide (x138≤x147))
 else
 j143 false)))
 else
 some (.inl (.inr ())))
def U4 (a0:(List B2)) (s1:Int×Int):Option (((Unit)⊕(Int))⊕(Int×Int)) :=
 (if (decide (s1.2<(a0.length:Int)))=true then
 (idx a0 s1.2).bind fun x105 =>
 jn (fun m109:Bool =>
 (if m109=true then
 some (.inl (.inl ()))
 else
 (loop (U3 x105) 0).bind fun x148=>match x148 with
 | (.inl _) =>
  some (.inl (.inl ()))
 | (.inr _) =>
  some (.inr ((w64 (s1.1+(x105.fASNs.length:Int))),(w64 (s1.2+1)))))) (fun j110 =>
 (if ((x105.fASNs.length:Int)==0)=true then
 j110 true
 else
 (if ((decide (0<s1.2))&&(!x105.fSet))=true then
 (idx a0 (w64 (s1.2-1))).bind fun x152 =>
 j110 (!x152.fSet)
 else
 j110 false)))
 else
 some (.inl (.inr s1.1)))
def A0j (a0:(List B2)):Option (Bool) :=
 (loop (U4 a0) (0,0)).bind fun x153=>match x153 with
 | (.inl _) =>
  some false
 | (.inr p103) =>
  some (decide (p103≤64))
theorem A3z (a0:(List B2)) (r:Bool) (h:A0j a0=some r):AC Tryz.prog 83 [(.d (.list 2 (a0.map B4)))] [] (.d (.bool r)) []:=by
 refine ac2 Tryz.func83 rfl rfl fun B hB hN L => ?_
 delta A0j at h
 apply sr (c (assign (L rfl) (Opd.bool false)) rfl cn)
 apply sr (c (assign (L rfl) (ii 0)) rfl cn)
 apply seq
 apply sr (c (mv hN (q 0)) rfl (c (OpJ.val (v':=(i6 (a0.length:Int))) (by simp) (lenD underlying34 (L rfl) (q 8))) rfl (c (mv hN (ii 0)) rfl cn)))
 apply block
 obtain⟨x153,hx154,h⟩:=bindS h
 refine lg (U4 a0) (fun s1:Int×Int=>([(0,(D0 a0)),(3,(i6 s1.1)),(8,(D0 a0)),(9,(i6 (a0.length:Int))),(10,(i6 s1.2))]:EL)) (fun s1:Int×Int=>([]:OL)) (fun(x:(Unit)⊕(Int)) e E' O'=>match x with | (.inl _p)=>e = .ret∧Mat B E' O' ([(2,(bo false))]:EL) ([]:OL) | (.inr p103)=>e = .exit 0∧Mat B E' O' ([(3,(i6 p103))]:EL) ([]:OL)) hx154 (mp [] _ _ hB) (fun s1 y h => ?_) (fun e E' O' hR => ?_)
 ·unfold U4 at h
  apply sr (c (lss (L rfl) (q 10) (q 9)) rfl cn)
  apply seq
  apply AWp.cond rfl<;>intro hg104
  ·have h:=B6 hg104 h
   apply AWp.skip
   apply A3
   apply seq
   apply block
   obtain⟨x105,hx105,h⟩:=bindS h
   apply sr (c (mv hN (q 10)) rfl (c (indexD underlying34 tyS75 (A4 hx105).1 (C8 B4 (A4 hx105).2) (L rfl) (q 8) (q 10)) rfl (c (loadD tyS75 (by rfl) (by rfl) (L rfl) (q 13)) rfl (cg (alloc hB tyZ75 (nm:=1005) (by decide) (L rfl)) rfl (c (assign (L rfl) (q 12)) rfl (cg (sB tyS75 (q 5) (q 14)) rfl cn))))))
   apply seq
   apply seq
   refine AWp.cut h (fun m109:Bool=>([(0,(D0 a0)),(3,(i6 s1.1)),(5,(pt 1005)),(8,(D0 a0)),(9,(i6 (a0.length:Int))),(10,(i6 s1.2)),(36,(bo m109))]:EL)) (fun m109:Bool=>([(1005,bd 75 (B4 x105))]:OL)) (fun m109 h E' O' hmat => ?_) (fun j110 hjj110 h => ?_)
   ·apply A3
    refine ghost hmat ?_
    apply AWp.cond rfl<;>intro hg111
    ·have h:=B6 hg111 h
     apply sr (c (assign (L rfl) (Opd.bool false)) rfl cn)
     apply ret
     apply D4
     apply F7
     apply D4
     obtain rfl:=oi h
     exact⟨(fun hc=>by cases hc),rfl,(mp [] _ _ hB)⟩
    ·have h:=B7 hg111 h
     apply AWp.skip
     apply A3
     apply seq
     apply sr (c (fo 1005 1 [1] hN underlying75 1 tyS27 (q 5)) rfl (c (la hN 75 tyS27 (q 37)) rfl (c (OpJ.val (v':=(i6 (x105.fASNs.length:Int))) (by simp) (lenD underlying27 (L rfl) (q 38))) rfl (c (mv hN (ii 0)) rfl cn))))
     apply block
     obtain⟨x148,hx149,h⟩:=bindS h
     refine lg (U3 x105) (fun s112:Int=>([(0,(D0 a0)),(3,(i6 s1.1)),(5,(pt 1005)),(8,(D0 a0)),(9,(i6 (a0.length:Int))),(10,(i6 s1.2)),(38,(qI_1 x105.fASNs)),(39,(i6 (x105.fASNs.length:Int))),(40,(i6 s112))]:EL)) (fun s112:Int=>([(1005,bd 75 (B4 x105))]:OL)) (fun(x:(Unit)⊕(Unit)) e E' O'=>match x with | (.inl _p)=>e = .ret∧Mat B E' O' ([(2,(bo false))]:EL) ([]:OL) | (.inr _p)=>e = .exit 2∧Mat B E' O' ([(0,(D0 a0)),(3,(i6 s1.1)),(5,(pt 1005)),(8,(D0 a0)),(9,(i6 (a0.length:Int))),(10,(i6 s1.2))]:EL) ([(1005,bd 75 (B4 x105))]:OL)) hx149 (mp [] _ _ hB) (fun s112 y h => ?_) (fun e E' O' hR => ?_)
     ·unfold U3 at h
      apply sr (c (lss (L rfl) (q 40) (q 39)) rfl cn)
      apply seq
      apply AWp.cond rfl<;>intro hg137
      ·have h:=B6 hg137 h
       apply AWp.skip
       apply A3
       apply seq
       apply block
       obtain⟨x138,hx138,h⟩:=bindS h
       apply sr (c (mv hN (q 40)) rfl (c (indexD underlying27 tyS3 (A4 hx138).1 (C8 (eI .i64) (A4 hx138).2) (L rfl) (q 38) (q 40)) rfl (c (loadD tyS3 (by rfl) (by rfl) (L rfl) (q 43)) rfl (c (assign (L rfl) (q 42)) rfl (c (assign (L rfl) (q 44)) rfl cn)))))
       apply seq
       refine AWp.cut h (fun m142:Bool=>([(0,(D0 a0)),(3,(i6 s1.1)),(5,(pt 1005)),(8,(D0 a0)),(9,(i6 (a0.length:Int))),(10,(i6 s1.2)),(38,(qI_1 x105.fASNs)),(39,(i6 (x105.fASNs.length:Int))),(40,(i6 s112)),(68,(bo m142))]:EL)) (fun m142:Bool=>([(1005,bd 75 (B4 x105))]:OL)) (fun m142 h E' O' hmat => ?_) (fun j143 hjj143 h => ?_)
       ·apply A3
        refine ghost hmat ?_
        apply AWp.cond rfl<;>intro hg144
        ·have h:=B6 hg144 h
         apply sr (c (assign (L rfl) (Opd.bool false)) rfl cn)
         apply ret
         apply F7
         apply D4
         obtain rfl:=oi h
         exact⟨(fun hc=>by cases hc),rfl,(mp [] _ _ hB)⟩
        ·have h:=B7 hg144 h
         apply AWp.skip
         apply F8
         apply A3
         apply rg (c (add6 (L rfl) (q 40) (ii 1)) rfl (c (mv hN (q 69)) rfl cn))
         obtain rfl:=oi h
         exact⟨rfl,(mp [] _ _ hB)⟩
       ·rcases bft ((decide (x138<1)) || (decide (4294967295<x138))) with hg145 | hg145
        ·have h:=B6 hg145 h
         apply rg (c (mv hN (q 7)) rfl (c (lss (L rfl) (q 45) (ii 1)) rfl (c (mv hN (q 46)) rfl (c (oq hN 47 (mv hN (q 7)) (OptL.keep (by rfl) OptL.nil) (GuardV.plain _)) rfl (c (oq hN 47 (gtr (L rfl) (q 48) (ii 4294967295)) (OptL.opt OptL.nil) (GuardV.plain _)) rfl (c (pickOr rfl (L rfl) (q 47) (q 49)) rfl (c (OpJ.val (v':=.d (.bool true)) (by rw [hg145]<;>rfl) (mv hN (q 50))) rfl (ks 51 (L rfl) (ks 51 (L rfl) (ks 51 (L rfl) (cg (sV 54 (L rfl)) rfl (cg (sV 54 (L rfl)) rfl (ks 51 (L rfl) (ks 51 (L rfl) (cg (sV 58 (L rfl)) rfl (cg (sV 58 (L rfl)) rfl (cg (sV 58 (L rfl)) rfl (cg (sV 58 (L rfl)) rfl (cg (sV 58 (L rfl)) rfl (cg (sV 58 (L rfl)) rfl (cg (sV 58 (L rfl)) rfl (cg (sV 58 (L rfl)) rfl (ks 51 (L rfl) (c (pickT (L rfl) (q 51) (Opd.bool true)) rfl cn))))))))))))))))))))))))
         exact hjj143 _ h _ _ (mp [] _ _ hB)
        ·have h:=B7 hg145 h
         rcases bft (x105.fSet&&(decide (0<s112))) with hg146 | hg146
         ·have h:=B6 hg146 h
          obtain⟨_,hx147,h⟩:=bindS h
          apply rg (c (mv hN (q 7)) rfl (c (lss (L rfl) (q 45) (ii 1)) rfl (c (mv hN (q 46)) rfl (c (oq hN 47 (mv hN (q 7)) (OptL.keep (by rfl) OptL.nil) (GuardV.plain _)) rfl (c (oq hN 47 (gtr (L rfl) (q 48) (ii 4294967295)) (OptL.opt OptL.nil) (GuardV.plain _)) rfl (c (pickOr rfl (L rfl) (q 47) (q 49)) rfl (c (OpJ.val (v':=.d (.bool false)) (by rw [hg145]<;>rfl) (mv hN (q 50))) rfl (c (gd 51 (fo 1005 0 [0] hN underlying75 0 tyS4 (q 5))) rfl (c (gd 51 (la hN 75 tyS4 (q 52))) rfl (c (gd 51 (mv hN (q 53))) rfl (c (oq hN 54 (mv hN (q 6)) (OptL.keep (by rfl) OptL.nil) (GuardV.plain _)) rfl (c (oq hN 54 (gtr (L rfl) (q 55) (ii 0)) (OptL.opt OptL.nil) (GuardV.plain _)) rfl (c (gd 51 (pickAnd rfl (L rfl) (q 54) (q 56))) rfl (c (gd 51 (OpJ.val (v':=.d (.bool true)) (by rw [hg146]<;>rfl) (mv hN (q 57)))) rfl (c (gd 58 (fo 1005 1 [1] hN underlying75 1 tyS27 (q 5))) rfl (c (gd 58 (la hN 75 tyS27 (q 59))) rfl (c (gd 58 (mv hN (q 6))) rfl (c (gd 58 (sub6 (L rfl) (q 61) (ii 1))) rfl (c (gd 58 (indexD underlying27 tyS3 (A4 hx147).1 (C8 (eI .i64) (A4 hx147).2) (L rfl) (q 60) (q 62))) rfl (c (gd 58 (loadD tyS3 (by rfl) (by rfl) (L rfl) (q 63))) rfl (c (gd 58 (mv hN (q 7))) rfl (c (gd 58 (geq (L rfl) (q 64) (q 65))) rfl (c (gd 51 (pickT (L rfl) (q 58) (q 66))) rfl (c (pickF (L rfl) (q 51) (q 67)) rfl cn))))))))))))))))))))))))
          exact hjj143 _ h _ _ (mp [] _ _ hB)
         ·have h:=B7 hg146 h
          apply rg (c (mv hN (q 7)) rfl (c (lss (L rfl) (q 45) (ii 1)) rfl (c (mv hN (q 46)) rfl (c (oq hN 47 (mv hN (q 7)) (OptL.keep (by rfl) OptL.nil) (GuardV.plain _)) rfl (c (oq hN 47 (gtr (L rfl) (q 48) (ii 4294967295)) (OptL.opt OptL.nil) (GuardV.plain _)) rfl (c (pickOr rfl (L rfl) (q 47) (q 49)) rfl (c (OpJ.val (v':=.d (.bool false)) (by rw [hg145]<;>rfl) (mv hN (q 50))) rfl (c (gd 51 (fo 1005 0 [0] hN underlying75 0 tyS4 (q 5))) rfl (c (gd 51 (la hN 75 tyS4 (q 52))) rfl (c (gd 51 (mv hN (q 53))) rfl (c (oq hN 54 (mv hN (q 6)) (OptL.keep (by rfl) OptL.nil) (GuardV.plain _)) rfl (c (oq hN 54 (gtr (L rfl) (q 55) (ii 0)) (OptL.opt OptL.nil) (GuardV.plain _)) rfl (c (gd 51 (pickAnd rfl (L rfl) (q 54) (q 56))) rfl (c (gd 51 (OpJ.val (v':=.d (.bool false)) (by rw [hg146]<;>rfl) (mv hN (q 57)))) rfl (ks 58 (L rfl) (ks 58 (L rfl) (ks 58 (L rfl) (ks 58 (L rfl) (ks 58 (L rfl) (ks 58 (L rfl) (ks 58 (L rfl) (ks 58 (L rfl) (c (gd 51 (pickF (L rfl) (q 58) (Opd.bool false))) rfl (c (pickF (L rfl) (q 51) (q 67)) rfl cn))))))))))))))))))))))))
          exact hjj143 _ h _ _ (mp [] _ _ hB)
      ·have h:=B7 hg137 h
       apply AWp.exit
       apply F6
       obtain rfl:=oi h
       exact⟨(fun hc=>by cases hc),rfl,(mp [] _ _ hB)⟩
     ·rcases x148 with _ | _
      ·obtain⟨rfl,hmat⟩:=hR
       apply F7
       apply D4
       apply F7
       apply D4
       obtain rfl:=oi h
       exact⟨(fun hc=>by cases hc),rfl,(Mat.trans hmat (mp [] _ _ hB))⟩
      ·obtain⟨rfl,hmat⟩:=hR
       apply E4
       apply A3
       refine ghost hmat ?_
       apply rg (c (mv hN (q 3)) rfl (c (fo 1005 1 [1] hN underlying75 1 tyS27 (q 5)) rfl (c (la hN 75 tyS27 (q 71)) rfl (c (OpJ.val (v':=(i6 (x105.fASNs.length:Int))) (by simp) (lenD underlying27 (L rfl) (q 72))) rfl (c (add6 (L rfl) (q 70) (q 73)) rfl (c (assign (L rfl) (q 74)) rfl cn))))))
       apply F8
       apply A3
       apply rg (c (add6 (L rfl) (q 10) (ii 1)) rfl (c (mv hN (q 75)) rfl cn))
       obtain rfl:=oi h
       exact⟨rfl,(mp [] _ _ hB)⟩
   ·rcases bft ((x105.fASNs.length:Int)==0) with hg150 | hg150
    ·have h:=B6 hg150 h
     apply rg (c (fo 1005 1 [1] hN underlying75 1 tyS27 (q 5)) rfl (c (la hN 75 tyS27 (q 15)) rfl (c (OpJ.val (v':=(i6 (x105.fASNs.length:Int))) (by simp) (lenD underlying27 (L rfl) (q 16))) rfl (c (eqlI (L rfl) (q 17) (ii 0)) rfl (c (OpJ.val (v':=.d (.bool true)) (by rw [hg150]<;>rfl) (mv hN (q 18))) rfl (ks 19 (L rfl) (ks 19 (L rfl) (ks 19 (L rfl) (cg (sV 22 (L rfl)) rfl (cg (sV 22 (L rfl)) rfl (cg (sV 22 (L rfl)) rfl (ks 19 (L rfl) (ks 19 (L rfl) (cg (sV 27 (L rfl)) rfl (cg (sV 27 (L rfl)) rfl (cg (sV 27 (L rfl)) rfl (cg (sV 27 (L rfl)) rfl (cg (sV 27 (L rfl)) rfl (cg (sV 27 (L rfl)) rfl (cg (sV 27 (L rfl)) rfl (ks 19 (L rfl) (c (pickT (L rfl) (q 19) (Opd.bool true)) rfl cn))))))))))))))))))))))
     exact hjj110 _ h _ _ (mp [] _ _ hB)
    ·have h:=B7 hg150 h
     rcases bft ((decide (0<s1.2))&&(!x105.fSet)) with hg151 | hg151
     ·have h:=B6 hg151 h
      obtain⟨_,hx152,h⟩:=bindS h
      apply rg (c (fo 1005 1 [1] hN underlying75 1 tyS27 (q 5)) rfl (c (la hN 75 tyS27 (q 15)) rfl (c (OpJ.val (v':=(i6 (x105.fASNs.length:Int))) (by simp) (lenD underlying27 (L rfl) (q 16))) rfl (c (eqlI (L rfl) (q 17) (ii 0)) rfl (c (OpJ.val (v':=.d (.bool false)) (by rw [hg150]<;>rfl) (mv hN (q 18))) rfl (c (gd 19 (mv hN (q 4))) rfl (c (gd 19 (gtr (L rfl) (q 20) (ii 0))) rfl (c (gd 19 (mv hN (q 21))) rfl (c (oq hN 22 (fo 1005 0 [0] hN underlying75 0 tyS4 (q 5)) (OptL.keep (by rfl) OptL.nil) (GuardV.plain _)) rfl (c (oq hN 22 (la hN 75 tyS4 (q 23)) (OptL.opt OptL.nil) (GuardV.plain _)) rfl (c (oq hN 22 (OpJ.not (L rfl) (q 24)) (OptL.opt OptL.nil) (GuardV.plain _)) rfl (c (gd 19 (pickAnd rfl (L rfl) (q 22) (q 25))) rfl (c (gd 19 (OpJ.val (v':=.d (.bool true)) (by rw [hg151]<;>rfl) (mv hN (q 26)))) rfl (c (gd 27 (mv hN (q 0))) rfl (c (gd 27 (mv hN (q 4))) rfl (c (gd 27 (sub6 (L rfl) (q 29) (ii 1))) rfl (c (gd 27 (indexD underlying34 tyS75 (A4 hx152).1 (C8 B4 (A4 hx152).2) (L rfl) (q 28) (q 30))) rfl (c (gd 27 (fieldD underlying75 (by rfl) (o:=0) (by rfl) tyS4 (by decide) (by rfl) (by rfl) (L rfl) (q 31))) rfl (c (gd 27 (loadD tyS4 (by rfl) (by rfl) (L rfl) (q 32))) rfl (c (gd 27 (OpJ.not (L rfl) (q 33))) rfl (c (gd 19 (pickT (L rfl) (q 27) (q 34))) rfl (c (pickF (L rfl) (q 19) (q 35)) rfl cn))))))))))))))))))))))
      exact hjj110 _ h _ _ (mp [] _ _ hB)
     ·have h:=B7 hg151 h
      apply rg (c (fo 1005 1 [1] hN underlying75 1 tyS27 (q 5)) rfl (c (la hN 75 tyS27 (q 15)) rfl (c (OpJ.val (v':=(i6 (x105.fASNs.length:Int))) (by simp) (lenD underlying27 (L rfl) (q 16))) rfl (c (eqlI (L rfl) (q 17) (ii 0)) rfl (c (OpJ.val (v':=.d (.bool false)) (by rw [hg150]<;>rfl) (mv hN (q 18))) rfl (c (gd 19 (mv hN (q 4))) rfl (c (gd 19 (gtr (L rfl) (q 20) (ii 0))) rfl (c (gd 19 (mv hN (q 21))) rfl (c (oq hN 22 (fo 1005 0 [0] hN underlying75 0 tyS4 (q 5)) (OptL.keep (by rfl) OptL.nil) (GuardV.plain _)) rfl (c (oq hN 22 (la hN 75 tyS4 (q 23)) (OptL.opt OptL.nil) (GuardV.plain _)) rfl (c (oq hN 22 (OpJ.not (L rfl) (q 24)) (OptL.opt OptL.nil) (GuardV.plain _)) rfl (c (gd 19 (pickAnd rfl (L rfl) (q 22) (q 25))) rfl (c (gd 19 (OpJ.val (v':=.d (.bool false)) (by rw [hg151]<;>rfl) (mv hN (q 26)))) rfl (ks 27 (L rfl) (ks 27 (L rfl) (ks 27 (L rfl) (ks 27 (L rfl) (ks 27 (L rfl) (ks 27 (L rfl) (ks 27 (L rfl) (c (gd 19 (pickF (L rfl) (q 27) (Opd.bool false))) rfl (c (pickF (L rfl) (q 19) (q 35)) rfl cn))))))))))))))))))))))
      exact hjj110 _ h _ _ (mp [] _ _ hB)
  ·have h:=B7 hg104 h
   apply AWp.exit
   apply F6
   obtain rfl:=oi h
   exact⟨(fun hc=>by cases hc),rfl,(mp [] _ _ hB)⟩
 ·rcases x153 with _ | p103
  ·obtain⟨rfl,hmat⟩:=hR
   apply F7
   apply D4
   obtain rfl:=oi h
   exact rt (Mat.trans hmat (mp [] [(2,(bo false))] [] hB)) [(bo false)] (rT rN) rfl
  ·obtain⟨rfl,hmat⟩:=hR
   apply E4
   apply A3
   refine ghost hmat ?_
   apply sr (c (mv hN (q 3)) rfl (c (leq (L rfl) (q 76) (ii 64)) rfl (c (assign (L rfl) (q 77)) rfl cn)))
   apply ret
   obtain rfl:=oi h
   exact rt (kp [(2,_)] [] hB rfl rfl (by rfl)) [(bo (decide (p103≤64)))] (rT rN) rfl
def A1r (a0:G4):Option (Bool) :=
 some ((((((decide (0≤a0.fBurst))&&(decide (a0.fBurst≤1048576)))&&(decide (0≤a0.fRate)))&&(decide (a0.fRate≤a0.fBurst)))&&(decide (0≤a0.fLevel)))&&(decide (a0.fLevel≤a0.fBurst)))
theorem A8f (a0:G4) (r:Bool) (h:A1r a0=some r):AC Tryz.prog 30 [(.d (E0 a0))] [] (.d (.bool r)) []:=by
 refine ac2 Tryz.func30 rfl rfl fun B hB hN L => ?_
 delta A1r at h
 apply sr (cg (OpJ.box hB (nm:=1001) (by decide) (by simp) rfl (L rfl) (q 0)) rfl (c (assign (L rfl) (Opd.bool false)) rfl cn))
 apply sr (c (fo 1001 2 [2] hN underlying24 2 tyS3 (q 1)) rfl (c (la hN 24 tyS3 (q 3)) rfl (c (geq (L rfl) (q 4) (ii 0)) rfl (c (mv hN (q 5)) rfl (c (oq hN 6 (fo 1001 2 [2] hN underlying24 2 tyS3 (q 1)) (OptL.keep (by rfl) OptL.nil) (GuardV.plain _)) rfl (c (oq hN 6 (la hN 24 tyS3 (q 7)) (OptL.opt OptL.nil) (GuardV.plain _)) rfl (c (oq hN 6 (leq (L rfl) (q 8) (ii 1048576)) (OptL.opt OptL.nil) (GuardV.plain _)) rfl (c (pickAnd rfl (L rfl) (q 6) (q 9)) rfl (c (mv hN (q 10)) rfl (c (oq hN 11 (fo 1001 1 [1] hN underlying24 1 tyS3 (q 1)) (OptL.keep (by rfl) OptL.nil) (GuardV.plain _)) rfl (c (oq hN 11 (la hN 24 tyS3 (q 12)) (OptL.opt OptL.nil) (GuardV.plain _)) rfl (c (oq hN 11 (geq (L rfl) (q 13) (ii 0)) (OptL.opt OptL.nil) (GuardV.plain _)) rfl (c (pickAnd rfl (L rfl) (q 11) (q 14)) rfl (c (mv hN (q 15)) rfl (c (oq hN 16 (fo 1001 1 [1] hN underlying24 1 tyS3 (q 1)) (OptL.keep (by rfl) OptL.nil) (GuardV.plain _)) rfl (c (oq hN 16 (la hN 24 tyS3 (q 17)) (OptL.opt OptL.nil) (GuardV.plain _)) rfl (c (oq hN 16 (fo 1001 2 [2] hN underlying24 2 tyS3 (q 1)) (OptL.keep (by rfl) OptL.nil) (GuardV.plain _)) rfl (c (oq hN 16 (la hN 24 tyS3 (q 19)) (OptL.opt OptL.nil) (GuardV.plain _)) rfl (c (oq hN 16 (leq (L rfl) (q 18) (q 20)) (OptL.opt (OptL.opt OptL.nil)) (GuardV.plain _)) rfl (c (pickAnd rfl (L rfl) (q 16) (q 21)) rfl (c (mv hN (q 22)) rfl (c (oq hN 23 (fo 1001 0 [0] hN underlying24 0 tyS3 (q 1)) (OptL.keep (by rfl) OptL.nil) (GuardV.plain _)) rfl (c (oq hN 23 (la hN 24 tyS3 (q 24)) (OptL.opt OptL.nil) (GuardV.plain _)) rfl (c (oq hN 23 (geq (L rfl) (q 25) (ii 0)) (OptL.opt OptL.nil) (GuardV.plain _)) rfl (c (pickAnd rfl (L rfl) (q 23) (q 26)) rfl (c (mv hN (q 27)) rfl (c (oq hN 28 (fo 1001 0 [0] hN underlying24 0 tyS3 (q 1)) (OptL.keep (by rfl) OptL.nil) (GuardV.plain _)) rfl (c (oq hN 28 (la hN 24 tyS3 (q 29)) (OptL.opt OptL.nil) (GuardV.plain _)) rfl (c (oq hN 28 (fo 1001 2 [2] hN underlying24 2 tyS3 (q 1)) (OptL.keep (by rfl) OptL.nil) (GuardV.plain _)) rfl (c (oq hN 28 (la hN 24 tyS3 (q 31)) (OptL.opt OptL.nil) (GuardV.plain _)) rfl (c (oq hN 28 (leq (L rfl) (q 30) (q 32)) (OptL.opt (OptL.opt OptL.nil)) (GuardV.plain _)) rfl (c (pickAnd rfl (L rfl) (q 28) (q 33)) rfl (c (assign (L rfl) (q 34)) rfl cn)))))))))))))))))))))))))))))))))
 apply ret
 obtain rfl:=oi h
 exact rt (kp [(2,_)] [] hB rfl rfl (by rfl)) [(bo ((((((decide (0≤a0.fBurst))&&(decide (a0.fBurst≤1048576)))&&(decide (0≤a0.fRate)))&&(decide (a0.fRate≤a0.fBurst)))&&(decide (0≤a0.fLevel)))&&(decide (a0.fLevel≤a0.fBurst))))] (rT rN) rfl
def W9 (a0:E7):Option (Bool) :=
 jn (fun m2:Bool =>
 some m2) (fun j3 =>
 (if a0.fV6=true then
 j3 true
 else
 j3 ((a0.fHi==0)&&(decide (a0.fLo<4294967296)))))
theorem H5 (a0:E7) (r:Bool) (h:W9 a0=some r):AC Tryz.prog 141 [(.d (C5 a0))] [] (.d (.bool r)) []:=by
 refine ac2 Tryz.func141 rfl rfl fun B hB hN L => ?_
 delta W9 at h
 apply sr (cg (OpJ.box hB (nm:=1001) (by decide) (by simp) rfl (L rfl) (q 0)) rfl (c (assign (L rfl) (Opd.bool false)) rfl cn))
 apply seq
 refine AWp.cut h (fun m2:Bool=>([(2,(bo m2))]:EL)) (fun m2:Bool=>([]:OL)) (fun m2 h E' O' hmat => ?_) (fun j3 hjj3 h => ?_)
 ·apply A3
  refine ghost hmat ?_
  apply ret
  obtain rfl:=oi h
  exact rt (kp [(2,_)] [] hB rfl rfl (by rfl)) [(bo m2)] (rT rN) rfl
 ·rcases bft a0.fV6 with hg4 | hg4
  ·have h:=B6 hg4 h
   apply rg (c (fo 1001 0 [0] hN underlying31 0 tyS4 (q 1)) rfl (c (la hN 31 tyS4 (q 3)) rfl (c (OpJ.val (v':=.d (.bool true)) (by rw [hg4]<;>rfl) (mv hN (q 4))) rfl (ks 5 (L rfl) (ks 5 (L rfl) (ks 5 (L rfl) (ks 5 (L rfl) (cg (sV 9 (L rfl)) rfl (cg (sV 9 (L rfl)) rfl (cg (sV 9 (L rfl)) rfl (ks 5 (L rfl) (c (pickT (L rfl) (q 5) (Opd.bool true)) rfl (c (assign (L rfl) (q 14)) rfl cn)))))))))))))
   exact hjj3 _ h _ _ (mp [] _ _ hB)
  ·have h:=B7 hg4 h
   apply rg (c (fo 1001 0 [0] hN underlying31 0 tyS4 (q 1)) rfl (c (la hN 31 tyS4 (q 3)) rfl (c (OpJ.val (v':=.d (.bool false)) (by rw [hg4]<;>rfl) (mv hN (q 4))) rfl (c (gd 5 (fo 1001 1 [1] hN underlying31 1 tyS29 (q 1))) rfl (c (gd 5 (la hN 31 tyS29 (q 6))) rfl (c (gd 5 (eqlI (L rfl) (q 7) (Opd.int .u64 (0)))) rfl (c (gd 5 (mv hN (q 8))) rfl (c (oq hN 9 (fo 1001 2 [2] hN underlying31 2 tyS29 (q 1)) (OptL.keep (by rfl) OptL.nil) (GuardV.plain _)) rfl (c (oq hN 9 (la hN 31 tyS29 (q 10)) (OptL.opt OptL.nil) (GuardV.plain _)) rfl (c (oq hN 9 (lss (L rfl) (q 11) (Opd.int .u64 (4294967296))) (OptL.opt OptL.nil) (GuardV.plain _)) rfl (c (gd 5 (pickAnd rfl (L rfl) (q 9) (q 12))) rfl (c (pickF (L rfl) (q 5) (q 13)) rfl (c (assign (L rfl) (q 14)) rfl cn)))))))))))))
   exact hjj3 _ h _ _ (mp [] _ _ hB)
def Y2 (a0:E7):Option (Int) :=
 (if a0.fV6=true then
 some 128
 else
 some 32)
theorem A1w (a0:E7) (r:Int) (h:Y2 a0=some r):AC Tryz.prog 142 [(.d (C5 a0))] [] (.d (.int .i64 r)) []:=by
 refine AC.of_code2 Tryz.func142 rfl rfl (Nat.le_of_ble_eq_true (by rfl)) fun B hB hN => ?_
 delta Y2 at h
 apply sr (cg (OpJ.box hB (nm:=1001) (by decide) (by simp) rfl (ltN hN rfl) (q 0)) rfl (c (assign (ltN hN rfl) (ii 0)) rfl cn))
 apply seq
 apply sr (c (fo 1001 0 [0] hN underlying31 0 tyS4 (q 1)) rfl (c (la hN 31 tyS4 (q 3)) rfl cn))
 apply AWp.cond rfl<;>intro hg1
 ·have h:=B6 hg1 h
  apply sr (c (assign (ltN hN rfl) (ii 128)) rfl cn)
  apply ret
  apply D4
  obtain rfl:=oi h
  exact rt (kp [(2,_)] [] hB rfl rfl (by rfl)) [(i6 128)] (rT rN) rfl
 ·have h:=B7 hg1 h
  apply AWp.skip
  apply A3
  apply sr (c (assign (ltN hN rfl) (ii 32)) rfl cn)
  apply ret
  obtain rfl:=oi h
  exact rt (kp [(2,_)] [] hB rfl rfl (by rfl)) [(i6 32)] (rT rN) rfl
def A0k (a0:Int):Option (Int×Int) :=
 (if (decide (64<a0))=true then
 some ((IntKind.u64.wrap ((shlI .u64 1 (IntKind.u64.wrap (w64 (a0-64))))-1)),18446744073709551615)
 else
 some (0,(IntKind.u64.wrap ((shlI .u64 1 (IntKind.u64.wrap a0))-1))))
theorem A7i (a0:Int) (r:Int×Int) (h:A0k a0=some r):AC Tryz.prog 150 [(.d (.int .i64 a0))] [] (.tup [(.d (.int .u64 r.1)),(.d (.int .u64 r.2))]) []:=by
 refine ac2 Tryz.func150 rfl rfl fun B hB hN L => ?_
 delta A0k at h
 apply sr (c (assign (L rfl) (Opd.int .u64 (0))) rfl (c (assign (L rfl) (Opd.int .u64 (0))) rfl cn))
 apply seq
 apply sr (c (mv hN (q 0)) rfl (c (gtr (L rfl) (q 4) (ii 64)) rfl cn))
 apply AWp.cond rfl<;>intro hg1
 ·have h:=B6 hg1 h
  apply sr (c (mv hN (q 0)) rfl (c (sub6 (L rfl) (q 6) (ii 64)) rfl (c (OpJ.conv underlying3 underlying112 (L rfl) (q 7)) rfl (c (OpJ.shl (L rfl) (Opd.int .u64 (1)) (q 8) (A76 rfl _)) rfl (c (OpJ.sub (L rfl) (q 9) (Opd.int .u64 (1))) rfl (c (assign (L rfl) (q 10)) rfl (c (assign (L rfl) (Opd.int .u64 (18446744073709551615))) rfl cn)))))))
  apply ret
  apply D4
  obtain rfl:=oi h
  exact rt (kp [(2,_),(3,_)] [] hB rfl rfl (by rfl)) [(.d (.int .u64 (IntKind.u64.wrap ((shlI .u64 1 (IntKind.u64.wrap (w64 (a0-64))))-1)))),(.d (.int .u64 18446744073709551615))] (rT (rT rN)) rfl
 ·have h:=B7 hg1 h
  apply AWp.skip
  apply A3
  apply sr (c (mv hN (q 0)) rfl (c (OpJ.conv underlying3 underlying112 (L rfl) (q 11)) rfl (c (OpJ.shl (L rfl) (Opd.int .u64 (1)) (q 12) (A76 rfl _)) rfl (c (OpJ.sub (L rfl) (q 13) (Opd.int .u64 (1))) rfl (c (assign (L rfl) (Opd.int .u64 (0))) rfl (c (assign (L rfl) (q 14)) rfl cn))))))
  apply ret
  obtain rfl:=oi h
  exact rt (kp [(2,_),(3,_)] [] hB rfl rfl (by rfl)) [(.d (.int .u64 0)),(.d (.int .u64 (IntKind.u64.wrap ((shlI .u64 1 (IntKind.u64.wrap a0))-1))))] (rT (rT rN)) rfl
def A0l (a0:E7) (a1:Int):Option (E7) :=
 (Y2 a0).bind fun r1 =>
 (A0k (w64 (r1-a1))).bind fun r2 =>
 some (E7.mk a0.fV6 (bitI .andNot .u64 a0.fHi r2.1) (bitI .andNot .u64 a0.fLo r2.2))
theorem A7j (a0:E7) (a1:Int) (r:E7) (h:A0l a0 a1=some r):AC Tryz.prog 143 [(.d (C5 a0)),(.d (.int .i64 a1))] [] (.d (C5 r)) []:=by
 refine AC.of_code2 Tryz.func143 rfl rfl (Nat.le_of_ble_eq_true (by rfl)) fun B hB hN => ?_
 delta A0l at h
 apply sr (cg (OpJ.box hB (nm:=1002) (by decide) (by simp) rfl (ltN hN rfl) (q 0)) rfl (cg (alloc hB tyZ31 (nm:=1004) (by decide) (ltN hN rfl)) rfl cn))
 obtain⟨r1,hr1,h⟩:=bindS h
 obtain⟨r2,hr2,h⟩:=bindS h
 apply sr (c (lb hN 31 _ _ tyS31 (At.here _) (q 2)) rfl (cg (OpJ.callFn hB fnOk142 (A1w a0 r1 hr1) [] (by kernel_rfl) (ltN hN rfl) (by kernel_rfl) (OpdL.cons (q 8) OpdL.nil)) rfl (c (mv hN (q 1)) rfl (c (sub6 (ltN hN rfl) (q 9) (q 10)) rfl (cg (OpJ.callFn hB fnOk150 (A7i (w64 (r1-a1)) r2 hr2) [] (by kernel_rfl) (ltN hN rfl) (by kernel_rfl) (OpdL.cons (q 11) OpdL.nil)) rfl (c (mv hN (q 12)) rfl (c (extract (by rfl) rfl (ltN hN rfl) (q 7)) rfl (c (extract (by rfl) rfl (ltN hN rfl) (q 7)) rfl (c (assign (ltN hN rfl) (q 13)) rfl (c (assign (ltN hN rfl) (q 14)) rfl cn))))))))))
 apply sr (c (fo 1002 1 [1] hN underlying31 1 tyS29 (q 2)) rfl (c (la hN 31 tyS29 (q 15)) rfl (c (mv hN (q 5)) rfl (c (OpJ.bits (.inr (.inr (.inr rfl))) (ltN hN rfl) (q 16) (q 17)) rfl (c (fo 1002 1 [1] hN underlying31 1 tyS29 (q 2)) rfl (cg (OpJ.storeB tyS29 (SetAt.dst1 (by rfl) (by rfl) (SetAt.here _ _) (by rfl) (by rfl) (by first | rfl | omega)) (by rfl) (by rfl) (by simp) rfl (q 19) (q 18)) rfl cn))))))
 apply sr (c (fo 1002 2 [2] hN underlying31 2 tyS29 (q 2)) rfl (c (la hN 31 tyS29 (q 20)) rfl (c (mv hN (q 6)) rfl (c (OpJ.bits (.inr (.inr (.inr rfl))) (ltN hN rfl) (q 21) (q 22)) rfl (c (fo 1002 2 [2] hN underlying31 2 tyS29 (q 2)) rfl (cg (OpJ.storeB tyS29 (SetAt.dst1 (by rfl) (by rfl) (SetAt.here _ _) (by rfl) (by rfl) (by first | rfl | omega)) (by rfl) (by rfl) (by simp) rfl (q 24) (q 23)) rfl cn))))))
 apply sr (c (lb hN 31 _ _ tyS31 (At.here _) (q 2)) rfl (cg (sB tyS31 (q 4) (q 25)) rfl cn))
 apply ret
 obtain rfl:=oi h
 exact rt (kp [(4,_)] [(1004,some _)] hB rfl rfl (by rfl)) [(.d (.st [(.bool a0.fV6),(.int .u64 (bitI .andNot .u64 a0.fHi r2.1)),(.int .u64 (bitI .andNot .u64 a0.fLo r2.2))]))] (Res.cell (c:=(.d (.st [(.bool a0.fV6),(.int .u64 (bitI .andNot .u64 a0.fHi r2.1)),(.int .u64 (bitI .andNot .u64 a0.fLo r2.2))]))) (by rfl) (by rfl) tyS31 (by rfl) (by rfl) (by rfl) rN) rfl
def Y3 (a0:A0):Option (Bool) :=
 jn (fun m7:Bool =>
 some m7) (fun j8 =>
 (W9 a0.fAddr).bind fun r9 =>
 (if (r9&&(decide (0≤a0.fLen)))=true then
 (Y2 a0.fAddr).bind fun r11 =>
 (if (decide (a0.fLen≤r11))=true then
 (A0l a0.fAddr a0.fLen).bind fun r13 =>
 j8 ((r13.fV6==a0.fAddr.fV6)&&((r13.fHi==a0.fAddr.fHi)&&((r13.fLo==a0.fAddr.fLo)&&true)))
 else
 j8 false)
 else
 j8 false))
theorem U5 (a0:A0) (r:Bool) (h:Y3 a0=some r):AC Tryz.prog 112 [(.d (A2 a0))] [] (.d (.bool r)) []:=by
 refine ac2 Tryz.func112 rfl rfl fun B hB hN L => ?_
 delta Y3 at h
 apply sr (cg (OpJ.box hB (nm:=1001) (by decide) (by simp) rfl (L rfl) (q 0)) rfl (c (assign (L rfl) (Opd.bool false)) rfl cn))
 apply seq
 refine AWp.cut h (fun m7:Bool=>([(2,(bo m7))]:EL)) (fun m7:Bool=>([]:OL)) (fun m7 h E' O' hmat => ?_) (fun j8 hjj8 h => ?_)
 ·apply A3
  refine ghost hmat ?_
  apply ret
  obtain rfl:=oi h
  exact rt (kp [(2,_)] [] hB rfl rfl (by rfl)) [(bo m7)] (rT rN) rfl
 ·obtain⟨r9,hr9,h⟩:=bindS h
  rcases bft (r9&&(decide (0≤a0.fLen))) with hg10 | hg10
  ·have h:=B6 hg10 h
   obtain⟨r11,hr11,h⟩:=bindS h
   rcases bft (decide (a0.fLen≤r11)) with hg12 | hg12
   ·have h:=B6 hg12 h
    obtain⟨r13,hr13,h⟩:=bindS h
    apply dr (c (fo 1001 0 [0] hN underlying33 0 tyS31 (q 1)) rfl (c (la hN 33 tyS31 (q 3)) rfl (cg (cf hB fnOk141 (H5 a0.fAddr r9 hr9) (L rfl) (OpdL.cons (q 4) OpdL.nil)) rfl (c (mv hN (q 5)) rfl (c (oq hN 6 (fo 1001 3 [1] hN underlying33 3 tyS3 (q 1)) (OptL.keep (by rfl) OptL.nil) (GuardV.plain _)) rfl (c (oq hN 6 (la hN 33 tyS3 (q 7)) (OptL.opt OptL.nil) (GuardV.plain _)) rfl (c (oq hN 6 (geq (L rfl) (q 8) (ii 0)) (OptL.opt OptL.nil) (GuardV.plain _)) rfl (c (pickAnd rfl (L rfl) (q 6) (q 9)) rfl (c (OpJ.val (v':=.d (.bool true)) (by rw [hg10]<;>rfl) (mv hN (q 10))) rfl (c (gd 11 (fo 1001 3 [1] hN underlying33 3 tyS3 (q 1))) rfl (c (gd 11 (la hN 33 tyS3 (q 12))) rfl (c (gd 11 (fo 1001 0 [0] hN underlying33 0 tyS31 (q 1))) rfl (c (gd 11 (la hN 33 tyS31 (q 14))) rfl (cg (gd 11 (cf hB fnOk142 (A1w a0.fAddr r11 hr11) (L rfl) (OpdL.cons (q 15) OpdL.nil))) rfl (c (gd 11 (leq (L rfl) (q 13) (q 16))) rfl (c (pickT (L rfl) (q 11) (q 17)) rfl (c (OpJ.val (v':=.d (.bool true)) (by rw [hg12]<;>rfl) (mv hN (q 18))) rfl (c (gd 19 (fo 1001 0 [0] hN underlying33 0 tyS31 (q 1))) rfl (c (gd 19 (la hN 33 tyS31 (q 20))) rfl (c (gd 19 (fo 1001 3 [1] hN underlying33 3 tyS3 (q 1))) rfl (c (gd 19 (la hN 33 tyS3 (q 22))) rfl (cg (gd 19 (cf hB fnOk143 (A7j a0.fAddr a0.fLen r13 hr13) (L rfl) (OpdL.cons (q 21) (OpdL.cons (q 23) OpdL.nil)))) rfl (c (gd 19 (fo 1001 0 [0] hN underlying33 0 tyS31 (q 1))) rfl (c (gd 19 (la hN 33 tyS31 (q 25))) rfl (c (gd 19 (OpJ.eqlD (h:=2) (feq31 r13 a0.fAddr) eqg31 ⟨rfl,rfl⟩ (by rfl) (L rfl) (q 24) (q 26))) rfl (c (pickT (L rfl) (q 19) (q 27)) rfl (c (assign (L rfl) (q 28)) rfl cn))))))))))))))))))))))))))) (by kernel_rfl) (by kernel_rfl)
    exact hjj8 _ h _ _ (mp [] _ _ hB)
   ·have h:=B7 hg12 h
    apply dr (c (fo 1001 0 [0] hN underlying33 0 tyS31 (q 1)) rfl (c (la hN 33 tyS31 (q 3)) rfl (cg (cf hB fnOk141 (H5 a0.fAddr r9 hr9) (L rfl) (OpdL.cons (q 4) OpdL.nil)) rfl (c (mv hN (q 5)) rfl (c (oq hN 6 (fo 1001 3 [1] hN underlying33 3 tyS3 (q 1)) (OptL.keep (by rfl) OptL.nil) (GuardV.plain _)) rfl (c (oq hN 6 (la hN 33 tyS3 (q 7)) (OptL.opt OptL.nil) (GuardV.plain _)) rfl (c (oq hN 6 (geq (L rfl) (q 8) (ii 0)) (OptL.opt OptL.nil) (GuardV.plain _)) rfl (c (pickAnd rfl (L rfl) (q 6) (q 9)) rfl (c (OpJ.val (v':=.d (.bool true)) (by rw [hg10]<;>rfl) (mv hN (q 10))) rfl (c (gd 11 (fo 1001 3 [1] hN underlying33 3 tyS3 (q 1))) rfl (c (gd 11 (la hN 33 tyS3 (q 12))) rfl (c (gd 11 (fo 1001 0 [0] hN underlying33 0 tyS31 (q 1))) rfl (c (gd 11 (la hN 33 tyS31 (q 14))) rfl (cg (gd 11 (cf hB fnOk142 (A1w a0.fAddr r11 hr11) (L rfl) (OpdL.cons (q 15) OpdL.nil))) rfl (c (gd 11 (leq (L rfl) (q 13) (q 16))) rfl (c (pickT (L rfl) (q 11) (q 17)) rfl (c (OpJ.val (v':=.d (.bool false)) (by rw [hg12]<;>rfl) (mv hN (q 18))) rfl (ks 19 (L rfl) (ks 19 (L rfl) (ks 19 (L rfl) (ks 19 (L rfl) (ks 19 (L rfl) (ks 19 (L rfl) (ks 19 (L rfl) (ks 19 (L rfl) (c (pickF (L rfl) (q 19) (Opd.bool false)) rfl (c (assign (L rfl) (q 28)) rfl cn))))))))))))))))))))))))))) (by kernel_rfl) (by kernel_rfl)
    exact hjj8 _ h _ _ (mp [] _ _ hB)
  ·have h:=B7 hg10 h
   apply dr (c (fo 1001 0 [0] hN underlying33 0 tyS31 (q 1)) rfl (c (la hN 33 tyS31 (q 3)) rfl (cg (cf hB fnOk141 (H5 a0.fAddr r9 hr9) (L rfl) (OpdL.cons (q 4) OpdL.nil)) rfl (c (mv hN (q 5)) rfl (c (oq hN 6 (fo 1001 3 [1] hN underlying33 3 tyS3 (q 1)) (OptL.keep (by rfl) OptL.nil) (GuardV.plain _)) rfl (c (oq hN 6 (la hN 33 tyS3 (q 7)) (OptL.opt OptL.nil) (GuardV.plain _)) rfl (c (oq hN 6 (geq (L rfl) (q 8) (ii 0)) (OptL.opt OptL.nil) (GuardV.plain _)) rfl (c (pickAnd rfl (L rfl) (q 6) (q 9)) rfl (c (OpJ.val (v':=.d (.bool false)) (by rw [hg10]<;>rfl) (mv hN (q 10))) rfl (ks 11 (L rfl) (ks 11 (L rfl) (ks 11 (L rfl) (ks 11 (L rfl) (ks 11 (L rfl) (ks 11 (L rfl) (c (pickF (L rfl) (q 11) (Opd.bool false)) rfl (c (mv hN (q 18)) rfl (ks 19 (L rfl) (ks 19 (L rfl) (ks 19 (L rfl) (ks 19 (L rfl) (ks 19 (L rfl) (ks 19 (L rfl) (ks 19 (L rfl) (ks 19 (L rfl) (c (pickF (L rfl) (q 19) (Opd.bool false)) rfl (c (assign (L rfl) (q 28)) rfl cn))))))))))))))))))))))))))) (by kernel_rfl) (by kernel_rfl)
   exact hjj8 _ h _ _ (mp [] _ _ hB)
def A3q (a0:(List Int)):Option ((List Int)) :=
 chk (decide (a0.length≤LIM)) <|
 some a0
theorem A96 (a0:(List Int)) (r:(List Int)) (h:A3q a0=some r):AC Tryz.prog 131 [(.d (.list 1 (a0.map (eI .i64))))] [] (.d (.list 1 (r.map (eI .i64)))) []:=by
 refine AC.of_code2 Tryz.func131 rfl rfl (Nat.le_of_ble_eq_true (by rfl)) fun B hB hN => ?_
 delta A3q at h
 apply sr (c (assign (ltN hN rfl) Opd.nils) rfl cn)
 obtain⟨hc1,h⟩:=D3 h
 apply sr (c (mv hN (q 0)) rfl (cg (OpJ.appendN hB underlying27 tyE3 (nm:=1004) (by decide) (ys:=a0.map (eI .i64)) (len:=a0.length) (by simp) (R4 (f:=(eI .i64)) (fun _=>rfl)) (by rw [List.length_map];exact J6 hc1 (by decide)) (by rw [List.length_map];exact M6 hc1) (ltN hN rfl) Opd.nils (q 3)) rfl (c (assign (ltN hN rfl) (q 4)) rfl cn)))
 apply ret
 obtain rfl:=oi h
 exact rt (Mat.trans (Mat.freezeP (n:=1004) (e:=3) (sz:=1) (es:=a0.map (eI .i64)) (Ts:=[(2,(qI_1 a0))]) (Bs:=[]) (by rfl) (TwT.cons (x:=(.sref 1004 1 0 a0.length)) (by rfl) (FrzL.all (by first | rfl | (simp;done) | (simp;omega) | omega)) TwT.nil) TwB.nil) (mp [] [(2,(qI_1 a0))] [] hB)) [(qI_1 a0)] (rT rN) rfl
def A3r (a0:(List Int)):Option ((List Int)) :=
 chk (decide (a0.length≤LIM)) <|
 some a0
theorem A7k (a0:(List Int)) (r:(List Int)) (h:A3r a0=some r):AC Tryz.prog 132 [(.d (.list 1 (a0.map (eI .u8))))] [] (.d (.list 1 (r.map (eI .u8)))) []:=by
 refine AC.of_code2 Tryz.func132 rfl rfl (Nat.le_of_ble_eq_true (by rfl)) fun B hB hN => ?_
 delta A3r at h
 apply sr (c (assign (ltN hN rfl) Opd.nils) rfl cn)
 obtain⟨hc1,h⟩:=D3 h
 apply sr (c (mv hN (q 0)) rfl (cg (OpJ.appendN hB underlying76 tyE5 (nm:=1004) (by decide) (ys:=a0.map (eI .u8)) (len:=a0.length) (by simp) (R4 (f:=(eI .u8)) (fun _=>rfl)) (by rw [List.length_map];exact J6 hc1 (by decide)) (by rw [List.length_map];exact M6 hc1) (ltN hN rfl) Opd.nils (q 3)) rfl (c (assign (ltN hN rfl) (q 4)) rfl cn)))
 apply ret
 obtain rfl:=oi h
 exact rt (Mat.trans (Mat.freezeP (n:=1004) (e:=5) (sz:=1) (es:=a0.map (eI .u8)) (Ts:=[(2,(.d (.list 1 (a0.map (eI .u8)))))]) (Bs:=[]) (by rfl) (TwT.cons (x:=(.sref 1004 1 0 a0.length)) (by rfl) (FrzL.all (by first | rfl | (simp;done) | (simp;omega) | omega)) TwT.nil) TwB.nil) (mp [] [(2,(.d (.list 1 (a0.map (eI .u8)))))] [] hB)) [(.d (.list 1 (a0.map (eI .u8))))] (rT rN) rfl
def A0m (a0:(List C6)):Option ((List C6)) :=
 chk (decide (a0.length≤LIM)) <|
 some a0
theorem A7l (a0:(List C6)) (r:(List C6)) (h:A0m a0=some r):AC Tryz.prog 133 [(.d (.list 2 (a0.map B1)))] [] (.d (.list 2 (r.map B1))) []:=by
 refine AC.of_code2 Tryz.func133 rfl rfl (Nat.le_of_ble_eq_true (by rfl)) fun B hB hN => ?_
 delta A0m at h
 apply sr (c (assign (ltN hN rfl) Opd.nils) rfl cn)
 obtain⟨hc1,h⟩:=D3 h
 apply sr (c (mv hN (q 0)) rfl (cg (OpJ.appendN hB underlying35 tyE132 (nm:=1004) (by decide) (ys:=a0.map B1) (len:=a0.length) (by simp) (R4 (f:=B1) (fun _=>rfl)) (by rw [List.length_map];exact J6 hc1 (by decide)) (by rw [List.length_map];exact M6 hc1) (ltN hN rfl) Opd.nils (q 3)) rfl (c (assign (ltN hN rfl) (q 4)) rfl cn)))
 apply ret
 obtain rfl:=oi h
 exact rt (Mat.trans (Mat.freezeP (n:=1004) (e:=132) (sz:=2) (es:=a0.map B1) (Ts:=[(2,(B5 a0))]) (Bs:=[]) (by rfl) (TwT.cons (x:=(.sref 1004 2 0 a0.length)) (by rfl) (FrzL.all (by first | rfl | (simp;done) | (simp;omega) | omega)) TwT.nil) TwB.nil) (mp [] [(2,(B5 a0))] [] hB)) [(B5 a0)] (rT rN) rfl
def A0n (a0:(List G0)):Option ((List G0)) :=
 chk (decide (a0.length≤LIM)) <|
 some a0
theorem A7m (a0:(List G0)) (r:(List G0)) (h:A0n a0=some r):AC Tryz.prog 134 [(.d (.list 3 (a0.map C7)))] [] (.d (.list 3 (r.map C7))) []:=by
 refine AC.of_code2 Tryz.func134 rfl rfl (Nat.le_of_ble_eq_true (by rfl)) fun B hB hN => ?_
 delta A0n at h
 apply sr (c (assign (ltN hN rfl) Opd.nils) rfl cn)
 obtain⟨hc1,h⟩:=D3 h
 apply sr (c (mv hN (q 0)) rfl (cg (OpJ.appendN hB underlying36 tyE134 (nm:=1004) (by decide) (ys:=a0.map C7) (len:=a0.length) (by simp) (R4 (f:=C7) (fun _=>rfl)) (by rw [List.length_map];exact J6 hc1 (by decide)) (by rw [List.length_map];exact M6 hc1) (ltN hN rfl) Opd.nils (q 3)) rfl (c (assign (ltN hN rfl) (q 4)) rfl cn)))
 apply ret
 obtain rfl:=oi h
 exact rt (Mat.trans (Mat.freezeP (n:=1004) (e:=134) (sz:=3) (es:=a0.map C7) (Ts:=[(2,(D6 a0))]) (Bs:=[]) (by rfl) (TwT.cons (x:=(.sref 1004 3 0 a0.length)) (by rfl) (FrzL.all (by first | rfl | (simp;done) | (simp;omega) | omega)) TwT.nil) TwB.nil) (mp [] [(2,(D6 a0))] [] hB)) [(D6 a0)] (rT rN) rfl
def S4 (a0:D9) (s1:Int×(List B2)):Option ((((List B2)))⊕(Int×(List B2))) :=
 (if (decide (s1.1<(a0.fPath.length:Int)))=true then
 (idx a0.fPath s1.1).bind fun x12 =>
 (A3q x12.fASNs).bind fun r13 =>
 chk (decide ((s1.2++[(B2.mk x12.fSet r13)]).length≤LIM)) <|
 some (.inr ((w64 (s1.1+1)),(s1.2++[(B2.mk x12.fSet r13)])))
 else
 some (.inl s1.2))
def X0 (a0:D9) (s17:Int×(List A7)):Option ((((List A7)))⊕(Int×(List A7))) :=
 (if (decide (s17.1<(a0.fOther.length:Int)))=true then
 (idx a0.fOther s17.1).bind fun x28 =>
 (A3r x28.fData).bind fun r29 =>
 chk (decide ((s17.2++[(A7.mk x28.fFlags x28.fType r29)]).length≤LIM)) <|
 some (.inr ((w64 (s17.1+1)),(s17.2++[(A7.mk x28.fFlags x28.fType r29)])))
 else
 some (.inl s17.2))
def T0 (a0:D9):Option (D9) :=
 (loop (S4 a0) (0,([]:List B2))).bind fun p10 =>
 (loop (X0 a0) (0,([]:List A7))).bind fun p26 =>
 (A0m a0.fCommunities).bind fun r33 =>
 (A0n a0.fLarge).bind fun r34 =>
 some (D9.mk a0.fOrigin p10 a0.fNext a0.fMED a0.fPref a0.fOTC r33 r34 p26)
theorem A4l (a0:D9) (r:D9) (h:T0 a0=some r):AC Tryz.prog 98 [(.d (A8 a0))] [] (.d (A8 r)) []:=by
 refine ac2 Tryz.func98 rfl rfl fun B hB hN L => ?_
 delta T0 at h
 apply sr (cg (OpJ.box hB (nm:=1001) (by decide) (by simp) rfl (L rfl) (q 0)) rfl (cg (alloc hB tyZ39 (nm:=1002) (by decide) (L rfl)) rfl cn))
 apply sd (c (fo 1001 1 [1] hN underlying39 1 tyS34 (q 1)) rfl (c (la hN 39 tyS34 (q 9)) rfl (c (fo 1001 10 [8] hN underlying39 10 tyS37 (q 1)) rfl (c (la hN 39 tyS37 (q 11)) rfl (c (assign (L rfl) (q 10)) rfl (c (assign (L rfl) (q 12)) rfl cn)))))) (by kernel_rfl) (by kernel_rfl)
 apply sr (c (fo 1001 1 [1] hN underlying39 1 tyS34 (q 1)) rfl (cg (OpJ.storeB (c':=(.st [(i6 a0.fOrigin),.nils,(.d (C5 a0.fNext)),(i6 a0.fMED),(i6 a0.fPref),(i6 a0.fOTC),(B5 a0.fCommunities),(D6 a0.fLarge),(E8 a0.fOther)])) tyS34 (SetAt.lift (fs:=[(.int .i64 a0.fOrigin),(.list 2 (a0.fPath.map B4)),(C5 a0.fNext),(.int .i64 a0.fMED),(.int .i64 a0.fPref),(.int .i64 a0.fOTC),(.list 2 (a0.fCommunities.map B1)),(.list 3 (a0.fLarge.map C7)),(.list 3 (a0.fOther.map A5))]) (SetAt.st1 (by rfl) (by rfl) (SetAt.here _ _) (by rfl) (by rfl) (by first | rfl | omega))) (by rfl) (by rfl) (by simp) rfl (q 13) Opd.nils) rfl (c (fo 1001 10 [8] hN underlying39 10 tyS37 (q 1)) rfl (cg (OpJ.storeB (c':=(.st [(i6 a0.fOrigin),.nils,(.d (C5 a0.fNext)),(i6 a0.fMED),(i6 a0.fPref),(i6 a0.fOTC),(B5 a0.fCommunities),(D6 a0.fLarge),.nils])) tyS37 (SetAt.st1 (f:=(E8 a0.fOther)) (by rfl) (by rfl) (SetAt.here _ _) (by rfl) (by rfl) (by first | rfl | omega)) (by rfl) (by rfl) (by simp) rfl (q 14) Opd.nils) rfl cn))))
 apply seq
 apply sr (c (mv hN (q 3)) rfl (c (OpJ.val (v':=(i6 (a0.fPath.length:Int))) (by simp) (lenD underlying34 (L rfl) (q 15))) rfl (c (mv hN (ii 0)) rfl cn)))
 apply block
 obtain⟨p10,hx16,h⟩:=bindS h
 refine lg (S4 a0) (fun s1:Int×(List B2)=>([(1,(pt 1001)),(2,(pt 1002)),(4,(E8 a0.fOther)),(15,(D0 a0.fPath)),(16,(i6 (a0.fPath.length:Int))),(17,(i6 s1.1))]:EL)) (fun s1:Int×(List B2)=>([(1001,some (.box 39 (.st [(i6 a0.fOrigin),(.sref 13011 2 0 s1.2.length),(.d (C5 a0.fNext)),(i6 a0.fMED),(i6 a0.fPref),(i6 a0.fOTC),(B5 a0.fCommunities),(D6 a0.fLarge),.nils]))),(1002,some (.box 39 (.st [(i6 0),.nils,(.d (.st [(.bool false),(.int .u64 0),(.int .u64 0)])),(i6 0),(i6 0),(i6 0),.nils,.nils,.nils]))),(13011,some (J8 s1.2))]:OL)) (fun(p10:((List B2))) e E' O'=>e = .exit 0∧Mat B E' O' ([(1,(pt 1001)),(2,(pt 1002)),(4,(E8 a0.fOther))]:EL) ([(1001,some (.box 39 (.st [(i6 a0.fOrigin),(.sref 13011 2 0 p10.length),(.d (C5 a0.fNext)),(i6 a0.fMED),(i6 a0.fPref),(i6 a0.fOTC),(B5 a0.fCommunities),(D6 a0.fLarge),.nils]))),(1002,some (.box 39 (.st [(i6 0),.nils,(.d (.st [(.bool false),(.int .u64 0),(.int .u64 0)])),(i6 0),(i6 0),(i6 0),.nils,.nils,.nils]))),(13011,some (J8 p10))]:OL)) hx16 (Mat.trans (Mat.beginP (n:=13011) (e:=75) (sz:=2) (Ts:=[]) (Bs:=[(1001,some (.box 39 (.st [(i6 a0.fOrigin),(.sref 13011 2 0 0),(.d (C5 a0.fNext)),(i6 a0.fMED),(i6 a0.fPref),(i6 a0.fOTC),(B5 a0.fCommunities),(D6 a0.fLarge),.nils])))]) hB (by decide) (by rfl) (by decide) TwT.nil (TwB.cons (x:=(.st [(i6 a0.fOrigin),.nils,(.d (C5 a0.fNext)),(i6 a0.fMED),(i6 a0.fPref),(i6 a0.fOTC),(B5 a0.fCommunities),(D6 a0.fLarge),.nils])) (by rfl) (Tw.st (TwL.cons (Tw.same _) (TwL.cons (Tw.leaf ⟨rfl,rfl⟩) (TwL.cons (Tw.same _) (TwL.cons (Tw.same _) (TwL.cons (Tw.same _) (TwL.cons (Tw.same _) (TwL.cons (Tw.same _) (TwL.cons (Tw.same _) (TwL.cons (Tw.same _) TwL.nil)))))))))) TwB.nil)) (mp [] _ _ hB)) (fun s1 y h => ?_) (fun e E' O' hR => ?_)
 ·unfold S4 at h
  apply sr (c (lss (L rfl) (q 17) (q 16)) rfl cn)
  apply seq
  apply AWp.cond rfl<;>intro hg11
  ·have h:=B6 hg11 h
   apply AWp.skip
   apply A3
   apply seq
   apply block
   obtain⟨x12,hx12,h⟩:=bindS h
   apply sr (c (indexD underlying34 tyS75 (A4 hx12).1 (C8 B4 (A4 hx12).2) (L rfl) (q 15) (q 17)) rfl (c (loadD tyS75 (by rfl) (by rfl) (L rfl) (q 19)) rfl (cg (alloc hB tyZ75 (nm:=1006) (by decide) (L rfl)) rfl (cg (sB tyS75 (q 6) (q 20)) rfl cn))))
   obtain⟨r13,hr13,h⟩:=bindS h
   obtain⟨hc14,h⟩:=D3 h
   apply dr (c (fo 1001 1 [1] hN underlying39 1 tyS34 (q 1)) rfl (c (lb hN 39 _ (.sref 13011 2 0 s1.2.length) tyS34 (At.st1 (f:=(.sref 13011 2 0 s1.2.length)) (by rfl) (by rfl) (At.here _) (by first | rfl | omega)) (q 21)) rfl (c (fo 1006 0 [0] hN underlying75 0 tyS4 (q 6)) rfl (c (la hN 75 tyS4 (q 23)) rfl (c (fo 1006 1 [1] hN underlying75 1 tyS27 (q 6)) rfl (c (la hN 75 tyS27 (q 25)) rfl (cg (cf hB fnOk131 (A96 x12.fASNs r13 hr13) (L rfl) (OpdL.cons (q 26) OpdL.nil)) rfl (c (OpJ.coe (v:=(.st [(bo x12.fSet),(qI_1 r13)])) (y:=(.st [(.bool x12.fSet),(.list 1 (r13.map (eI .i64)))])) (Co.st (CoL.cons (Co.d _) (CoL.cons (Co.d _) CoL.nil))) rfl (OpJ.build (places:=[(0,1),(1,1)]) ⟨underlying75,fun w=>by kernel_rfl⟩ tyZS75 (Opds.cons (q 24) (Opds.cons (q 27) Opds.nil)) (by kernel_rfl) (r:=(.st [(bo x12.fSet),(qI_1 r13)])) (by rfl) (L rfl))) rfl (c (buildSlice underlying34 tyS75 tyZD75 (by rfl) (by decide) (by decide) (Opds.cons (q 28) Opds.nil) (by kernel_rfl) (es:=([(.st [(.bool x12.fSet),(.list 1 (r13.map (eI .i64)))])]:List D)) (by rfl) (by rfl) (by kernel_rfl) (by simp) (L rfl)) rfl (cg (apd hB underlying34 tyE75 1030 B4 s1.2 [(B2.mk x12.fSet r13)] hc14 (L rfl) (q 22) (q 29)) rfl (c (fo 1001 1 [1] hN underlying39 1 tyS34 (q 1)) rfl (cg (OpJ.storeB (c':=(.st [(i6 a0.fOrigin),(.sref 1030 2 0 ((s1.2++[(B2.mk x12.fSet r13)]).length)),(.d (C5 a0.fNext)),(i6 a0.fMED),(i6 a0.fPref),(i6 a0.fOTC),(B5 a0.fCommunities),(D6 a0.fLarge),.nils])) tyS34 (SetAt.st1 (f:=(.sref 13011 2 0 s1.2.length)) (by rfl) (by rfl) (SetAt.here _ _) (by rfl) (by rfl) (by first | rfl | omega)) (by rfl) (by rfl) (by simp) rfl (q 31) (q 30)) rfl cn)))))))))))) (by kernel_rfl) (by kernel_rfl)
   apply F8
   apply A3
   apply rg (c (add6 (L rfl) (q 17) (ii 1)) rfl (c (mv hN (q 32)) rfl cn))
   obtain rfl:=oi h
   exact⟨rfl,(mp [(13011,1030)] _ _ hB)⟩
  ·have h:=B7 hg11 h
   apply AWp.exit
   apply F6
   obtain rfl:=oi h
   exact⟨(fun hc=>by cases hc),rfl,(mp [] _ _ hB)⟩
 ·obtain⟨rfl,hmat⟩:=hR
  apply E4
  apply A3
  refine ghost hmat ?_
  apply seq
  apply sr (c (mv hN (q 4)) rfl (c (OpJ.val (v':=(i6 (a0.fOther.length:Int))) (by simp) (lenD underlying37 (L rfl) (q 33))) rfl (c (mv hN (ii 0)) rfl cn)))
  apply block
  obtain⟨p26,hx32,h⟩:=bindS h
  refine lg (X0 a0) (fun s17:Int×(List A7)=>([(1,(pt 1001)),(2,(pt 1002)),(33,(E8 a0.fOther)),(34,(i6 (a0.fOther.length:Int))),(35,(i6 s17.1))]:EL)) (fun s17:Int×(List A7)=>([(1001,some (.box 39 (.st [(i6 a0.fOrigin),(.sref 13011 2 0 p10.length),(.d (C5 a0.fNext)),(i6 a0.fMED),(i6 a0.fPref),(i6 a0.fOTC),(B5 a0.fCommunities),(D6 a0.fLarge),(.sref 13018 3 0 s17.2.length)]))),(1002,some (.box 39 (.st [(i6 0),.nils,(.d (.st [(.bool false),(.int .u64 0),(.int .u64 0)])),(i6 0),(i6 0),(i6 0),.nils,.nils,.nils]))),(13011,some (J8 p10)),(13018,some (F0 s17.2))]:OL)) (fun(p26:((List A7))) e E' O'=>e = .exit 2∧Mat B E' O' ([(1,(pt 1001)),(2,(pt 1002))]:EL) ([(1001,some (.box 39 (.st [(i6 a0.fOrigin),(.sref 13011 2 0 p10.length),(.d (C5 a0.fNext)),(i6 a0.fMED),(i6 a0.fPref),(i6 a0.fOTC),(B5 a0.fCommunities),(D6 a0.fLarge),(.sref 13018 3 0 p26.length)]))),(1002,some (.box 39 (.st [(i6 0),.nils,(.d (.st [(.bool false),(.int .u64 0),(.int .u64 0)])),(i6 0),(i6 0),(i6 0),.nils,.nils,.nils]))),(13011,some (J8 p10)),(13018,some (F0 p26))]:OL)) hx32 (Mat.trans (Mat.beginP (n:=13018) (e:=78) (sz:=3) (Ts:=[]) (Bs:=[(1001,some (.box 39 (.st [(i6 a0.fOrigin),(.sref 13011 2 0 p10.length),(.d (C5 a0.fNext)),(i6 a0.fMED),(i6 a0.fPref),(i6 a0.fOTC),(B5 a0.fCommunities),(D6 a0.fLarge),(.sref 13018 3 0 0)])))]) hB (by decide) (by rfl) (by decide) TwT.nil (TwB.cons (x:=(.st [(i6 a0.fOrigin),(.sref 13011 2 0 p10.length),(.d (C5 a0.fNext)),(i6 a0.fMED),(i6 a0.fPref),(i6 a0.fOTC),(B5 a0.fCommunities),(D6 a0.fLarge),.nils])) (by rfl) (Tw.st (TwL.cons (Tw.same _) (TwL.cons (Tw.same _) (TwL.cons (Tw.same _) (TwL.cons (Tw.same _) (TwL.cons (Tw.same _) (TwL.cons (Tw.same _) (TwL.cons (Tw.same _) (TwL.cons (Tw.same _) (TwL.cons (Tw.leaf ⟨rfl,rfl⟩) TwL.nil)))))))))) TwB.nil)) (mp [] _ _ hB)) (fun s17 y h => ?_) (fun e E' O' hR => ?_)
  ·unfold X0 at h
   apply sr (c (lss (L rfl) (q 35) (q 34)) rfl cn)
   apply seq
   apply AWp.cond rfl<;>intro hg27
   ·have h:=B6 hg27 h
    apply AWp.skip
    apply A3
    apply seq
    apply block
    obtain⟨x28,hx28,h⟩:=bindS h
    apply sr (c (indexD underlying37 tyS78 (A4 hx28).1 (C8 A5 (A4 hx28).2) (L rfl) (q 33) (q 35)) rfl (c (loadD tyS78 (by rfl) (by rfl) (L rfl) (q 37)) rfl (cg (alloc hB tyZ78 (nm:=1008) (by decide) (L rfl)) rfl (cg (sB tyS78 (q 8) (q 38)) rfl cn))))
    obtain⟨r29,hr29,h⟩:=bindS h
    obtain⟨hc30,h⟩:=D3 h
    apply dr (c (fo 1001 10 [8] hN underlying39 10 tyS37 (q 1)) rfl (c (lb hN 39 _ (.sref 13018 3 0 s17.2.length) tyS37 (At.st1 (f:=(.sref 13018 3 0 s17.2.length)) (by rfl) (by rfl) (At.here _) (by first | rfl | omega)) (q 39)) rfl (c (fo 1008 0 [0] hN underlying78 0 tyS3 (q 8)) rfl (c (la hN 78 tyS3 (q 41)) rfl (c (fo 1008 1 [1] hN underlying78 1 tyS3 (q 8)) rfl (c (la hN 78 tyS3 (q 43)) rfl (c (fo 1008 2 [2] hN underlying78 2 tyS76 (q 8)) rfl (c (la hN 78 tyS76 (q 45)) rfl (cg (cf hB fnOk132 (A7k x28.fData r29 hr29) (L rfl) (OpdL.cons (q 46) OpdL.nil)) rfl (c (OpJ.coe (v:=(.st [(i6 x28.fFlags),(i6 x28.fType),(.d (.list 1 (r29.map (eI .u8))))])) (y:=(.st [(.int .i64 x28.fFlags),(.int .i64 x28.fType),(.list 1 (r29.map (eI .u8)))])) (Co.st (CoL.cons (Co.d _) (CoL.cons (Co.d _) (CoL.cons (Co.d _) CoL.nil)))) rfl (OpJ.build (places:=[(0,1),(1,1),(2,1)]) ⟨underlying78,fun w=>by kernel_rfl⟩ tyZS78 (Opds.cons (q 42) (Opds.cons (q 44) (Opds.cons (q 47) Opds.nil))) (by kernel_rfl) (r:=(.st [(i6 x28.fFlags),(i6 x28.fType),(.d (.list 1 (r29.map (eI .u8))))])) (by rfl) (L rfl))) rfl (c (buildSlice underlying37 tyS78 tyZD78 (by rfl) (by decide) (by decide) (Opds.cons (q 48) Opds.nil) (by kernel_rfl) (es:=([(.st [(.int .i64 x28.fFlags),(.int .i64 x28.fType),(.list 1 (r29.map (eI .u8)))])]:List D)) (by rfl) (by rfl) (by kernel_rfl) (by simp) (L rfl)) rfl (cg (apd hB underlying37 tyE78 1050 A5 s17.2 [(A7.mk x28.fFlags x28.fType r29)] hc30 (L rfl) (q 40) (q 49)) rfl (c (fo 1001 10 [8] hN underlying39 10 tyS37 (q 1)) rfl (cg (OpJ.storeB (c':=(.st [(i6 a0.fOrigin),(.sref 13011 2 0 p10.length),(.d (C5 a0.fNext)),(i6 a0.fMED),(i6 a0.fPref),(i6 a0.fOTC),(B5 a0.fCommunities),(D6 a0.fLarge),(.sref 1050 3 0 ((s17.2++[(A7.mk x28.fFlags x28.fType r29)]).length))])) tyS37 (SetAt.st1 (f:=(.sref 13018 3 0 s17.2.length)) (by rfl) (by rfl) (SetAt.here _ _) (by rfl) (by rfl) (by first | rfl | omega)) (by rfl) (by rfl) (by simp) rfl (q 51) (q 50)) rfl cn)))))))))))))) (by kernel_rfl) (by kernel_rfl)
    apply F8
    apply A3
    apply rg (c (add6 (L rfl) (q 35) (ii 1)) rfl (c (mv hN (q 52)) rfl cn))
    obtain rfl:=oi h
    exact⟨rfl,(mp [(13018,1050)] _ _ hB)⟩
   ·have h:=B7 hg27 h
    apply AWp.exit
    apply F6
    obtain rfl:=oi h
    exact⟨(fun hc=>by cases hc),rfl,(mp [] _ _ hB)⟩
  ·obtain⟨rfl,hmat⟩:=hR
   apply E4
   apply A3
   refine ghost hmat ?_
   obtain⟨r33,hr33,h⟩:=bindS h
   obtain⟨r34,hr34,h⟩:=bindS h
   apply sd (c (fo 1001 8 [6] hN underlying39 8 tyS35 (q 1)) rfl (c (lb hN 39 _ (B5 a0.fCommunities) tyS35 (At.st1 (f:=(B5 a0.fCommunities)) (by rfl) (by rfl) (At.here _) (by first | rfl | omega)) (q 53)) rfl (cg (cf hB fnOk133 (A7l a0.fCommunities r33 hr33) (L rfl) (OpdL.cons (q 54) OpdL.nil)) rfl (c (fo 1001 9 [7] hN underlying39 9 tyS36 (q 1)) rfl (c (lb hN 39 _ (D6 a0.fLarge) tyS36 (At.st1 (f:=(D6 a0.fLarge)) (by rfl) (by rfl) (At.here _) (by first | rfl | omega)) (q 56)) rfl (cg (cf hB fnOk134 (A7m a0.fLarge r34 hr34) (L rfl) (OpdL.cons (q 57) OpdL.nil)) rfl (c (fo 1001 8 [6] hN underlying39 8 tyS35 (q 1)) rfl (cg (OpJ.storeB (c':=(.st [(i6 a0.fOrigin),(.sref 13011 2 0 p10.length),(.d (C5 a0.fNext)),(i6 a0.fMED),(i6 a0.fPref),(i6 a0.fOTC),(B5 r33),(D6 a0.fLarge),(.sref 13018 3 0 p26.length)])) tyS35 (SetAt.st1 (f:=(B5 a0.fCommunities)) (by rfl) (by rfl) (SetAt.here _ _) (by rfl) (by rfl) (by first | rfl | omega)) (by rfl) (by rfl) (by simp) rfl (q 59) (q 55)) rfl (c (fo 1001 9 [7] hN underlying39 9 tyS36 (q 1)) rfl (cg (OpJ.storeB (c':=(.st [(i6 a0.fOrigin),(.sref 13011 2 0 p10.length),(.d (C5 a0.fNext)),(i6 a0.fMED),(i6 a0.fPref),(i6 a0.fOTC),(B5 r33),(D6 r34),(.sref 13018 3 0 p26.length)])) tyS36 (SetAt.st1 (f:=(D6 a0.fLarge)) (by rfl) (by rfl) (SetAt.here _ _) (by rfl) (by rfl) (by first | rfl | omega)) (by rfl) (by rfl) (by simp) rfl (q 60) (q 58)) rfl cn)))))))))) (by kernel_rfl) (by kernel_rfl)
   apply sr (c (lb hN 39 _ _ tyS39 (At.here _) (q 1)) rfl (cg (sB tyS39 (q 2) (q 61)) rfl cn))
   apply ret
   obtain rfl:=oi h
   exact rt (Mat.trans (Mat.freezeP (n:=13011) (e:=75) (sz:=2) (es:=p10.map B4) (Ts:=[]) (Bs:=[(1002,some (.box 39 (.st [(i6 a0.fOrigin),(D0 p10),(.d (C5 a0.fNext)),(i6 a0.fMED),(i6 a0.fPref),(i6 a0.fOTC),(B5 r33),(D6 r34),(.sref 13018 3 0 p26.length)])))]) (by rfl) TwT.nil (TwB.cons (x:=(.st [(i6 a0.fOrigin),(.sref 13011 2 0 p10.length),(.d (C5 a0.fNext)),(i6 a0.fMED),(i6 a0.fPref),(i6 a0.fOTC),(B5 r33),(D6 r34),(.sref 13018 3 0 p26.length)])) (by rfl) (Tw.st (TwL.cons (Tw.same _) (TwL.cons (FrzL.all (by first | rfl | (simp;done) | (simp;omega) | omega)) (TwL.cons (Tw.same _) (TwL.cons (Tw.same _) (TwL.cons (Tw.same _) (TwL.cons (Tw.same _) (TwL.cons (Tw.same _) (TwL.cons (Tw.same _) (TwL.cons (Tw.same _) TwL.nil)))))))))) TwB.nil)) (Mat.trans (Mat.freezeP (n:=13018) (e:=78) (sz:=3) (es:=p26.map A5) (Ts:=[]) (Bs:=[(1002,some (.box 39 (.st [(i6 a0.fOrigin),(D0 p10),(.d (C5 a0.fNext)),(i6 a0.fMED),(i6 a0.fPref),(i6 a0.fOTC),(B5 r33),(D6 r34),(E8 p26)])))]) (by rfl) TwT.nil (TwB.cons (x:=(.st [(i6 a0.fOrigin),(D0 p10),(.d (C5 a0.fNext)),(i6 a0.fMED),(i6 a0.fPref),(i6 a0.fOTC),(B5 r33),(D6 r34),(.sref 13018 3 0 p26.length)])) (by rfl) (Tw.st (TwL.cons (Tw.same _) (TwL.cons (Tw.same _) (TwL.cons (Tw.same _) (TwL.cons (Tw.same _) (TwL.cons (Tw.same _) (TwL.cons (Tw.same _) (TwL.cons (Tw.same _) (TwL.cons (Tw.same _) (TwL.cons (FrzL.all (by first | rfl | (simp;done) | (simp;omega) | omega)) TwL.nil)))))))))) TwB.nil)) (Mat.trans (Mat.coeP (Ts:=[]) (Bs:=[(1002,bd 39 (.st [(.int .i64 a0.fOrigin),(.list 2 (p10.map B4)),(C5 a0.fNext),(.int .i64 a0.fMED),(.int .i64 a0.fPref),(.int .i64 a0.fOTC),(.list 2 (r33.map B1)),(.list 3 (r34.map C7)),(.list 3 (p26.map A5))]))]) TwT.nil (TwB.cons (x:=(.st [(i6 a0.fOrigin),(D0 p10),(.d (C5 a0.fNext)),(i6 a0.fMED),(i6 a0.fPref),(i6 a0.fOTC),(B5 r33),(D6 r34),(E8 p26)])) (by rfl) (Tw.leaf ⟨_,(Co.st (CoL.cons (Co.d _) (CoL.cons (Co.d _) (CoL.cons (Co.d _) (CoL.cons (Co.d _) (CoL.cons (Co.d _) (CoL.cons (Co.d _) (CoL.cons (Co.d _) (CoL.cons (Co.d _) (CoL.cons (Co.d _) CoL.nil)))))))))),rfl⟩) TwB.nil)) (mp [] [(2,(pt 1002))] [(1002,bd 39 (.st [(.int .i64 a0.fOrigin),(.list 2 (p10.map B4)),(C5 a0.fNext),(.int .i64 a0.fMED),(.int .i64 a0.fPref),(.int .i64 a0.fOTC),(.list 2 (r33.map B1)),(.list 3 (r34.map C7)),(.list 3 (p26.map A5))]))] hB)))) [(.d (.st [(.int .i64 a0.fOrigin),(.list 2 (p10.map B4)),(C5 a0.fNext),(.int .i64 a0.fMED),(.int .i64 a0.fPref),(.int .i64 a0.fOTC),(.list 2 (r33.map B1)),(.list 3 (r34.map C7)),(.list 3 (p26.map A5))]))] (Res.cell (c:=(.d (.st [(.int .i64 a0.fOrigin),(.list 2 (p10.map B4)),(C5 a0.fNext),(.int .i64 a0.fMED),(.int .i64 a0.fPref),(.int .i64 a0.fOTC),(.list 2 (r33.map B1)),(.list 3 (r34.map C7)),(.list 3 (p26.map A5))]))) (by rfl) (by rfl) tyS39 (by rfl) (by rfl) (by rfl) rN) rfl
def Y4 (a0:(List A0)):Option ((List A0)) :=
 chk (decide (a0.length≤LIM)) <|
 some a0
theorem A40 (a0:(List A0)) (r:(List A0)) (h:Y4 a0=some r):AC Tryz.prog 48 [(.d (.list 4 (a0.map A2)))] [] (.d (.list 4 (r.map A2))) []:=by
 refine AC.of_code2 Tryz.func48 rfl rfl (Nat.le_of_ble_eq_true (by rfl)) fun B hB hN => ?_
 delta Y4 at h
 apply sr (c (assign (ltN hN rfl) Opd.nils) rfl cn)
 obtain⟨hc1,h⟩:=D3 h
 apply sr (c (mv hN (q 0)) rfl (cg (OpJ.appendN hB underlying69 tyE33 (nm:=1004) (by decide) (ys:=a0.map A2) (len:=a0.length) (by simp) (R4 (f:=A2) (fun _=>rfl)) (by rw [List.length_map];exact J6 hc1 (by decide)) (by rw [List.length_map];exact M6 hc1) (ltN hN rfl) Opd.nils (q 3)) rfl (c (assign (ltN hN rfl) (q 4)) rfl cn)))
 apply ret
 obtain rfl:=oi h
 exact rt (Mat.trans (Mat.freezeP (n:=1004) (e:=33) (sz:=4) (es:=a0.map A2) (Ts:=[(2,(C1 a0))]) (Bs:=[]) (by rfl) (TwT.cons (x:=(.sref 1004 4 0 a0.length)) (by rfl) (FrzL.all (by first | rfl | (simp;done) | (simp;omega) | omega)) TwT.nil) TwB.nil) (mp [] [(2,(C1 a0))] [] hB)) [(C1 a0)] (rT rN) rfl
def U6:Option (D9) :=
 some (D9.mk (-1) ([]:List B2) (E7.mk false 0 0) (-1) (-1) (-1) ([]:List C6) ([]:List G0) ([]:List A7))
theorem A2c (r:D9) (h:U6=some r):AC Tryz.prog 148 [] [] (.d (A8 r)) []:=by
 refine AC.of_code2 Tryz.func148 rfl rfl (Nat.le_of_ble_eq_true (by rfl)) fun B hB hN => ?_
 delta U6 at h
 apply sr (cg (alloc hB tyZ39 (nm:=1000) (by decide) (ltN hN rfl)) rfl cn)
 apply sr (c (OpJ.build (places:=[(0,1),(1,1),(2,3),(5,1),(6,1),(7,1),(8,1),(9,1),(10,1)]) ⟨underlying39,fun w=>by kernel_rfl⟩ tyZS39 (Opds.cons (ii (-1)) (Opds.cons (ii (-1)) (Opds.cons (ii (-1)) (Opds.cons (ii (-1)) Opds.nil)))) (by kernel_rfl) (r:=(.st [(i6 (-1)),.nils,(.d (.st [(.bool false),(.int .u64 0),(.int .u64 0)])),(i6 (-1)),(i6 (-1)),(i6 (-1)),.nils,.nils,.nils])) (by rfl) (ltN hN rfl)) rfl (cg (sB tyS39 (q 0) (q 1)) rfl cn))
 apply ret
 obtain rfl:=oi h
 exact rt (Mat.trans (Mat.coeP (Ts:=[]) (Bs:=[(1000,bd 39 (.st [(.int .i64 (-1)),(.list 2 (([]:List B2).map B4)),(.st [(.bool false),(.int .u64 0),(.int .u64 0)]),(.int .i64 (-1)),(.int .i64 (-1)),(.int .i64 (-1)),(.list 2 (([]:List C6).map B1)),(.list 3 (([]:List G0).map C7)),(.list 3 (([]:List A7).map A5))]))]) TwT.nil (TwB.cons (x:=(.st [(i6 (-1)),.nils,(.d (.st [(.bool false),(.int .u64 0),(.int .u64 0)])),(i6 (-1)),(i6 (-1)),(i6 (-1)),.nils,.nils,.nils])) (by rfl) (Tw.leaf ⟨_,(Co.st (CoL.cons (Co.d _) (CoL.cons (Co.nils 2) (CoL.cons (Co.d _) (CoL.cons (Co.d _) (CoL.cons (Co.d _) (CoL.cons (Co.d _) (CoL.cons (Co.nils 2) (CoL.cons (Co.nils 3) (CoL.cons (Co.nils 3) CoL.nil)))))))))),rfl⟩) TwB.nil)) (mp [] [(0,(pt 1000))] [(1000,bd 39 (.st [(.int .i64 (-1)),(.list 2 (([]:List B2).map B4)),(.st [(.bool false),(.int .u64 0),(.int .u64 0)]),(.int .i64 (-1)),(.int .i64 (-1)),(.int .i64 (-1)),(.list 2 (([]:List C6).map B1)),(.list 3 (([]:List G0).map C7)),(.list 3 (([]:List A7).map A5))]))] hB)) [(.d (.st [(.int .i64 (-1)),(.list 2 (([]:List B2).map B4)),(.st [(.bool false),(.int .u64 0),(.int .u64 0)]),(.int .i64 (-1)),(.int .i64 (-1)),(.int .i64 (-1)),(.list 2 (([]:List C6).map B1)),(.list 3 (([]:List G0).map C7)),(.list 3 (([]:List A7).map A5))]))] (Res.cell (c:=(.d (.st [(.int .i64 (-1)),(.list 2 (([]:List B2).map B4)),(.st [(.bool false),(.int .u64 0),(.int .u64 0)]),(.int .i64 (-1)),(.int .i64 (-1)),(.int .i64 (-1)),(.list 2 (([]:List C6).map B1)),(.list 3 (([]:List G0).map C7)),(.list 3 (([]:List A7).map A5))]))) (by rfl) (by rfl) tyS39 (by rfl) (by rfl) (by rfl) rN) rfl
def I2 (a0:D9) (a1:(List A0)) (a2:Bool):Option (C9) :=
 (if a2=true then
 (T0 a0).bind fun r2 =>
 (Y4 a1).bind fun r3 =>
 some (C9.mk ([]:List A0) r2 r3)
 else
 (U6).bind fun r4 =>
 (Y4 a1).bind fun r5 =>
 some (C9.mk r5 r4 ([]:List A0)))
theorem U7 (a0:D9) (a1:(List A0)) (a2:Bool) (r:C9) (h:I2 a0 a1 a2=some r):AC Tryz.prog 114 [(.d (A8 a0)),(.d (.list 4 (a1.map A2))),(.d (.bool a2))] [] (.d (B9 r)) []:=by
 refine AC.of_code2 Tryz.func114 rfl rfl (Nat.le_of_ble_eq_true (by rfl)) fun B hB hN => ?_
 delta I2 at h
 apply sr (cg (OpJ.box hB (nm:=1003) (by decide) (by simp) rfl (ltN hN rfl) (q 0)) rfl (cg (alloc hB tyZ71 (nm:=1006) (by decide) (ltN hN rfl)) rfl cn))
 apply seq
 apply sr (c (mv hN (q 2)) rfl cn)
 apply AWp.cond rfl<;>intro hg1
 ·have h:=B6 hg1 h
  obtain⟨r2,hr2,h⟩:=bindS h
  obtain⟨r3,hr3,h⟩:=bindS h
  apply sr (c (lb hN 39 _ _ tyS39 (At.here _) (q 3)) rfl (cg (OpJ.callFn hB fnOk98 (A4l a0 r2 hr2) [] (by kernel_rfl) (ltN hN rfl) (by kernel_rfl) (OpdL.cons (q 8) OpdL.nil)) rfl (c (mv hN (q 1)) rfl (cg (OpJ.callFn hB fnOk48 (A40 a1 r3 hr3) [] (by kernel_rfl) (ltN hN rfl) (by kernel_rfl) (OpdL.cons (q 10) OpdL.nil)) rfl (c (OpJ.build (places:=[(0,1),(1,11),(12,1)]) ⟨underlying71,fun w=>by kernel_rfl⟩ tyZS71 (Opds.cons (q 9) (Opds.cons (q 11) Opds.nil)) (by kernel_rfl) (r:=(.st [.nils,(.d (A8 r2)),(C1 r3)])) (by rfl) (ltN hN rfl)) rfl (cg (sB tyS71 (q 6) (q 12)) rfl cn))))))
  apply ret
  apply D4
  obtain rfl:=oi h
  exact rt (Mat.trans (Mat.coeP (Ts:=[]) (Bs:=[(1006,bd 71 (.st [(.list 4 (([]:List A0).map A2)),(A8 r2),(.list 4 (r3.map A2))]))]) TwT.nil (TwB.cons (x:=(.st [.nils,(.d (A8 r2)),(C1 r3)])) (by rfl) (Tw.leaf ⟨_,(Co.st (CoL.cons (Co.nils 4) (CoL.cons (Co.d _) (CoL.cons (Co.d _) CoL.nil)))),rfl⟩) TwB.nil)) (mp [] [(6,(pt 1006))] [(1006,bd 71 (.st [(.list 4 (([]:List A0).map A2)),(A8 r2),(.list 4 (r3.map A2))]))] hB)) [(.d (.st [(.list 4 (([]:List A0).map A2)),(A8 r2),(.list 4 (r3.map A2))]))] (Res.cell (c:=(.d (.st [(.list 4 (([]:List A0).map A2)),(A8 r2),(.list 4 (r3.map A2))]))) (by rfl) (by rfl) tyS71 (by rfl) (by rfl) (by rfl) rN) rfl
 ·have h:=B7 hg1 h
  apply AWp.skip
  apply A3
  obtain⟨r4,hr4,h⟩:=bindS h
  obtain⟨r5,hr5,h⟩:=bindS h
  apply sr (cg (OpJ.callFn hB fnOk148 (A2c r4 hr4) [] (by kernel_rfl) (ltN hN rfl) (by kernel_rfl) OpdL.nil) rfl (c (mv hN (q 1)) rfl (cg (OpJ.callFn hB fnOk48 (A40 a1 r5 hr5) [] (by kernel_rfl) (ltN hN rfl) (by kernel_rfl) (OpdL.cons (q 14) OpdL.nil)) rfl (c (OpJ.build (places:=[(0,1),(1,11),(12,1)]) ⟨underlying71,fun w=>by kernel_rfl⟩ tyZS71 (Opds.cons (q 13) (Opds.cons (q 15) Opds.nil)) (by kernel_rfl) (r:=(.st [(C1 r5),(.d (A8 r4)),.nils])) (by rfl) (ltN hN rfl)) rfl (cg (sB tyS71 (q 6) (q 16)) rfl cn)))))
  apply ret
  obtain rfl:=oi h
  exact rt (Mat.trans (Mat.coeP (Ts:=[]) (Bs:=[(1006,bd 71 (.st [(.list 4 (r5.map A2)),(A8 r4),(.list 4 (([]:List A0).map A2))]))]) TwT.nil (TwB.cons (x:=(.st [(C1 r5),(.d (A8 r4)),.nils])) (by rfl) (Tw.leaf ⟨_,(Co.st (CoL.cons (Co.d _) (CoL.cons (Co.d _) (CoL.cons (Co.nils 4) CoL.nil)))),rfl⟩) TwB.nil)) (mp [] [(6,(pt 1006))] [(1006,bd 71 (.st [(.list 4 (r5.map A2)),(A8 r4),(.list 4 (([]:List A0).map A2))]))] hB)) [(.d (.st [(.list 4 (r5.map A2)),(A8 r4),(.list 4 (([]:List A0).map A2))]))] (Res.cell (c:=(.d (.st [(.list 4 (r5.map A2)),(A8 r4),(.list 4 (([]:List A0).map A2))]))) (by rfl) (by rfl) tyS71 (by rfl) (by rfl) (by rfl) rN) rfl
def A0o (a0:A0):Option (Bool) :=
 (Y3 a0).bind fun r1 =>
 some (!r1)
theorem A63 (a0:A0) (r:Bool) (h:A0o a0=some r):AC Tryz.prog 144 [(.d (A2 a0))] [] (.d (.bool r)) []:=by
 refine AC.of_code2 Tryz.func144 rfl rfl (Nat.le_of_ble_eq_true (by rfl)) fun B hB hN => ?_
 delta A0o at h
 apply sr (cg (OpJ.box hB (nm:=1001) (by decide) (by simp) rfl (ltN hN rfl) (q 0)) rfl (c (assign (ltN hN rfl) (Opd.bool false)) rfl cn))
 obtain⟨r1,hr1,h⟩:=bindS h
 apply sr (c (lb hN 33 _ _ tyS33 (At.here _) (q 1)) rfl (cg (OpJ.callFn hB fnOk112 (U5 a0 r1 hr1) [] (by kernel_rfl) (ltN hN rfl) (by kernel_rfl) (OpdL.cons (q 3) OpdL.nil)) rfl (c (OpJ.not (ltN hN rfl) (q 4)) rfl (c (assign (ltN hN rfl) (q 5)) rfl cn))))
 apply ret
 obtain rfl:=oi h
 exact rt (kp [(2,_)] [] hB rfl rfl (by rfl)) [(bo (!r1))] (rT rN) rfl
def N5 (a0:(List A0)) (s1:Int):Option (((Int)⊕(Unit))⊕(Int)) :=
 (if (decide (s1<(a0.length:Int)))=true then
 (idx a0 s1).bind fun x13 =>
 (A0o x13).bind fun r14 =>
 (if r14=true then
 some (.inl (.inl s1))
 else
 some (.inr (w64 (s1+1))))
 else
 some (.inl (.inr ())))
def Y5 (a0:(List A0)):Option (Int) :=
 (loop (N5 a0) 0).bind fun x16=>match x16 with
 | (.inl p10) =>
  some p10
 | (.inr _) =>
  some (-1)
theorem A5f (a0:(List A0)) (r:Int) (h:Y5 a0=some r):AC Tryz.prog 151 [(.d (.list 4 (a0.map A2))),(.func 144 [])] [] (.d (.int .i64 r)) []:=by
 refine AC.of_code2 Tryz.func151 rfl rfl (Nat.le_of_ble_eq_true (by rfl)) fun B hB hN => ?_
 delta Y5 at h
 apply sr (c (assign (ltN hN rfl) (ii 0)) rfl cn)
 apply seq
 apply sr (c (mv hN (q 0)) rfl (c (OpJ.val (v':=(i6 (a0.length:Int))) (by simp) (lenD underlying69 (ltN hN rfl) (q 6))) rfl (c (mv hN (ii 0)) rfl cn)))
 apply block
 obtain⟨x16,hx17,h⟩:=bindS h
 refine lg (N5 a0) (fun s1:Int=>([(0,(C1 a0)),(1,(.func 144 [])),(7,(i6 (a0.length:Int))),(8,(i6 s1))]:EL)) (fun s1:Int=>([]:OL)) (fun(x:(Int)⊕(Unit)) e E' O'=>match x with | (.inl p10)=>e = .ret∧Mat B E' O' ([(4,(i6 p10))]:EL) ([]:OL) | (.inr _p)=>e = .exit 0∧Mat B E' O' ([]:EL) ([]:OL)) hx17 (mp [] _ _ hB) (fun s1 y h => ?_) (fun e E' O' hR => ?_)
 ·unfold N5 at h
  apply sr (c (lss (ltN hN rfl) (q 8) (q 7)) rfl cn)
  apply seq
  apply AWp.cond rfl<;>intro hg12
  ·have h:=B6 hg12 h
   apply AWp.skip
   apply A3
   apply seq
   apply block
   apply sr (c (mv hN (q 8)) rfl (c (assign (ltN hN rfl) (q 10)) rfl cn))
   obtain⟨x13,hx13,h⟩:=bindS h
   obtain⟨r14,hr14,h⟩:=bindS h
   apply sr (c (mv hN (q 1)) rfl (c (mv hN (q 0)) rfl (c (mv hN (q 5)) rfl (c (indexD underlying69 tyS33 (A4 hx13).1 (C8 A2 (A4 hx13).2) (ltN hN rfl) (q 12) (q 13)) rfl (c (loadD tyS33 (by rfl) (by rfl) (ltN hN rfl) (q 14)) rfl (cg (callVal (args:=[(.d (A2 x13))]) (caps:=[]) hB fnOk144 [] (A63 x13 r14 hr14) (by kernel_rfl) (ltN hN rfl) (by kernel_rfl) (by kernel_rfl) (OpdL.cons (q 15) OpdL.nil)) rfl cn))))))
   apply AWp.cond rfl<;>intro hg15
   ·have h:=B6 hg15 h
    apply sr (c (mv hN (q 5)) rfl (c (assign (ltN hN rfl) (q 17)) rfl cn))
    apply ret
    apply F7
    apply D4
    obtain rfl:=oi h
    exact⟨(fun hc=>by cases hc),rfl,(mp [] _ _ hB)⟩
   ·have h:=B7 hg15 h
    apply AWp.skip
    apply F8
    apply A3
    apply rg (c (add6 (ltN hN rfl) (q 8) (ii 1)) rfl (c (mv hN (q 18)) rfl cn))
    obtain rfl:=oi h
    exact⟨rfl,(mp [] _ _ hB)⟩
  ·have h:=B7 hg12 h
   apply AWp.exit
   apply F6
   obtain rfl:=oi h
   exact⟨(fun hc=>by cases hc),rfl,(mp [] _ _ hB)⟩
 ·rcases x16 with p10 | _
  ·obtain⟨rfl,hmat⟩:=hR
   apply F7
   apply D4
   obtain rfl:=oi h
   exact rt (Mat.trans hmat (mp [] [(4,(i6 p10))] [] hB)) [(i6 p10)] (rT rN) rfl
  ·obtain⟨rfl,hmat⟩:=hR
   apply E4
   apply A3
   refine ghost hmat ?_
   apply sr (c (assign (ltN hN rfl) (ii (-1))) rfl cn)
   apply ret
   obtain rfl:=oi h
   exact rt (kp [(4,_)] [] hB rfl rfl (by rfl)) [(i6 (-1))] (rT rN) rfl
def J1 (a0:(List A0)):Option (Bool) :=
 (Y5 a0).bind fun r1 =>
 some (decide (0≤r1))
theorem K3 (a0:(List A0)) (r:Bool) (h:J1 a0=some r):AC Tryz.prog 145 [(.d (.list 4 (a0.map A2))),(.func 144 [])] [] (.d (.bool r)) []:=by
 refine AC.of_code2 Tryz.func145 rfl rfl (Nat.le_of_ble_eq_true (by rfl)) fun B hB hN => ?_
 delta J1 at h
 apply sr (c (assign (ltN hN rfl) (Opd.bool false)) rfl cn)
 obtain⟨r1,hr1,h⟩:=bindS h
 apply sr (c (mv hN (q 0)) rfl (c (mv hN (q 1)) rfl (cg (OpJ.callFn hB fnOk151 (A5f a0 r1 hr1) [] (by kernel_rfl) (ltN hN rfl) (by kernel_rfl) (OpdL.cons (q 5) (OpdL.cons (q 6) OpdL.nil))) rfl (c (geq (ltN hN rfl) (q 7) (ii 0)) rfl (c (assign (ltN hN rfl) (q 8)) rfl cn)))))
 apply ret
 obtain rfl:=oi h
 exact rt (kp [(4,_)] [] hB rfl rfl (by rfl)) [(bo (decide (0≤r1)))] (rT rN) rfl
def A0p (a0:D9):Option (Bool) :=
 (U6).bind fun r1 =>
 some ((((((a0.fOrigin==r1.fOrigin)&&(a0.fMED==r1.fMED))&&(a0.fPref==r1.fPref))&&(a0.fOTC==r1.fOTC))&&((a0.fNext.fV6==r1.fNext.fV6)&&((a0.fNext.fHi==r1.fNext.fHi)&&((a0.fNext.fLo==r1.fNext.fLo)&&true))))&&((w64 ((w64 ((w64 ((a0.fPath.length:Int)+(a0.fCommunities.length:Int)))+(a0.fLarge.length:Int)))+(a0.fOther.length:Int)))==0))
theorem A7n (a0:D9) (r:Bool) (h:A0p a0=some r):AC Tryz.prog 152 [(.d (A8 a0))] [] (.d (.bool r)) []:=by
 refine ac2 Tryz.func152 rfl rfl fun B hB hN L => ?_
 delta A0p at h
 apply sr (cg (OpJ.box hB (nm:=1001) (by decide) (by simp) rfl (L rfl) (q 0)) rfl (c (assign (L rfl) (Opd.bool false)) rfl cn))
 obtain⟨r1,hr1,h⟩:=bindS h
 apply sr (cg (cf hB fnOk148 (A2c r1 hr1) (L rfl) OpdL.nil) rfl (cg (alloc hB tyZ39 (nm:=1003) (by decide) (L rfl)) rfl (cg (sB tyS39 (q 3) (q 4)) rfl cn)))
 apply sr (c (fo 1001 0 [0] hN underlying39 0 tyS3 (q 1)) rfl (c (la hN 39 tyS3 (q 5)) rfl (c (fo 1003 0 [0] hN underlying39 0 tyS3 (q 3)) rfl (c (la hN 39 tyS3 (q 7)) rfl (c (eqlI (L rfl) (q 6) (q 8)) rfl (c (mv hN (q 9)) rfl (c (oq hN 10 (fo 1001 5 [3] hN underlying39 5 tyS3 (q 1)) (OptL.keep (by rfl) OptL.nil) (GuardV.plain _)) rfl (c (oq hN 10 (la hN 39 tyS3 (q 11)) (OptL.opt OptL.nil) (GuardV.plain _)) rfl (c (oq hN 10 (fo 1003 5 [3] hN underlying39 5 tyS3 (q 3)) (OptL.keep (by rfl) OptL.nil) (GuardV.plain _)) rfl (c (oq hN 10 (la hN 39 tyS3 (q 13)) (OptL.opt OptL.nil) (GuardV.plain _)) rfl (c (oq hN 10 (eqlI (L rfl) (q 12) (q 14)) (OptL.opt (OptL.opt OptL.nil)) (GuardV.plain _)) rfl (c (pickAnd rfl (L rfl) (q 10) (q 15)) rfl (c (mv hN (q 16)) rfl (c (oq hN 17 (fo 1001 6 [4] hN underlying39 6 tyS3 (q 1)) (OptL.keep (by rfl) OptL.nil) (GuardV.plain _)) rfl (c (oq hN 17 (la hN 39 tyS3 (q 18)) (OptL.opt OptL.nil) (GuardV.plain _)) rfl (c (oq hN 17 (fo 1003 6 [4] hN underlying39 6 tyS3 (q 3)) (OptL.keep (by rfl) OptL.nil) (GuardV.plain _)) rfl (c (oq hN 17 (la hN 39 tyS3 (q 20)) (OptL.opt OptL.nil) (GuardV.plain _)) rfl (c (oq hN 17 (eqlI (L rfl) (q 19) (q 21)) (OptL.opt (OptL.opt OptL.nil)) (GuardV.plain _)) rfl (c (pickAnd rfl (L rfl) (q 17) (q 22)) rfl (c (mv hN (q 23)) rfl (c (oq hN 24 (fo 1001 7 [5] hN underlying39 7 tyS3 (q 1)) (OptL.keep (by rfl) OptL.nil) (GuardV.plain _)) rfl (c (oq hN 24 (la hN 39 tyS3 (q 25)) (OptL.opt OptL.nil) (GuardV.plain _)) rfl (c (oq hN 24 (fo 1003 7 [5] hN underlying39 7 tyS3 (q 3)) (OptL.keep (by rfl) OptL.nil) (GuardV.plain _)) rfl (c (oq hN 24 (la hN 39 tyS3 (q 27)) (OptL.opt OptL.nil) (GuardV.plain _)) rfl (c (oq hN 24 (eqlI (L rfl) (q 26) (q 28)) (OptL.opt (OptL.opt OptL.nil)) (GuardV.plain _)) rfl (c (pickAnd rfl (L rfl) (q 24) (q 29)) rfl (c (mv hN (q 30)) rfl (c (oq hN 31 (fo 1001 2 [2] hN underlying39 2 tyS31 (q 1)) (OptL.keep (by rfl) OptL.nil) (GuardV.plain _)) rfl (c (oq hN 31 (la hN 39 tyS31 (q 32)) (OptL.opt OptL.nil) (GuardV.plain _)) rfl (c (oq hN 31 (fo 1003 2 [2] hN underlying39 2 tyS31 (q 3)) (OptL.keep (by rfl) OptL.nil) (GuardV.plain _)) rfl (c (oq hN 31 (la hN 39 tyS31 (q 34)) (OptL.opt OptL.nil) (GuardV.plain _)) rfl (c (oq hN 31 (OpJ.eqlD (h:=2) (feq31 a0.fNext r1.fNext) eqg31 ⟨rfl,rfl⟩ (by rfl) (L rfl) (q 33) (q 35)) (OptL.opt (OptL.opt OptL.nil)) (GuardV.plain _)) rfl (c (pickAnd rfl (L rfl) (q 31) (q 36)) rfl (c (mv hN (q 37)) rfl (c (oq hN 38 (fo 1001 1 [1] hN underlying39 1 tyS34 (q 1)) (OptL.keep (by rfl) OptL.nil) (GuardV.plain _)) rfl (c (oq hN 38 (la hN 39 tyS34 (q 39)) (OptL.opt OptL.nil) (GuardV.plain _)) rfl (c (oq hN 38 (OpJ.val (v':=(i6 (a0.fPath.length:Int))) (by simp) (lenD underlying34 (L rfl) (q 40))) (OptL.opt OptL.nil) (GuardV.plain _)) rfl (c (oq hN 38 (fo 1001 8 [6] hN underlying39 8 tyS35 (q 1)) (OptL.keep (by rfl) OptL.nil) (GuardV.plain _)) rfl (c (oq hN 38 (la hN 39 tyS35 (q 42)) (OptL.opt OptL.nil) (GuardV.plain _)) rfl (c (oq hN 38 (OpJ.val (v':=(i6 (a0.fCommunities.length:Int))) (by simp) (lenD underlying35 (L rfl) (q 43))) (OptL.opt OptL.nil) (GuardV.plain _)) rfl (c (oq hN 38 (add6 (L rfl) (q 41) (q 44)) (OptL.opt (OptL.opt OptL.nil)) (GuardV.plain _)) rfl (c (oq hN 38 (fo 1001 9 [7] hN underlying39 9 tyS36 (q 1)) (OptL.keep (by rfl) OptL.nil) (GuardV.plain _)) rfl (c (oq hN 38 (la hN 39 tyS36 (q 46)) (OptL.opt OptL.nil) (GuardV.plain _)) rfl (c (oq hN 38 (OpJ.val (v':=(i6 (a0.fLarge.length:Int))) (by simp) (lenD underlying36 (L rfl) (q 47))) (OptL.opt OptL.nil) (GuardV.plain _)) rfl (c (oq hN 38 (add6 (L rfl) (q 45) (q 48)) (OptL.opt (OptL.opt OptL.nil)) (GuardV.plain _)) rfl (c (oq hN 38 (fo 1001 10 [8] hN underlying39 10 tyS37 (q 1)) (OptL.keep (by rfl) OptL.nil) (GuardV.plain _)) rfl (c (oq hN 38 (la hN 39 tyS37 (q 50)) (OptL.opt OptL.nil) (GuardV.plain _)) rfl (c (oq hN 38 (OpJ.val (v':=(i6 (a0.fOther.length:Int))) (by simp) (lenD underlying37 (L rfl) (q 51))) (OptL.opt OptL.nil) (GuardV.plain _)) rfl (c (oq hN 38 (add6 (L rfl) (q 49) (q 52)) (OptL.opt (OptL.opt OptL.nil)) (GuardV.plain _)) rfl (c (oq hN 38 (eqlI (L rfl) (q 53) (ii 0)) (OptL.opt OptL.nil) (GuardV.plain _)) rfl (c (pickAnd rfl (L rfl) (q 38) (q 54)) rfl (c (assign (L rfl) (q 55)) rfl cn))))))))))))))))))))))))))))))))))))))))))))))))))))
 apply ret
 obtain rfl:=oi h
 exact rt (kp [(2,_)] [] hB rfl rfl (by rfl)) [(bo ((((((a0.fOrigin==r1.fOrigin)&&(a0.fMED==r1.fMED))&&(a0.fPref==r1.fPref))&&(a0.fOTC==r1.fOTC))&&((a0.fNext.fV6==r1.fNext.fV6)&&((a0.fNext.fHi==r1.fNext.fHi)&&((a0.fNext.fLo==r1.fNext.fLo)&&true))))&&((w64 ((w64 ((w64 ((a0.fPath.length:Int)+(a0.fCommunities.length:Int)))+(a0.fLarge.length:Int)))+(a0.fOther.length:Int)))==0)))] (rT rN) rfl
def H4 (a0:Int) (a1:Int) (a2:Int):Option (Bool) :=
 some ((decide (a1≤a0))&&(decide (a0≤a2)))
theorem C2 (a0:Int) (a1:Int) (a2:Int) (r:Bool) (h:H4 a0 a1 a2=some r):AC Tryz.prog 159 [(.d (.int .i64 a0)),(.d (.int .i64 a1)),(.d (.int .i64 a2))] [] (.d (.bool r)) []:=by
 refine AC.of_code2 Tryz.func159 rfl rfl (Nat.le_of_ble_eq_true (by rfl)) fun B hB hN => ?_
 delta H4 at h
 apply sr (c (assign (ltN hN rfl) (Opd.bool false)) rfl cn)
 apply sr (c (mv hN (q 0)) rfl (c (mv hN (q 1)) rfl (c (geq (ltN hN rfl) (q 7) (q 8)) rfl (c (mv hN (q 9)) rfl (c (oq hN 10 (mv hN (q 0)) (OptL.keep (by rfl) OptL.nil) (GuardV.plain _)) rfl (c (oq hN 10 (mv hN (q 2)) (OptL.keep (by rfl) OptL.nil) (GuardV.plain _)) rfl (c (oq hN 10 (leq (ltN hN rfl) (q 11) (q 12)) (OptL.opt (OptL.opt OptL.nil)) (GuardV.plain _)) rfl (c (pickAnd rfl (ltN hN rfl) (q 10) (q 13)) rfl (c (assign (ltN hN rfl) (q 14)) rfl cn)))))))))
 apply ret
 obtain rfl:=oi h
 exact rt (kp [(6,_)] [] hB rfl rfl (by rfl)) [(bo ((decide (a1≤a0))&&(decide (a0≤a2))))] (rT rN) rfl
def Z7 (a0:Int):Option (Bool) :=
 some ((decide (1≤a0))&&(decide (a0≤4294967295)))
theorem L8 (a0:Int) (r:Bool) (h:Z7 a0=some r):AC Tryz.prog 161 [(.d (.int .i64 a0))] [] (.d (.bool r)) []:=by
 refine AC.of_code2 Tryz.func161 rfl rfl (Nat.le_of_ble_eq_true (by rfl)) fun B hB hN => ?_
 delta Z7 at h
 apply sr (c (assign (ltN hN rfl) (Opd.bool false)) rfl cn)
 apply sr (c (mv hN (q 0)) rfl (c (geq (ltN hN rfl) (q 3) (ii 1)) rfl (c (mv hN (q 4)) rfl (c (oq hN 5 (mv hN (q 0)) (OptL.keep (by rfl) OptL.nil) (GuardV.plain _)) rfl (c (oq hN 5 (leq (ltN hN rfl) (q 6) (ii 4294967295)) (OptL.opt OptL.nil) (GuardV.plain _)) rfl (c (pickAnd rfl (ltN hN rfl) (q 5) (q 7)) rfl (c (assign (ltN hN rfl) (q 8)) rfl cn)))))))
 apply ret
 obtain rfl:=oi h
 exact rt (kp [(2,_)] [] hB rfl rfl (by rfl)) [(bo ((decide (1≤a0))&&(decide (a0≤4294967295))))] (rT rN) rfl
def U8 (x123:B2) (s130:Int):Option (((Unit)⊕(Unit))⊕(Int)) :=
 (if (decide (s130<(x123.fASNs.length:Int)))=true then
 (idx x123.fASNs s130).bind fun x162 =>
 jn (fun m168:Bool =>
 (if m168=true then
 some (.inl (.inl ()))
 else
 some (.inr (w64 (s130+1))))) (fun j169 =>
 (Z7 x162).bind fun r171 =>
 (if (!r171)=true then
 j169 true
 else
 (if (x123.fSet&&(decide (0<s130)))=true then
 (idx x123.fASNs (w64 (s130-1))).bind fun x174 =>
 j169 (decide (x162≤x174))
 else
 j169 false)))
 else
 some (.inl (.inr ())))
def P9 (a0:(List B2)) (s1:Int×Int):Option (((Unit)⊕(Int))⊕(Int×Int)) :=
 (if (decide (s1.2<(a0.length:Int)))=true then
 (idx a0 s1.2).bind fun x123 =>
 jn (fun m127:Bool =>
 (if m127=true then
 some (.inl (.inl ()))
 else
 (loop (U8 x123) 0).bind fun x175=>match x175 with
 | (.inl _) =>
  some (.inl (.inl ()))
 | (.inr _) =>
  some (.inr ((w64 (s1.1+(x123.fASNs.length:Int))),(w64 (s1.2+1)))))) (fun j128 =>
 (if ((x123.fASNs.length:Int)==0)=true then
 j128 true
 else
 (if ((decide (0<s1.2))&&(!x123.fSet))=true then
 (idx a0 (w64 (s1.2-1))).bind fun x179 =>
 j128 (!x179.fSet)
 else
 j128 false)))
 else
 some (.inl (.inr s1.1)))
def T3 (a0:(List B2)):Option (Bool) :=
 (loop (P9 a0) (0,0)).bind fun x180=>match x180 with
 | (.inl _) =>
  some false
 | (.inr p121) =>
  some (decide (p121≤64))
theorem H8 (a0:(List B2)) (r:Bool) (h:T3 a0=some r):AC Tryz.prog 160 [(.d (.list 2 (a0.map B4)))] [] (.d (.bool r)) []:=by
 refine ac2 Tryz.func160 rfl rfl fun B hB hN L => ?_
 delta T3 at h
 apply sr (c (assign (L rfl) (Opd.bool false)) rfl cn)
 apply sr (c (assign (L rfl) (ii 0)) rfl cn)
 apply seq
 apply sr (c (mv hN (q 0)) rfl (c (OpJ.val (v':=(i6 (a0.length:Int))) (by simp) (lenD underlying34 (L rfl) (q 8))) rfl (c (mv hN (ii 0)) rfl cn)))
 apply block
 obtain⟨x180,hx181,h⟩:=bindS h
 refine lg (P9 a0) (fun s1:Int×Int=>([(0,(D0 a0)),(3,(i6 s1.1)),(8,(D0 a0)),(9,(i6 (a0.length:Int))),(10,(i6 s1.2))]:EL)) (fun s1:Int×Int=>([]:OL)) (fun(x:(Unit)⊕(Int)) e E' O'=>match x with | (.inl _p)=>e = .ret∧Mat B E' O' ([(2,(bo false))]:EL) ([]:OL) | (.inr p121)=>e = .exit 0∧Mat B E' O' ([(3,(i6 p121))]:EL) ([]:OL)) hx181 (mp [] _ _ hB) (fun s1 y h => ?_) (fun e E' O' hR => ?_)
 ·unfold P9 at h
  apply sr (c (lss (L rfl) (q 10) (q 9)) rfl cn)
  apply seq
  apply AWp.cond rfl<;>intro hg122
  ·have h:=B6 hg122 h
   apply AWp.skip
   apply A3
   apply seq
   apply block
   obtain⟨x123,hx123,h⟩:=bindS h
   apply sr (c (mv hN (q 10)) rfl (c (indexD underlying34 tyS75 (A4 hx123).1 (C8 B4 (A4 hx123).2) (L rfl) (q 8) (q 10)) rfl (c (loadD tyS75 (by rfl) (by rfl) (L rfl) (q 13)) rfl (cg (alloc hB tyZ75 (nm:=1005) (by decide) (L rfl)) rfl (c (assign (L rfl) (q 12)) rfl (cg (sB tyS75 (q 5) (q 14)) rfl cn))))))
   apply seq
   apply seq
   refine AWp.cut h (fun m127:Bool=>([(0,(D0 a0)),(3,(i6 s1.1)),(5,(pt 1005)),(8,(D0 a0)),(9,(i6 (a0.length:Int))),(10,(i6 s1.2)),(36,(bo m127))]:EL)) (fun m127:Bool=>([(1005,bd 75 (B4 x123))]:OL)) (fun m127 h E' O' hmat => ?_) (fun j128 hjj128 h => ?_)
   ·apply A3
    refine ghost hmat ?_
    apply AWp.cond rfl<;>intro hg129
    ·have h:=B6 hg129 h
     apply sr (c (assign (L rfl) (Opd.bool false)) rfl cn)
     apply ret
     apply D4
     apply F7
     apply D4
     obtain rfl:=oi h
     exact⟨(fun hc=>by cases hc),rfl,(mp [] _ _ hB)⟩
    ·have h:=B7 hg129 h
     apply AWp.skip
     apply A3
     apply seq
     apply sr (c (fo 1005 1 [1] hN underlying75 1 tyS27 (q 5)) rfl (c (la hN 75 tyS27 (q 37)) rfl (c (OpJ.val (v':=(i6 (x123.fASNs.length:Int))) (by simp) (lenD underlying27 (L rfl) (q 38))) rfl (c (mv hN (ii 0)) rfl cn))))
     apply block
     obtain⟨x175,hx176,h⟩:=bindS h
     refine lg (U8 x123) (fun s130:Int=>([(0,(D0 a0)),(3,(i6 s1.1)),(5,(pt 1005)),(8,(D0 a0)),(9,(i6 (a0.length:Int))),(10,(i6 s1.2)),(38,(qI_1 x123.fASNs)),(39,(i6 (x123.fASNs.length:Int))),(40,(i6 s130))]:EL)) (fun s130:Int=>([(1005,bd 75 (B4 x123))]:OL)) (fun(x:(Unit)⊕(Unit)) e E' O'=>match x with | (.inl _p)=>e = .ret∧Mat B E' O' ([(2,(bo false))]:EL) ([]:OL) | (.inr _p)=>e = .exit 2∧Mat B E' O' ([(0,(D0 a0)),(3,(i6 s1.1)),(5,(pt 1005)),(8,(D0 a0)),(9,(i6 (a0.length:Int))),(10,(i6 s1.2))]:EL) ([(1005,bd 75 (B4 x123))]:OL)) hx176 (mp [] _ _ hB) (fun s130 y h => ?_) (fun e E' O' hR => ?_)
     ·unfold U8 at h
      apply sr (c (lss (L rfl) (q 40) (q 39)) rfl cn)
      apply seq
      apply AWp.cond rfl<;>intro hg161
      ·have h:=B6 hg161 h
       apply AWp.skip
       apply A3
       apply seq
       apply block
       obtain⟨x162,hx162,h⟩:=bindS h
       apply sr (c (mv hN (q 40)) rfl (c (indexD underlying27 tyS3 (A4 hx162).1 (C8 (eI .i64) (A4 hx162).2) (L rfl) (q 38) (q 40)) rfl (c (loadD tyS3 (by rfl) (by rfl) (L rfl) (q 43)) rfl (c (assign (L rfl) (q 42)) rfl (c (assign (L rfl) (q 44)) rfl cn)))))
       apply seq
       refine AWp.cut h (fun m168:Bool=>([(0,(D0 a0)),(3,(i6 s1.1)),(5,(pt 1005)),(8,(D0 a0)),(9,(i6 (a0.length:Int))),(10,(i6 s1.2)),(38,(qI_1 x123.fASNs)),(39,(i6 (x123.fASNs.length:Int))),(40,(i6 s130)),(65,(bo m168))]:EL)) (fun m168:Bool=>([(1005,bd 75 (B4 x123))]:OL)) (fun m168 h E' O' hmat => ?_) (fun j169 hjj169 h => ?_)
       ·apply A3
        refine ghost hmat ?_
        apply AWp.cond rfl<;>intro hg170
        ·have h:=B6 hg170 h
         apply sr (c (assign (L rfl) (Opd.bool false)) rfl cn)
         apply ret
         apply F7
         apply D4
         obtain rfl:=oi h
         exact⟨(fun hc=>by cases hc),rfl,(mp [] _ _ hB)⟩
        ·have h:=B7 hg170 h
         apply AWp.skip
         apply F8
         apply A3
         apply rg (c (add6 (L rfl) (q 40) (ii 1)) rfl (c (mv hN (q 66)) rfl cn))
         obtain rfl:=oi h
         exact⟨rfl,(mp [] _ _ hB)⟩
       ·obtain⟨r171,hr171,h⟩:=bindS h
        rcases bft (!r171) with hg172 | hg172
        ·have h:=B6 hg172 h
         apply rg (c (mv hN (q 7)) rfl (cg (cf hB fnOk161 (L8 x162 r171 hr171) (L rfl) (OpdL.cons (q 45) OpdL.nil)) rfl (c (OpJ.not (L rfl) (q 46)) rfl (c (OpJ.val (v':=.d (.bool true)) (by rw [hg172]<;>rfl) (mv hN (q 47))) rfl (ks 48 (L rfl) (ks 48 (L rfl) (ks 48 (L rfl) (cg (sV 51 (L rfl)) rfl (cg (sV 51 (L rfl)) rfl (ks 48 (L rfl) (ks 48 (L rfl) (cg (sV 55 (L rfl)) rfl (cg (sV 55 (L rfl)) rfl (cg (sV 55 (L rfl)) rfl (cg (sV 55 (L rfl)) rfl (cg (sV 55 (L rfl)) rfl (cg (sV 55 (L rfl)) rfl (cg (sV 55 (L rfl)) rfl (cg (sV 55 (L rfl)) rfl (ks 48 (L rfl) (c (pickT (L rfl) (q 48) (Opd.bool true)) rfl cn)))))))))))))))))))))
         exact hjj169 _ h _ _ (mp [] _ _ hB)
        ·have h:=B7 hg172 h
         rcases bft (x123.fSet&&(decide (0<s130))) with hg173 | hg173
         ·have h:=B6 hg173 h
          obtain⟨_,hx174,h⟩:=bindS h
          apply rg (c (mv hN (q 7)) rfl (cg (cf hB fnOk161 (L8 x162 r171 hr171) (L rfl) (OpdL.cons (q 45) OpdL.nil)) rfl (c (OpJ.not (L rfl) (q 46)) rfl (c (OpJ.val (v':=.d (.bool false)) (by rw [hg172]<;>rfl) (mv hN (q 47))) rfl (c (gd 48 (fo 1005 0 [0] hN underlying75 0 tyS4 (q 5))) rfl (c (gd 48 (la hN 75 tyS4 (q 49))) rfl (c (gd 48 (mv hN (q 50))) rfl (c (oq hN 51 (mv hN (q 6)) (OptL.keep (by rfl) OptL.nil) (GuardV.plain _)) rfl (c (oq hN 51 (gtr (L rfl) (q 52) (ii 0)) (OptL.opt OptL.nil) (GuardV.plain _)) rfl (c (gd 48 (pickAnd rfl (L rfl) (q 51) (q 53))) rfl (c (gd 48 (OpJ.val (v':=.d (.bool true)) (by rw [hg173]<;>rfl) (mv hN (q 54)))) rfl (c (gd 55 (fo 1005 1 [1] hN underlying75 1 tyS27 (q 5))) rfl (c (gd 55 (la hN 75 tyS27 (q 56))) rfl (c (gd 55 (mv hN (q 6))) rfl (c (gd 55 (sub6 (L rfl) (q 58) (ii 1))) rfl (c (gd 55 (indexD underlying27 tyS3 (A4 hx174).1 (C8 (eI .i64) (A4 hx174).2) (L rfl) (q 57) (q 59))) rfl (c (gd 55 (loadD tyS3 (by rfl) (by rfl) (L rfl) (q 60))) rfl (c (gd 55 (mv hN (q 7))) rfl (c (gd 55 (geq (L rfl) (q 61) (q 62))) rfl (c (gd 48 (pickT (L rfl) (q 55) (q 63))) rfl (c (pickF (L rfl) (q 48) (q 64)) rfl cn)))))))))))))))))))))
          exact hjj169 _ h _ _ (mp [] _ _ hB)
         ·have h:=B7 hg173 h
          apply rg (c (mv hN (q 7)) rfl (cg (cf hB fnOk161 (L8 x162 r171 hr171) (L rfl) (OpdL.cons (q 45) OpdL.nil)) rfl (c (OpJ.not (L rfl) (q 46)) rfl (c (OpJ.val (v':=.d (.bool false)) (by rw [hg172]<;>rfl) (mv hN (q 47))) rfl (c (gd 48 (fo 1005 0 [0] hN underlying75 0 tyS4 (q 5))) rfl (c (gd 48 (la hN 75 tyS4 (q 49))) rfl (c (gd 48 (mv hN (q 50))) rfl (c (oq hN 51 (mv hN (q 6)) (OptL.keep (by rfl) OptL.nil) (GuardV.plain _)) rfl (c (oq hN 51 (gtr (L rfl) (q 52) (ii 0)) (OptL.opt OptL.nil) (GuardV.plain _)) rfl (c (gd 48 (pickAnd rfl (L rfl) (q 51) (q 53))) rfl (c (gd 48 (OpJ.val (v':=.d (.bool false)) (by rw [hg173]<;>rfl) (mv hN (q 54)))) rfl (ks 55 (L rfl) (ks 55 (L rfl) (ks 55 (L rfl) (ks 55 (L rfl) (ks 55 (L rfl) (ks 55 (L rfl) (ks 55 (L rfl) (ks 55 (L rfl) (c (gd 48 (pickF (L rfl) (q 55) (Opd.bool false))) rfl (c (pickF (L rfl) (q 48) (q 64)) rfl cn)))))))))))))))))))))
          exact hjj169 _ h _ _ (mp [] _ _ hB)
      ·have h:=B7 hg161 h
       apply AWp.exit
       apply F6
       obtain rfl:=oi h
       exact⟨(fun hc=>by cases hc),rfl,(mp [] _ _ hB)⟩
     ·rcases x175 with _ | _
      ·obtain⟨rfl,hmat⟩:=hR
       apply F7
       apply D4
       apply F7
       apply D4
       obtain rfl:=oi h
       exact⟨(fun hc=>by cases hc),rfl,(Mat.trans hmat (mp [] _ _ hB))⟩
      ·obtain⟨rfl,hmat⟩:=hR
       apply E4
       apply A3
       refine ghost hmat ?_
       apply rg (c (mv hN (q 3)) rfl (c (fo 1005 1 [1] hN underlying75 1 tyS27 (q 5)) rfl (c (la hN 75 tyS27 (q 68)) rfl (c (OpJ.val (v':=(i6 (x123.fASNs.length:Int))) (by simp) (lenD underlying27 (L rfl) (q 69))) rfl (c (add6 (L rfl) (q 67) (q 70)) rfl (c (assign (L rfl) (q 71)) rfl cn))))))
       apply F8
       apply A3
       apply rg (c (add6 (L rfl) (q 10) (ii 1)) rfl (c (mv hN (q 72)) rfl cn))
       obtain rfl:=oi h
       exact⟨rfl,(mp [] _ _ hB)⟩
   ·rcases bft ((x123.fASNs.length:Int)==0) with hg177 | hg177
    ·have h:=B6 hg177 h
     apply rg (c (fo 1005 1 [1] hN underlying75 1 tyS27 (q 5)) rfl (c (la hN 75 tyS27 (q 15)) rfl (c (OpJ.val (v':=(i6 (x123.fASNs.length:Int))) (by simp) (lenD underlying27 (L rfl) (q 16))) rfl (c (eqlI (L rfl) (q 17) (ii 0)) rfl (c (OpJ.val (v':=.d (.bool true)) (by rw [hg177]<;>rfl) (mv hN (q 18))) rfl (ks 19 (L rfl) (ks 19 (L rfl) (ks 19 (L rfl) (cg (sV 22 (L rfl)) rfl (cg (sV 22 (L rfl)) rfl (cg (sV 22 (L rfl)) rfl (ks 19 (L rfl) (ks 19 (L rfl) (cg (sV 27 (L rfl)) rfl (cg (sV 27 (L rfl)) rfl (cg (sV 27 (L rfl)) rfl (cg (sV 27 (L rfl)) rfl (cg (sV 27 (L rfl)) rfl (cg (sV 27 (L rfl)) rfl (cg (sV 27 (L rfl)) rfl (ks 19 (L rfl) (c (pickT (L rfl) (q 19) (Opd.bool true)) rfl cn))))))))))))))))))))))
     exact hjj128 _ h _ _ (mp [] _ _ hB)
    ·have h:=B7 hg177 h
     rcases bft ((decide (0<s1.2))&&(!x123.fSet)) with hg178 | hg178
     ·have h:=B6 hg178 h
      obtain⟨_,hx179,h⟩:=bindS h
      apply rg (c (fo 1005 1 [1] hN underlying75 1 tyS27 (q 5)) rfl (c (la hN 75 tyS27 (q 15)) rfl (c (OpJ.val (v':=(i6 (x123.fASNs.length:Int))) (by simp) (lenD underlying27 (L rfl) (q 16))) rfl (c (eqlI (L rfl) (q 17) (ii 0)) rfl (c (OpJ.val (v':=.d (.bool false)) (by rw [hg177]<;>rfl) (mv hN (q 18))) rfl (c (gd 19 (mv hN (q 4))) rfl (c (gd 19 (gtr (L rfl) (q 20) (ii 0))) rfl (c (gd 19 (mv hN (q 21))) rfl (c (oq hN 22 (fo 1005 0 [0] hN underlying75 0 tyS4 (q 5)) (OptL.keep (by rfl) OptL.nil) (GuardV.plain _)) rfl (c (oq hN 22 (la hN 75 tyS4 (q 23)) (OptL.opt OptL.nil) (GuardV.plain _)) rfl (c (oq hN 22 (OpJ.not (L rfl) (q 24)) (OptL.opt OptL.nil) (GuardV.plain _)) rfl (c (gd 19 (pickAnd rfl (L rfl) (q 22) (q 25))) rfl (c (gd 19 (OpJ.val (v':=.d (.bool true)) (by rw [hg178]<;>rfl) (mv hN (q 26)))) rfl (c (gd 27 (mv hN (q 0))) rfl (c (gd 27 (mv hN (q 4))) rfl (c (gd 27 (sub6 (L rfl) (q 29) (ii 1))) rfl (c (gd 27 (indexD underlying34 tyS75 (A4 hx179).1 (C8 B4 (A4 hx179).2) (L rfl) (q 28) (q 30))) rfl (c (gd 27 (fieldD underlying75 (by rfl) (o:=0) (by rfl) tyS4 (by decide) (by rfl) (by rfl) (L rfl) (q 31))) rfl (c (gd 27 (loadD tyS4 (by rfl) (by rfl) (L rfl) (q 32))) rfl (c (gd 27 (OpJ.not (L rfl) (q 33))) rfl (c (gd 19 (pickT (L rfl) (q 27) (q 34))) rfl (c (pickF (L rfl) (q 19) (q 35)) rfl cn))))))))))))))))))))))
      exact hjj128 _ h _ _ (mp [] _ _ hB)
     ·have h:=B7 hg178 h
      apply rg (c (fo 1005 1 [1] hN underlying75 1 tyS27 (q 5)) rfl (c (la hN 75 tyS27 (q 15)) rfl (c (OpJ.val (v':=(i6 (x123.fASNs.length:Int))) (by simp) (lenD underlying27 (L rfl) (q 16))) rfl (c (eqlI (L rfl) (q 17) (ii 0)) rfl (c (OpJ.val (v':=.d (.bool false)) (by rw [hg177]<;>rfl) (mv hN (q 18))) rfl (c (gd 19 (mv hN (q 4))) rfl (c (gd 19 (gtr (L rfl) (q 20) (ii 0))) rfl (c (gd 19 (mv hN (q 21))) rfl (c (oq hN 22 (fo 1005 0 [0] hN underlying75 0 tyS4 (q 5)) (OptL.keep (by rfl) OptL.nil) (GuardV.plain _)) rfl (c (oq hN 22 (la hN 75 tyS4 (q 23)) (OptL.opt OptL.nil) (GuardV.plain _)) rfl (c (oq hN 22 (OpJ.not (L rfl) (q 24)) (OptL.opt OptL.nil) (GuardV.plain _)) rfl (c (gd 19 (pickAnd rfl (L rfl) (q 22) (q 25))) rfl (c (gd 19 (OpJ.val (v':=.d (.bool false)) (by rw [hg178]<;>rfl) (mv hN (q 26)))) rfl (ks 27 (L rfl) (ks 27 (L rfl) (ks 27 (L rfl) (ks 27 (L rfl) (ks 27 (L rfl) (ks 27 (L rfl) (ks 27 (L rfl) (c (gd 19 (pickF (L rfl) (q 27) (Opd.bool false))) rfl (c (pickF (L rfl) (q 19) (q 35)) rfl cn))))))))))))))))))))))
      exact hjj128 _ h _ _ (mp [] _ _ hB)
  ·have h:=B7 hg122 h
   apply AWp.exit
   apply F6
   obtain rfl:=oi h
   exact⟨(fun hc=>by cases hc),rfl,(mp [] _ _ hB)⟩
 ·rcases x180 with _ | p121
  ·obtain⟨rfl,hmat⟩:=hR
   apply F7
   apply D4
   obtain rfl:=oi h
   exact rt (Mat.trans hmat (mp [] [(2,(bo false))] [] hB)) [(bo false)] (rT rN) rfl
  ·obtain⟨rfl,hmat⟩:=hR
   apply E4
   apply A3
   refine ghost hmat ?_
   apply sr (c (mv hN (q 3)) rfl (c (leq (L rfl) (q 73) (ii 64)) rfl (c (assign (L rfl) (q 74)) rfl cn)))
   apply ret
   obtain rfl:=oi h
   exact rt (kp [(2,_)] [] hB rfl rfl (by rfl)) [(bo (decide (p121≤64)))] (rT rN) rfl
def A2x (a0:(List Int)) (s4:Int×Int):Option (((Int))⊕(Int×Int)) :=
 (if (decide (s4.2<(a0.length:Int)))=true then
 (idx a0 s4.2).bind fun x11 =>
 some (.inr ((minI s4.1 x11),(w64 (s4.2+1))))
 else
 some (.inl s4.1))
def A5q (a0:(List Int)):Option (Int) :=
 (if (decide ((a0.length:Int)<1))=true then
 none
 else
 (idx a0 0).bind fun x3 =>
 (loop (A2x a0) (x3,1)).bind fun p9 =>
 some p9)
theorem A5l (a0:(List Int)) (r:Int) (h:A5q a0=some r):AC Tryz.prog 193 [(.d (.list 1 (a0.map (eI .i64))))] [] (.d (.int .i64 r)) []:=by
 refine ac2 Tryz.func193 rfl rfl fun B hB hN L => ?_
 delta A5q at h
 apply sr (c (assign (L rfl) (ii 0)) rfl cn)
 apply seq
 apply sr (c (mv hN (q 0)) rfl (c (OpJ.val (v':=(i6 (a0.length:Int))) (by simp) (lenD underlying27 (L rfl) (q 5))) rfl (c (lss (L rfl) (q 6) (ii 1)) rfl cn)))
 apply AWp.cond rfl<;>intro hg2
 ·have h:=B6 hg2 h
  cases h
 ·have h:=B7 hg2 h
  apply AWp.skip
  apply A3
  obtain⟨_,hx3,h⟩:=bindS h
  apply sr (c (mv hN (q 0)) rfl (c (indexD underlying27 tyS3 (A4 hx3).1 (C8 (eI .i64) (A4 hx3).2) (L rfl) (q 9) (ii 0)) rfl (c (loadD tyS3 (by rfl) (by rfl) (L rfl) (q 10)) rfl (c (assign (L rfl) (q 11)) rfl cn))))
  apply seq
  apply sr (c (assign (L rfl) (ii 1)) rfl cn)
  apply block
  obtain⟨p9,hx13,h⟩:=bindS h
  refine lg (A2x a0) (fun s4:Int×Int=>([(0,(qI_1 a0)),(3,(i6 s4.1)),(4,(i6 s4.2))]:EL)) (fun s4:Int×Int=>([]:OL)) (fun(p9:(Int)) e E' O'=>e = .exit 0∧Mat B E' O' ([(3,(i6 p9))]:EL) ([]:OL)) hx13 (mp [] _ _ hB) (fun s4 y h => ?_) (fun e E' O' hR => ?_)
  ·unfold A2x at h
   apply seq
   apply sr (c (mv hN (q 4)) rfl (c (mv hN (q 0)) rfl (c (OpJ.val (v':=(i6 (a0.length:Int))) (by simp) (lenD underlying27 (L rfl) (q 13))) rfl (c (lss (L rfl) (q 12) (q 14)) rfl cn))))
   apply AWp.cond rfl<;>intro hg10
   ·have h:=B6 hg10 h
    apply AWp.skip
    apply A3
    apply seq
    apply block
    obtain⟨_,hx11,h⟩:=bindS h
    apply rg (c (mv hN (q 3)) rfl (c (mv hN (q 0)) rfl (c (mv hN (q 4)) rfl (c (indexD underlying27 tyS3 (A4 hx11).1 (C8 (eI .i64) (A4 hx11).2) (L rfl) (q 19) (q 20)) rfl (c (loadD tyS3 (by rfl) (by rfl) (L rfl) (q 21)) rfl (c (OpJ.min (L rfl) (q 18) (q 22)) rfl (c (assign (L rfl) (q 23)) rfl cn)))))))
    apply F8
    apply A3
    apply rg (c (mv hN (q 4)) rfl (c (add6 (L rfl) (q 16) (ii 1)) rfl (c (assign (L rfl) (q 17)) rfl cn)))
    obtain rfl:=oi h
    exact⟨rfl,(mp [] _ _ hB)⟩
   ·have h:=B7 hg10 h
    apply AWp.exit
    apply F6
    obtain rfl:=oi h
    exact⟨(fun hc=>by cases hc),rfl,(mp [] _ _ hB)⟩
  ·obtain⟨rfl,hmat⟩:=hR
   apply E4
   apply A3
   refine ghost hmat ?_
   apply sr (c (mv hN (q 3)) rfl (c (assign (L rfl) (q 24)) rfl cn))
   apply ret
   obtain rfl:=oi h
   exact rt (kp [(2,_)] [] hB rfl rfl (by rfl)) [(i6 p9)] (rT rN) rfl
def A2y (a0:(List Int)) (s4:Int×Int):Option (((Int))⊕(Int×Int)) :=
 (if (decide (s4.2<(a0.length:Int)))=true then
 (idx a0 s4.2).bind fun x11 =>
 some (.inr ((maxI s4.1 x11),(w64 (s4.2+1))))
 else
 some (.inl s4.1))
def A5r (a0:(List Int)):Option (Int) :=
 (if (decide ((a0.length:Int)<1))=true then
 none
 else
 (idx a0 0).bind fun x3 =>
 (loop (A2y a0) (x3,1)).bind fun p9 =>
 some p9)
theorem A97 (a0:(List Int)) (r:Int) (h:A5r a0=some r):AC Tryz.prog 194 [(.d (.list 1 (a0.map (eI .i64))))] [] (.d (.int .i64 r)) []:=by
 refine ac2 Tryz.func194 rfl rfl fun B hB hN L => ?_
 delta A5r at h
 apply sr (c (assign (L rfl) (ii 0)) rfl cn)
 apply seq
 apply sr (c (mv hN (q 0)) rfl (c (OpJ.val (v':=(i6 (a0.length:Int))) (by simp) (lenD underlying27 (L rfl) (q 5))) rfl (c (lss (L rfl) (q 6) (ii 1)) rfl cn)))
 apply AWp.cond rfl<;>intro hg2
 ·have h:=B6 hg2 h
  cases h
 ·have h:=B7 hg2 h
  apply AWp.skip
  apply A3
  obtain⟨_,hx3,h⟩:=bindS h
  apply sr (c (mv hN (q 0)) rfl (c (indexD underlying27 tyS3 (A4 hx3).1 (C8 (eI .i64) (A4 hx3).2) (L rfl) (q 9) (ii 0)) rfl (c (loadD tyS3 (by rfl) (by rfl) (L rfl) (q 10)) rfl (c (assign (L rfl) (q 11)) rfl cn))))
  apply seq
  apply sr (c (assign (L rfl) (ii 1)) rfl cn)
  apply block
  obtain⟨p9,hx13,h⟩:=bindS h
  refine lg (A2y a0) (fun s4:Int×Int=>([(0,(qI_1 a0)),(3,(i6 s4.1)),(4,(i6 s4.2))]:EL)) (fun s4:Int×Int=>([]:OL)) (fun(p9:(Int)) e E' O'=>e = .exit 0∧Mat B E' O' ([(3,(i6 p9))]:EL) ([]:OL)) hx13 (mp [] _ _ hB) (fun s4 y h => ?_) (fun e E' O' hR => ?_)
  ·unfold A2y at h
   apply seq
   apply sr (c (mv hN (q 4)) rfl (c (mv hN (q 0)) rfl (c (OpJ.val (v':=(i6 (a0.length:Int))) (by simp) (lenD underlying27 (L rfl) (q 13))) rfl (c (lss (L rfl) (q 12) (q 14)) rfl cn))))
   apply AWp.cond rfl<;>intro hg10
   ·have h:=B6 hg10 h
    apply AWp.skip
    apply A3
    apply seq
    apply block
    obtain⟨_,hx11,h⟩:=bindS h
    apply rg (c (mv hN (q 3)) rfl (c (mv hN (q 0)) rfl (c (mv hN (q 4)) rfl (c (indexD underlying27 tyS3 (A4 hx11).1 (C8 (eI .i64) (A4 hx11).2) (L rfl) (q 19) (q 20)) rfl (c (loadD tyS3 (by rfl) (by rfl) (L rfl) (q 21)) rfl (c (OpJ.max (L rfl) (q 18) (q 22)) rfl (c (assign (L rfl) (q 23)) rfl cn)))))))
    apply F8
    apply A3
    apply rg (c (mv hN (q 4)) rfl (c (add6 (L rfl) (q 16) (ii 1)) rfl (c (assign (L rfl) (q 17)) rfl cn)))
    obtain rfl:=oi h
    exact⟨rfl,(mp [] _ _ hB)⟩
   ·have h:=B7 hg10 h
    apply AWp.exit
    apply F6
    obtain rfl:=oi h
    exact⟨(fun hc=>by cases hc),rfl,(mp [] _ _ hB)⟩
  ·obtain⟨rfl,hmat⟩:=hR
   apply E4
   apply A3
   refine ghost hmat ?_
   apply sr (c (mv hN (q 3)) rfl (c (assign (L rfl) (q 24)) rfl cn))
   apply ret
   obtain rfl:=oi h
   exact rt (kp [(2,_)] [] hB rfl rfl (by rfl)) [(i6 p9)] (rT rN) rfl
def Y6 (a0:Int) (a1:(List Int)):Option (Bool) :=
 jn (fun m5:Bool =>
 some m5) (fun j6 =>
 (A5q a1).bind fun r7 =>
 (if (decide (0≤r7))=true then
 (A5r a1).bind fun r9 =>
 j6 (decide (r9≤a0))
 else
 j6 false))
theorem A21 (a0:Int) (a1:(List Int)) (r:Bool) (h:Y6 a0 a1=some r):AC Tryz.prog 184 [(.d (.int .i64 a0)),(.d (.list 1 (a1.map (eI .i64))))] [] (.d (.bool r)) []:=by
 refine ac2 Tryz.func184 rfl rfl fun B hB hN L => ?_
 delta Y6 at h
 apply sr (c (assign (L rfl) (Opd.bool false)) rfl cn)
 apply seq
 refine AWp.cut h (fun m5:Bool=>([(4,(bo m5))]:EL)) (fun m5:Bool=>([]:OL)) (fun m5 h E' O' hmat => ?_) (fun j6 hjj6 h => ?_)
 ·apply A3
  refine ghost hmat ?_
  apply ret
  obtain rfl:=oi h
  exact rt (kp [(4,_)] [] hB rfl rfl (by rfl)) [(bo m5)] (rT rN) rfl
 ·obtain⟨r7,hr7,h⟩:=bindS h
  rcases bft (decide (0≤r7)) with hg8 | hg8
  ·have h:=B6 hg8 h
   obtain⟨r9,hr9,h⟩:=bindS h
   apply rg (c (mv hN (q 1)) rfl (cg (cf hB fnOk193 (A5l a1 r7 hr7) (L rfl) (OpdL.cons (q 5) OpdL.nil)) rfl (c (geq (L rfl) (q 6) (ii 0)) rfl (c (OpJ.val (v':=.d (.bool true)) (by rw [hg8]<;>rfl) (mv hN (q 7))) rfl (c (gd 8 (mv hN (q 1))) rfl (cg (gd 8 (cf hB fnOk194 (A97 a1 r9 hr9) (L rfl) (OpdL.cons (q 9) OpdL.nil))) rfl (c (gd 8 (mv hN (q 0))) rfl (c (gd 8 (leq (L rfl) (q 10) (q 11))) rfl (c (pickT (L rfl) (q 8) (q 12)) rfl (c (assign (L rfl) (q 13)) rfl cn))))))))))
   exact hjj6 _ h _ _ (mp [] _ _ hB)
  ·have h:=B7 hg8 h
   apply rg (c (mv hN (q 1)) rfl (cg (cf hB fnOk193 (A5l a1 r7 hr7) (L rfl) (OpdL.cons (q 5) OpdL.nil)) rfl (c (geq (L rfl) (q 6) (ii 0)) rfl (c (OpJ.val (v':=.d (.bool false)) (by rw [hg8]<;>rfl) (mv hN (q 7))) rfl (ks 8 (L rfl) (ks 8 (L rfl) (ks 8 (L rfl) (ks 8 (L rfl) (c (pickF (L rfl) (q 8) (Opd.bool false)) rfl (c (assign (L rfl) (q 13)) rfl cn))))))))))
   exact hjj6 _ h _ _ (mp [] _ _ hB)
def A2d (a0:C6):Option (Bool) :=
 (Y6 65535 ([a0.fA,a0.fB]:List Int)).bind fun r1 =>
 some r1
theorem A0q (a0:C6) (r:Bool) (h:A2d a0=some r):AC Tryz.prog 170 [(.d (B1 a0))] [] (.d (.bool r)) []:=by
 refine AC.of_code2 Tryz.func170 rfl rfl (Nat.le_of_ble_eq_true (by rfl)) fun B hB hN => ?_
 delta A2d at h
 apply sr (cg (OpJ.box hB (nm:=1001) (by decide) (by simp) rfl (ltN hN rfl) (q 0)) rfl (c (assign (ltN hN rfl) (Opd.bool false)) rfl cn))
 obtain⟨r1,hr1,h⟩:=bindS h
 apply sr (c (fo 1001 0 [0] hN underlying132 0 tyS3 (q 1)) rfl (c (la hN 132 tyS3 (q 3)) rfl (c (fo 1001 1 [1] hN underlying132 1 tyS3 (q 1)) rfl (c (la hN 132 tyS3 (q 5)) rfl (c (buildSlice underlying27 tyS3 tyZD3 (by rfl) (by decide) (by decide) (Opds.cons (q 4) (Opds.cons (q 6) Opds.nil)) (by kernel_rfl) (es:=([(.int .i64 a0.fA),(.int .i64 a0.fB)]:List D)) (by rfl) (by rfl) (by kernel_rfl) (by simp) (ltN hN rfl)) rfl (cg (OpJ.callFn hB fnOk184 (A21 65535 ([a0.fA,a0.fB]:List Int) r1 hr1) [] (by kernel_rfl) (ltN hN rfl) (by kernel_rfl) (OpdL.cons (ii 65535) (OpdL.cons (q 7) OpdL.nil))) rfl (c (assign (ltN hN rfl) (q 8)) rfl cn)))))))
 apply ret
 obtain rfl:=oi h
 exact rt (kp [(2,_)] [] hB rfl rfl (by rfl)) [(bo r1)] (rT rN) rfl
def A3f (a0:Int):Option (Bool) :=
 some (a0 != a0)
theorem A64 (a0:Int) (r:Bool) (h:A3f a0=some r):AC Tryz.prog 111 [(.d (.int .i64 a0))] [] (.d (.bool r)) []:=by
 refine AC.of_code2 Tryz.func111 rfl rfl (Nat.le_of_ble_eq_true (by rfl)) fun B hB hN => ?_
 delta A3f at h
 apply sr (c (assign (ltN hN rfl) (Opd.bool false)) rfl cn)
 apply sr (c (mv hN (q 0)) rfl (c (mv hN (q 0)) rfl (c (neqI (ltN hN rfl) (q 3) (q 4)) rfl (c (assign (ltN hN rfl) (q 5)) rfl cn))))
 apply ret
 obtain rfl:=oi h
 exact rt (kp [(2,_)] [] hB rfl rfl (by rfl)) [(bo (a0 != a0))] (rT rN) rfl
def J3 (a0:Int) (a1:Int):Option (Int) :=
 (A3f a0).bind fun r1 =>
 (A3f a1).bind fun r2 =>
 (if r1=true then
 (if r2=true then
 some 0
 else
 some (-1))
 else
 (if r2=true then
 some 1
 else
 (if (decide (a0<a1))=true then
 some (-1)
 else
 (if (decide (a1<a0))=true then
 some 1
 else
 some 0))))
theorem K4 (a0:Int) (a1:Int) (r:Int) (h:J3 a0 a1=some r):AC Tryz.prog 74 [(.d (.int .i64 a0)),(.d (.int .i64 a1))] [] (.d (.int .i64 r)) []:=by
 refine ac2 Tryz.func74 rfl rfl fun B hB hN L => ?_
 delta J3 at h
 apply sr (c (assign (L rfl) (ii 0)) rfl cn)
 obtain⟨r1,hr1,h⟩:=bindS h
 apply sr (c (mv hN (q 0)) rfl (cg (cf hB fnOk111 (A64 a0 r1 hr1) (L rfl) (OpdL.cons (q 7) OpdL.nil)) rfl (c (assign (L rfl) (q 8)) rfl cn)))
 obtain⟨r2,hr2,h⟩:=bindS h
 apply sr (c (mv hN (q 1)) rfl (cg (cf hB fnOk111 (A64 a1 r2 hr2) (L rfl) (OpdL.cons (q 9) OpdL.nil)) rfl (c (assign (L rfl) (q 10)) rfl cn)))
 apply seq
 apply sr (c (mv hN (q 5)) rfl cn)
 apply AWp.cond rfl<;>intro hg3
 ·have h:=B6 hg3 h
  apply seq
  apply sr (c (mv hN (q 6)) rfl cn)
  apply AWp.cond rfl<;>intro hg4
  ·have h:=B6 hg4 h
   apply sr (c (assign (L rfl) (ii 0)) rfl cn)
   apply ret
   apply D4
   apply D4
   obtain rfl:=oi h
   exact rt (kp [(4,_)] [] hB rfl rfl (by rfl)) [(i6 0)] (rT rN) rfl
  ·have h:=B7 hg4 h
   apply AWp.skip
   apply A3
   apply sr (c (assign (L rfl) (ii (-1))) rfl cn)
   apply ret
   apply D4
   obtain rfl:=oi h
   exact rt (kp [(4,_)] [] hB rfl rfl (by rfl)) [(i6 (-1))] (rT rN) rfl
 ·have h:=B7 hg3 h
  apply AWp.skip
  apply A3
  apply seq
  apply sr (c (mv hN (q 6)) rfl cn)
  apply AWp.cond rfl<;>intro hg5
  ·have h:=B6 hg5 h
   apply sr (c (assign (L rfl) (ii 1)) rfl cn)
   apply ret
   apply D4
   obtain rfl:=oi h
   exact rt (kp [(4,_)] [] hB rfl rfl (by rfl)) [(i6 1)] (rT rN) rfl
  ·have h:=B7 hg5 h
   apply AWp.skip
   apply A3
   apply seq
   apply sr (c (mv hN (q 0)) rfl (c (mv hN (q 1)) rfl (c (lss (L rfl) (q 14) (q 15)) rfl cn)))
   apply AWp.cond rfl<;>intro hg6
   ·have h:=B6 hg6 h
    apply sr (c (assign (L rfl) (ii (-1))) rfl cn)
    apply ret
    apply D4
    obtain rfl:=oi h
    exact rt (kp [(4,_)] [] hB rfl rfl (by rfl)) [(i6 (-1))] (rT rN) rfl
   ·have h:=B7 hg6 h
    apply AWp.skip
    apply A3
    apply seq
    apply sr (c (mv hN (q 0)) rfl (c (mv hN (q 1)) rfl (c (gtr (L rfl) (q 17) (q 18)) rfl cn)))
    apply AWp.cond rfl<;>intro hg7
    ·have h:=B6 hg7 h
     apply sr (c (assign (L rfl) (ii 1)) rfl cn)
     apply ret
     apply D4
     obtain rfl:=oi h
     exact rt (kp [(4,_)] [] hB rfl rfl (by rfl)) [(i6 1)] (rT rN) rfl
    ·have h:=B7 hg7 h
     apply AWp.skip
     apply A3
     apply sr (c (assign (L rfl) (ii 0)) rfl cn)
     apply ret
     obtain rfl:=oi h
     exact rt (kp [(4,_)] [] hB rfl rfl (by rfl)) [(i6 0)] (rT rN) rfl
def A3g (a0:(List Int)) (s1:Int):Option (((Int)⊕(Unit))⊕(Int)) :=
 (if (decide (s1<(a0.length:Int)))=true then
 (idx a0 s1).bind fun x11 =>
 (if (x11 != 0)=true then
 some (.inl (.inl x11))
 else
 some (.inr (w64 (s1+1))))
 else
 some (.inl (.inr ())))
def A4m (a0:(List Int)):Option (Int) :=
 (loop (A3g a0) 0).bind fun x13=>match x13 with
 | (.inl p8) =>
  some p8
 | (.inr _) =>
  some 0
theorem A56 (a0:(List Int)) (r:Int) (h:A4m a0=some r):AC Tryz.prog 72 [(.d (.list 1 (a0.map (eI .i64))))] [] (.d (.int .i64 r)) []:=by
 refine AC.of_code2 Tryz.func72 rfl rfl (Nat.le_of_ble_eq_true (by rfl)) fun B hB hN => ?_
 delta A4m at h
 apply sr (c (assign (ltN hN rfl) (ii 0)) rfl cn)
 apply sr (c (assign (ltN hN rfl) (ii 0)) rfl cn)
 apply seq
 apply sr (c (mv hN (q 0)) rfl (c (OpJ.val (v':=(i6 (a0.length:Int))) (by simp) (lenD underlying27 (ltN hN rfl) (q 6))) rfl (c (mv hN (ii 0)) rfl cn)))
 apply block
 obtain⟨x13,hx14,h⟩:=bindS h
 refine lg (A3g a0) (fun s1:Int=>([(3,(i6 0)),(6,(qI_1 a0)),(7,(i6 (a0.length:Int))),(8,(i6 s1))]:EL)) (fun s1:Int=>([]:OL)) (fun(x:(Int)⊕(Unit)) e E' O'=>match x with | (.inl p8)=>e = .ret∧Mat B E' O' ([(2,(i6 p8))]:EL) ([]:OL) | (.inr _p)=>e = .exit 0∧Mat B E' O' ([(3,(i6 0))]:EL) ([]:OL)) hx14 (mp [] _ _ hB) (fun s1 y h => ?_) (fun e E' O' hR => ?_)
 ·unfold A3g at h
  apply sr (c (lss (ltN hN rfl) (q 8) (q 7)) rfl cn)
  apply seq
  apply AWp.cond rfl<;>intro hg10
  ·have h:=B6 hg10 h
   apply AWp.skip
   apply A3
   apply seq
   apply block
   obtain⟨_,hx11,h⟩:=bindS h
   apply sr (c (indexD underlying27 tyS3 (A4 hx11).1 (C8 (eI .i64) (A4 hx11).2) (ltN hN rfl) (q 6) (q 8)) rfl (c (loadD tyS3 (by rfl) (by rfl) (ltN hN rfl) (q 10)) rfl (c (assign (ltN hN rfl) (q 11)) rfl cn)))
   apply sr (c (mv hN (q 5)) rfl (c (mv hN (q 3)) rfl (c (neqI (ltN hN rfl) (q 12) (q 13)) rfl cn)))
   apply AWp.cond rfl<;>intro hg12
   ·have h:=B6 hg12 h
    apply sr (c (mv hN (q 5)) rfl (c (assign (ltN hN rfl) (q 15)) rfl cn))
    apply ret
    apply F7
    apply D4
    obtain rfl:=oi h
    exact⟨(fun hc=>by cases hc),rfl,(mp [] _ _ hB)⟩
   ·have h:=B7 hg12 h
    apply AWp.skip
    apply F8
    apply A3
    apply rg (c (add6 (ltN hN rfl) (q 8) (ii 1)) rfl (c (mv hN (q 16)) rfl cn))
    obtain rfl:=oi h
    exact⟨rfl,(mp [] _ _ hB)⟩
  ·have h:=B7 hg10 h
   apply AWp.exit
   apply F6
   obtain rfl:=oi h
   exact⟨(fun hc=>by cases hc),rfl,(mp [] _ _ hB)⟩
 ·rcases x13 with p8 | _
  ·obtain⟨rfl,hmat⟩:=hR
   apply F7
   apply D4
   obtain rfl:=oi h
   exact rt (Mat.trans hmat (mp [] [(2,(i6 p8))] [] hB)) [(i6 p8)] (rT rN) rfl
  ·obtain⟨rfl,hmat⟩:=hR
   apply E4
   apply A3
   refine ghost hmat ?_
   apply sr (c (mv hN (q 3)) rfl (c (assign (ltN hN rfl) (q 17)) rfl cn))
   apply ret
   obtain rfl:=oi h
   exact rt (kp [(2,_)] [] hB rfl rfl (by rfl)) [(i6 0)] (rT rN) rfl
def A0r (a0:C6) (a1:C6):Option (Int) :=
 (J3 a0.fA a1.fA).bind fun r1 =>
 (J3 a0.fB a1.fB).bind fun r2 =>
 (A4m ([r1,r2]:List Int)).bind fun r3 =>
 some r3
theorem A4n (a0:C6) (a1:C6) (r:Int) (h:A0r a0 a1=some r):AC Tryz.prog 171 [(.d (B1 a0)),(.d (B1 a1))] [] (.d (.int .i64 r)) []:=by
 refine AC.of_code2 Tryz.func171 rfl rfl (Nat.le_of_ble_eq_true (by rfl)) fun B hB hN => ?_
 delta A0r at h
 apply sr (cg (OpJ.box hB (nm:=1002) (by decide) (by simp) rfl (ltN hN rfl) (q 0)) rfl (cg (OpJ.box hB (nm:=1003) (by decide) (by simp) rfl (ltN hN rfl) (q 1)) rfl (c (assign (ltN hN rfl) (ii 0)) rfl cn)))
 obtain⟨r1,hr1,h⟩:=bindS h
 obtain⟨r2,hr2,h⟩:=bindS h
 obtain⟨r3,hr3,h⟩:=bindS h
 apply sd (c (fo 1002 0 [0] hN underlying132 0 tyS3 (q 2)) rfl (c (la hN 132 tyS3 (q 5)) rfl (c (fo 1003 0 [0] hN underlying132 0 tyS3 (q 3)) rfl (c (la hN 132 tyS3 (q 7)) rfl (cg (OpJ.callFn hB fnOk74 (K4 a0.fA a1.fA r1 hr1) [] (by kernel_rfl) (ltN hN rfl) (by kernel_rfl) (OpdL.cons (q 6) (OpdL.cons (q 8) OpdL.nil))) rfl (c (fo 1002 1 [1] hN underlying132 1 tyS3 (q 2)) rfl (c (la hN 132 tyS3 (q 10)) rfl (c (fo 1003 1 [1] hN underlying132 1 tyS3 (q 3)) rfl (c (la hN 132 tyS3 (q 12)) rfl (cg (OpJ.callFn hB fnOk74 (K4 a0.fB a1.fB r2 hr2) [] (by kernel_rfl) (ltN hN rfl) (by kernel_rfl) (OpdL.cons (q 11) (OpdL.cons (q 13) OpdL.nil))) rfl (c (buildSlice underlying27 tyS3 tyZD3 (by rfl) (by decide) (by decide) (Opds.cons (q 9) (Opds.cons (q 14) Opds.nil)) (by kernel_rfl) (es:=([(.int .i64 r1),(.int .i64 r2)]:List D)) (by rfl) (by rfl) (by kernel_rfl) (by simp) (ltN hN rfl)) rfl (cg (OpJ.callFn hB fnOk72 (A56 ([r1,r2]:List Int) r3 hr3) [] (by kernel_rfl) (ltN hN rfl) (by kernel_rfl) (OpdL.cons (q 15) OpdL.nil)) rfl (c (assign (ltN hN rfl) (q 16)) rfl cn))))))))))))) (by kernel_rfl) (by kernel_rfl)
 apply ret
 obtain rfl:=oi h
 exact rt (kp [(4,_)] [] hB rfl rfl (by rfl)) [(i6 r3)] (rT rN) rfl
def Q5 (a0:(List C6)) (s1:Int):Option (((Unit)⊕(Unit))⊕(Int)) :=
 (if (decide (s1<(a0.length:Int)))=true then
 (idx a0 s1).bind fun x37 =>
 jn (fun m44:Bool =>
 (if m44=true then
 some (.inl (.inl ()))
 else
 some (.inr (w64 (s1+1))))) (fun j45 =>
 (A2d x37).bind fun r47 =>
 (if (!r47)=true then
 j45 true
 else
 (if (decide (0<s1))=true then
 (idx a0 (w64 (s1-1))).bind fun x50 =>
 (A0r x50 x37).bind fun r51 =>
 j45 (decide (0≤r51))
 else
 j45 false)))
 else
 some (.inl (.inr ())))
def V4 (a0:(List C6)):Option (Bool) :=
 (loop (Q5 a0) 0).bind fun x52=>match x52 with
 | (.inl _) =>
  some false
 | (.inr _) =>
  some (decide ((a0.length:Int)≤64))
theorem A4o (a0:(List C6)) (r:Bool) (h:V4 a0=some r):AC Tryz.prog 169 [(.d (.list 2 (a0.map B1))),(.func 170 []),(.func 171 [])] [] (.d (.bool r)) []:=by
 refine ac2 Tryz.func169 rfl rfl fun B hB hN L => ?_
 delta V4 at h
 apply sr (c (assign (L rfl) (Opd.bool false)) rfl cn)
 apply seq
 apply sr (c (mv hN (q 0)) rfl (c (OpJ.val (v':=(i6 (a0.length:Int))) (by simp) (lenD underlying35 (L rfl) (q 9))) rfl (c (mv hN (ii 0)) rfl cn)))
 apply block
 obtain⟨x52,hx53,h⟩:=bindS h
 refine lg (Q5 a0) (fun s1:Int=>([(0,(B5 a0)),(1,(.func 170 [])),(2,(.func 171 [])),(9,(B5 a0)),(10,(i6 (a0.length:Int))),(11,(i6 s1))]:EL)) (fun s1:Int=>([]:OL)) (fun(x:(Unit)⊕(Unit)) e E' O'=>match x with | (.inl _p)=>e = .ret∧Mat B E' O' ([(6,(bo false))]:EL) ([]:OL) | (.inr _p)=>e = .exit 0∧Mat B E' O' ([(0,(B5 a0))]:EL) ([]:OL)) hx53 (mp [] _ _ hB) (fun s1 y h => ?_) (fun e E' O' hR => ?_)
 ·unfold Q5 at h
  apply sr (c (lss (L rfl) (q 11) (q 10)) rfl cn)
  apply seq
  apply AWp.cond rfl<;>intro hg36
  ·have h:=B6 hg36 h
   apply AWp.skip
   apply A3
   apply seq
   apply block
   obtain⟨x37,hx37,h⟩:=bindS h
   apply sr (c (mv hN (q 11)) rfl (c (indexD underlying35 tyS132 (A4 hx37).1 (C8 B1 (A4 hx37).2) (L rfl) (q 9) (q 11)) rfl (c (loadD tyS132 (by rfl) (by rfl) (L rfl) (q 14)) rfl (cg (alloc hB tyZ132 (nm:=1008) (by decide) (L rfl)) rfl (c (assign (L rfl) (q 13)) rfl (cg (sB tyS132 (q 8) (q 15)) rfl cn))))))
   apply seq
   refine AWp.cut h (fun m44:Bool=>([(0,(B5 a0)),(1,(.func 170 [])),(2,(.func 171 [])),(9,(B5 a0)),(10,(i6 (a0.length:Int))),(11,(i6 s1)),(34,(bo m44))]:EL)) (fun m44:Bool=>([]:OL)) (fun m44 h E' O' hmat => ?_) (fun j45 hjj45 h => ?_)
   ·apply A3
    refine ghost hmat ?_
    apply AWp.cond rfl<;>intro hg46
    ·have h:=B6 hg46 h
     apply sr (c (assign (L rfl) (Opd.bool false)) rfl cn)
     apply ret
     apply F7
     apply D4
     obtain rfl:=oi h
     exact⟨(fun hc=>by cases hc),rfl,(mp [] _ _ hB)⟩
    ·have h:=B7 hg46 h
     apply AWp.skip
     apply F8
     apply A3
     apply rg (c (add6 (L rfl) (q 11) (ii 1)) rfl (c (mv hN (q 35)) rfl cn))
     obtain rfl:=oi h
     exact⟨rfl,(mp [] _ _ hB)⟩
   ·obtain⟨r47,hr47,h⟩:=bindS h
    rcases bft (!r47) with hg48 | hg48
    ·have h:=B6 hg48 h
     apply dr (c (mv hN (q 1)) rfl (c (lb hN 132 _ _ tyS132 (At.here _) (q 8)) rfl (cg (callVal (args:=[(.d (B1 x37))]) (caps:=[]) hB fnOk170 [] (A0q x37 r47 hr47) (by kernel_rfl) (L rfl) (by kernel_rfl) (by kernel_rfl) (OpdL.cons (q 17) OpdL.nil)) rfl (c (OpJ.not (L rfl) (q 18)) rfl (c (OpJ.val (v':=.d (.bool true)) (by rw [hg48]<;>rfl) (mv hN (q 19))) rfl (ks 20 (L rfl) (ks 20 (L rfl) (ks 20 (L rfl) (cg (sV 23 (L rfl)) rfl (cg (sV 23 (L rfl)) rfl (cg (sV 23 (L rfl)) rfl (cg (sV 23 (L rfl)) rfl (cg (sV 23 (L rfl)) rfl (cg (sV 23 (L rfl)) rfl (cg (sV 23 (L rfl)) rfl (cg (sV 23 (L rfl)) rfl (cg (sV 23 (L rfl)) rfl (ks 20 (L rfl) (c (pickT (L rfl) (q 20) (Opd.bool true)) rfl cn))))))))))))))))))) (by kernel_rfl) (by kernel_rfl)
     exact hjj45 _ h _ _ (mp [] _ _ hB)
    ·have h:=B7 hg48 h
     rcases bft (decide (0<s1)) with hg49 | hg49
     ·have h:=B6 hg49 h
      obtain⟨x50,hx50,h⟩:=bindS h
      obtain⟨r51,hr51,h⟩:=bindS h
      apply dr (c (mv hN (q 1)) rfl (c (lb hN 132 _ _ tyS132 (At.here _) (q 8)) rfl (cg (callVal (args:=[(.d (B1 x37))]) (caps:=[]) hB fnOk170 [] (A0q x37 r47 hr47) (by kernel_rfl) (L rfl) (by kernel_rfl) (by kernel_rfl) (OpdL.cons (q 17) OpdL.nil)) rfl (c (OpJ.not (L rfl) (q 18)) rfl (c (OpJ.val (v':=.d (.bool false)) (by rw [hg48]<;>rfl) (mv hN (q 19))) rfl (c (gd 20 (mv hN (q 7))) rfl (c (gd 20 (gtr (L rfl) (q 21) (ii 0))) rfl (c (gd 20 (OpJ.val (v':=.d (.bool true)) (by rw [hg49]<;>rfl) (mv hN (q 22)))) rfl (c (gd 23 (mv hN (q 2))) rfl (c (gd 23 (mv hN (q 0))) rfl (c (gd 23 (mv hN (q 7))) rfl (c (gd 23 (sub6 (L rfl) (q 26) (ii 1))) rfl (c (gd 23 (indexD underlying35 tyS132 (A4 hx50).1 (C8 B1 (A4 hx50).2) (L rfl) (q 25) (q 27))) rfl (c (gd 23 (loadD tyS132 (by rfl) (by rfl) (L rfl) (q 28))) rfl (c (gd 23 (lb hN 132 _ _ tyS132 (At.here _) (q 8))) rfl (cg (gd 23 (callVal (args:=[(.d (B1 x50)),(.d (B1 x37))]) (caps:=[]) hB fnOk171 [] (A4n x50 x37 r51 hr51) (by kernel_rfl) (L rfl) (by kernel_rfl) (by kernel_rfl) (OpdL.cons (q 29) (OpdL.cons (q 30) OpdL.nil)))) rfl (c (gd 23 (geq (L rfl) (q 31) (ii 0))) rfl (c (gd 20 (pickT (L rfl) (q 23) (q 32))) rfl (c (pickF (L rfl) (q 20) (q 33)) rfl cn))))))))))))))))))) (by kernel_rfl) (by kernel_rfl)
      exact hjj45 _ h _ _ (mp [] _ _ hB)
     ·have h:=B7 hg49 h
      apply dr (c (mv hN (q 1)) rfl (c (lb hN 132 _ _ tyS132 (At.here _) (q 8)) rfl (cg (callVal (args:=[(.d (B1 x37))]) (caps:=[]) hB fnOk170 [] (A0q x37 r47 hr47) (by kernel_rfl) (L rfl) (by kernel_rfl) (by kernel_rfl) (OpdL.cons (q 17) OpdL.nil)) rfl (c (OpJ.not (L rfl) (q 18)) rfl (c (OpJ.val (v':=.d (.bool false)) (by rw [hg48]<;>rfl) (mv hN (q 19))) rfl (c (gd 20 (mv hN (q 7))) rfl (c (gd 20 (gtr (L rfl) (q 21) (ii 0))) rfl (c (gd 20 (OpJ.val (v':=.d (.bool false)) (by rw [hg49]<;>rfl) (mv hN (q 22)))) rfl (ks 23 (L rfl) (ks 23 (L rfl) (ks 23 (L rfl) (ks 23 (L rfl) (ks 23 (L rfl) (ks 23 (L rfl) (ks 23 (L rfl) (ks 23 (L rfl) (ks 23 (L rfl) (c (gd 20 (pickF (L rfl) (q 23) (Opd.bool false))) rfl (c (pickF (L rfl) (q 20) (q 33)) rfl cn))))))))))))))))))) (by kernel_rfl) (by kernel_rfl)
      exact hjj45 _ h _ _ (mp [] _ _ hB)
  ·have h:=B7 hg36 h
   apply AWp.exit
   apply F6
   obtain rfl:=oi h
   exact⟨(fun hc=>by cases hc),rfl,(mp [] _ _ hB)⟩
 ·rcases x52 with _ | _
  ·obtain⟨rfl,hmat⟩:=hR
   apply F7
   apply D4
   obtain rfl:=oi h
   exact rt (Mat.trans hmat (mp [] [(6,(bo false))] [] hB)) [(bo false)] (rT rN) rfl
  ·obtain⟨rfl,hmat⟩:=hR
   apply E4
   apply A3
   refine ghost hmat ?_
   apply sr (c (mv hN (q 0)) rfl (c (OpJ.val (v':=(i6 (a0.length:Int))) (by simp) (lenD underlying35 (L rfl) (q 36))) rfl (c (leq (L rfl) (q 37) (ii 64)) rfl (c (assign (L rfl) (q 38)) rfl cn))))
   apply ret
   obtain rfl:=oi h
   exact rt (kp [(6,_)] [] hB rfl rfl (by rfl)) [(bo (decide ((a0.length:Int)≤64)))] (rT rN) rfl
def Q0 (a0:(List C6)):Option (Bool) :=
 (V4 a0).bind fun r1 =>
 some r1
theorem L9 (a0:(List C6)) (r:Bool) (h:Q0 a0=some r):AC Tryz.prog 162 [(.d (.list 2 (a0.map B1)))] [] (.d (.bool r)) []:=by
 refine AC.of_code2 Tryz.func162 rfl rfl (Nat.le_of_ble_eq_true (by rfl)) fun B hB hN => ?_
 delta Q0 at h
 apply sr (c (assign (ltN hN rfl) (Opd.bool false)) rfl cn)
 obtain⟨r1,hr1,h⟩:=bindS h
 apply sr (c (mv hN (q 0)) rfl (cg (OpJ.callFn hB fnOk169 (A4o a0 r1 hr1) [] (by kernel_rfl) (ltN hN rfl) (by kernel_rfl) (OpdL.cons (q 3) (OpdL.cons (Opd.func 170) (OpdL.cons (Opd.func 171) OpdL.nil)))) rfl (c (assign (ltN hN rfl) (q 4)) rfl cn)))
 apply ret
 obtain rfl:=oi h
 exact rt (kp [(2,_)] [] hB rfl rfl (by rfl)) [(bo r1)] (rT rN) rfl
def Z4 (a0:G0):Option (Bool) :=
 (Y6 4294967295 ([a0.fA,a0.fB,a0.fC]:List Int)).bind fun r1 =>
 some r1
theorem T4 (a0:G0) (r:Bool) (h:Z4 a0=some r):AC Tryz.prog 173 [(.d (C7 a0))] [] (.d (.bool r)) []:=by
 refine AC.of_code2 Tryz.func173 rfl rfl (Nat.le_of_ble_eq_true (by rfl)) fun B hB hN => ?_
 delta Z4 at h
 apply sr (cg (OpJ.box hB (nm:=1001) (by decide) (by simp) rfl (ltN hN rfl) (q 0)) rfl (c (assign (ltN hN rfl) (Opd.bool false)) rfl cn))
 obtain⟨r1,hr1,h⟩:=bindS h
 apply sr (c (fo 1001 0 [0] hN underlying134 0 tyS3 (q 1)) rfl (c (la hN 134 tyS3 (q 3)) rfl (c (fo 1001 1 [1] hN underlying134 1 tyS3 (q 1)) rfl (c (la hN 134 tyS3 (q 5)) rfl (c (fo 1001 2 [2] hN underlying134 2 tyS3 (q 1)) rfl (c (la hN 134 tyS3 (q 7)) rfl (c (buildSlice underlying27 tyS3 tyZD3 (by rfl) (by decide) (by decide) (Opds.cons (q 4) (Opds.cons (q 6) (Opds.cons (q 8) Opds.nil))) (by kernel_rfl) (es:=([(.int .i64 a0.fA),(.int .i64 a0.fB),(.int .i64 a0.fC)]:List D)) (by rfl) (by rfl) (by kernel_rfl) (by simp) (ltN hN rfl)) rfl (cg (OpJ.callFn hB fnOk184 (A21 4294967295 ([a0.fA,a0.fB,a0.fC]:List Int) r1 hr1) [] (by kernel_rfl) (ltN hN rfl) (by kernel_rfl) (OpdL.cons (ii 4294967295) (OpdL.cons (q 9) OpdL.nil))) rfl (c (assign (ltN hN rfl) (q 10)) rfl cn)))))))))
 apply ret
 obtain rfl:=oi h
 exact rt (kp [(2,_)] [] hB rfl rfl (by rfl)) [(bo r1)] (rT rN) rfl
def T5 (a0:G0) (a1:G0):Option (Int) :=
 (J3 a0.fA a1.fA).bind fun r1 =>
 (J3 a0.fB a1.fB).bind fun r2 =>
 (J3 a0.fC a1.fC).bind fun r3 =>
 (A4m ([r1,r2,r3]:List Int)).bind fun r4 =>
 some r4
theorem A2j (a0:G0) (a1:G0) (r:Int) (h:T5 a0 a1=some r):AC Tryz.prog 174 [(.d (C7 a0)),(.d (C7 a1))] [] (.d (.int .i64 r)) []:=by
 refine AC.of_code2 Tryz.func174 rfl rfl (Nat.le_of_ble_eq_true (by rfl)) fun B hB hN => ?_
 delta T5 at h
 apply sr (cg (OpJ.box hB (nm:=1002) (by decide) (by simp) rfl (ltN hN rfl) (q 0)) rfl (cg (OpJ.box hB (nm:=1003) (by decide) (by simp) rfl (ltN hN rfl) (q 1)) rfl (c (assign (ltN hN rfl) (ii 0)) rfl cn)))
 obtain⟨r1,hr1,h⟩:=bindS h
 obtain⟨r2,hr2,h⟩:=bindS h
 obtain⟨r3,hr3,h⟩:=bindS h
 obtain⟨r4,hr4,h⟩:=bindS h
 apply sd (c (fo 1002 0 [0] hN underlying134 0 tyS3 (q 2)) rfl (c (la hN 134 tyS3 (q 5)) rfl (c (fo 1003 0 [0] hN underlying134 0 tyS3 (q 3)) rfl (c (la hN 134 tyS3 (q 7)) rfl (cg (OpJ.callFn hB fnOk74 (K4 a0.fA a1.fA r1 hr1) [] (by kernel_rfl) (ltN hN rfl) (by kernel_rfl) (OpdL.cons (q 6) (OpdL.cons (q 8) OpdL.nil))) rfl (c (fo 1002 1 [1] hN underlying134 1 tyS3 (q 2)) rfl (c (la hN 134 tyS3 (q 10)) rfl (c (fo 1003 1 [1] hN underlying134 1 tyS3 (q 3)) rfl (c (la hN 134 tyS3 (q 12)) rfl (cg (OpJ.callFn hB fnOk74 (K4 a0.fB a1.fB r2 hr2) [] (by kernel_rfl) (ltN hN rfl) (by kernel_rfl) (OpdL.cons (q 11) (OpdL.cons (q 13) OpdL.nil))) rfl (c (fo 1002 2 [2] hN underlying134 2 tyS3 (q 2)) rfl (c (la hN 134 tyS3 (q 15)) rfl (c (fo 1003 2 [2] hN underlying134 2 tyS3 (q 3)) rfl (c (la hN 134 tyS3 (q 17)) rfl (cg (OpJ.callFn hB fnOk74 (K4 a0.fC a1.fC r3 hr3) [] (by kernel_rfl) (ltN hN rfl) (by kernel_rfl) (OpdL.cons (q 16) (OpdL.cons (q 18) OpdL.nil))) rfl (c (buildSlice underlying27 tyS3 tyZD3 (by rfl) (by decide) (by decide) (Opds.cons (q 9) (Opds.cons (q 14) (Opds.cons (q 19) Opds.nil))) (by kernel_rfl) (es:=([(.int .i64 r1),(.int .i64 r2),(.int .i64 r3)]:List D)) (by rfl) (by rfl) (by kernel_rfl) (by simp) (ltN hN rfl)) rfl (cg (OpJ.callFn hB fnOk72 (A56 ([r1,r2,r3]:List Int) r4 hr4) [] (by kernel_rfl) (ltN hN rfl) (by kernel_rfl) (OpdL.cons (q 20) OpdL.nil)) rfl (c (assign (ltN hN rfl) (q 21)) rfl cn)))))))))))))))))) (by kernel_rfl) (by kernel_rfl)
 apply ret
 obtain rfl:=oi h
 exact rt (kp [(4,_)] [] hB rfl rfl (by rfl)) [(i6 r4)] (rT rN) rfl
def N9 (a0:(List G0)) (s1:Int):Option (((Unit)⊕(Unit))⊕(Int)) :=
 (if (decide (s1<(a0.length:Int)))=true then
 (idx a0 s1).bind fun x37 =>
 jn (fun m44:Bool =>
 (if m44=true then
 some (.inl (.inl ()))
 else
 some (.inr (w64 (s1+1))))) (fun j45 =>
 (Z4 x37).bind fun r47 =>
 (if (!r47)=true then
 j45 true
 else
 (if (decide (0<s1))=true then
 (idx a0 (w64 (s1-1))).bind fun x50 =>
 (T5 x50 x37).bind fun r51 =>
 j45 (decide (0≤r51))
 else
 j45 false)))
 else
 some (.inl (.inr ())))
def R7 (a0:(List G0)):Option (Bool) :=
 (loop (N9 a0) 0).bind fun x52=>match x52 with
 | (.inl _) =>
  some false
 | (.inr _) =>
  some (decide ((a0.length:Int)≤64))
theorem A3s (a0:(List G0)) (r:Bool) (h:R7 a0=some r):AC Tryz.prog 172 [(.d (.list 3 (a0.map C7))),(.func 173 []),(.func 174 [])] [] (.d (.bool r)) []:=by
 refine ac2 Tryz.func172 rfl rfl fun B hB hN L => ?_
 delta R7 at h
 apply sr (c (assign (L rfl) (Opd.bool false)) rfl cn)
 apply seq
 apply sr (c (mv hN (q 0)) rfl (c (OpJ.val (v':=(i6 (a0.length:Int))) (by simp) (lenD underlying36 (L rfl) (q 9))) rfl (c (mv hN (ii 0)) rfl cn)))
 apply block
 obtain⟨x52,hx53,h⟩:=bindS h
 refine lg (N9 a0) (fun s1:Int=>([(0,(D6 a0)),(1,(.func 173 [])),(2,(.func 174 [])),(9,(D6 a0)),(10,(i6 (a0.length:Int))),(11,(i6 s1))]:EL)) (fun s1:Int=>([]:OL)) (fun(x:(Unit)⊕(Unit)) e E' O'=>match x with | (.inl _p)=>e = .ret∧Mat B E' O' ([(6,(bo false))]:EL) ([]:OL) | (.inr _p)=>e = .exit 0∧Mat B E' O' ([(0,(D6 a0))]:EL) ([]:OL)) hx53 (mp [] _ _ hB) (fun s1 y h => ?_) (fun e E' O' hR => ?_)
 ·unfold N9 at h
  apply sr (c (lss (L rfl) (q 11) (q 10)) rfl cn)
  apply seq
  apply AWp.cond rfl<;>intro hg36
  ·have h:=B6 hg36 h
   apply AWp.skip
   apply A3
   apply seq
   apply block
   obtain⟨x37,hx37,h⟩:=bindS h
   apply sr (c (mv hN (q 11)) rfl (c (indexD underlying36 tyS134 (A4 hx37).1 (C8 C7 (A4 hx37).2) (L rfl) (q 9) (q 11)) rfl (c (loadD tyS134 (by rfl) (by rfl) (L rfl) (q 14)) rfl (cg (alloc hB tyZ134 (nm:=1008) (by decide) (L rfl)) rfl (c (assign (L rfl) (q 13)) rfl (cg (sB tyS134 (q 8) (q 15)) rfl cn))))))
   apply seq
   refine AWp.cut h (fun m44:Bool=>([(0,(D6 a0)),(1,(.func 173 [])),(2,(.func 174 [])),(9,(D6 a0)),(10,(i6 (a0.length:Int))),(11,(i6 s1)),(34,(bo m44))]:EL)) (fun m44:Bool=>([]:OL)) (fun m44 h E' O' hmat => ?_) (fun j45 hjj45 h => ?_)
   ·apply A3
    refine ghost hmat ?_
    apply AWp.cond rfl<;>intro hg46
    ·have h:=B6 hg46 h
     apply sr (c (assign (L rfl) (Opd.bool false)) rfl cn)
     apply ret
     apply F7
     apply D4
     obtain rfl:=oi h
     exact⟨(fun hc=>by cases hc),rfl,(mp [] _ _ hB)⟩
    ·have h:=B7 hg46 h
     apply AWp.skip
     apply F8
     apply A3
     apply rg (c (add6 (L rfl) (q 11) (ii 1)) rfl (c (mv hN (q 35)) rfl cn))
     obtain rfl:=oi h
     exact⟨rfl,(mp [] _ _ hB)⟩
   ·obtain⟨r47,hr47,h⟩:=bindS h
    rcases bft (!r47) with hg48 | hg48
    ·have h:=B6 hg48 h
     apply dr (c (mv hN (q 1)) rfl (c (lb hN 134 _ _ tyS134 (At.here _) (q 8)) rfl (cg (callVal (args:=[(.d (C7 x37))]) (caps:=[]) hB fnOk173 [] (T4 x37 r47 hr47) (by kernel_rfl) (L rfl) (by kernel_rfl) (by kernel_rfl) (OpdL.cons (q 17) OpdL.nil)) rfl (c (OpJ.not (L rfl) (q 18)) rfl (c (OpJ.val (v':=.d (.bool true)) (by rw [hg48]<;>rfl) (mv hN (q 19))) rfl (ks 20 (L rfl) (ks 20 (L rfl) (ks 20 (L rfl) (cg (sV 23 (L rfl)) rfl (cg (sV 23 (L rfl)) rfl (cg (sV 23 (L rfl)) rfl (cg (sV 23 (L rfl)) rfl (cg (sV 23 (L rfl)) rfl (cg (sV 23 (L rfl)) rfl (cg (sV 23 (L rfl)) rfl (cg (sV 23 (L rfl)) rfl (cg (sV 23 (L rfl)) rfl (ks 20 (L rfl) (c (pickT (L rfl) (q 20) (Opd.bool true)) rfl cn))))))))))))))))))) (by kernel_rfl) (by kernel_rfl)
     exact hjj45 _ h _ _ (mp [] _ _ hB)
    ·have h:=B7 hg48 h
     rcases bft (decide (0<s1)) with hg49 | hg49
     ·have h:=B6 hg49 h
      obtain⟨x50,hx50,h⟩:=bindS h
      obtain⟨r51,hr51,h⟩:=bindS h
      apply dr (c (mv hN (q 1)) rfl (c (lb hN 134 _ _ tyS134 (At.here _) (q 8)) rfl (cg (callVal (args:=[(.d (C7 x37))]) (caps:=[]) hB fnOk173 [] (T4 x37 r47 hr47) (by kernel_rfl) (L rfl) (by kernel_rfl) (by kernel_rfl) (OpdL.cons (q 17) OpdL.nil)) rfl (c (OpJ.not (L rfl) (q 18)) rfl (c (OpJ.val (v':=.d (.bool false)) (by rw [hg48]<;>rfl) (mv hN (q 19))) rfl (c (gd 20 (mv hN (q 7))) rfl (c (gd 20 (gtr (L rfl) (q 21) (ii 0))) rfl (c (gd 20 (OpJ.val (v':=.d (.bool true)) (by rw [hg49]<;>rfl) (mv hN (q 22)))) rfl (c (gd 23 (mv hN (q 2))) rfl (c (gd 23 (mv hN (q 0))) rfl (c (gd 23 (mv hN (q 7))) rfl (c (gd 23 (sub6 (L rfl) (q 26) (ii 1))) rfl (c (gd 23 (indexD underlying36 tyS134 (A4 hx50).1 (C8 C7 (A4 hx50).2) (L rfl) (q 25) (q 27))) rfl (c (gd 23 (loadD tyS134 (by rfl) (by rfl) (L rfl) (q 28))) rfl (c (gd 23 (lb hN 134 _ _ tyS134 (At.here _) (q 8))) rfl (cg (gd 23 (callVal (args:=[(.d (C7 x50)),(.d (C7 x37))]) (caps:=[]) hB fnOk174 [] (A2j x50 x37 r51 hr51) (by kernel_rfl) (L rfl) (by kernel_rfl) (by kernel_rfl) (OpdL.cons (q 29) (OpdL.cons (q 30) OpdL.nil)))) rfl (c (gd 23 (geq (L rfl) (q 31) (ii 0))) rfl (c (gd 20 (pickT (L rfl) (q 23) (q 32))) rfl (c (pickF (L rfl) (q 20) (q 33)) rfl cn))))))))))))))))))) (by kernel_rfl) (by kernel_rfl)
      exact hjj45 _ h _ _ (mp [] _ _ hB)
     ·have h:=B7 hg49 h
      apply dr (c (mv hN (q 1)) rfl (c (lb hN 134 _ _ tyS134 (At.here _) (q 8)) rfl (cg (callVal (args:=[(.d (C7 x37))]) (caps:=[]) hB fnOk173 [] (T4 x37 r47 hr47) (by kernel_rfl) (L rfl) (by kernel_rfl) (by kernel_rfl) (OpdL.cons (q 17) OpdL.nil)) rfl (c (OpJ.not (L rfl) (q 18)) rfl (c (OpJ.val (v':=.d (.bool false)) (by rw [hg48]<;>rfl) (mv hN (q 19))) rfl (c (gd 20 (mv hN (q 7))) rfl (c (gd 20 (gtr (L rfl) (q 21) (ii 0))) rfl (c (gd 20 (OpJ.val (v':=.d (.bool false)) (by rw [hg49]<;>rfl) (mv hN (q 22)))) rfl (ks 23 (L rfl) (ks 23 (L rfl) (ks 23 (L rfl) (ks 23 (L rfl) (ks 23 (L rfl) (ks 23 (L rfl) (ks 23 (L rfl) (ks 23 (L rfl) (ks 23 (L rfl) (c (gd 20 (pickF (L rfl) (q 23) (Opd.bool false))) rfl (c (pickF (L rfl) (q 20) (q 33)) rfl cn))))))))))))))))))) (by kernel_rfl) (by kernel_rfl)
      exact hjj45 _ h _ _ (mp [] _ _ hB)
  ·have h:=B7 hg36 h
   apply AWp.exit
   apply F6
   obtain rfl:=oi h
   exact⟨(fun hc=>by cases hc),rfl,(mp [] _ _ hB)⟩
 ·rcases x52 with _ | _
  ·obtain⟨rfl,hmat⟩:=hR
   apply F7
   apply D4
   obtain rfl:=oi h
   exact rt (Mat.trans hmat (mp [] [(6,(bo false))] [] hB)) [(bo false)] (rT rN) rfl
  ·obtain⟨rfl,hmat⟩:=hR
   apply E4
   apply A3
   refine ghost hmat ?_
   apply sr (c (mv hN (q 0)) rfl (c (OpJ.val (v':=(i6 (a0.length:Int))) (by simp) (lenD underlying36 (L rfl) (q 36))) rfl (c (leq (L rfl) (q 37) (ii 64)) rfl (c (assign (L rfl) (q 38)) rfl cn))))
   apply ret
   obtain rfl:=oi h
   exact rt (kp [(6,_)] [] hB rfl rfl (by rfl)) [(bo (decide ((a0.length:Int)≤64)))] (rT rN) rfl
def K1 (a0:(List G0)):Option (Bool) :=
 (R7 a0).bind fun r1 =>
 some r1
theorem M8 (a0:(List G0)) (r:Bool) (h:K1 a0=some r):AC Tryz.prog 163 [(.d (.list 3 (a0.map C7)))] [] (.d (.bool r)) []:=by
 refine AC.of_code2 Tryz.func163 rfl rfl (Nat.le_of_ble_eq_true (by rfl)) fun B hB hN => ?_
 delta K1 at h
 apply sr (c (assign (ltN hN rfl) (Opd.bool false)) rfl cn)
 obtain⟨r1,hr1,h⟩:=bindS h
 apply sr (c (mv hN (q 0)) rfl (cg (OpJ.callFn hB fnOk172 (A3s a0 r1 hr1) [] (by kernel_rfl) (ltN hN rfl) (by kernel_rfl) (OpdL.cons (q 3) (OpdL.cons (Opd.func 173) (OpdL.cons (Opd.func 174) OpdL.nil)))) rfl (c (assign (ltN hN rfl) (q 4)) rfl cn)))
 apply ret
 obtain rfl:=oi h
 exact rt (kp [(2,_)] [] hB rfl rfl (by rfl)) [(bo r1)] (rT rN) rfl
def A0s (a0:Int):Option (Bool) :=
 some ((((ilk gv0 a0)==0)&&(a0 != 14))&&(a0 != 15))
theorem Q6 (a0:Int) (r:Bool) (h:A0s a0=some r):AC Tryz.prog 175 [(.d (.int .i64 a0))] [(500,(.know (globD 0 (.imap gv0))))] (.d (.bool r)) [(500,some (.know (globD 0 (.imap gv0))))]:=by
 refine AC.of_code2 Tryz.func175 rfl rfl (Nat.le_of_ble_eq_true (by rfl)) fun B hB hN => ?_
 delta A0s at h
 apply sr (c (assign (ltN hN rfl) (Opd.bool false)) rfl cn)
 apply sr (cg (OpJ.loadGD (nm:=500) (.imap gv0) tyS210 (by rfl) (by rfl) (by simp) (ltN hN rfl)) rfl (c (mv hN (q 0)) rfl (cg (OpJ.ilook tyU210 underlying3 keyEq3 tyZD3 (ltN hN rfl) (q 3) (q 4)) rfl (c (eqlI (ltN hN rfl) (q 5) (ii 0)) rfl (c (mv hN (q 6)) rfl (c (oq hN 7 (mv hN (q 0)) (OptL.keep (by rfl) OptL.nil) (GuardV.plain _)) rfl (c (oq hN 7 (neqI (ltN hN rfl) (q 8) (ii 14)) (OptL.opt OptL.nil) (GuardV.plain _)) rfl (c (pickAnd rfl (ltN hN rfl) (q 7) (q 9)) rfl (c (mv hN (q 10)) rfl (c (oq hN 11 (mv hN (q 0)) (OptL.keep (by rfl) OptL.nil) (GuardV.plain _)) rfl (c (oq hN 11 (neqI (ltN hN rfl) (q 12) (ii 15)) (OptL.opt OptL.nil) (GuardV.plain _)) rfl (c (pickAnd rfl (ltN hN rfl) (q 11) (q 13)) rfl (c (assign (ltN hN rfl) (q 14)) rfl cn)))))))))))))
 apply ret
 obtain rfl:=oi h
 exact rt (kp [(2,_)] [(500,some _)] hB rfl rfl (by rfl)) [(bo ((((ilk gv0 a0)==0)&&(a0 != 14))&&(a0 != 15)))] (rT rN) rfl
end
end Go.Proofs.YtplbaenjbihekaaGreatDoor
