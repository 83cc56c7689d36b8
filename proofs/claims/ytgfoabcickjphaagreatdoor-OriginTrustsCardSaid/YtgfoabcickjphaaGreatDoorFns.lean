/- Printed by gen.py: the Go functions as plain functions, and that the code does what they say. -/
import Derived.Test.YtgfoabcickjphaaGreatDoorChecked
import Derived.Test.YtgfoabcickjphaaGreatDoorVcYB
import Derived.Test.YtgfoabcickjphaaGreatDoorVcZ
import Derived.KernelRfl
import Derived.Test.YtgfoabcickjphaaGreatDoorVcMD
import Derived.Test.YtgfoabcickjphaaGreatDoorVcMQ
import Derived.Test.YtgfoabcickjphaaGreatDoorVcSG
import Derived.Test.YtgfoabcickjphaaGreatDoorFnsD
import Derived.Test.YtgfoabcickjphaaGreatDoorExt
import Derived.Test.YtgfoabcickjphaaGreatDoorVcGl
import Derived.Test.YtgfoabcickjphaaGreatDoorVcWS
namespace Go.Proofs.YtgfoabcickjphaaGreatDoor
open Go Go.Vc
open Tryz
open Go.Vc.OpJ (assign alloc lss pickT pickF extract lenD indexD loadD eqlI gtr callVal leq geq loadR nilP indexS buildSlice lenS fieldD neqI pickAnd pickOr)
set_option maxHeartbeats 4000000
set_option maxRecDepth 100000
noncomputable section
def xmake_Deck_Signed_L2 (a1:(List aCert)) (m422:Int×xmake_Deck) (s547:Int×aObject×xmake_Deck):Option (((aObject×xmake_Deck))⊕(Int×aObject×xmake_Deck)) :=
 (if (decide (s547.1<(a1.length:Int)))=true then
 (idx a1 s547.1).bind fun x584 =>
 (xref21_Prefixes x584.fResources).bind fun r585 =>
 jn (fun m588:Bool×xmake_Deck =>
 jn (fun m593:aObject×xmake_Deck =>
 some (.inr ((w64 (s547.1+1)),m593.1,m593.2))) (fun j594 =>
 (if m588.1=true then
 (xmake_Deck_Next m588.2 (r585.length:Int)).bind fun r596 =>
 (idx r585 r596.1).bind fun x597 =>
 j594 ((aObject.mk x597 x597.fLen s547.2.1.fASN),r596.2)
 else
 j594 (s547.2.1,m588.2)))) (fun j589 =>
 (if ((x584.fKey==m422.1)&&(decide (0<(r585.length:Int))))=true then
 (xmake_Deck_Next s547.2.2 2).bind fun r599 =>
 j589 ((r599.1==0),r599.2)
 else
 j589 (false,s547.2.2)))
 else
 some (.inl (s547.2.1,s547.2.2)))
def xmake_Deck_Signed_L1 (a1:(List aCert)) (r412:Int×xmake_Deck) (m422:Int×xmake_Deck) (s425:Int×(List aObject)×xmake_Deck):Option ((((List aObject)×xmake_Deck))⊕(Int×(List aObject)×xmake_Deck)) :=
 (if (decide (0<s425.1))=true then
 (xmake_Deck_Object s425.2.2).bind fun r546 =>
 (loop (xmake_Deck_Signed_L2 a1 m422) (0,r546.1,r546.2)).bind fun p582 =>
 chk (decide ((s425.2.1++[(aObject.mk p582.1.fPrefix p582.1.fMax r412.1)]).length≤LIM)) <|
 some (.inr ((w64 (s425.1-1)),(s425.2.1++[(aObject.mk p582.1.fPrefix p582.1.fMax r412.1)]),p582.2))
 else
 some (.inl (s425.2.1,s425.2.2)))
def xmake_Deck_Signed_L0 (a1:(List aCert)) (s2:Int×(List aSigned)×xmake_Deck):Option (((xmake_Deck×(List aSigned)))⊕(Int×(List aSigned)×xmake_Deck)) :=
 (if (decide (0<s2.1))=true then
 (xmake_Deck_Next s2.2.2 7).bind fun r411 =>
 (xmake_Deck_Next r411.2 5).bind fun r412 =>
 (xmake_Deck_Next r412.2 3).bind fun r413 =>
 (xmake_Deck_Next r413.2 9).bind fun r414 =>
 jn (fun m417:Bool×xmake_Deck =>
 jn (fun m422:Int×xmake_Deck =>
 (xmake_Deck_Next m422.2 4).bind fun r424 =>
 (loop (xmake_Deck_Signed_L1 a1 r412 m422) (r424.1,([]:List aObject),r424.2)).bind fun p544 =>
 chk (decide ((s2.2.1++[(aSigned.mk m422.1 r412.1 r413.1 (w64 (9+r414.1)) p544.1)]).length≤LIM)) <|
 some (.inr ((w64 (s2.1-1)),(s2.2.1++[(aSigned.mk m422.1 r412.1 r413.1 (w64 (9+r414.1)) p544.1)]),p544.2))) (fun j423 =>
 (if m417.1=true then
 (xmake_Deck_Next m417.2 (a1.length:Int)).bind fun r607 =>
 (idx a1 r607.1).bind fun x608 =>
 j423 (x608.fKey,r607.2)
 else
 j423 ((w64 (1+r411.1)),m417.2)))) (fun j418 =>
 (if (decide (0<(a1.length:Int)))=true then
 (xmake_Deck_Next r414.2 4).bind fun r610 =>
 j418 ((decide (0<r610.1)),r610.2)
 else
 j418 (false,r414.2)))
 else
 some (.inl (s2.2.2,s2.2.1)))
def xmake_Deck_Signed (a0:xmake_Deck) (a1:(List aCert)):Option ((List aSigned)×xmake_Deck) :=
 (xmake_Deck_Next a0 6).bind fun r1 =>
 (loop (xmake_Deck_Signed_L0 a1) (r1.1,([]:List aSigned),r1.2)).bind fun p409 =>
 some (p409.2,p409.1)
theorem xmake_Deck_Signed_ac (a0:xmake_Deck) (a1:(List aCert)) (r:(List aSigned)×xmake_Deck) (h:xmake_Deck_Signed a0 a1=some r):AC Tryz.prog 29 [(pt 0),(.d (.list 6 (a1.map e_aCert)))] [(0,(.box 80 (.d (e_xmake_Deck a0))))] (.d (.list 5 (r.1.map e_aSigned))) [(0,bd 80 (e_xmake_Deck r.2))]:=by
 refine ac2 Tryz.func29 rfl rfl fun B hB hN L => ?_
 delta xmake_Deck_Signed at h
 apply sr (c (assign (L rfl) Opd.nils) rfl cn)
 apply sr (c (assign (L rfl) Opd.nils) rfl cn)
 apply AWp.seq
 apply AWp.seq
 obtain⟨r1,hr1,h⟩:=bindS h
 refine AWp.region (oc (mv hN (ot 0 (pt 0)))
 (oc (OpJ.callFn hB fnOk30 (xmake_Deck_Next_ac a0 6 r1 hr1) [(0,0)] (by kernel_rfl) (L rfl) (by kernel_rfl) (OpdL.cons (ot 13 (pt 0)) (OpdL.cons (ii 6) OpdL.nil)))
 (oc (assign (L rfl) (ot 14 (i6 r1.1)))
 (OpJs.nil)))) (by rfl) (by rfl) ?_
 apply seqQ_n
 refine AWp.ghost (mp [] [(0,(pt 0)),(1,(qe_aCert_6 a1)),(5,.nils),(6,(i6 r1.1))] [(0,bd 80 (e_xmake_Deck r1.2))] hB) ?_
 apply AWp.block
 obtain⟨p409,hx612,h⟩:=bindS h
 refine lg (xmake_Deck_Signed_L0 a1) (fun s2:Int×(List aSigned)×xmake_Deck=>([(0,(pt 0)),(1,(qe_aCert_6 a1)),(5,(.sref 3005 5 0 s2.2.1.length)),(6,(i6 s2.1))]:EL)) (fun s2:Int×(List aSigned)×xmake_Deck=>([(0,bd 80 (e_xmake_Deck s2.2.2)),(3005,some (we_aSigned_66_5 s2.2.1))]:OL)) (fun(p409:(xmake_Deck×(List aSigned))) e E' O'=>e = .exit 0∧Mat B E' O' ([(5,(.sref 3005 5 0 p409.2.length))]:EL) ([(0,bd 80 (e_xmake_Deck p409.1)),(3005,some (we_aSigned_66_5 p409.2))]:OL)) hx612 (Mat.trans (Mat.beginP (n:=3005) (e:=66) (sz:=5) (Ts:=[(5,(.sref 3005 5 0 0))]) (Bs:=[]) hB (by decide) (by rfl) (by decide) (TwT.cons (x:=.nils) (by rfl) (Tw.leaf ⟨rfl,rfl⟩) TwT.nil) TwB.nil) (mp [] _ _ hB)) (fun s2 y h => ?_) (fun e E' O' hR => ?_)
 ·unfold xmake_Deck_Signed_L0 at h
  apply AWp.seq
  apply sr (c (mv hN (q 6)) rfl (c (gtr (L rfl) (q 15) (ii 0)) rfl cn))
  apply AWp.cond rfl<;>intro hg410
  ·have h:=ite_t hg410 h
   apply AWp.skip
   apply seqQ_n
   apply AWp.seq
   apply AWp.block
   apply AWp.seq
   obtain⟨r411,hr411,h⟩:=bindS h
   obtain⟨r412,hr412,h⟩:=bindS h
   obtain⟨r413,hr413,h⟩:=bindS h
   obtain⟨r414,hr414,h⟩:=bindS h
   refine AWp.region (oc (mv hN (ot 0 (pt 0)))
    (oc (OpJ.callFn hB fnOk30 (xmake_Deck_Next_ac s2.2.2 7 r411 hr411) [(0,0)] (by kernel_rfl) (L rfl) (by kernel_rfl) (OpdL.cons (ot 19 (pt 0)) (OpdL.cons (ii 7) OpdL.nil)))
    (oc (add6 (L rfl) (ii 1) (ot 20 (i6 r411.1)))
    (oc (mv hN (ot 0 (pt 0)))
    (oc (OpJ.callFn hB fnOk30 (xmake_Deck_Next_ac r411.2 5 r412 hr412) [(0,0)] (by kernel_rfl) (L rfl) (by kernel_rfl) (OpdL.cons (ot 22 (pt 0)) (OpdL.cons (ii 5) OpdL.nil)))
    (oc (mv hN (ot 0 (pt 0)))
    (oc (OpJ.callFn hB fnOk30 (xmake_Deck_Next_ac r412.2 3 r413 hr413) [(0,0)] (by kernel_rfl) (L rfl) (by kernel_rfl) (OpdL.cons (ot 24 (pt 0)) (OpdL.cons (ii 3) OpdL.nil)))
    (oc (mv hN (ot 0 (pt 0)))
    (oc (OpJ.callFn hB fnOk30 (xmake_Deck_Next_ac r413.2 9 r414 hr414) [(0,0)] (by kernel_rfl) (L rfl) (by kernel_rfl) (OpdL.cons (ot 26 (pt 0)) (OpdL.cons (ii 9) OpdL.nil)))
    (oc (add6 (L rfl) (ii 9) (ot 27 (i6 r414.1)))
    (oc (OpJ.build (places:=[(0,1),(1,1),(2,1),(3,1),(4,1)]) ⟨underlying66,fun w=>by kernel_rfl⟩ tyZS66 (Opds.cons (ot 21 (i6 (w64 (1+r411.1)))) (Opds.cons (ot 23 (i6 r412.1)) (Opds.cons (ot 25 (i6 r413.1)) (Opds.cons (ot 28 (i6 (w64 (9+r414.1)))) Opds.nil)))) (by kernel_rfl) (r:=(.st [(i6 (w64 (1+r411.1))),(i6 r412.1),(i6 r413.1),(i6 (w64 (9+r414.1))),.nils])) (by rfl) (L rfl))
    (oc (alloc hB tyZ66 (nm:=1007) (by decide) (L rfl))
    (oc (OpJ.storeB (bt:=66) (c:=(.st [(i6 0),(i6 0),(i6 0),(i6 0),.nils])) (v:=(.st [(i6 (w64 (1+r411.1))),(i6 r412.1),(i6 r413.1),(i6 (w64 (9+r414.1))),.nils])) (c':=(.st [(i6 (w64 (1+r411.1))),(i6 r412.1),(i6 r413.1),(i6 (w64 (9+r414.1))),.nils])) tyS66 (SetAt.here _ _) (by rfl) (by rfl) (by simp) rfl (ot 7 (pt 1007)) (ot 29 (.st [(i6 (w64 (1+r411.1))),(i6 r412.1),(i6 r413.1),(i6 (w64 (9+r414.1))),.nils])))
    (OpJs.nil)))))))))))))) (by rfl) (by rfl) ?_
   apply seqQ_n
   refine AWp.ghost (mp [] [(0,(pt 0)),(1,(qe_aCert_6 a1)),(5,(.sref 3005 5 0 s2.2.1.length)),(6,(i6 s2.1)),(7,(pt 1007))] [(0,bd 80 (e_xmake_Deck r414.2)),(1007,some (.box 66 (.st [(i6 (w64 (1+r411.1))),(i6 r412.1),(i6 r413.1),(i6 (w64 (9+r414.1))),.nils]))),(3005,some (we_aSigned_66_5 s2.2.1))] hB) ?_
   apply AWp.seq
   apply AWp.seq
   refine AWp.cut h (fun m417:Bool×xmake_Deck=>([(0,(pt 0)),(1,(qe_aCert_6 a1)),(5,(.sref 3005 5 0 s2.2.1.length)),(6,(i6 s2.1)),(7,(pt 1007)),(37,(bo m417.1))]:EL)) (fun m417:Bool×xmake_Deck=>([(0,bd 80 (e_xmake_Deck m417.2)),(1007,some (.box 66 (.st [(i6 (w64 (1+r411.1))),(i6 r412.1),(i6 r413.1),(i6 (w64 (9+r414.1))),.nils]))),(3005,some (we_aSigned_66_5 s2.2.1))]:OL)) (fun m417 h E' O' hmat => ?_) (fun j418 hjj418 h => ?_)
   ·apply seqQ_n
    refine AWp.ghost hmat ?_
    refine AWp.cut h (fun m422:Int×xmake_Deck=>([(0,(pt 0)),(1,(qe_aCert_6 a1)),(5,(.sref 3005 5 0 s2.2.1.length)),(6,(i6 s2.1)),(7,(pt 1007))]:EL)) (fun m422:Int×xmake_Deck=>([(0,bd 80 (e_xmake_Deck m422.2)),(1007,some (.box 66 (.st [(i6 m422.1),(i6 r412.1),(i6 r413.1),(i6 (w64 (9+r414.1))),.nils]))),(3005,some (we_aSigned_66_5 s2.2.1))]:OL)) (fun m422 h E' O' hmat => ?_) (fun j423 hjj423 h => ?_)
    ·apply seqQ_n
     refine AWp.ghost hmat ?_
     apply AWp.seq
     apply AWp.seq
     obtain⟨r424,hr424,h⟩:=bindS h
     refine AWp.region (oc (mv hN (ot 0 (pt 0)))
      (oc (OpJ.callFn hB fnOk30 (xmake_Deck_Next_ac m422.2 4 r424 hr424) [(0,0)] (by kernel_rfl) (L rfl) (by kernel_rfl) (OpdL.cons (ot 47 (pt 0)) (OpdL.cons (ii 4) OpdL.nil)))
      (oc (assign (L rfl) (ot 48 (i6 r424.1)))
      (OpJs.nil)))) (by rfl) (by rfl) ?_
     apply seqQ_n
     refine AWp.ghost (mp [] [(0,(pt 0)),(1,(qe_aCert_6 a1)),(5,(.sref 3005 5 0 s2.2.1.length)),(6,(i6 s2.1)),(7,(pt 1007)),(8,(i6 r424.1))] [(0,bd 80 (e_xmake_Deck r424.2)),(1007,some (.box 66 (.st [(i6 m422.1),(i6 r412.1),(i6 r413.1),(i6 (w64 (9+r414.1))),.nils]))),(3005,some (we_aSigned_66_5 s2.2.1))] hB) ?_
     apply AWp.block
     obtain⟨p544,hx604,h⟩:=bindS h
     refine lg (xmake_Deck_Signed_L1 a1 r412 m422) (fun s425:Int×(List aObject)×xmake_Deck=>([(0,(pt 0)),(1,(qe_aCert_6 a1)),(5,(.sref 3005 5 0 s2.2.1.length)),(6,(i6 s2.1)),(7,(pt 1007)),(8,(i6 s425.1))]:EL)) (fun s425:Int×(List aObject)×xmake_Deck=>([(0,bd 80 (e_xmake_Deck s425.2.2)),(1007,some (.box 66 (.st [(i6 m422.1),(i6 r412.1),(i6 r413.1),(i6 (w64 (9+r414.1))),(.sref 13074 6 0 s425.2.1.length)]))),(3005,some (we_aSigned_66_5 s2.2.1)),(13074,some (we_aObject_48_6 s425.2.1))]:OL)) (fun(p544:((List aObject)×xmake_Deck)) e E' O'=>e = .exit 2∧Mat B E' O' ([(0,(pt 0)),(1,(qe_aCert_6 a1)),(5,(.sref 3005 5 0 s2.2.1.length)),(6,(i6 s2.1)),(7,(pt 1007))]:EL) ([(0,bd 80 (e_xmake_Deck p544.2)),(1007,some (.box 66 (.st [(i6 m422.1),(i6 r412.1),(i6 r413.1),(i6 (w64 (9+r414.1))),(.sref 13074 6 0 p544.1.length)]))),(3005,some (we_aSigned_66_5 s2.2.1)),(13074,some (we_aObject_48_6 p544.1))]:OL)) hx604 (Mat.trans (Mat.beginP (n:=13074) (e:=48) (sz:=6) (Ts:=[]) (Bs:=[(1007,some (.box 66 (.st [(i6 m422.1),(i6 r412.1),(i6 r413.1),(i6 (w64 (9+r414.1))),(.sref 13074 6 0 0)])))]) hB (by decide) (by rfl) (by decide) TwT.nil (TwB.cons (x:=(.st [(i6 m422.1),(i6 r412.1),(i6 r413.1),(i6 (w64 (9+r414.1))),.nils])) (by rfl) (Tw.st (TwL.cons (Tw.same _) (TwL.cons (Tw.same _) (TwL.cons (Tw.same _) (TwL.cons (Tw.same _) (TwL.cons (Tw.leaf ⟨rfl,rfl⟩) TwL.nil)))))) TwB.nil)) (mp [] _ _ hB)) (fun s425 y h => ?_) (fun e E' O' hR => ?_)
     ·unfold xmake_Deck_Signed_L1 at h
      apply AWp.seq
      apply sr (c (mv hN (q 8)) rfl (c (gtr (L rfl) (q 49) (ii 0)) rfl cn))
      apply AWp.cond rfl<;>intro hg545
      ·have h:=ite_t hg545 h
       apply AWp.skip
       apply seqQ_n
       apply AWp.seq
       apply AWp.block
       apply AWp.seq
       obtain⟨r546,hr546,h⟩:=bindS h
       refine AWp.region (oc (mv hN (ot 0 (pt 0)))
        (oc (OpJ.callFn hB fnOk57 (xmake_Deck_Object_ac s425.2.2 r546 hr546) [(0,0)] (by kernel_rfl) (L rfl) (by kernel_rfl) (OpdL.cons (ot 53 (pt 0)) OpdL.nil))
        (oc (alloc hB tyZ48 (nm:=1009) (by decide) (L rfl))
        (oc (OpJ.storeB (bt:=48) (c:=(.d (.st [(.st [(.st [(.bool false),(.int .u64 0),(.int .u64 0)]),(.int .i64 0)]),(.int .i64 0),(.int .i64 0)]))) (v:=(.d (e_aObject r546.1))) (c':=(.d (e_aObject r546.1))) tyS48 (SetAt.here _ _) (by rfl) (by rfl) (by simp) rfl (ot 9 (pt 1009)) (ot 54 (.d (e_aObject r546.1))))
        (OpJs.nil))))) (by rfl) (by rfl) ?_
       apply seqQ_n
       refine AWp.ghost (mp [] [(0,(pt 0)),(1,(qe_aCert_6 a1)),(5,(.sref 3005 5 0 s2.2.1.length)),(6,(i6 s2.1)),(7,(pt 1007)),(8,(i6 s425.1)),(9,(pt 1009))] [(0,bd 80 (e_xmake_Deck r546.2)),(1007,some (.box 66 (.st [(i6 m422.1),(i6 r412.1),(i6 r413.1),(i6 (w64 (9+r414.1))),(.sref 13074 6 0 s425.2.1.length)]))),(1009,bd 48 (e_aObject r546.1)),(3005,some (we_aSigned_66_5 s2.2.1)),(13074,some (we_aObject_48_6 s425.2.1))] hB) ?_
       apply AWp.seq
       apply sr (c (mv hN (q 1)) rfl (c (OpJ.val (v':=(i6 (a1.length:Int))) (by simp) (lenD underlying22 (L rfl) (q 55))) rfl (c (mv hN (ii 0)) rfl cn)))
       apply AWp.block
       obtain⟨p582,hx601,h⟩:=bindS h
       refine lg (xmake_Deck_Signed_L2 a1 m422) (fun s547:Int×aObject×xmake_Deck=>([(0,(pt 0)),(1,(qe_aCert_6 a1)),(5,(.sref 3005 5 0 s2.2.1.length)),(6,(i6 s2.1)),(7,(pt 1007)),(8,(i6 s425.1)),(9,(pt 1009)),(55,(qe_aCert_6 a1)),(56,(i6 (a1.length:Int))),(57,(i6 s547.1))]:EL)) (fun s547:Int×aObject×xmake_Deck=>([(0,bd 80 (e_xmake_Deck s547.2.2)),(1007,some (.box 66 (.st [(i6 m422.1),(i6 r412.1),(i6 r413.1),(i6 (w64 (9+r414.1))),(.sref 13074 6 0 s425.2.1.length)]))),(1009,bd 48 (e_aObject s547.2.1)),(3005,some (we_aSigned_66_5 s2.2.1)),(13074,some (we_aObject_48_6 s425.2.1))]:OL)) (fun(p582:(aObject×xmake_Deck)) e E' O'=>e = .exit 4∧Mat B E' O' ([(0,(pt 0)),(1,(qe_aCert_6 a1)),(5,(.sref 3005 5 0 s2.2.1.length)),(6,(i6 s2.1)),(7,(pt 1007)),(8,(i6 s425.1)),(9,(pt 1009))]:EL) ([(0,bd 80 (e_xmake_Deck p582.2)),(1007,some (.box 66 (.st [(i6 m422.1),(i6 r412.1),(i6 r413.1),(i6 (w64 (9+r414.1))),(.sref 13074 6 0 s425.2.1.length)]))),(1009,bd 48 (e_aObject p582.1)),(3005,some (we_aSigned_66_5 s2.2.1)),(13074,some (we_aObject_48_6 s425.2.1))]:OL)) hx601 (mp [] _ _ hB) (fun s547 y h => ?_) (fun e E' O' hR => ?_)
       ·unfold xmake_Deck_Signed_L2 at h
        apply sr (c (lss (L rfl) (q 57) (q 56)) rfl cn)
        apply AWp.seq
        apply AWp.cond rfl<;>intro hg583
        ·have h:=ite_t hg583 h
         apply AWp.skip
         apply seqQ_n
         apply AWp.seq
         apply AWp.block
         obtain⟨x584,hx584,h⟩:=bindS h
         apply sr (c (indexD underlying22 tyS59 (idx_some hx584).1 (get_map e_aCert (idx_some hx584).2) (L rfl) (q 55) (q 57)) rfl (c (loadD tyS59 (by rfl) (by rfl) (L rfl) (q 59)) rfl (cg (alloc hB tyZ59 (nm:=1011) (by decide) (L rfl)) rfl (cg (sB tyS59 (q 11) (q 60)) rfl cn))))
         obtain⟨r585,hr585,h⟩:=bindS h
         apply sr (c (fo 1011 4 [4] hN underlying59 4 tyS57 (q 11)) rfl (c (la hN 59 tyS57 (q 61)) rfl (cg (cf hB fnOk58 (xref21_Prefixes_ac x584.fResources r585 hr585) (L rfl) (OpdL.cons (q 62) OpdL.nil)) rfl (c (assign (L rfl) (q 63)) rfl cn))))
         apply AWp.seq
         refine AWp.cut h (fun m588:Bool×xmake_Deck=>([(0,(pt 0)),(1,(qe_aCert_6 a1)),(5,(.sref 3005 5 0 s2.2.1.length)),(6,(i6 s2.1)),(7,(pt 1007)),(8,(i6 s425.1)),(9,(pt 1009)),(12,(qe_aPrefix_4 r585)),(55,(qe_aCert_6 a1)),(56,(i6 (a1.length:Int))),(57,(i6 s547.1)),(78,(bo m588.1))]:EL)) (fun m588:Bool×xmake_Deck=>([(0,bd 80 (e_xmake_Deck m588.2)),(1007,some (.box 66 (.st [(i6 m422.1),(i6 r412.1),(i6 r413.1),(i6 (w64 (9+r414.1))),(.sref 13074 6 0 s425.2.1.length)]))),(1009,bd 48 (e_aObject s547.2.1)),(3005,some (we_aSigned_66_5 s2.2.1)),(13074,some (we_aObject_48_6 s425.2.1))]:OL)) (fun m588 h E' O' hmat => ?_) (fun j589 hjj589 h => ?_)
         ·apply seqQ_n
          refine AWp.ghost hmat ?_
          refine AWp.cut h (fun m593:aObject×xmake_Deck=>([(0,(pt 0)),(1,(qe_aCert_6 a1)),(5,(.sref 3005 5 0 s2.2.1.length)),(6,(i6 s2.1)),(7,(pt 1007)),(8,(i6 s425.1)),(9,(pt 1009)),(55,(qe_aCert_6 a1)),(56,(i6 (a1.length:Int))),(57,(i6 s547.1))]:EL)) (fun m593:aObject×xmake_Deck=>([(0,bd 80 (e_xmake_Deck m593.2)),(1007,some (.box 66 (.st [(i6 m422.1),(i6 r412.1),(i6 r413.1),(i6 (w64 (9+r414.1))),(.sref 13074 6 0 s425.2.1.length)]))),(1009,bd 48 (e_aObject m593.1)),(3005,some (we_aSigned_66_5 s2.2.1)),(13074,some (we_aObject_48_6 s425.2.1))]:OL)) (fun m593 h E' O' hmat => ?_) (fun j594 hjj594 h => ?_)
          ·apply blkQ_n
           apply seqQ_n
           refine AWp.ghost hmat ?_
           apply rg (c (add6 (L rfl) (q 57) (ii 1)) rfl (c (mv hN (q 91)) rfl cn))
           obtain rfl:=oi h
           exact⟨rfl,(mp [] _ _ hB)⟩
          ·apply AWp.cond rfl<;>intro hg595
           ·have h:=ite_t hg595 h
            apply AWp.seq
            obtain⟨r596,hr596,h⟩:=bindS h
            obtain⟨x597,hx597,h⟩:=bindS h
            refine AWp.region (oc (mv hN (ot 12 (qe_aPrefix_4 r585)))
             (oc (mv hN (ot 0 (pt 0)))
             (oc (mv hN (ot 12 (qe_aPrefix_4 r585)))
             (oc (OpJ.val (v':=(i6 (r585.length:Int))) (by simp) (lenD underlying50 (L rfl) (ot 81 (qe_aPrefix_4 r585))))
             (oc (OpJ.callFn hB fnOk30 (xmake_Deck_Next_ac m588.2 (r585.length:Int) r596 hr596) [(0,0)] (by kernel_rfl) (L rfl) (by kernel_rfl) (OpdL.cons (ot 80 (pt 0)) (OpdL.cons (ot 82 (i6 (r585.length:Int))) OpdL.nil)))
             (oc (indexD (el:=(e_aPrefix x597)) underlying50 tyS46 (idx_some hx597).1 (get_map e_aPrefix (idx_some hx597).2) (L rfl) (ot 79 (qe_aPrefix_4 r585)) (ot 83 (i6 r596.1)))
             (oc (loadD tyS46 (by rfl) (by rfl) (L rfl) (ot 84 (.dptr (e_aPrefix x597))))
             (oc (ov (.ptr 1009 0 [0]) (fp hN underlying48 0 tyS46 (.box 48 (.d (e_aObject s547.2.1))) (ot 9 (pt 1009))))
             (oc (OpJ.storeB (bt:=48) (c:=(.d (e_aObject s547.2.1))) (v:=(.d (e_aPrefix x597))) (c':=(.d (.st [(e_aPrefix x597),(.int .i64 s547.2.1.fMax),(.int .i64 s547.2.1.fASN)]))) tyS46 (SetAt.dst1 (f:=(e_aPrefix s547.2.1.fPrefix)) (f':=(e_aPrefix x597)) (by rfl) (by rfl) (SetAt.here _ _) (by rfl) (by rfl) (by first | rfl | omega)) (by rfl) (by rfl) (by simp) rfl (ot 86 (.ptr 1009 0 [0])) (ot 85 (.d (e_aPrefix x597))))
             (OpJs.nil)))))))))) (by rfl) (by rfl) ?_
            apply seqQ_n
            refine AWp.ghost (mp [] [(0,(pt 0)),(1,(qe_aCert_6 a1)),(5,(.sref 3005 5 0 s2.2.1.length)),(6,(i6 s2.1)),(7,(pt 1007)),(8,(i6 s425.1)),(9,(pt 1009)),(55,(qe_aCert_6 a1)),(56,(i6 (a1.length:Int))),(57,(i6 s547.1))] [(0,bd 80 (e_xmake_Deck r596.2)),(1007,some (.box 66 (.st [(i6 m422.1),(i6 r412.1),(i6 r413.1),(i6 (w64 (9+r414.1))),(.sref 13074 6 0 s425.2.1.length)]))),(1009,bd 48 (.st [(e_aPrefix x597),(.int .i64 s547.2.1.fMax),(.int .i64 s547.2.1.fASN)])),(3005,some (we_aSigned_66_5 s2.2.1)),(13074,some (we_aObject_48_6 s425.2.1))] hB) ?_
            apply rg (c (fo 1009 0 [0] hN underlying48 0 tyS46 (q 9)) rfl (c (fo 1009 3 [0,1] hN underlying46 3 tyS3 (q 87)) rfl (c (lb hN 48 _ _ tyS3 (At.dst1 (by rfl) (by rfl) (ad _) (by first | rfl | omega)) (q 88)) rfl (c (fo 1009 4 [1] hN underlying48 4 tyS3 (q 9)) rfl (cg (OpJ.storeB tyS3 (SetAt.dst1 (by rfl) (by rfl) (SetAt.here _ _) (by rfl) (by rfl) (by first | rfl | omega)) (by rfl) (by rfl) (by simp) rfl (q 90) (q 89)) rfl cn)))))
            exact hjj594 _ h _ _ (mp [] _ _ hB)
           ·have h:=ite_f hg595 h
            apply AWp.skip
            exact hjj594 _ h _ _ (mp [] _ _ hB)
         ·rcases bft ((x584.fKey==m422.1)&&(decide (0<(r585.length:Int)))) with hg598 | hg598
          ·have h:=ite_t hg598 h
           obtain⟨r599,hr599,h⟩:=bindS h
           refine AWp.region (oc (ov (.ptr 1011 0 [0]) (fp hN underlying59 0 tyS3 (.box 59 (.d (e_aCert x584))) (ot 11 (pt 1011))))
            (oc (lb hN 59 (.d (e_aCert x584)) (i6 x584.fKey) tyS3 (ad (.int .i64 x584.fKey)) (ot 64 (.ptr 1011 0 [0])))
            (oc (ov (.ptr 1007 0 [0]) (fp hN underlying66 0 tyS3 (.box 66 (.st [(i6 m422.1),(i6 r412.1),(i6 r413.1),(i6 (w64 (9+r414.1))),(.sref 13074 6 0 s425.2.1.length)])) (ot 7 (pt 1007))))
            (oc (lb hN 66 (.st [(i6 m422.1),(i6 r412.1),(i6 r413.1),(i6 (w64 (9+r414.1))),(.sref 13074 6 0 s425.2.1.length)]) (i6 m422.1) tyS3 (At.st1 (f:=(i6 m422.1)) (by rfl) (by rfl) (At.here _) (by first | rfl | omega)) (ot 66 (.ptr 1007 0 [0])))
            (oc (eqlI (L rfl) (ot 65 (i6 x584.fKey)) (ot 67 (i6 m422.1)))
            (oc (mv hN (ot 68 (bo (x584.fKey==m422.1))))
            (oc (op hN 69 (qe_aPrefix_4 r585) (mv hN (ot 12 (qe_aPrefix_4 r585))) (OptL.keep rfl OptL.nil) (GuardV.plain _))
            (oc (op hN 69 (i6 (r585.length:Int)) (OpJ.val (v':=(i6 (r585.length:Int))) (by simp) (lenD underlying50 (L rfl) (ot 70 (qe_aPrefix_4 r585)))) (OptL.opt OptL.nil) (GuardV.plain _))
            (oc (op hN 69 (bo (decide (0<(r585.length:Int)))) (gtr (L rfl) (ot 71 (i6 (r585.length:Int))) (ii 0)) (OptL.opt OptL.nil) (GuardV.plain _))
            (oc (pickAnd rfl (L rfl) (ot 69 (bo (x584.fKey==m422.1))) (ot 72 (.opt ((x584.fKey==m422.1)==true) (bo (decide (0<(r585.length:Int)))))))
            (oc (OpJ.val (v':=.d (.bool true)) (by rw [hg598]<;>rfl) (mv hN (ot 73 (bo ((x584.fKey==m422.1)&&(decide (0<(r585.length:Int))))))))
            (oc (gd 74 (mv hN (ot 0 (pt 0))))
            (oc (gd 74 (OpJ.callFn hB fnOk30 (xmake_Deck_Next_ac s547.2.2 2 r599 hr599) [(0,0)] (by kernel_rfl) (L rfl) (by kernel_rfl) (OpdL.cons (ot 75 (pt 0)) (OpdL.cons (ii 2) OpdL.nil))))
            (oc (gd 74 (eqlI (L rfl) (ot 76 (i6 r599.1)) (ii 0)))
            (oc (pickT (L rfl) (ot 74 (bo true)) (ot 77 (bo (r599.1==0))))
            (OpJs.nil)))))))))))))))) (by rfl) (by rfl) ?_
           exact hjj589 _ h _ _ (mp [] _ _ hB)
          ·have h:=ite_f hg598 h
           apply rg (c (fo 1011 0 [0] hN underlying59 0 tyS3 (q 11)) rfl (c (la hN 59 tyS3 (q 64)) rfl (c (fo 1007 0 [0] hN underlying66 0 tyS3 (q 7)) rfl (c (lb hN 66 _ (i6 m422.1) tyS3 (At.st1 (f:=(i6 m422.1)) (by rfl) (by rfl) (At.here _) (by first | rfl | omega)) (q 66)) rfl (c (eqlI (L rfl) (q 65) (q 67)) rfl (c (mv hN (q 68)) rfl (c (oq hN 69 (mv hN (q 12)) (OptL.keep (by rfl) OptL.nil) (GuardV.plain _)) rfl (c (oq hN 69 (OpJ.val (v':=(i6 (r585.length:Int))) (by simp) (lenD underlying50 (L rfl) (q 70))) (OptL.opt OptL.nil) (GuardV.plain _)) rfl (c (oq hN 69 (gtr (L rfl) (q 71) (ii 0)) (OptL.opt OptL.nil) (GuardV.plain _)) rfl (c (pickAnd rfl (L rfl) (q 69) (q 72)) rfl (c (OpJ.val (v':=.d (.bool false)) (by rw [hg598]<;>rfl) (mv hN (q 73))) rfl (ks 74 (L rfl) (ks 74 (L rfl) (ks 74 (L rfl) (c (pickF (L rfl) (q 74) (Opd.bool false)) rfl cn)))))))))))))))
           exact hjj589 _ h _ _ (mp [] _ _ hB)
        ·have h:=ite_f hg583 h
         apply AWp.exit
         apply seqQ_e
         obtain rfl:=oi h
         exact⟨(fun hc=>by cases hc),rfl,(mp [] _ _ hB)⟩
       ·obtain⟨rfl,hmat⟩:=hR
        apply blkQ_hit
        apply seqQ_n
        refine AWp.ghost hmat ?_
        apply sr (c (fo 1007 1 [1] hN underlying66 1 tyS3 (q 7)) rfl (c (lb hN 66 _ (i6 r412.1) tyS3 (At.st1 (f:=(i6 r412.1)) (by rfl) (by rfl) (At.here _) (by first | rfl | omega)) (q 92)) rfl (c (fo 1009 5 [2] hN underlying48 5 tyS3 (q 9)) rfl (cg (OpJ.storeB tyS3 (SetAt.dst1 (by rfl) (by rfl) (SetAt.here _ _) (by rfl) (by rfl) (by first | rfl | omega)) (by rfl) (by rfl) (by simp) rfl (q 94) (q 93)) rfl cn))))
        obtain⟨hc602,h⟩:=chk_some h
        apply rg (c (fo 1007 4 [4] hN underlying66 4 tyS38 (q 7)) rfl (c (lb hN 66 _ (.sref 13074 6 0 s425.2.1.length) tyS38 (At.st1 (f:=(.sref 13074 6 0 s425.2.1.length)) (by rfl) (by rfl) (At.here _) (by first | rfl | omega)) (q 95)) rfl (c (lb hN 48 _ _ tyS48 (At.here _) (q 9)) rfl (c (buildSlice underlying38 tyS48 tyZD48 (by rfl) (by decide) (by decide) (Opds.cons (q 97) Opds.nil) (by kernel_rfl) (es:=([(.st [(e_aPrefix p582.1.fPrefix),(.int .i64 p582.1.fMax),(.int .i64 r412.1)])]:List D)) (by rfl) (by rfl) (by kernel_rfl) (by simp) (L rfl)) rfl (cg (apd hB underlying38 tyE48 1099 e_aObject s425.2.1 [(aObject.mk p582.1.fPrefix p582.1.fMax r412.1)] hc602 (L rfl) (q 96) (q 98)) rfl (c (fo 1007 4 [4] hN underlying66 4 tyS38 (q 7)) rfl (cg (OpJ.storeB (c':=(.st [(i6 m422.1),(i6 r412.1),(i6 r413.1),(i6 (w64 (9+r414.1))),(.sref 1099 6 0 ((s425.2.1++[(aObject.mk p582.1.fPrefix p582.1.fMax r412.1)]).length))])) tyS38 (SetAt.st1 (f:=(.sref 13074 6 0 s425.2.1.length)) (by rfl) (by rfl) (SetAt.here _ _) (by rfl) (by rfl) (by first | rfl | omega)) (by rfl) (by rfl) (by simp) rfl (q 100) (q 99)) rfl cn)))))))
        apply blkQ_n
        apply seqQ_n
        apply rg (c (mv hN (q 8)) rfl (c (sub6 (L rfl) (q 51) (ii 1)) rfl (c (assign (L rfl) (q 52)) rfl cn)))
        obtain rfl:=oi h
        exact⟨rfl,(mp [(13074,1099)] _ _ hB)⟩
      ·have h:=ite_f hg545 h
       apply AWp.exit
       apply seqQ_e
       obtain rfl:=oi h
       exact⟨(fun hc=>by cases hc),rfl,(mp [] _ _ hB)⟩
     ·obtain⟨rfl,hmat⟩:=hR
      apply blkQ_hit
      apply seqQ_n
      refine AWp.ghost hmat ?_
      refine AWp.ghost (Mat.freezeP (n:=13074) (e:=48) (sz:=6) (es:=p544.1.map e_aObject) (Ts:=[]) (Bs:=[(1007,some (.box 66 (.st [(i6 m422.1),(i6 r412.1),(i6 r413.1),(i6 (w64 (9+r414.1))),(qe_aObject_6 p544.1)])))]) (by rfl) TwT.nil (TwB.cons (x:=(.st [(i6 m422.1),(i6 r412.1),(i6 r413.1),(i6 (w64 (9+r414.1))),(.sref 13074 6 0 p544.1.length)])) (by rfl) (Tw.st (TwL.cons (Tw.same _) (TwL.cons (Tw.same _) (TwL.cons (Tw.same _) (TwL.cons (Tw.same _) (TwL.cons (FrzL.all (by first | rfl | (simp;done) | (simp;omega) | omega)) TwL.nil)))))) TwB.nil)) ?_
      obtain⟨hc605,h⟩:=chk_some h
      apply rg (c (mv hN (q 5)) rfl (c (lb hN 66 _ _ tyS66 (At.here _) (q 7)) rfl (c (buildSlice underlying26 tyS66 tyZD66 (by rfl) (by decide) (by decide) (Opds.cons (Opd.co (Co.st (CoL.cons (Co.d _) (CoL.cons (Co.d _) (CoL.cons (Co.d _) (CoL.cons (Co.d _) (CoL.cons (Co.d _) CoL.nil)))))) (q 102)) Opds.nil) (by kernel_rfl) (es:=([(.st [(.int .i64 m422.1),(.int .i64 r412.1),(.int .i64 r413.1),(.int .i64 (w64 (9+r414.1))),(.list 6 (p544.1.map e_aObject))])]:List D)) (by rfl) (by rfl) (by kernel_rfl) (by simp) (L rfl)) rfl (cg (apd hB underlying26 tyE66 1104 e_aSigned s2.2.1 [(aSigned.mk m422.1 r412.1 r413.1 (w64 (9+r414.1)) p544.1)] hc605 (L rfl) (q 101) (q 103)) rfl (c (assign (L rfl) (q 104)) rfl cn)))))
      apply blkQ_n
      apply seqQ_n
      apply rg (c (mv hN (q 6)) rfl (c (sub6 (L rfl) (q 17) (ii 1)) rfl (c (assign (L rfl) (q 18)) rfl cn)))
      obtain rfl:=oi h
      exact⟨rfl,(mp [(3005,1104)] _ _ hB)⟩
    ·apply AWp.cond rfl<;>intro hg606
     ·have h:=ite_t hg606 h
      obtain⟨r607,hr607,h⟩:=bindS h
      obtain⟨x608,hx608,h⟩:=bindS h
      refine AWp.region (oc (mv hN (ot 1 (qe_aCert_6 a1)))
       (oc (mv hN (ot 0 (pt 0)))
       (oc (mv hN (ot 1 (qe_aCert_6 a1)))
       (oc (OpJ.val (v':=(i6 (a1.length:Int))) (by simp) (lenD underlying22 (L rfl) (ot 40 (qe_aCert_6 a1))))
       (oc (OpJ.callFn hB fnOk30 (xmake_Deck_Next_ac m417.2 (a1.length:Int) r607 hr607) [(0,0)] (by kernel_rfl) (L rfl) (by kernel_rfl) (OpdL.cons (ot 39 (pt 0)) (OpdL.cons (ot 41 (i6 (a1.length:Int))) OpdL.nil)))
       (oc (indexD (el:=(e_aCert x608)) underlying22 tyS59 (idx_some hx608).1 (get_map e_aCert (idx_some hx608).2) (L rfl) (ot 38 (qe_aCert_6 a1)) (ot 42 (i6 r607.1)))
       (oc (fieldD underlying59 (by rfl) (o:=0) (by rfl) tyS3 (by decide) (ds:=[(.int .i64 x608.fKey),(.int .i64 x608.fIssuer),(.int .i64 x608.fFrom),(.int .i64 x608.fUntil),(e_aResources x608.fResources)]) (e:=(.int .i64 x608.fKey)) (by rfl) (by rfl) (L rfl) (ot 43 (.dptr (e_aCert x608))))
       (oc (loadD tyS3 (by rfl) (by rfl) (L rfl) (ot 44 (.dptr (.int .i64 x608.fKey))))
       (oc (ov (.ptr 1007 0 [0]) (fp hN underlying66 0 tyS3 (.box 66 (.st [(i6 (w64 (1+r411.1))),(i6 r412.1),(i6 r413.1),(i6 (w64 (9+r414.1))),.nils])) (ot 7 (pt 1007))))
       (oc (OpJ.storeB (bt:=66) (c:=(.st [(i6 (w64 (1+r411.1))),(i6 r412.1),(i6 r413.1),(i6 (w64 (9+r414.1))),.nils])) (v:=(i6 x608.fKey)) (c':=(.st [(i6 x608.fKey),(i6 r412.1),(i6 r413.1),(i6 (w64 (9+r414.1))),.nils])) tyS3 (SetAt.st1 (f:=(i6 (w64 (1+r411.1)))) (by rfl) (by rfl) (SetAt.here _ _) (by rfl) (by rfl) (by first | rfl | omega)) (by rfl) (by rfl) (by simp) rfl (ot 46 (.ptr 1007 0 [0])) (ot 45 (i6 x608.fKey)))
       (OpJs.nil))))))))))) (by rfl) (by rfl) ?_
      exact hjj423 _ h _ _ (mp [] _ _ hB)
     ·have h:=ite_f hg606 h
      apply AWp.skip
      exact hjj423 _ h _ _ (mp [] _ _ hB)
   ·rcases bft (decide (0<(a1.length:Int))) with hg609 | hg609
    ·have h:=ite_t hg609 h
     obtain⟨r610,hr610,h⟩:=bindS h
     refine AWp.region (oc (mv hN (ot 1 (qe_aCert_6 a1)))
      (oc (OpJ.val (v':=(i6 (a1.length:Int))) (by simp) (lenD underlying22 (L rfl) (ot 30 (qe_aCert_6 a1))))
      (oc (gtr (L rfl) (ot 31 (i6 (a1.length:Int))) (ii 0))
      (oc (OpJ.val (v':=.d (.bool true)) (by rw [hg609]<;>rfl) (mv hN (ot 32 (bo (decide (0<(a1.length:Int)))))))
      (oc (gd 33 (mv hN (ot 0 (pt 0))))
      (oc (gd 33 (OpJ.callFn hB fnOk30 (xmake_Deck_Next_ac r414.2 4 r610 hr610) [(0,0)] (by kernel_rfl) (L rfl) (by kernel_rfl) (OpdL.cons (ot 34 (pt 0)) (OpdL.cons (ii 4) OpdL.nil))))
      (oc (gd 33 (gtr (L rfl) (ot 35 (i6 r610.1)) (ii 0)))
      (oc (pickT (L rfl) (ot 33 (bo true)) (ot 36 (bo (decide (0<r610.1)))))
      (OpJs.nil))))))))) (by rfl) (by rfl) ?_
     exact hjj418 _ h _ _ (mp [] _ _ hB)
    ·have h:=ite_f hg609 h
     apply rg (c (mv hN (q 1)) rfl (c (OpJ.val (v':=(i6 (a1.length:Int))) (by simp) (lenD underlying22 (L rfl) (q 30))) rfl (c (gtr (L rfl) (q 31) (ii 0)) rfl (c (OpJ.val (v':=.d (.bool false)) (by rw [hg609]<;>rfl) (mv hN (q 32))) rfl (ks 33 (L rfl) (ks 33 (L rfl) (ks 33 (L rfl) (c (pickF (L rfl) (q 33) (Opd.bool false)) rfl cn))))))))
     exact hjj418 _ h _ _ (mp [] _ _ hB)
  ·have h:=ite_f hg410 h
   apply AWp.exit
   apply seqQ_e
   obtain rfl:=oi h
   exact⟨(fun hc=>by cases hc),rfl,(mp [] _ _ hB)⟩
 ·obtain⟨rfl,hmat⟩:=hR
  apply blkQ_hit
  apply seqQ_n
  refine AWp.ghost hmat ?_
  apply sr (c (mv hN (q 5)) rfl (c (assign (L rfl) (q 105)) rfl cn))
  apply AWp.ret
  obtain rfl:=oi h
  exact rt (Mat.trans (Mat.freezeP (n:=3005) (e:=66) (sz:=5) (es:=p409.2.map e_aSigned) (Ts:=[(4,(qe_aSigned_5 p409.2))]) (Bs:=[]) (by rfl) (TwT.cons (x:=(.sref 3005 5 0 p409.2.length)) (by rfl) (FrzL.all (by first | rfl | (simp;done) | (simp;omega) | omega)) TwT.nil) TwB.nil) (mp [] [(4,(qe_aSigned_5 p409.2))] [(0,bd 80 (e_xmake_Deck p409.1))] hB)) [(qe_aSigned_5 p409.2)] (Res.tmp (by rfl) (by rfl) Res.nil) rfl
def xlaw22_setting (a0:xmake_Deck):Option ((List aCert)×(List aSigned)×Int×xmake_Deck) :=
 (xmake_Deck_Certs a0).bind fun r1 =>
 (xmake_Deck_Signed r1.2 r1.1).bind fun r2 =>
 (xmake_Deck_Next r2.2 14).bind fun r3 =>
 some (r1.1,r2.1,r3.1,r3.2)
theorem xlaw22_setting_ac (a0:xmake_Deck) (r:(List aCert)×(List aSigned)×Int×xmake_Deck) (h:xlaw22_setting a0=some r):AC Tryz.prog 10 [(pt 0)] [(0,(.box 80 (.d (e_xmake_Deck a0))))] (.tup [(.d (.list 6 (r.1.map e_aCert))),(.d (.list 5 (r.2.1.map e_aSigned))),(.d (.int .i64 r.2.2.1))]) [(0,bd 80 (e_xmake_Deck r.2.2.2))]:=by
 refine AC.of_code2 Tryz.func10 rfl rfl (Nat.le_of_ble_eq_true (by rfl)) fun B hB hN => ?_
 delta xlaw22_setting at h
 apply sr (c (assign (ltN hN rfl) Opd.nils) rfl (c (assign (ltN hN rfl) Opd.nils) rfl (c (assign (ltN hN rfl) (ii 0)) rfl cn)))
 apply AWp.seq
 obtain⟨r1,hr1,h⟩:=bindS h
 refine AWp.region (oc (mv hN (ot 0 (pt 0)))
 (oc (OpJ.callFn hB fnOk22 (xmake_Deck_Certs_ac a0 r1 hr1) [(0,0)] (by kernel_rfl) (ltN hN rfl) (by kernel_rfl) (OpdL.cons (ot 6 (pt 0)) OpdL.nil))
 (oc (assign (ltN hN rfl) (ot 7 (qe_aCert_6 r1.1)))
 (OpJs.nil)))) (by rfl) (by rfl) ?_
 apply seqQ_n
 refine AWp.ghost (mp [] [(0,(pt 0)),(5,(qe_aCert_6 r1.1))] [(0,bd 80 (e_xmake_Deck r1.2))] hB) ?_
 apply AWp.seq
 obtain⟨r2,hr2,h⟩:=bindS h
 obtain⟨r3,hr3,h⟩:=bindS h
 refine AWp.region (oc (mv hN (ot 5 (qe_aCert_6 r1.1)))
 (oc (mv hN (ot 0 (pt 0)))
 (oc (mv hN (ot 5 (qe_aCert_6 r1.1)))
 (oc (OpJ.callFn hB fnOk29 (xmake_Deck_Signed_ac r1.2 r1.1 r2 hr2) [(0,0)] (by kernel_rfl) (ltN hN rfl) (by kernel_rfl) (OpdL.cons (ot 9 (pt 0)) (OpdL.cons (ot 10 (qe_aCert_6 r1.1)) OpdL.nil)))
 (oc (mv hN (ot 0 (pt 0)))
 (oc (OpJ.callFn hB fnOk30 (xmake_Deck_Next_ac r2.2 14 r3 hr3) [(0,0)] (by kernel_rfl) (ltN hN rfl) (by kernel_rfl) (OpdL.cons (ot 12 (pt 0)) (OpdL.cons (ii 14) OpdL.nil)))
 (oc (assign (ltN hN rfl) (ot 8 (qe_aCert_6 r1.1)))
 (oc (assign (ltN hN rfl) (ot 11 (qe_aSigned_5 r2.1)))
 (oc (assign (ltN hN rfl) (ot 13 (i6 r3.1)))
 (OpJs.nil)))))))))) (by rfl) (by rfl) ?_
 apply seqQ_n
 refine AWp.ghost (mp [] [(2,(qe_aCert_6 r1.1)),(3,(qe_aSigned_5 r2.1)),(4,(i6 r3.1))] [(0,bd 80 (e_xmake_Deck r3.2))] hB) ?_
 apply AWp.ret
 obtain rfl:=oi h
 exact rt (kp [(2,_),(3,_),(4,_)] [(0,some _)] hB rfl rfl (by rfl)) [(qe_aCert_6 r1.1),(qe_aSigned_5 r2.1),(i6 r3.1)] (Res.tmp (by rfl) (by rfl) (Res.tmp (by rfl) (by rfl) (Res.tmp (by rfl) (by rfl) Res.nil))) rfl
def xlaw22_anchors (a0:Int):Option ((List Int)) :=
 (xmake_Mod a0 4).bind fun r1 =>
 (idx ([([1]:List Int),([1,2,3]:List Int),([]:List Int),([1,2,3,4,5,6,7]:List Int)]:List (List Int)) r1).bind fun x2 =>
 some x2
theorem xlaw22_anchors_ac (a0:Int) (r:(List Int)) (h:xlaw22_anchors a0=some r):AC Tryz.prog 12 [(.d (.int .i64 a0))] [] (.d (.list 1 (r.map (eI .i64)))) []:=by
 refine AC.of_code2 Tryz.func12 rfl rfl (Nat.le_of_ble_eq_true (by rfl)) fun B hB hN => ?_
 delta xlaw22_anchors at h
 apply sr (c (assign (ltN hN rfl) Opd.nils) rfl cn)
 obtain⟨r1,hr1,h⟩:=bindS h
 obtain⟨x2,hx2,h⟩:=bindS h
 apply sr (c (buildSlice underlying23 tyS3 tyZD3 (by rfl) (by decide) (by decide) (Opds.cons (ii 1) Opds.nil) (by kernel_rfl) (es:=([(.int .i64 1)]:List D)) (by rfl) (by rfl) (by kernel_rfl) (by simp) (ltN hN rfl)) rfl (c (buildSlice underlying23 tyS3 tyZD3 (by rfl) (by decide) (by decide) (Opds.cons (ii 1) (Opds.cons (ii 2) (Opds.cons (ii 3) Opds.nil))) (by kernel_rfl) (es:=([(.int .i64 1),(.int .i64 2),(.int .i64 3)]:List D)) (by rfl) (by rfl) (by kernel_rfl) (by simp) (ltN hN rfl)) rfl (c (buildSlice underlying23 tyS3 tyZD3 (by rfl) (by decide) (by decide) (Opds.cons (ii 1) (Opds.cons (ii 2) (Opds.cons (ii 3) (Opds.cons (ii 4) (Opds.cons (ii 5) (Opds.cons (ii 6) (Opds.cons (ii 7) Opds.nil))))))) (by kernel_rfl) (es:=([(.int .i64 1),(.int .i64 2),(.int .i64 3),(.int .i64 4),(.int .i64 5),(.int .i64 6),(.int .i64 7)]:List D)) (by rfl) (by rfl) (by kernel_rfl) (by simp) (ltN hN rfl)) rfl (c (buildSlice underlying33 tyS23 tyZD23 (by rfl) (by decide) (by decide) (Opds.cons (q 3) (Opds.cons (q 4) (Opds.cons (Opd.co (Co.nils 1) Opd.nils) (Opds.cons (q 5) Opds.nil)))) (by kernel_rfl) (es:=([(.list 1 (([1]:List Int).map (eI .i64))),(.list 1 (([1,2,3]:List Int).map (eI .i64))),(.list 1 (([]:List Int).map (eI .i64))),(.list 1 (([1,2,3,4,5,6,7]:List Int).map (eI .i64)))]:List D)) (by rfl) (by rfl) (by kernel_rfl) (by simp) (ltN hN rfl)) rfl (c (mv hN (q 0)) rfl (cg (OpJ.callFn hB fnOk19 (xmake_Mod_ac a0 4 r1 hr1) [] (by kernel_rfl) (ltN hN rfl) (by kernel_rfl) (OpdL.cons (q 7) (OpdL.cons (ii 4) OpdL.nil))) rfl (c (indexD underlying33 tyS23 (idx_some hx2).1 (get_map e_LeIi64 (idx_some hx2).2) (ltN hN rfl) (q 6) (q 8)) rfl (c (loadD tyS23 (by rfl) (by rfl) (ltN hN rfl) (q 9)) rfl (c (assign (ltN hN rfl) (q 10)) rfl cn)))))))))
 apply AWp.ret
 obtain rfl:=oi h
 exact rt (kp [(2,_)] [] hB rfl rfl (by rfl)) [(qI_1 x2)] (Res.tmp (by rfl) (by rfl) Res.nil) rfl
def xref22_anchored_L0 (a0:(List Int)) (a1:Int) (s1:Int):Option (((Unit)⊕(Unit))⊕(Int)) :=
 (if (decide (s1<(a0.length:Int)))=true then
 (idx a0 s1).bind fun x11 =>
 (if (x11==a1)=true then
 some (.inl (.inl ()))
 else
 some (.inr (w64 (s1+1))))
 else
 some (.inl (.inr ())))
def xref22_anchored (a0:(List Int)) (a1:Int):Option (Bool) :=
 (loop (xref22_anchored_L0 a0 a1) 0).bind fun x13=>match x13 with
 | (.inl _) =>
  some true
 | (.inr _) =>
  some false
theorem xref22_anchored_ac (a0:(List Int)) (a1:Int) (r:Bool) (h:xref22_anchored a0 a1=some r):AC Tryz.prog 37 [(.d (.list 1 (a0.map (eI .i64)))),(.d (.int .i64 a1))] [] (.d (.bool r)) []:=by
 refine AC.of_code2 Tryz.func37 rfl rfl (Nat.le_of_ble_eq_true (by rfl)) fun B hB hN => ?_
 delta xref22_anchored at h
 apply sr (c (assign (ltN hN rfl) (Opd.bool false)) rfl cn)
 apply AWp.seq
 apply sr (c (mv hN (q 0)) rfl (c (OpJ.val (v':=(i6 (a0.length:Int))) (by simp) (lenD underlying23 (ltN hN rfl) (q 7))) rfl (c (mv hN (ii 0)) rfl cn)))
 apply AWp.block
 obtain⟨x13,hx14,h⟩:=bindS h
 refine lg (xref22_anchored_L0 a0 a1) (fun s1:Int=>([(1,(i6 a1)),(7,(qI_1 a0)),(8,(i6 (a0.length:Int))),(9,(i6 s1))]:EL)) (fun s1:Int=>([]:OL)) (fun(x:(Unit)⊕(Unit)) e E' O'=>match x with | (.inl _p)=>e = .ret∧Mat B E' O' ([(4,(bo true))]:EL) ([]:OL) | (.inr _p)=>e = .exit 0∧Mat B E' O' ([]:EL) ([]:OL)) hx14 (mp [] _ _ hB) (fun s1 y h => ?_) (fun e E' O' hR => ?_)
 ·unfold xref22_anchored_L0 at h
  apply sr (c (lss (ltN hN rfl) (q 9) (q 8)) rfl cn)
  apply AWp.seq
  apply AWp.cond rfl<;>intro hg10
  ·have h:=ite_t hg10 h
   apply AWp.skip
   apply seqQ_n
   apply AWp.seq
   apply AWp.block
   obtain⟨x11,hx11,h⟩:=bindS h
   apply sr (c (indexD underlying23 tyS3 (idx_some hx11).1 (get_map (eI .i64) (idx_some hx11).2) (ltN hN rfl) (q 7) (q 9)) rfl (c (loadD tyS3 (by rfl) (by rfl) (ltN hN rfl) (q 11)) rfl (c (assign (ltN hN rfl) (q 12)) rfl cn)))
   apply sr (c (mv hN (q 6)) rfl (c (mv hN (q 1)) rfl (c (eqlI (ltN hN rfl) (q 13) (q 14)) rfl cn)))
   apply AWp.cond rfl<;>intro hg12
   ·have h:=ite_t hg12 h
    apply sr (c (assign (ltN hN rfl) (Opd.bool true)) rfl cn)
    apply AWp.ret
    apply blkQ_r
    apply seqQ_r
    obtain rfl:=oi h
    exact⟨(fun hc=>by cases hc),rfl,(mp [] _ _ hB)⟩
   ·have h:=ite_f hg12 h
    apply AWp.skip
    apply blkQ_n
    apply seqQ_n
    apply rg (c (add6 (ltN hN rfl) (q 9) (ii 1)) rfl (c (mv hN (q 16)) rfl cn))
    obtain rfl:=oi h
    exact⟨rfl,(mp [] _ _ hB)⟩
  ·have h:=ite_f hg10 h
   apply AWp.exit
   apply seqQ_e
   obtain rfl:=oi h
   exact⟨(fun hc=>by cases hc),rfl,(mp [] _ _ hB)⟩
 ·rcases x13 with _ | _
  ·obtain⟨rfl,hmat⟩:=hR
   apply blkQ_r
   apply seqQ_r
   obtain rfl:=oi h
   exact rt (Mat.trans hmat (mp [] [(4,(bo true))] [] hB)) [(bo true)] (Res.tmp (by rfl) (by rfl) Res.nil) rfl
  ·obtain⟨rfl,hmat⟩:=hR
   apply blkQ_hit
   apply seqQ_n
   refine AWp.ghost hmat ?_
   apply sr (c (assign (ltN hN rfl) (Opd.bool false)) rfl cn)
   apply AWp.ret
   obtain rfl:=oi h
   exact rt (kp [(4,_)] [] hB rfl rfl (by rfl)) [(bo false)] (Res.tmp (by rfl) (by rfl) Res.nil) rfl
def xref22_current (a0:Int) (a1:Int) (a2:Int):Option (Bool) :=
 some ((decide (a0≤a2))&&(decide (a2≤a1)))
theorem xref22_current_ac (a0:Int) (a1:Int) (a2:Int) (r:Bool) (h:xref22_current a0 a1 a2=some r):AC Tryz.prog 38 [(.d (.int .i64 a0)),(.d (.int .i64 a1)),(.d (.int .i64 a2))] [] (.d (.bool r)) []:=by
 refine AC.of_code2 Tryz.func38 rfl rfl (Nat.le_of_ble_eq_true (by rfl)) fun B hB hN => ?_
 delta xref22_current at h
 apply sr (c (assign (ltN hN rfl) (Opd.bool false)) rfl cn)
 apply sr (c (mv hN (q 0)) rfl (c (mv hN (q 2)) rfl (c (leq (ltN hN rfl) (q 7) (q 8)) rfl (c (mv hN (q 9)) rfl (c (oq hN 10 (mv hN (q 2)) (OptL.keep (by rfl) OptL.nil) (GuardV.plain _)) rfl (c (oq hN 10 (mv hN (q 1)) (OptL.keep (by rfl) OptL.nil) (GuardV.plain _)) rfl (c (oq hN 10 (leq (ltN hN rfl) (q 11) (q 12)) (OptL.opt (OptL.opt OptL.nil)) (GuardV.plain _)) rfl (c (pickAnd rfl (ltN hN rfl) (q 10) (q 13)) rfl (c (assign (ltN hN rfl) (q 14)) rfl cn)))))))))
 apply AWp.ret
 obtain rfl:=oi h
 exact rt (kp [(6,_)] [] hB rfl rfl (by rfl)) [(bo ((decide (a0≤a2))&&(decide (a2≤a1))))] (Res.tmp (by rfl) (by rfl) Res.nil) rfl
def xref21_before (a0:aAddr):Option (aAddr) :=
 jn (fun m2:aAddr =>
 some (aAddr.mk m2.fV6 m2.fHi (IntKind.u64.wrap (m2.fLo-1)))) (fun j3 =>
 (if (a0.fLo==0)=true then
 j3 (aAddr.mk a0.fV6 (IntKind.u64.wrap (a0.fHi-1)) a0.fLo)
 else
 j3 a0))
theorem xref21_before_ac (a0:aAddr) (r:aAddr) (h:xref21_before a0=some r):AC Tryz.prog 105 [(.d (e_aAddr a0))] [] (.d (e_aAddr r)) []:=by
 refine AC.of_code2 Tryz.func105 rfl rfl (Nat.le_of_ble_eq_true (by rfl)) fun B hB hN => ?_
 delta xref21_before at h
 apply sr (cg (OpJ.box hB (nm:=1001) (by decide) (by simp) rfl (ltN hN rfl) (q 0)) rfl (cg (alloc hB tyZ44 (nm:=1002) (by decide) (ltN hN rfl)) rfl cn))
 apply AWp.seq
 apply sr (c (fo 1001 2 [2] hN underlying44 2 tyS42 (q 1)) rfl (c (la hN 44 tyS42 (q 3)) rfl (c (eqlI (ltN hN rfl) (q 4) (Opd.int .u64 (0))) rfl cn)))
 refine gh [(1,_),(2,_),(5,_)] [(1001,some _),(1002,some _)] hB rfl rfl (by rfl) ?_
 refine AWp.cut h (fun m2:aAddr=>([(1,(pt 1001)),(2,(pt 1002))]:EL)) (fun m2:aAddr=>([(1001,bd 44 (e_aAddr m2)),(1002,bd 44 (.st [(.bool false),(.int .u64 0),(.int .u64 0)]))]:OL)) (fun m2 h E' O' hmat => ?_) (fun j3 hjj3 h => ?_)
 ·apply seqQ_n
  refine AWp.ghost hmat ?_
  apply sr (c (fo 1001 2 [2] hN underlying44 2 tyS42 (q 1)) rfl (c (la hN 44 tyS42 (q 10)) rfl (c (OpJ.sub (ltN hN rfl) (q 11) (Opd.int .u64 (1))) rfl (c (fo 1001 2 [2] hN underlying44 2 tyS42 (q 1)) rfl (cg (OpJ.storeB tyS42 (SetAt.dst1 (by rfl) (by rfl) (SetAt.here _ _) (by rfl) (by rfl) (by first | rfl | omega)) (by rfl) (by rfl) (by simp) rfl (q 13) (q 12)) rfl cn)))))
  apply sr (c (lb hN 44 _ _ tyS44 (At.here _) (q 1)) rfl (cg (sB tyS44 (q 2) (q 14)) rfl cn))
  apply AWp.ret
  obtain rfl:=oi h
  exact rt (kp [(2,_)] [(1002,some _)] hB rfl rfl (by rfl)) [(.d (.st [(.bool m2.fV6),(.int .u64 m2.fHi),(.int .u64 (IntKind.u64.wrap (m2.fLo-1)))]))] (Res.cell (c:=(.d (.st [(.bool m2.fV6),(.int .u64 m2.fHi),(.int .u64 (IntKind.u64.wrap (m2.fLo-1)))]))) (by rfl) (by rfl) tyS44 (by rfl) (by rfl) (by rfl) Res.nil) rfl
 ·apply AWp.cond rfl<;>intro hg4
  ·have h:=ite_t hg4 h
   apply rg (c (fo 1001 1 [1] hN underlying44 1 tyS42 (q 1)) rfl (c (la hN 44 tyS42 (q 6)) rfl (c (OpJ.sub (ltN hN rfl) (q 7) (Opd.int .u64 (1))) rfl (c (fo 1001 1 [1] hN underlying44 1 tyS42 (q 1)) rfl (cg (OpJ.storeB tyS42 (SetAt.dst1 (by rfl) (by rfl) (SetAt.here _ _) (by rfl) (by rfl) (by first | rfl | omega)) (by rfl) (by rfl) (by simp) rfl (q 9) (q 8)) rfl cn)))))
   exact hjj3 _ h _ _ (mp [] _ _ hB)
  ·have h:=ite_f hg4 h
   apply AWp.skip
   exact hjj3 _ h _ _ (mp [] _ _ hB)
def xref21_outside_L1 (a0:(List aRange)) (x196:Bool) (s197:Bool×Int×aAddr×(List aRange)):Option (((Bool×aAddr×(List aRange)))⊕(Bool×Int×aAddr×(List aRange))) :=
 (if (decide (s197.2.1<(a0.length:Int)))=true then
 jn (fun m266:Bool×aAddr×(List aRange) =>
 some (.inr (m266.1,(w64 (s197.2.1+1)),m266.2.1,m266.2.2))) (fun j267 =>
 (idx a0 s197.2.1).bind fun x268 =>
 (if (x268.fFrom.fV6 != x196)=true then
 j267 (s197.1,s197.2.2.1,s197.2.2.2)
 else
 (xref01_Cmp s197.2.2.1 x268.fFrom).bind fun r270 =>
 jn (fun m274:(List aRange) =>
 (xref01_Next x268.fTo).bind fun r276 =>
 j267 (r276.2,r276.1,m274)) (fun j275 =>
 (if (decide (r270<0))=true then
 (xref21_before x268.fFrom).bind fun r278 =>
 chk (decide ((s197.2.2.2++[(aRange.mk s197.2.2.1 r278)]).length≤LIM)) <|
 j275 (s197.2.2.2++[(aRange.mk s197.2.2.1 r278)])
 else
 j275 s197.2.2.2))))
 else
 some (.inl (s197.1,s197.2.2.1,s197.2.2.2)))
def xref21_outside_L0 (a0:(List aRange)) (s1:Int×(List aRange)):Option ((((List aRange)))⊕(Int×(List aRange))) :=
 (if (decide (s1.1<(([false,true]:List Bool).length:Int)))=true then
 (idx ([false,true]:List Bool) s1.1).bind fun x196 =>
 (loop (xref21_outside_L1 a0 x196) (true,0,(aAddr.mk x196 0 0),s1.2)).bind fun p252 =>
 jn (fun m285:(List aRange) =>
 some (.inr ((w64 (s1.1+1)),m285))) (fun j286 =>
 (if p252.1=true then
 (xref02_Last (aPrefix.mk (aAddr.mk x196 0 0) 0)).bind fun r288 =>
 chk (decide ((p252.2.2++[(aRange.mk p252.2.1 r288)]).length≤LIM)) <|
 j286 (p252.2.2++[(aRange.mk p252.2.1 r288)])
 else
 j286 p252.2.2))
 else
 some (.inl s1.2))
def xref21_outside (a0:(List aRange)):Option ((List aRange)) :=
 (loop (xref21_outside_L0 a0) (0,([]:List aRange))).bind fun p194 =>
 some p194
theorem xref21_outside_ac (a0:(List aRange)) (r:(List aRange)) (h:xref21_outside a0=some r):AC Tryz.prog 87 [(.d (.list 6 (a0.map e_aRange)))] [] (.d (.list 6 (r.map e_aRange))) []:=by
 refine ac2 Tryz.func87 rfl rfl fun B hB hN L => ?_
 delta xref21_outside at h
 apply sr (c (assign (L rfl) Opd.nils) rfl cn)
 apply sr (c (assign (L rfl) Opd.nils) rfl cn)
 apply AWp.seq
 apply sr (c (buildSlice underlying35 tyS4 tyZD4 (by rfl) (by decide) (by decide) (Opds.cons (Opd.bool false) (Opds.cons (Opd.bool true) Opds.nil)) (by kernel_rfl) (es:=([(.bool false),(.bool true)]:List D)) (by rfl) (by rfl) (by kernel_rfl) (by simp) (L rfl)) rfl (c (OpJ.val (v':=(i6 (([false,true]:List Bool).length:Int))) (by simp) (lenD underlying35 (L rfl) (q 10))) rfl (c (mv hN (ii 0)) rfl cn)))
 apply AWp.block
 obtain⟨p194,hx291,h⟩:=bindS h
 refine lg (xref21_outside_L0 a0) (fun s1:Int×(List aRange)=>([(0,(qe_aRange_6 a0)),(3,(.sref 3003 6 0 s1.2.length)),(10,(.d (.list 1 (([false,true]:List Bool).map eB)))),(11,(i6 (([false,true]:List Bool).length:Int))),(12,(i6 s1.1))]:EL)) (fun s1:Int×(List aRange)=>([(3003,some (we_aRange_92_6 s1.2))]:OL)) (fun(p194:((List aRange))) e E' O'=>e = .exit 0∧Mat B E' O' ([(3,(.sref 3003 6 0 p194.length))]:EL) ([(3003,some (we_aRange_92_6 p194))]:OL)) hx291 (Mat.trans (Mat.beginP (n:=3003) (e:=92) (sz:=6) (Ts:=[(3,(.sref 3003 6 0 0))]) (Bs:=[]) hB (by decide) (by rfl) (by decide) (TwT.cons (x:=.nils) (by rfl) (Tw.leaf ⟨rfl,rfl⟩) TwT.nil) TwB.nil) (mp [] _ _ hB)) (fun s1 y h => ?_) (fun e E' O' hR => ?_)
 ·unfold xref21_outside_L0 at h
  apply sr (c (lss (L rfl) (q 12) (q 11)) rfl cn)
  apply AWp.seq
  apply AWp.cond rfl<;>intro hg195
  ·have h:=ite_t hg195 h
   apply AWp.skip
   apply seqQ_n
   apply AWp.seq
   apply AWp.block
   obtain⟨x196,hx196,h⟩:=bindS h
   apply sr (c (indexD underlying35 tyS4 (idx_some hx196).1 (get_map eB (idx_some hx196).2) (L rfl) (q 10) (q 12)) rfl (c (loadD tyS4 (by rfl) (by rfl) (L rfl) (q 14)) rfl (c (assign (L rfl) (q 15)) rfl cn)))
   apply sr (c (mv hN (q 5)) rfl (c (OpJ.coe (v:=(.st [(bo x196),(.d (.int .u64 0)),(.d (.int .u64 0))])) (y:=(.st [(.bool x196),(.int .u64 0),(.int .u64 0)])) (Co.st (CoL.cons (Co.d _) (CoL.cons (Co.d _) (CoL.cons (Co.d _) CoL.nil)))) rfl (OpJ.build (places:=[(0,1),(1,1),(2,1)]) ⟨underlying44,fun w=>by kernel_rfl⟩ tyZS44 (Opds.cons (q 16) Opds.nil) (by kernel_rfl) (r:=(.st [(bo x196),(.d (.int .u64 0)),(.d (.int .u64 0))])) (by rfl) (L rfl))) rfl (cg (alloc hB tyZ44 (nm:=1006) (by decide) (L rfl)) rfl (cg (sB tyS44 (q 6) (q 17)) rfl (c (assign (L rfl) (Opd.bool true)) rfl cn)))))
   apply AWp.seq
   apply sr (c (mv hN (q 0)) rfl (c (OpJ.val (v':=(i6 (a0.length:Int))) (by simp) (lenD underlying54 (L rfl) (q 18))) rfl (c (mv hN (ii 0)) rfl cn)))
   apply AWp.block
   obtain⟨p252,hx281,h⟩:=bindS h
   refine lg (xref21_outside_L1 a0 x196) (fun s197:Bool×Int×aAddr×(List aRange)=>([(0,(qe_aRange_6 a0)),(3,(.sref 3003 6 0 s197.2.2.2.length)),(5,(bo x196)),(6,(pt 1006)),(7,(bo s197.1)),(10,(.d (.list 1 (([false,true]:List Bool).map eB)))),(11,(i6 (([false,true]:List Bool).length:Int))),(12,(i6 s1.1)),(18,(qe_aRange_6 a0)),(19,(i6 (a0.length:Int))),(20,(i6 s197.2.1))]:EL)) (fun s197:Bool×Int×aAddr×(List aRange)=>([(1006,bd 44 (e_aAddr s197.2.2.1)),(3003,some (we_aRange_92_6 s197.2.2.2))]:OL)) (fun(p252:(Bool×aAddr×(List aRange))) e E' O'=>e = .exit 2∧Mat B E' O' ([(0,(qe_aRange_6 a0)),(3,(.sref 3003 6 0 p252.2.2.length)),(5,(bo x196)),(6,(pt 1006)),(7,(bo p252.1)),(10,(.d (.list 1 (([false,true]:List Bool).map eB)))),(11,(i6 (([false,true]:List Bool).length:Int))),(12,(i6 s1.1))]:EL) ([(1006,bd 44 (e_aAddr p252.2.1)),(3003,some (we_aRange_92_6 p252.2.2))]:OL)) hx281 (mp [] _ _ hB) (fun s197 y h => ?_) (fun e E' O' hR => ?_)
   ·unfold xref21_outside_L1 at h
    apply sr (c (lss (L rfl) (q 20) (q 19)) rfl cn)
    apply AWp.seq
    apply AWp.cond rfl<;>intro hg253
    ·have h:=ite_t hg253 h
     apply AWp.skip
     apply seqQ_n
     apply AWp.seq
     refine AWp.cut h (fun m266:Bool×aAddr×(List aRange)=>([(0,(qe_aRange_6 a0)),(3,(.sref 3003 6 0 m266.2.2.length)),(5,(bo x196)),(6,(pt 1006)),(7,(bo m266.1)),(10,(.d (.list 1 (([false,true]:List Bool).map eB)))),(11,(i6 (([false,true]:List Bool).length:Int))),(12,(i6 s1.1)),(18,(qe_aRange_6 a0)),(19,(i6 (a0.length:Int))),(20,(i6 s197.2.1))]:EL)) (fun m266:Bool×aAddr×(List aRange)=>([(1006,bd 44 (e_aAddr m266.2.1)),(3003,some (we_aRange_92_6 m266.2.2))]:OL)) (fun m266 h E' O' hmat => ?_) (fun j267 hjj267 h => ?_)
     ·apply seqQ_n
      refine AWp.ghost hmat ?_
      apply rg (c (add6 (L rfl) (q 20) (ii 1)) rfl (c (mv hN (q 48)) rfl cn))
      obtain rfl:=oi h
      exact⟨rfl,(mp [] _ _ hB)⟩
     ·apply AWp.block
      obtain⟨x268,hx268,h⟩:=bindS h
      apply sr (c (indexD underlying54 tyS92 (idx_some hx268).1 (get_map e_aRange (idx_some hx268).2) (L rfl) (q 18) (q 20)) rfl (c (loadD tyS92 (by rfl) (by rfl) (L rfl) (q 22)) rfl (cg (alloc hB tyZ92 (nm:=1009) (by decide) (L rfl)) rfl (cg (sB tyS92 (q 9) (q 23)) rfl cn))))
      apply AWp.seq
      apply sr (c (fo 1009 0 [0] hN underlying92 0 tyS44 (q 9)) rfl (c (fo 1009 0 [0,0] hN underlying44 0 tyS4 (q 24)) rfl (c (lb hN 92 _ _ tyS4 (At.dst1 (by rfl) (by rfl) (ad _) (by first | rfl | omega)) (q 25)) rfl (c (mv hN (q 5)) rfl (c (OpJ.neqB underlying4 (L rfl) (q 26) (q 27)) rfl cn)))))
      apply AWp.cond rfl<;>intro hg269
      ·have h:=ite_t hg269 h
       apply AWp.exit
       apply seqQ_e
       apply blkQ_hit
       exact hjj267 _ h _ _ (mp [] _ _ hB)
      ·have h:=ite_f hg269 h
       apply AWp.skip
       apply seqQ_n
       apply AWp.seq
       obtain⟨r270,hr270,h⟩:=bindS h
       apply sr (c (lb hN 44 _ _ tyS44 (At.here _) (q 6)) rfl (c (fo 1009 0 [0] hN underlying92 0 tyS44 (q 9)) rfl (c (la hN 92 tyS44 (q 30)) rfl (cg (cf hB fnOk46 (xref01_Cmp_ac s197.2.2.1 x268.fFrom r270 hr270) (L rfl) (OpdL.cons (q 29) (OpdL.cons (q 31) OpdL.nil))) rfl (c (lss (L rfl) (q 32) (ii 0)) rfl cn)))))
       refine gh [(0,_),(3,_),(5,_),(6,_),(9,_),(10,_),(11,_),(12,_),(18,_),(19,_),(20,_),(33,_)] [(1006,some _),(1009,some _),(3003,some _)] hB rfl rfl (by rfl) ?_
       refine AWp.cut h (fun m274:(List aRange)=>([(0,(qe_aRange_6 a0)),(3,(.sref 3003 6 0 m274.length)),(5,(bo x196)),(6,(pt 1006)),(9,(pt 1009)),(10,(.d (.list 1 (([false,true]:List Bool).map eB)))),(11,(i6 (([false,true]:List Bool).length:Int))),(12,(i6 s1.1)),(18,(qe_aRange_6 a0)),(19,(i6 (a0.length:Int))),(20,(i6 s197.2.1))]:EL)) (fun m274:(List aRange)=>([(1006,bd 44 (e_aAddr s197.2.2.1)),(1009,bd 92 (e_aRange x268)),(3003,some (we_aRange_92_6 m274))]:OL)) (fun m274 h E' O' hmat => ?_) (fun j275 hjj275 h => ?_)
       ·apply seqQ_n
        refine AWp.ghost hmat ?_
        obtain⟨r276,hr276,h⟩:=bindS h
        apply rg (c (fo 1009 3 [1] hN underlying92 3 tyS44 (q 9)) rfl (c (la hN 92 tyS44 (q 43)) rfl (cg (cf hB fnOk69 (xref01_Next_ac x268.fTo r276 hr276) (L rfl) (OpdL.cons (q 44) OpdL.nil)) rfl (c (mv hN (q 45)) rfl (c (extract (by rfl) rfl (L rfl) (q 42)) rfl (c (extract (by rfl) rfl (L rfl) (q 42)) rfl (cg (sB tyS44 (q 6) (q 46)) rfl (c (assign (L rfl) (q 47)) rfl cn))))))))
        apply blkQ_n
        exact hjj267 _ h _ _ (mp [] _ _ hB)
       ·apply AWp.cond rfl<;>intro hg277
        ·have h:=ite_t hg277 h
         obtain⟨r278,hr278,h⟩:=bindS h
         obtain⟨hc279,h⟩:=chk_some h
         apply dr (c (mv hN (q 3)) rfl (c (lb hN 44 _ _ tyS44 (At.here _) (q 6)) rfl (c (fo 1009 0 [0] hN underlying92 0 tyS44 (q 9)) rfl (c (la hN 92 tyS44 (q 36)) rfl (cg (cf hB fnOk105 (xref21_before_ac x268.fFrom r278 hr278) (L rfl) (OpdL.cons (q 37) OpdL.nil)) rfl (c (OpJ.coe (v:=(.st [(.d (e_aAddr s197.2.2.1)),(.d (e_aAddr r278))])) (y:=(.st [(e_aAddr s197.2.2.1),(e_aAddr r278)])) (Co.st (CoL.cons (Co.d _) (CoL.cons (Co.d _) CoL.nil))) rfl (OpJ.build (places:=[(0,3),(3,3)]) ⟨underlying92,fun w=>by kernel_rfl⟩ tyZS92 (Opds.cons (q 35) (Opds.cons (q 38) Opds.nil)) (by kernel_rfl) (r:=(.st [(.d (e_aAddr s197.2.2.1)),(.d (e_aAddr r278))])) (by rfl) (L rfl))) rfl (c (buildSlice underlying54 tyS92 tyZD92 (by rfl) (by decide) (by decide) (Opds.cons (q 39) Opds.nil) (by kernel_rfl) (es:=([(.st [(e_aAddr s197.2.2.1),(e_aAddr r278)])]:List D)) (by rfl) (by rfl) (by kernel_rfl) (by simp) (L rfl)) rfl (cg (apd hB underlying54 tyE92 1041 e_aRange s197.2.2.2 [(aRange.mk s197.2.2.1 r278)] hc279 (L rfl) (q 34) (q 40)) rfl (c (assign (L rfl) (q 41)) rfl cn))))))))) (by kernel_rfl) (by kernel_rfl)
         exact hjj275 _ h _ _ (mp [(3003,1041)] _ _ hB)
        ·have h:=ite_f hg277 h
         apply AWp.skip
         exact hjj275 _ h _ _ (mp [] _ _ hB)
    ·have h:=ite_f hg253 h
     apply AWp.exit
     apply seqQ_e
     obtain rfl:=oi h
     exact⟨(fun hc=>by cases hc),rfl,(mp [] _ _ hB)⟩
   ·obtain⟨rfl,hmat⟩:=hR
    apply blkQ_hit
    apply seqQ_n
    refine AWp.ghost hmat ?_
    apply sr (c (mv hN (q 7)) rfl cn)
    refine gh [(0,_),(3,_),(5,_),(6,_),(10,_),(11,_),(12,_),(49,_)] [(1006,some _),(3003,some _)] hB rfl rfl (by rfl) ?_
    refine AWp.cut h (fun m285:(List aRange)=>([(0,(qe_aRange_6 a0)),(3,(.sref 3003 6 0 m285.length)),(10,(.d (.list 1 (([false,true]:List Bool).map eB)))),(11,(i6 (([false,true]:List Bool).length:Int))),(12,(i6 s1.1))]:EL)) (fun m285:(List aRange)=>([(3003,some (we_aRange_92_6 m285))]:OL)) (fun m285 h E' O' hmat => ?_) (fun j286 hjj286 h => ?_)
    ·apply blkQ_n
     apply seqQ_n
     refine AWp.ghost hmat ?_
     apply rg (c (add6 (L rfl) (q 12) (ii 1)) rfl (c (mv hN (q 59)) rfl cn))
     obtain rfl:=oi h
     exact⟨rfl,(mp [] _ _ hB)⟩
    ·apply AWp.cond rfl<;>intro hg287
     ·have h:=ite_t hg287 h
      obtain⟨r288,hr288,h⟩:=bindS h
      obtain⟨hc289,h⟩:=chk_some h
      apply dr (c (mv hN (q 3)) rfl (c (lb hN 44 _ _ tyS44 (At.here _) (q 6)) rfl (c (mv hN (q 5)) rfl (c (OpJ.coe (v:=(.st [(bo x196),(.d (.int .u64 0)),(.d (.int .u64 0))])) (y:=(.st [(.bool x196),(.int .u64 0),(.int .u64 0)])) (Co.st (CoL.cons (Co.d _) (CoL.cons (Co.d _) (CoL.cons (Co.d _) CoL.nil)))) rfl (OpJ.build (places:=[(0,1),(1,1),(2,1)]) ⟨underlying44,fun w=>by kernel_rfl⟩ tyZS44 (Opds.cons (q 52) Opds.nil) (by kernel_rfl) (r:=(.st [(bo x196),(.d (.int .u64 0)),(.d (.int .u64 0))])) (by rfl) (L rfl))) rfl (c (OpJ.coe (v:=(.st [(.d (.st [(.bool x196),(.int .u64 0),(.int .u64 0)])),(i6 0)])) (y:=(.st [(.st [(.bool x196),(.int .u64 0),(.int .u64 0)]),(.int .i64 0)])) (Co.st (CoL.cons (Co.d _) (CoL.cons (Co.d _) CoL.nil))) rfl (OpJ.build (places:=[(0,3),(3,1)]) ⟨underlying46,fun w=>by kernel_rfl⟩ tyZS46 (Opds.cons (q 53) Opds.nil) (by kernel_rfl) (r:=(.st [(.d (.st [(.bool x196),(.int .u64 0),(.int .u64 0)])),(i6 0)])) (by rfl) (L rfl))) rfl (cg (cf hB fnOk47 (xref02_Last_ac (aPrefix.mk (aAddr.mk x196 0 0) 0) r288 hr288) (L rfl) (OpdL.cons (q 54) OpdL.nil)) rfl (c (OpJ.coe (v:=(.st [(.d (e_aAddr p252.2.1)),(.d (e_aAddr r288))])) (y:=(.st [(e_aAddr p252.2.1),(e_aAddr r288)])) (Co.st (CoL.cons (Co.d _) (CoL.cons (Co.d _) CoL.nil))) rfl (OpJ.build (places:=[(0,3),(3,3)]) ⟨underlying92,fun w=>by kernel_rfl⟩ tyZS92 (Opds.cons (q 51) (Opds.cons (q 55) Opds.nil)) (by kernel_rfl) (r:=(.st [(.d (e_aAddr p252.2.1)),(.d (e_aAddr r288))])) (by rfl) (L rfl))) rfl (c (buildSlice underlying54 tyS92 tyZD92 (by rfl) (by decide) (by decide) (Opds.cons (q 56) Opds.nil) (by kernel_rfl) (es:=([(.st [(e_aAddr p252.2.1),(e_aAddr r288)])]:List D)) (by rfl) (by rfl) (by kernel_rfl) (by simp) (L rfl)) rfl (cg (apd hB underlying54 tyE92 1058 e_aRange p252.2.2 [(aRange.mk p252.2.1 r288)] hc289 (L rfl) (q 50) (q 57)) rfl (c (assign (L rfl) (q 58)) rfl cn)))))))))) (by kernel_rfl) (by kernel_rfl)
      exact hjj286 _ h _ _ (mp [(3003,1058)] _ _ hB)
     ·have h:=ite_f hg287 h
      apply AWp.skip
      exact hjj286 _ h _ _ (mp [] _ _ hB)
  ·have h:=ite_f hg195 h
   apply AWp.exit
   apply seqQ_e
   obtain rfl:=oi h
   exact⟨(fun hc=>by cases hc),rfl,(mp [] _ _ hB)⟩
 ·obtain⟨rfl,hmat⟩:=hR
  apply blkQ_hit
  apply seqQ_n
  refine AWp.ghost hmat ?_
  apply sr (c (mv hN (q 3)) rfl (c (assign (L rfl) (q 60)) rfl cn))
  apply AWp.ret
  obtain rfl:=oi h
  exact rt (Mat.trans (Mat.freezeP (n:=3003) (e:=92) (sz:=6) (es:=p194.map e_aRange) (Ts:=[(2,(qe_aRange_6 p194))]) (Bs:=[]) (by rfl) (TwT.cons (x:=(.sref 3003 6 0 p194.length)) (by rfl) (FrzL.all (by first | rfl | (simp;done) | (simp;omega) | omega)) TwT.nil) TwB.nil) (mp [] [(2,(qe_aRange_6 p194))] [] hB)) [(qe_aRange_6 p194)] (Res.tmp (by rfl) (by rfl) Res.nil) rfl
def xref21_Minus_L0 (a1:aResources) (s9:Int×Int×(List aSpan)):Option (((Int×(List aSpan)))⊕(Int×Int×(List aSpan))) :=
 (if (decide (s9.2.1<(a1.fASNs.length:Int)))=true then
 (idx a1.fASNs s9.2.1).bind fun x28 =>
 jn (fun m31:(List aSpan) =>
 some (.inr ((w64 (x28.fTo+1)),(w64 (s9.2.1+1)),m31))) (fun j32 =>
 (if (decide (s9.1<x28.fFrom))=true then
 chk (decide ((s9.2.2++[(aSpan.mk s9.1 (w64 (x28.fFrom-1)))]).length≤LIM)) <|
 j32 (s9.2.2++[(aSpan.mk s9.1 (w64 (x28.fFrom-1)))])
 else
 j32 s9.2.2))
 else
 some (.inl (s9.1,s9.2.2)))
def xref21_Minus_L2 (r8:(List aRange)) (x154:aRange) (s155:Int×(List aRange)):Option ((((List aRange)))⊕(Int×(List aRange))) :=
 (if (decide (s155.1<(r8.length:Int)))=true then
 (idx r8 s155.1).bind fun x190 =>
 (xref21_greater x154.fFrom x190.fFrom).bind fun r191 =>
 (xref21_lesser x154.fTo x190.fTo).bind fun r192 =>
 jn (fun m195:Bool =>
 jn (fun m199:(List aRange) =>
 some (.inr ((w64 (s155.1+1)),m199))) (fun j200 =>
 (if m195=true then
 chk (decide ((s155.2++[(aRange.mk r191 r192)]).length≤LIM)) <|
 j200 (s155.2++[(aRange.mk r191 r192)])
 else
 j200 s155.2))) (fun j196 =>
 (if (x154.fFrom.fV6==x190.fFrom.fV6)=true then
 (xref01_Cmp r191 r192).bind fun r204 =>
 j196 (decide (r204≤0))
 else
 j196 false))
 else
 some (.inl s155.2))
def xref21_Minus_L1 (a0:aResources) (r8:(List aRange)) (s41:Int×(List aRange)):Option ((((List aRange)))⊕(Int×(List aRange))) :=
 (if (decide (s41.1<(a0.fAddrs.length:Int)))=true then
 (idx a0.fAddrs s41.1).bind fun x154 =>
 (loop (xref21_Minus_L2 r8 x154) (0,s41.2)).bind fun p188 =>
 some (.inr ((w64 (s41.1+1)),p188))
 else
 some (.inl s41.2))
def xref21_Minus_L4 (m39:(List aSpan)) (x280:aSpan) (s281:Int×(List aSpan)):Option ((((List aSpan)))⊕(Int×(List aSpan))) :=
 (if (decide (s281.1<(m39.length:Int)))=true then
 (idx m39 s281.1).bind fun x302 =>
 (idx m39 s281.1).bind fun x303 =>
 jn (fun m306:(List aSpan) =>
 some (.inr ((w64 (s281.1+1)),m306))) (fun j307 =>
 (if (decide ((maxI x280.fFrom x303.fFrom)≤(minI x280.fTo x303.fTo)))=true then
 chk (decide ((s281.2++[(aSpan.mk (maxI x280.fFrom x303.fFrom) (minI x280.fTo x303.fTo))]).length≤LIM)) <|
 j307 (s281.2++[(aSpan.mk (maxI x280.fFrom x303.fFrom) (minI x280.fTo x303.fTo))])
 else
 j307 s281.2))
 else
 some (.inl s281.2))
def xref21_Minus_L3 (a0:aResources) (m39:(List aSpan)) (s209:Int×(List aSpan)):Option ((((List aSpan)))⊕(Int×(List aSpan))) :=
 (if (decide (s209.1<(a0.fASNs.length:Int)))=true then
 (idx a0.fASNs s209.1).bind fun x280 =>
 (loop (xref21_Minus_L4 m39 x280) (0,s209.2)).bind fun p300 =>
 some (.inr ((w64 (s209.1+1)),p300))
 else
 some (.inl s209.2))
def xref21_Minus (a0:aResources) (a1:aResources):Option (aResources×Int) :=
 jn (fun m5:Bool =>
 (if m5=true then
 some ((aResources.mk ([]:List aRange) ([]:List aSpan)),1)
 else
 (xref21_outside a1.fAddrs).bind fun r8 =>
 (loop (xref21_Minus_L0 a1) (0,0,([]:List aSpan))).bind fun p26 =>
 jn (fun m39:(List aSpan) =>
 (loop (xref21_Minus_L1 a0 r8) (0,([]:List aRange))).bind fun p152 =>
 (loop (xref21_Minus_L3 a0 m39) (0,([]:List aSpan))).bind fun p278 =>
 (xref21_limited p152 p278).bind fun r314 =>
 some (r314.1,r314.2)) (fun j40 =>
 (if (decide (p26.1≤4294967295))=true then
 chk (decide ((p26.2++[(aSpan.mk p26.1 4294967295)]).length≤LIM)) <|
 j40 (p26.2++[(aSpan.mk p26.1 4294967295)])
 else
 j40 p26.2)))) (fun j6 =>
 (xref21_Valid a0).bind fun r317 =>
 (if (!r317)=true then
 j6 true
 else
 (xref21_Valid a1).bind fun r319 =>
 j6 (!r319)))
theorem xref21_Minus_ac (a0:aResources) (a1:aResources) (r:aResources×Int) (h:xref21_Minus a0 a1=some r):AC Tryz.prog 70 [(.d (e_aResources a0)),(.d (e_aResources a1))] [] (.tup [(.d (e_aResources r.1)),(.d (.int .i64 r.2))]) []:=by
 refine ac2 Tryz.func70 rfl rfl fun B hB hN L => ?_
 delta xref21_Minus at h
 apply sr (cg (OpJ.box hB (nm:=1002) (by decide) (by simp) rfl (L rfl) (q 0)) rfl (cg (OpJ.box hB (nm:=1003) (by decide) (by simp) rfl (L rfl) (q 1)) rfl (cg (alloc hB tyZ57 (nm:=1004) (by decide) (L rfl)) rfl (c (assign (L rfl) (ii 0)) rfl cn))))
 apply AWp.seq
 apply AWp.seq
 refine AWp.cut h (fun m5:Bool=>([(2,(pt 1002)),(3,(pt 1003)),(4,(pt 1004)),(31,(bo m5))]:EL)) (fun m5:Bool=>([(1002,bd 57 (e_aResources a0)),(1003,bd 57 (e_aResources a1)),(1004,some (.box 57 (.st [.nils,.nils])))]:OL)) (fun m5 h E' O' hmat => ?_) (fun j6 hjj6 h => ?_)
 ·apply seqQ_n
  refine AWp.ghost hmat ?_
  apply AWp.cond rfl<;>intro hg7
  ·have h:=ite_t hg7 h
   apply sr (c (OpJ.build (places:=[(0,1),(1,1)]) ⟨underlying57,fun w=>by kernel_rfl⟩ tyZS57 Opds.nil (by kernel_rfl) (r:=(.st [.nils,.nils])) (by rfl) (L rfl)) rfl (cg (sB tyS57 (q 4) (q 32)) rfl (c (assign (L rfl) (ii 1)) rfl cn)))
   apply AWp.ret
   apply seqQ_r
   obtain rfl:=oi h
   exact rt (Mat.trans (Mat.coeP (Ts:=[]) (Bs:=[(1004,bd 57 (.st [(.list 6 (([]:List aRange).map e_aRange)),(.list 2 (([]:List aSpan).map e_aSpan))]))]) TwT.nil (TwB.cons (x:=(.st [.nils,.nils])) (by rfl) (Tw.leaf ⟨_,(Co.st (CoL.cons (Co.nils 6) (CoL.cons (Co.nils 2) CoL.nil))),rfl⟩) TwB.nil)) (mp [] [(4,(pt 1004)),(5,(i6 1))] [(1004,bd 57 (.st [(.list 6 (([]:List aRange).map e_aRange)),(.list 2 (([]:List aSpan).map e_aSpan))]))] hB)) [(.d (.st [(.list 6 (([]:List aRange).map e_aRange)),(.list 2 (([]:List aSpan).map e_aSpan))])),(i6 1)] (Res.cell (c:=(.d (.st [(.list 6 (([]:List aRange).map e_aRange)),(.list 2 (([]:List aSpan).map e_aSpan))]))) (by rfl) (by rfl) tyS57 (by rfl) (by rfl) (by rfl) (Res.tmp (by rfl) (by rfl) Res.nil)) rfl
  ·have h:=ite_f hg7 h
   apply AWp.skip
   apply seqQ_n
   obtain⟨r8,hr8,h⟩:=bindS h
   apply sr (c (fo 1003 0 [0] hN underlying57 0 tyS54 (q 3)) rfl (c (la hN 57 tyS54 (q 33)) rfl (cg (cf hB fnOk87 (xref21_outside_ac a1.fAddrs r8 hr8) (L rfl) (OpdL.cons (q 34) OpdL.nil)) rfl (c (OpJ.build (places:=[(0,1),(1,1)]) ⟨underlying57,fun w=>by kernel_rfl⟩ tyZS57 (Opds.cons (q 35) Opds.nil) (by kernel_rfl) (r:=(.st [(qe_aRange_6 r8),.nils])) (by rfl) (L rfl)) rfl (cg (alloc hB tyZ57 (nm:=1006) (by decide) (L rfl)) rfl (cg (sB tyS57 (q 6) (q 36)) rfl cn))))))
   apply sr (c (assign (L rfl) (ii 0)) rfl cn)
   apply AWp.seq
   apply sr (c (fo 1003 1 [1] hN underlying57 1 tyS55 (q 3)) rfl (c (la hN 57 tyS55 (q 37)) rfl (c (OpJ.val (v':=(i6 (a1.fASNs.length:Int))) (by simp) (lenD underlying55 (L rfl) (q 38))) rfl (c (mv hN (ii 0)) rfl cn))))
   apply AWp.block
   obtain⟨p26,hx36,h⟩:=bindS h
   refine lg (xref21_Minus_L0 a1) (fun s9:Int×Int×(List aSpan)=>([(2,(pt 1002)),(4,(pt 1004)),(6,(pt 1006)),(7,(i6 s9.1)),(38,(qe_aSpan_2 a1.fASNs)),(39,(i6 (a1.fASNs.length:Int))),(40,(i6 s9.2.1))]:EL)) (fun s9:Int×Int×(List aSpan)=>([(1002,bd 57 (e_aResources a0)),(1004,some (.box 57 (.st [.nils,.nils]))),(1006,some (.box 57 (.st [(qe_aRange_6 r8),(.sref 13061 2 0 s9.2.2.length)]))),(13061,some (we_aSpan_101_2 s9.2.2))]:OL)) (fun(p26:(Int×(List aSpan))) e E' O'=>e = .exit 0∧Mat B E' O' ([(2,(pt 1002)),(4,(pt 1004)),(6,(pt 1006)),(7,(i6 p26.1))]:EL) ([(1002,bd 57 (e_aResources a0)),(1004,some (.box 57 (.st [.nils,.nils]))),(1006,some (.box 57 (.st [(qe_aRange_6 r8),(.sref 13061 2 0 p26.2.length)]))),(13061,some (we_aSpan_101_2 p26.2))]:OL)) hx36 (Mat.trans (Mat.beginP (n:=13061) (e:=101) (sz:=2) (Ts:=[]) (Bs:=[(1006,some (.box 57 (.st [(qe_aRange_6 r8),(.sref 13061 2 0 0)])))]) hB (by decide) (by rfl) (by decide) TwT.nil (TwB.cons (x:=(.st [(qe_aRange_6 r8),.nils])) (by rfl) (Tw.st (TwL.cons (Tw.same _) (TwL.cons (Tw.leaf ⟨rfl,rfl⟩) TwL.nil))) TwB.nil)) (mp [] _ _ hB)) (fun s9 y h => ?_) (fun e E' O' hR => ?_)
   ·unfold xref21_Minus_L0 at h
    apply sr (c (lss (L rfl) (q 40) (q 39)) rfl cn)
    apply AWp.seq
    apply AWp.cond rfl<;>intro hg27
    ·have h:=ite_t hg27 h
     apply AWp.skip
     apply seqQ_n
     apply AWp.seq
     apply AWp.block
     obtain⟨x28,hx28,h⟩:=bindS h
     apply sr (c (indexD underlying55 tyS101 (idx_some hx28).1 (get_map e_aSpan (idx_some hx28).2) (L rfl) (q 38) (q 40)) rfl (c (loadD tyS101 (by rfl) (by rfl) (L rfl) (q 42)) rfl (cg (alloc hB tyZ101 (nm:=1009) (by decide) (L rfl)) rfl (cg (sB tyS101 (q 9) (q 43)) rfl cn))))
     apply AWp.seq
     apply sr (c (mv hN (q 7)) rfl (c (fo 1009 0 [0] hN underlying101 0 tyS3 (q 9)) rfl (c (la hN 101 tyS3 (q 45)) rfl (c (lss (L rfl) (q 44) (q 46)) rfl cn))))
     refine gh [(2,_),(4,_),(6,_),(7,_),(9,_),(38,_),(39,_),(40,_),(47,_)] [(1002,some _),(1004,some _),(1006,some _),(1009,some _),(13061,some _)] hB rfl rfl (by rfl) ?_
     refine AWp.cut h (fun m31:(List aSpan)=>([(2,(pt 1002)),(4,(pt 1004)),(6,(pt 1006)),(9,(pt 1009)),(38,(qe_aSpan_2 a1.fASNs)),(39,(i6 (a1.fASNs.length:Int))),(40,(i6 s9.2.1))]:EL)) (fun m31:(List aSpan)=>([(1002,bd 57 (e_aResources a0)),(1004,some (.box 57 (.st [.nils,.nils]))),(1006,some (.box 57 (.st [(qe_aRange_6 r8),(.sref 13061 2 0 m31.length)]))),(1009,bd 101 (e_aSpan x28)),(13061,some (we_aSpan_101_2 m31))]:OL)) (fun m31 h E' O' hmat => ?_) (fun j32 hjj32 h => ?_)
     ·apply seqQ_n
      refine AWp.ghost hmat ?_
      apply rg (c (fo 1009 1 [1] hN underlying101 1 tyS3 (q 9)) rfl (c (la hN 101 tyS3 (q 58)) rfl (c (add6 (L rfl) (q 59) (ii 1)) rfl (c (assign (L rfl) (q 60)) rfl cn))))
      apply blkQ_n
      apply seqQ_n
      apply rg (c (add6 (L rfl) (q 40) (ii 1)) rfl (c (mv hN (q 61)) rfl cn))
      obtain rfl:=oi h
      exact⟨rfl,(mp [] _ _ hB)⟩
     ·apply AWp.cond rfl<;>intro hg33
      ·have h:=ite_t hg33 h
       obtain⟨hc34,h⟩:=chk_some h
       apply rg (c (fo 1006 1 [1] hN underlying57 1 tyS55 (q 6)) rfl (c (lb hN 57 _ (.sref 13061 2 0 s9.2.2.length) tyS55 (At.st1 (f:=(.sref 13061 2 0 s9.2.2.length)) (by rfl) (by rfl) (At.here _) (by first | rfl | omega)) (q 48)) rfl (c (mv hN (q 7)) rfl (c (fo 1009 0 [0] hN underlying101 0 tyS3 (q 9)) rfl (c (la hN 101 tyS3 (q 51)) rfl (c (sub6 (L rfl) (q 52) (ii 1)) rfl (c (OpJ.coe (v:=(.st [(i6 s9.1),(i6 (w64 (x28.fFrom-1)))])) (y:=(.st [(.int .i64 s9.1),(.int .i64 (w64 (x28.fFrom-1)))])) (Co.st (CoL.cons (Co.d _) (CoL.cons (Co.d _) CoL.nil))) rfl (OpJ.build (places:=[(0,1),(1,1)]) ⟨underlying101,fun w=>by kernel_rfl⟩ tyZS101 (Opds.cons (q 50) (Opds.cons (q 53) Opds.nil)) (by kernel_rfl) (r:=(.st [(i6 s9.1),(i6 (w64 (x28.fFrom-1)))])) (by rfl) (L rfl))) rfl (c (buildSlice underlying55 tyS101 tyZD101 (by rfl) (by decide) (by decide) (Opds.cons (q 54) Opds.nil) (by kernel_rfl) (es:=([(.st [(.int .i64 s9.1),(.int .i64 (w64 (x28.fFrom-1)))])]:List D)) (by rfl) (by rfl) (by kernel_rfl) (by simp) (L rfl)) rfl (cg (apd hB underlying55 tyE101 1056 e_aSpan s9.2.2 [(aSpan.mk s9.1 (w64 (x28.fFrom-1)))] hc34 (L rfl) (q 49) (q 55)) rfl (c (fo 1006 1 [1] hN underlying57 1 tyS55 (q 6)) rfl (cg (OpJ.storeB (c':=(.st [(qe_aRange_6 r8),(.sref 1056 2 0 ((s9.2.2++[(aSpan.mk s9.1 (w64 (x28.fFrom-1)))]).length))])) tyS55 (SetAt.st1 (f:=(.sref 13061 2 0 s9.2.2.length)) (by rfl) (by rfl) (SetAt.here _ _) (by rfl) (by rfl) (by first | rfl | omega)) (by rfl) (by rfl) (by simp) rfl (q 57) (q 56)) rfl cn)))))))))))
       exact hjj32 _ h _ _ (mp [(13061,1056)] _ _ hB)
      ·have h:=ite_f hg33 h
       apply AWp.skip
       exact hjj32 _ h _ _ (mp [] _ _ hB)
    ·have h:=ite_f hg27 h
     apply AWp.exit
     apply seqQ_e
     obtain rfl:=oi h
     exact⟨(fun hc=>by cases hc),rfl,(mp [] _ _ hB)⟩
   ·obtain⟨rfl,hmat⟩:=hR
    apply blkQ_hit
    apply seqQ_n
    refine AWp.ghost hmat ?_
    apply AWp.seq
    apply sr (c (mv hN (q 7)) rfl (c (leq (L rfl) (q 62) (ii 4294967295)) rfl cn))
    refine gh [(2,_),(4,_),(6,_),(7,_),(63,_)] [(1002,some _),(1004,some _),(1006,some _),(13061,some _)] hB rfl rfl (by rfl) ?_
    refine AWp.cut h (fun m39:(List aSpan)=>([(2,(pt 1002)),(4,(pt 1004)),(6,(pt 1006))]:EL)) (fun m39:(List aSpan)=>([(1002,bd 57 (e_aResources a0)),(1004,some (.box 57 (.st [.nils,.nils]))),(1006,some (.box 57 (.st [(qe_aRange_6 r8),(.sref 13061 2 0 m39.length)]))),(13061,some (we_aSpan_101_2 m39))]:OL)) (fun m39 h E' O' hmat => ?_) (fun j40 hjj40 h => ?_)
    ·apply seqQ_n
     refine AWp.ghost hmat ?_
     apply sr (c (assign (L rfl) Opd.nils) rfl cn)
     apply AWp.seq
     apply sr (c (fo 1002 0 [0] hN underlying57 0 tyS54 (q 2)) rfl (c (la hN 57 tyS54 (q 71)) rfl (c (OpJ.val (v':=(i6 (a0.fAddrs.length:Int))) (by simp) (lenD underlying54 (L rfl) (q 72))) rfl (c (mv hN (ii 0)) rfl cn))))
     apply AWp.block
     obtain⟨p152,hx208,h⟩:=bindS h
     refine lg (xref21_Minus_L1 a0 r8) (fun s41:Int×(List aRange)=>([(2,(pt 1002)),(4,(pt 1004)),(6,(pt 1006)),(10,(.sref 3010 6 0 s41.2.length)),(72,(qe_aRange_6 a0.fAddrs)),(73,(i6 (a0.fAddrs.length:Int))),(74,(i6 s41.1))]:EL)) (fun s41:Int×(List aRange)=>([(1002,bd 57 (e_aResources a0)),(1004,some (.box 57 (.st [.nils,.nils]))),(1006,some (.box 57 (.st [(qe_aRange_6 r8),(.sref 13061 2 0 m39.length)]))),(3010,some (we_aRange_92_6 s41.2)),(13061,some (we_aSpan_101_2 m39))]:OL)) (fun(p152:((List aRange))) e E' O'=>e = .exit 2∧Mat B E' O' ([(2,(pt 1002)),(4,(pt 1004)),(6,(pt 1006)),(10,(.sref 3010 6 0 p152.length))]:EL) ([(1002,bd 57 (e_aResources a0)),(1004,some (.box 57 (.st [.nils,.nils]))),(1006,some (.box 57 (.st [(qe_aRange_6 r8),(.sref 13061 2 0 m39.length)]))),(3010,some (we_aRange_92_6 p152)),(13061,some (we_aSpan_101_2 m39))]:OL)) hx208 (Mat.trans (Mat.beginP (n:=3010) (e:=92) (sz:=6) (Ts:=[(10,(.sref 3010 6 0 0))]) (Bs:=[]) hB (by decide) (by rfl) (by decide) (TwT.cons (x:=.nils) (by rfl) (Tw.leaf ⟨rfl,rfl⟩) TwT.nil) TwB.nil) (mp [] _ _ hB)) (fun s41 y h => ?_) (fun e E' O' hR => ?_)
     ·unfold xref21_Minus_L1 at h
      apply sr (c (lss (L rfl) (q 74) (q 73)) rfl cn)
      apply AWp.seq
      apply AWp.cond rfl<;>intro hg153
      ·have h:=ite_t hg153 h
       apply AWp.skip
       apply seqQ_n
       apply AWp.seq
       apply AWp.block
       obtain⟨x154,hx154,h⟩:=bindS h
       apply sr (c (indexD underlying54 tyS92 (idx_some hx154).1 (get_map e_aRange (idx_some hx154).2) (L rfl) (q 72) (q 74)) rfl (c (loadD tyS92 (by rfl) (by rfl) (L rfl) (q 76)) rfl (cg (alloc hB tyZ92 (nm:=1012) (by decide) (L rfl)) rfl (cg (sB tyS92 (q 12) (q 77)) rfl cn))))
       apply sr (c (fo 1006 0 [0] hN underlying57 0 tyS54 (q 6)) rfl (c (lb hN 57 _ (qe_aRange_6 r8) tyS54 (At.st1 (f:=(qe_aRange_6 r8)) (by rfl) (by rfl) (At.here _) (by first | rfl | omega)) (q 78)) rfl (c (OpJ.val (v':=(i6 (r8.length:Int))) (by simp) (lenD underlying54 (L rfl) (q 79))) rfl (c (mv hN (ii 0)) rfl cn))))
       apply AWp.block
       obtain⟨p188,hx206,h⟩:=bindS h
       refine lg (xref21_Minus_L2 r8 x154) (fun s155:Int×(List aRange)=>([(2,(pt 1002)),(4,(pt 1004)),(6,(pt 1006)),(10,(.sref 3010 6 0 s155.2.length)),(12,(pt 1012)),(72,(qe_aRange_6 a0.fAddrs)),(73,(i6 (a0.fAddrs.length:Int))),(74,(i6 s41.1)),(79,(qe_aRange_6 r8)),(80,(i6 (r8.length:Int))),(81,(i6 s155.1))]:EL)) (fun s155:Int×(List aRange)=>([(1002,bd 57 (e_aResources a0)),(1004,some (.box 57 (.st [.nils,.nils]))),(1006,some (.box 57 (.st [(qe_aRange_6 r8),(.sref 13061 2 0 m39.length)]))),(1012,bd 92 (e_aRange x154)),(3010,some (we_aRange_92_6 s155.2)),(13061,some (we_aSpan_101_2 m39))]:OL)) (fun(p188:((List aRange))) e E' O'=>e = .exit 4∧Mat B E' O' ([(2,(pt 1002)),(4,(pt 1004)),(6,(pt 1006)),(10,(.sref 3010 6 0 p188.length)),(72,(qe_aRange_6 a0.fAddrs)),(73,(i6 (a0.fAddrs.length:Int))),(74,(i6 s41.1))]:EL) ([(1002,bd 57 (e_aResources a0)),(1004,some (.box 57 (.st [.nils,.nils]))),(1006,some (.box 57 (.st [(qe_aRange_6 r8),(.sref 13061 2 0 m39.length)]))),(3010,some (we_aRange_92_6 p188)),(13061,some (we_aSpan_101_2 m39))]:OL)) hx206 (mp [] _ _ hB) (fun s155 y h => ?_) (fun e E' O' hR => ?_)
       ·unfold xref21_Minus_L2 at h
        apply sr (c (lss (L rfl) (q 81) (q 80)) rfl cn)
        apply AWp.seq
        apply AWp.cond rfl<;>intro hg189
        ·have h:=ite_t hg189 h
         apply AWp.skip
         apply seqQ_n
         apply AWp.seq
         apply AWp.block
         obtain⟨x190,hx190,h⟩:=bindS h
         apply sr (c (indexD underlying54 tyS92 (idx_some hx190).1 (get_map e_aRange (idx_some hx190).2) (L rfl) (q 79) (q 81)) rfl (c (loadD tyS92 (by rfl) (by rfl) (L rfl) (q 83)) rfl (cg (alloc hB tyZ92 (nm:=1014) (by decide) (L rfl)) rfl (cg (sB tyS92 (q 14) (q 84)) rfl cn))))
         obtain⟨r191,hr191,h⟩:=bindS h
         obtain⟨r192,hr192,h⟩:=bindS h
         apply sd (c (fo 1012 0 [0] hN underlying92 0 tyS44 (q 12)) rfl (c (la hN 92 tyS44 (q 85)) rfl (c (fo 1014 0 [0] hN underlying92 0 tyS44 (q 14)) rfl (c (la hN 92 tyS44 (q 87)) rfl (cg (cf hB fnOk81 (xref21_greater_ac x154.fFrom x190.fFrom r191 hr191) (L rfl) (OpdL.cons (q 86) (OpdL.cons (q 88) OpdL.nil))) rfl (c (fo 1012 3 [1] hN underlying92 3 tyS44 (q 12)) rfl (c (la hN 92 tyS44 (q 90)) rfl (c (fo 1014 3 [1] hN underlying92 3 tyS44 (q 14)) rfl (c (la hN 92 tyS44 (q 92)) rfl (cg (cf hB fnOk82 (xref21_lesser_ac x154.fTo x190.fTo r192 hr192) (L rfl) (OpdL.cons (q 91) (OpdL.cons (q 93) OpdL.nil))) rfl (cg (alloc hB tyZ44 (nm:=1015) (by decide) (L rfl)) rfl (cg (alloc hB tyZ44 (nm:=1016) (by decide) (L rfl)) rfl (cg (sB tyS44 (q 15) (q 89)) rfl (cg (sB tyS44 (q 16) (q 94)) rfl cn)))))))))))))) (by kernel_rfl) (by kernel_rfl)
         apply AWp.seq
         refine AWp.cut h (fun m195:Bool=>([(2,(pt 1002)),(4,(pt 1004)),(6,(pt 1006)),(10,(.sref 3010 6 0 s155.2.length)),(12,(pt 1012)),(15,(pt 1015)),(16,(pt 1016)),(72,(qe_aRange_6 a0.fAddrs)),(73,(i6 (a0.fAddrs.length:Int))),(74,(i6 s41.1)),(79,(qe_aRange_6 r8)),(80,(i6 (r8.length:Int))),(81,(i6 s155.1)),(107,(bo m195))]:EL)) (fun m195:Bool=>([(1002,bd 57 (e_aResources a0)),(1004,some (.box 57 (.st [.nils,.nils]))),(1006,some (.box 57 (.st [(qe_aRange_6 r8),(.sref 13061 2 0 m39.length)]))),(1012,bd 92 (e_aRange x154)),(1015,bd 44 (e_aAddr r191)),(1016,bd 44 (e_aAddr r192)),(3010,some (we_aRange_92_6 s155.2)),(13061,some (we_aSpan_101_2 m39))]:OL)) (fun m195 h E' O' hmat => ?_) (fun j196 hjj196 h => ?_)
         ·apply seqQ_n
          refine AWp.ghost hmat ?_
          refine AWp.cut h (fun m199:(List aRange)=>([(2,(pt 1002)),(4,(pt 1004)),(6,(pt 1006)),(10,(.sref 3010 6 0 m199.length)),(12,(pt 1012)),(72,(qe_aRange_6 a0.fAddrs)),(73,(i6 (a0.fAddrs.length:Int))),(74,(i6 s41.1)),(79,(qe_aRange_6 r8)),(80,(i6 (r8.length:Int))),(81,(i6 s155.1))]:EL)) (fun m199:(List aRange)=>([(1002,bd 57 (e_aResources a0)),(1004,some (.box 57 (.st [.nils,.nils]))),(1006,some (.box 57 (.st [(qe_aRange_6 r8),(.sref 13061 2 0 m39.length)]))),(1012,bd 92 (e_aRange x154)),(3010,some (we_aRange_92_6 m199)),(13061,some (we_aSpan_101_2 m39))]:OL)) (fun m199 h E' O' hmat => ?_) (fun j200 hjj200 h => ?_)
          ·apply blkQ_n
           apply seqQ_n
           refine AWp.ghost hmat ?_
           apply rg (c (add6 (L rfl) (q 81) (ii 1)) rfl (c (mv hN (q 114)) rfl cn))
           obtain rfl:=oi h
           exact⟨rfl,(mp [] _ _ hB)⟩
          ·apply AWp.cond rfl<;>intro hg201
           ·have h:=ite_t hg201 h
            obtain⟨hc202,h⟩:=chk_some h
            apply rg (c (mv hN (q 10)) rfl (c (lb hN 44 _ _ tyS44 (At.here _) (q 15)) rfl (c (lb hN 44 _ _ tyS44 (At.here _) (q 16)) rfl (c (OpJ.coe (v:=(.st [(.d (e_aAddr r191)),(.d (e_aAddr r192))])) (y:=(.st [(e_aAddr r191),(e_aAddr r192)])) (Co.st (CoL.cons (Co.d _) (CoL.cons (Co.d _) CoL.nil))) rfl (OpJ.build (places:=[(0,3),(3,3)]) ⟨underlying92,fun w=>by kernel_rfl⟩ tyZS92 (Opds.cons (q 109) (Opds.cons (q 110) Opds.nil)) (by kernel_rfl) (r:=(.st [(.d (e_aAddr r191)),(.d (e_aAddr r192))])) (by rfl) (L rfl))) rfl (c (buildSlice underlying54 tyS92 tyZD92 (by rfl) (by decide) (by decide) (Opds.cons (q 111) Opds.nil) (by kernel_rfl) (es:=([(.st [(e_aAddr r191),(e_aAddr r192)])]:List D)) (by rfl) (by rfl) (by kernel_rfl) (by simp) (L rfl)) rfl (cg (apd hB underlying54 tyE92 1113 e_aRange s155.2 [(aRange.mk r191 r192)] hc202 (L rfl) (q 108) (q 112)) rfl (c (assign (L rfl) (q 113)) rfl cn)))))))
            exact hjj200 _ h _ _ (mp [(3010,1113)] _ _ hB)
           ·have h:=ite_f hg201 h
            apply AWp.skip
            exact hjj200 _ h _ _ (mp [] _ _ hB)
         ·rcases bft (x154.fFrom.fV6==x190.fFrom.fV6) with hg203 | hg203
          ·have h:=ite_t hg203 h
           obtain⟨r204,hr204,h⟩:=bindS h
           apply rg (c (fo 1012 0 [0] hN underlying92 0 tyS44 (q 12)) rfl (c (fo 1012 0 [0,0] hN underlying44 0 tyS4 (q 95)) rfl (c (lb hN 92 _ _ tyS4 (At.dst1 (by rfl) (by rfl) (ad _) (by first | rfl | omega)) (q 96)) rfl (c (fo 1014 0 [0] hN underlying92 0 tyS44 (q 14)) rfl (c (fo 1014 0 [0,0] hN underlying44 0 tyS4 (q 98)) rfl (c (lb hN 92 _ _ tyS4 (At.dst1 (by rfl) (by rfl) (ad _) (by first | rfl | omega)) (q 99)) rfl (c (OpJ.eqlB underlying4 (L rfl) (q 97) (q 100)) rfl (c (OpJ.val (v':=.d (.bool true)) (by rw [hg203]<;>rfl) (mv hN (q 101))) rfl (c (gd 102 (lb hN 44 _ _ tyS44 (At.here _) (q 15))) rfl (c (gd 102 (lb hN 44 _ _ tyS44 (At.here _) (q 16))) rfl (cg (gd 102 (cf hB fnOk46 (xref01_Cmp_ac r191 r192 r204 hr204) (L rfl) (OpdL.cons (q 103) (OpdL.cons (q 104) OpdL.nil)))) rfl (c (gd 102 (leq (L rfl) (q 105) (ii 0))) rfl (c (pickT (L rfl) (q 102) (q 106)) rfl cn)))))))))))))
           exact hjj196 _ h _ _ (mp [] _ _ hB)
          ·have h:=ite_f hg203 h
           apply rg (c (fo 1012 0 [0] hN underlying92 0 tyS44 (q 12)) rfl (c (fo 1012 0 [0,0] hN underlying44 0 tyS4 (q 95)) rfl (c (lb hN 92 _ _ tyS4 (At.dst1 (by rfl) (by rfl) (ad _) (by first | rfl | omega)) (q 96)) rfl (c (fo 1014 0 [0] hN underlying92 0 tyS44 (q 14)) rfl (c (fo 1014 0 [0,0] hN underlying44 0 tyS4 (q 98)) rfl (c (lb hN 92 _ _ tyS4 (At.dst1 (by rfl) (by rfl) (ad _) (by first | rfl | omega)) (q 99)) rfl (c (OpJ.eqlB underlying4 (L rfl) (q 97) (q 100)) rfl (c (OpJ.val (v':=.d (.bool false)) (by rw [hg203]<;>rfl) (mv hN (q 101))) rfl (ks 102 (L rfl) (ks 102 (L rfl) (ks 102 (L rfl) (ks 102 (L rfl) (c (pickF (L rfl) (q 102) (Opd.bool false)) rfl cn)))))))))))))
           exact hjj196 _ h _ _ (mp [] _ _ hB)
        ·have h:=ite_f hg189 h
         apply AWp.exit
         apply seqQ_e
         obtain rfl:=oi h
         exact⟨(fun hc=>by cases hc),rfl,(mp [] _ _ hB)⟩
       ·obtain⟨rfl,hmat⟩:=hR
        apply blkQ_hit
        apply blkQ_n
        apply seqQ_n
        refine AWp.ghost hmat ?_
        apply rg (c (add6 (L rfl) (q 74) (ii 1)) rfl (c (mv hN (q 115)) rfl cn))
        obtain rfl:=oi h
        exact⟨rfl,(mp [] _ _ hB)⟩
      ·have h:=ite_f hg153 h
       apply AWp.exit
       apply seqQ_e
       obtain rfl:=oi h
       exact⟨(fun hc=>by cases hc),rfl,(mp [] _ _ hB)⟩
     ·obtain⟨rfl,hmat⟩:=hR
      apply blkQ_hit
      apply seqQ_n
      refine AWp.ghost hmat ?_
      apply sr (c (assign (L rfl) Opd.nils) rfl cn)
      apply AWp.seq
      apply sr (c (fo 1002 1 [1] hN underlying57 1 tyS55 (q 2)) rfl (c (la hN 57 tyS55 (q 116)) rfl (c (OpJ.val (v':=(i6 (a0.fASNs.length:Int))) (by simp) (lenD underlying55 (L rfl) (q 117))) rfl (c (mv hN (ii 0)) rfl cn))))
      apply AWp.block
      obtain⟨p278,hx313,h⟩:=bindS h
      refine lg (xref21_Minus_L3 a0 m39) (fun s209:Int×(List aSpan)=>([(4,(pt 1004)),(6,(pt 1006)),(10,(.sref 3010 6 0 p152.length)),(17,(.sref 3017 2 0 s209.2.length)),(117,(qe_aSpan_2 a0.fASNs)),(118,(i6 (a0.fASNs.length:Int))),(119,(i6 s209.1))]:EL)) (fun s209:Int×(List aSpan)=>([(1004,some (.box 57 (.st [.nils,.nils]))),(1006,some (.box 57 (.st [(qe_aRange_6 r8),(.sref 13061 2 0 m39.length)]))),(3010,some (we_aRange_92_6 p152)),(3017,some (we_aSpan_101_2 s209.2)),(13061,some (we_aSpan_101_2 m39))]:OL)) (fun(p278:((List aSpan))) e E' O'=>e = .exit 6∧Mat B E' O' ([(4,(pt 1004)),(10,(.sref 3010 6 0 p152.length)),(17,(.sref 3017 2 0 p278.length))]:EL) ([(1004,some (.box 57 (.st [.nils,.nils]))),(3010,some (we_aRange_92_6 p152)),(3017,some (we_aSpan_101_2 p278))]:OL)) hx313 (Mat.trans (Mat.beginP (n:=3017) (e:=101) (sz:=2) (Ts:=[(17,(.sref 3017 2 0 0))]) (Bs:=[]) hB (by decide) (by rfl) (by decide) (TwT.cons (x:=.nils) (by rfl) (Tw.leaf ⟨rfl,rfl⟩) TwT.nil) TwB.nil) (mp [] _ _ hB)) (fun s209 y h => ?_) (fun e E' O' hR => ?_)
      ·unfold xref21_Minus_L3 at h
       apply sr (c (lss (L rfl) (q 119) (q 118)) rfl cn)
       apply AWp.seq
       apply AWp.cond rfl<;>intro hg279
       ·have h:=ite_t hg279 h
        apply AWp.skip
        apply seqQ_n
        apply AWp.seq
        apply AWp.block
        obtain⟨x280,hx280,h⟩:=bindS h
        apply sr (c (indexD underlying55 tyS101 (idx_some hx280).1 (get_map e_aSpan (idx_some hx280).2) (L rfl) (q 117) (q 119)) rfl (c (loadD tyS101 (by rfl) (by rfl) (L rfl) (q 121)) rfl (cg (alloc hB tyZ101 (nm:=1019) (by decide) (L rfl)) rfl (cg (sB tyS101 (q 19) (q 122)) rfl cn))))
        apply sr (c (fo 1006 1 [1] hN underlying57 1 tyS55 (q 6)) rfl (c (lb hN 57 _ (.sref 13061 2 0 m39.length) tyS55 (At.st1 (f:=(.sref 13061 2 0 m39.length)) (by rfl) (by rfl) (At.here _) (by first | rfl | omega)) (q 123)) rfl (c (lenS underlying55 (L rfl) (q 124)) rfl (c (mv hN (ii 0)) rfl cn))))
        apply AWp.block
        obtain⟨p300,hx311,h⟩:=bindS h
        refine lg (xref21_Minus_L4 m39 x280) (fun s281:Int×(List aSpan)=>([(4,(pt 1004)),(6,(pt 1006)),(10,(.sref 3010 6 0 p152.length)),(17,(.sref 3017 2 0 s281.2.length)),(19,(pt 1019)),(117,(qe_aSpan_2 a0.fASNs)),(118,(i6 (a0.fASNs.length:Int))),(119,(i6 s209.1)),(124,(.sref 13061 2 0 m39.length)),(125,(i6 (m39.length:Int))),(126,(i6 s281.1))]:EL)) (fun s281:Int×(List aSpan)=>([(1004,some (.box 57 (.st [.nils,.nils]))),(1006,some (.box 57 (.st [(qe_aRange_6 r8),(.sref 13061 2 0 m39.length)]))),(1019,bd 101 (e_aSpan x280)),(3010,some (we_aRange_92_6 p152)),(3017,some (we_aSpan_101_2 s281.2)),(13061,some (we_aSpan_101_2 m39))]:OL)) (fun(p300:((List aSpan))) e E' O'=>e = .exit 8∧Mat B E' O' ([(4,(pt 1004)),(6,(pt 1006)),(10,(.sref 3010 6 0 p152.length)),(17,(.sref 3017 2 0 p300.length)),(117,(qe_aSpan_2 a0.fASNs)),(118,(i6 (a0.fASNs.length:Int))),(119,(i6 s209.1))]:EL) ([(1004,some (.box 57 (.st [.nils,.nils]))),(1006,some (.box 57 (.st [(qe_aRange_6 r8),(.sref 13061 2 0 m39.length)]))),(3010,some (we_aRange_92_6 p152)),(3017,some (we_aSpan_101_2 p300)),(13061,some (we_aSpan_101_2 m39))]:OL)) hx311 (mp [] _ _ hB) (fun s281 y h => ?_) (fun e E' O' hR => ?_)
        ·unfold xref21_Minus_L4 at h
         apply sr (c (lss (L rfl) (q 126) (q 125)) rfl cn)
         apply AWp.seq
         apply AWp.cond rfl<;>intro hg301
         ·have h:=ite_t hg301 h
          apply AWp.skip
          apply seqQ_n
          apply AWp.seq
          apply AWp.block
          obtain⟨x302,hx302,h⟩:=bindS h
          obtain⟨x303,hx303,h⟩:=bindS h
          apply sr (c (OpJ.val (v':=(.ptr 13061 (s281.1.toNat*2) [s281.1.toNat])) (by simp) (indexS underlying55 tyS101 (idx_some hx302).1 (by have:=idx_lt hx302;first | (simpa using this) | ((try simp only [List.length_map] at this);(try simp only [List.length_map]);omega)) (L rfl) (q 124) (q 126))) rfl (c (loadR (e:=101) (sz:=2) tyS101 (get_map e_aSpan (idx_some hx303).2) (o:=0) (At.here _) (by rfl) (by rfl) (by rfl) (L rfl) (q 128)) rfl (cg (alloc hB tyZ101 (nm:=1021) (by decide) (L rfl)) rfl (cg (sB tyS101 (q 21) (q 129)) rfl cn))))
          apply sd (c (fo 1019 0 [0] hN underlying101 0 tyS3 (q 19)) rfl (c (la hN 101 tyS3 (q 130)) rfl (c (fo 1021 0 [0] hN underlying101 0 tyS3 (q 21)) rfl (c (la hN 101 tyS3 (q 132)) rfl (c (OpJ.max (L rfl) (q 131) (q 133)) rfl (c (fo 1019 1 [1] hN underlying101 1 tyS3 (q 19)) rfl (c (la hN 101 tyS3 (q 135)) rfl (c (fo 1021 1 [1] hN underlying101 1 tyS3 (q 21)) rfl (c (la hN 101 tyS3 (q 137)) rfl (c (OpJ.min (L rfl) (q 136) (q 138)) rfl (c (assign (L rfl) (q 134)) rfl (c (assign (L rfl) (q 139)) rfl cn)))))))))))) (by kernel_rfl) (by kernel_rfl)
          apply sr (c (mv hN (q 22)) rfl (c (mv hN (q 23)) rfl (c (leq (L rfl) (q 140) (q 141)) rfl cn)))
          refine gh [(4,_),(6,_),(10,_),(17,_),(19,_),(22,_),(23,_),(117,_),(118,_),(119,_),(124,_),(125,_),(126,_),(142,_)] [(1004,some _),(1006,some _),(1019,some _),(3010,some _),(3017,some _),(13061,some _)] hB rfl rfl (by rfl) ?_
          refine AWp.cut h (fun m306:(List aSpan)=>([(4,(pt 1004)),(6,(pt 1006)),(10,(.sref 3010 6 0 p152.length)),(17,(.sref 3017 2 0 m306.length)),(19,(pt 1019)),(117,(qe_aSpan_2 a0.fASNs)),(118,(i6 (a0.fASNs.length:Int))),(119,(i6 s209.1)),(124,(.sref 13061 2 0 m39.length)),(125,(i6 (m39.length:Int))),(126,(i6 s281.1))]:EL)) (fun m306:(List aSpan)=>([(1004,some (.box 57 (.st [.nils,.nils]))),(1006,some (.box 57 (.st [(qe_aRange_6 r8),(.sref 13061 2 0 m39.length)]))),(1019,bd 101 (e_aSpan x280)),(3010,some (we_aRange_92_6 p152)),(3017,some (we_aSpan_101_2 m306)),(13061,some (we_aSpan_101_2 m39))]:OL)) (fun m306 h E' O' hmat => ?_) (fun j307 hjj307 h => ?_)
          ·apply blkQ_n
           apply seqQ_n
           refine AWp.ghost hmat ?_
           apply rg (c (add6 (L rfl) (q 126) (ii 1)) rfl (c (mv hN (q 149)) rfl cn))
           obtain rfl:=oi h
           exact⟨rfl,(mp [] _ _ hB)⟩
          ·apply AWp.cond rfl<;>intro hg308
           ·have h:=ite_t hg308 h
            obtain⟨hc309,h⟩:=chk_some h
            apply rg (c (mv hN (q 17)) rfl (c (mv hN (q 22)) rfl (c (mv hN (q 23)) rfl (c (OpJ.coe (v:=(.st [(i6 (maxI x280.fFrom x303.fFrom)),(i6 (minI x280.fTo x303.fTo))])) (y:=(.st [(.int .i64 (maxI x280.fFrom x303.fFrom)),(.int .i64 (minI x280.fTo x303.fTo))])) (Co.st (CoL.cons (Co.d _) (CoL.cons (Co.d _) CoL.nil))) rfl (OpJ.build (places:=[(0,1),(1,1)]) ⟨underlying101,fun w=>by kernel_rfl⟩ tyZS101 (Opds.cons (q 144) (Opds.cons (q 145) Opds.nil)) (by kernel_rfl) (r:=(.st [(i6 (maxI x280.fFrom x303.fFrom)),(i6 (minI x280.fTo x303.fTo))])) (by rfl) (L rfl))) rfl (c (buildSlice underlying55 tyS101 tyZD101 (by rfl) (by decide) (by decide) (Opds.cons (q 146) Opds.nil) (by kernel_rfl) (es:=([(.st [(.int .i64 (maxI x280.fFrom x303.fFrom)),(.int .i64 (minI x280.fTo x303.fTo))])]:List D)) (by rfl) (by rfl) (by kernel_rfl) (by simp) (L rfl)) rfl (cg (apd hB underlying55 tyE101 1148 e_aSpan s281.2 [(aSpan.mk (maxI x280.fFrom x303.fFrom) (minI x280.fTo x303.fTo))] hc309 (L rfl) (q 143) (q 147)) rfl (c (assign (L rfl) (q 148)) rfl cn)))))))
            exact hjj307 _ h _ _ (mp [(3017,1148)] _ _ hB)
           ·have h:=ite_f hg308 h
            apply AWp.skip
            exact hjj307 _ h _ _ (mp [] _ _ hB)
         ·have h:=ite_f hg301 h
          apply AWp.exit
          apply seqQ_e
          obtain rfl:=oi h
          exact⟨(fun hc=>by cases hc),rfl,(mp [] _ _ hB)⟩
        ·obtain⟨rfl,hmat⟩:=hR
         apply blkQ_hit
         apply blkQ_n
         apply seqQ_n
         refine AWp.ghost hmat ?_
         apply rg (c (add6 (L rfl) (q 119) (ii 1)) rfl (c (mv hN (q 150)) rfl cn))
         obtain rfl:=oi h
         exact⟨rfl,(mp [] _ _ hB)⟩
       ·have h:=ite_f hg279 h
        apply AWp.exit
        apply seqQ_e
        obtain rfl:=oi h
        exact⟨(fun hc=>by cases hc),rfl,(mp [] _ _ hB)⟩
      ·obtain⟨rfl,hmat⟩:=hR
       apply blkQ_hit
       apply seqQ_n
       refine AWp.ghost hmat ?_
       apply AWp.seq
       refine AWp.ghost (Mat.freezeP (n:=3010) (e:=92) (sz:=6) (es:=p152.map e_aRange) (Ts:=[(10,(qe_aRange_6 p152))]) (Bs:=[]) (by rfl) (TwT.cons (x:=(.sref 3010 6 0 p152.length)) (by rfl) (FrzL.all (by first | rfl | (simp;done) | (simp;omega) | omega)) TwT.nil) TwB.nil) ?_
       refine AWp.ghost (Mat.freezeP (n:=3017) (e:=101) (sz:=2) (es:=p278.map e_aSpan) (Ts:=[(17,(qe_aSpan_2 p278))]) (Bs:=[]) (by rfl) (TwT.cons (x:=(.sref 3017 2 0 p278.length)) (by rfl) (FrzL.all (by first | rfl | (simp;done) | (simp;omega) | omega)) TwT.nil) TwB.nil) ?_
       obtain⟨r314,hr314,h⟩:=bindS h
       apply rg (c (mv hN (q 10)) rfl (c (mv hN (q 17)) rfl (cg (cf hB fnOk54 (xref21_limited_ac p152 p278 r314 hr314) (L rfl) (OpdL.cons (q 151) (OpdL.cons (q 152) OpdL.nil))) rfl (c (extract (by rfl) rfl (L rfl) (q 153)) rfl (c (extract (by rfl) rfl (L rfl) (q 153)) rfl (cg (sB tyS57 (q 4) (q 154)) rfl (c (assign (L rfl) (q 155)) rfl cn)))))))
       apply seqQ_n
       apply AWp.ret
       obtain rfl:=oi h
       exact rt (kp [(4,_),(5,_)] [(1004,some _)] hB rfl rfl (by rfl)) [(.d (e_aResources r314.1)),(i6 r314.2)] (Res.cell (c:=(.d (e_aResources r314.1))) (by rfl) (by rfl) tyS57 (by rfl) (by rfl) (by rfl) (Res.tmp (by rfl) (by rfl) Res.nil)) rfl
    ·apply AWp.cond rfl<;>intro hg315
     ·have h:=ite_t hg315 h
      obtain⟨hc316,h⟩:=chk_some h
      apply rg (c (fo 1006 1 [1] hN underlying57 1 tyS55 (q 6)) rfl (c (lb hN 57 _ (.sref 13061 2 0 p26.2.length) tyS55 (At.st1 (f:=(.sref 13061 2 0 p26.2.length)) (by rfl) (by rfl) (At.here _) (by first | rfl | omega)) (q 64)) rfl (c (mv hN (q 7)) rfl (c (OpJ.coe (v:=(.st [(i6 p26.1),(i6 4294967295)])) (y:=(.st [(.int .i64 p26.1),(.int .i64 4294967295)])) (Co.st (CoL.cons (Co.d _) (CoL.cons (Co.d _) CoL.nil))) rfl (OpJ.build (places:=[(0,1),(1,1)]) ⟨underlying101,fun w=>by kernel_rfl⟩ tyZS101 (Opds.cons (q 66) (Opds.cons (ii 4294967295) Opds.nil)) (by kernel_rfl) (r:=(.st [(i6 p26.1),(i6 4294967295)])) (by rfl) (L rfl))) rfl (c (buildSlice underlying55 tyS101 tyZD101 (by rfl) (by decide) (by decide) (Opds.cons (q 67) Opds.nil) (by kernel_rfl) (es:=([(.st [(.int .i64 p26.1),(.int .i64 4294967295)])]:List D)) (by rfl) (by rfl) (by kernel_rfl) (by simp) (L rfl)) rfl (cg (apd hB underlying55 tyE101 1069 e_aSpan p26.2 [(aSpan.mk p26.1 4294967295)] hc316 (L rfl) (q 65) (q 68)) rfl (c (fo 1006 1 [1] hN underlying57 1 tyS55 (q 6)) rfl (cg (OpJ.storeB (c':=(.st [(qe_aRange_6 r8),(.sref 1069 2 0 ((p26.2++[(aSpan.mk p26.1 4294967295)]).length))])) tyS55 (SetAt.st1 (f:=(.sref 13061 2 0 p26.2.length)) (by rfl) (by rfl) (SetAt.here _ _) (by rfl) (by rfl) (by first | rfl | omega)) (by rfl) (by rfl) (by simp) rfl (q 70) (q 69)) rfl cn))))))))
      exact hjj40 _ h _ _ (mp [(13061,1069)] _ _ hB)
     ·have h:=ite_f hg315 h
      apply AWp.skip
      exact hjj40 _ h _ _ (mp [] _ _ hB)
 ·obtain⟨r317,hr317,h⟩:=bindS h
  rcases bft (!r317) with hg318 | hg318
  ·have h:=ite_t hg318 h
   apply rg (c (lb hN 57 _ _ tyS57 (At.here _) (q 2)) rfl (cg (cf hB fnOk39 (xref21_Valid_ac a0 r317 hr317) (L rfl) (OpdL.cons (q 24) OpdL.nil)) rfl (c (OpJ.not (L rfl) (q 25)) rfl (c (OpJ.val (v':=.d (.bool true)) (by rw [hg318]<;>rfl) (mv hN (q 26))) rfl (ks 27 (L rfl) (ks 27 (L rfl) (ks 27 (L rfl) (c (pickT (L rfl) (q 27) (Opd.bool true)) rfl cn))))))))
   exact hjj6 _ h _ _ (mp [] _ _ hB)
  ·have h:=ite_f hg318 h
   obtain⟨r319,hr319,h⟩:=bindS h
   apply rg (c (lb hN 57 _ _ tyS57 (At.here _) (q 2)) rfl (cg (cf hB fnOk39 (xref21_Valid_ac a0 r317 hr317) (L rfl) (OpdL.cons (q 24) OpdL.nil)) rfl (c (OpJ.not (L rfl) (q 25)) rfl (c (OpJ.val (v':=.d (.bool false)) (by rw [hg318]<;>rfl) (mv hN (q 26))) rfl (c (gd 27 (lb hN 57 _ _ tyS57 (At.here _) (q 3))) rfl (cg (gd 27 (cf hB fnOk39 (xref21_Valid_ac a1 r319 hr319) (L rfl) (OpdL.cons (q 28) OpdL.nil))) rfl (c (gd 27 (OpJ.not (L rfl) (q 29))) rfl (c (pickF (L rfl) (q 27) (q 30)) rfl cn))))))))
   exact hjj6 _ h _ _ (mp [] _ _ hB)
def xref21_Covers (a0:aResources) (a1:aResources):Option (Bool) :=
 (xref21_Minus a1 a0).bind fun r1 =>
 some (((r1.2==0)&&((r1.1.fAddrs.length:Int)==0))&&((r1.1.fASNs.length:Int)==0))
theorem xref21_Covers_ac (a0:aResources) (a1:aResources) (r:Bool) (h:xref21_Covers a0 a1=some r):AC Tryz.prog 40 [(.d (e_aResources a0)),(.d (e_aResources a1))] [] (.d (.bool r)) []:=by
 refine ac2 Tryz.func40 rfl rfl fun B hB hN L => ?_
 delta xref21_Covers at h
 apply sr (cg (OpJ.box hB (nm:=1002) (by decide) (by simp) rfl (L rfl) (q 0)) rfl (cg (OpJ.box hB (nm:=1003) (by decide) (by simp) rfl (L rfl) (q 1)) rfl (c (assign (L rfl) (Opd.bool false)) rfl cn)))
 obtain⟨r1,hr1,h⟩:=bindS h
 apply sr (c (lb hN 57 _ _ tyS57 (At.here _) (q 3)) rfl (c (lb hN 57 _ _ tyS57 (At.here _) (q 2)) rfl (cg (cf hB fnOk70 (xref21_Minus_ac a1 a0 r1 hr1) (L rfl) (OpdL.cons (q 8) (OpdL.cons (q 9) OpdL.nil))) rfl (c (mv hN (q 10)) rfl (c (extract (by rfl) rfl (L rfl) (q 7)) rfl (c (extract (by rfl) rfl (L rfl) (q 7)) rfl (cg (alloc hB tyZ57 (nm:=1005) (by decide) (L rfl)) rfl (cg (sB tyS57 (q 5) (q 11)) rfl (c (assign (L rfl) (q 12)) rfl cn)))))))))
 apply sr (c (mv hN (q 6)) rfl (c (eqlI (L rfl) (q 13) (ii 0)) rfl (c (mv hN (q 14)) rfl (c (oq hN 15 (fo 1005 0 [0] hN underlying57 0 tyS54 (q 5)) (OptL.keep (by rfl) OptL.nil) (GuardV.plain _)) rfl (c (oq hN 15 (la hN 57 tyS54 (q 16)) (OptL.opt OptL.nil) (GuardV.plain _)) rfl (c (oq hN 15 (OpJ.val (v':=(i6 (r1.1.fAddrs.length:Int))) (by simp) (lenD underlying54 (L rfl) (q 17))) (OptL.opt OptL.nil) (GuardV.plain _)) rfl (c (oq hN 15 (eqlI (L rfl) (q 18) (ii 0)) (OptL.opt OptL.nil) (GuardV.plain _)) rfl (c (pickAnd rfl (L rfl) (q 15) (q 19)) rfl (c (mv hN (q 20)) rfl (c (oq hN 21 (fo 1005 1 [1] hN underlying57 1 tyS55 (q 5)) (OptL.keep (by rfl) OptL.nil) (GuardV.plain _)) rfl (c (oq hN 21 (la hN 57 tyS55 (q 22)) (OptL.opt OptL.nil) (GuardV.plain _)) rfl (c (oq hN 21 (OpJ.val (v':=(i6 (r1.1.fASNs.length:Int))) (by simp) (lenD underlying55 (L rfl) (q 23))) (OptL.opt OptL.nil) (GuardV.plain _)) rfl (c (oq hN 21 (eqlI (L rfl) (q 24) (ii 0)) (OptL.opt OptL.nil) (GuardV.plain _)) rfl (c (pickAnd rfl (L rfl) (q 21) (q 25)) rfl (c (assign (L rfl) (q 26)) rfl cn)))))))))))))))
 apply AWp.ret
 obtain rfl:=oi h
 exact rt (kp [(4,_)] [] hB rfl rfl (by rfl)) [(bo (((r1.2==0)&&((r1.1.fAddrs.length:Int)==0))&&((r1.1.fASNs.length:Int)==0)))] (Res.tmp (by rfl) (by rfl) Res.nil) rfl
def xref22_Trusted_L0 (a0:(List aCert)) (a1:(List Int)) (a2:Int) (s2:Int×(List Bool)):Option ((((List Bool)))⊕(Int×(List Bool))) :=
 (if (decide (s2.1<(a0.length:Int)))=true then
 (idx a0 s2.1).bind fun x69 =>
 jn (fun m84:(List Bool) =>
 some (.inr ((w64 (s2.1+1)),m84))) (fun j85 =>
 (if (x69.fIssuer==x69.fKey)=true then
 (xref22_anchored a1 x69.fKey).bind fun r87 =>
 (if r87=true then
 (xref22_current x69.fFrom x69.fUntil a2).bind fun r89 =>
 (if r89=true then
 (xref21_Valid x69.fResources).bind fun r91 =>
 (idx s2.2 s2.1).bind fun x92 =>
 (idx s2.2 s2.1).bind fun x93 =>
 j85 (s2.2.set s2.1.toNat r91)
 else
 (idx s2.2 s2.1).bind fun x94 =>
 (idx s2.2 s2.1).bind fun x95 =>
 j85 (s2.2.set s2.1.toNat false))
 else
 (idx s2.2 s2.1).bind fun x96 =>
 (idx s2.2 s2.1).bind fun x97 =>
 j85 (s2.2.set s2.1.toNat false))
 else
 (idx s2.2 s2.1).bind fun x98 =>
 (idx s2.2 s2.1).bind fun x99 =>
 j85 (s2.2.set s2.1.toNat false)))
 else
 some (.inl s2.2))
def xref22_Trusted_L3 (a0:(List aCert)) (s102:Int×(List Bool)) (s1458:Int×(List Bool)) (x2019:aCert) (s2029:Int×(List Bool)):Option ((((List Bool)))⊕(Int×(List Bool))) :=
 (if (decide (s2029.1<(a0.length:Int)))=true then
 (idx a0 s2029.1).bind fun x2092 =>
 jn (fun m2107:(List Bool) =>
 some (.inr ((w64 (s2029.1+1)),m2107))) (fun j2108 =>
 (idx s2029.2 s1458.1).bind fun x2109 =>
 (idx s2029.2 s1458.1).bind fun x2110 =>
 (if x2110=true then
 (idx s2029.2 s1458.1).bind fun x2112 =>
 (idx s2029.2 s1458.1).bind fun x2113 =>
 j2108 (s2029.2.set s1458.1.toNat true)
 else
 (idx s102.2 s2029.1).bind fun x2114 =>
 (if (x2114&&(x2092.fKey==x2019.fIssuer))=true then
 (xref21_Covers x2092.fResources x2019.fResources).bind fun r2116 =>
 (idx s2029.2 s1458.1).bind fun x2117 =>
 (idx s2029.2 s1458.1).bind fun x2118 =>
 j2108 (s2029.2.set s1458.1.toNat r2116)
 else
 (idx s2029.2 s1458.1).bind fun x2119 =>
 (idx s2029.2 s1458.1).bind fun x2120 =>
 j2108 (s2029.2.set s1458.1.toNat false))))
 else
 some (.inl s2029.2))
def xref22_Trusted_L2 (a0:(List aCert)) (a2:Int) (s102:Int×(List Bool)) (s1458:Int×(List Bool)):Option ((((List Bool)))⊕(Int×(List Bool))) :=
 (if (decide (s1458.1<(a0.length:Int)))=true then
 jn (fun m2017:(List Bool) =>
 some (.inr ((w64 (s1458.1+1)),m2017))) (fun j2018 =>
 (idx a0 s1458.1).bind fun x2019 =>
 jn (fun m2026:Bool =>
 (if m2026=true then
 j2018 s1458.2
 else
 (loop (xref22_Trusted_L3 a0 s102 s1458 x2019) (0,s1458.2)).bind fun p2090 =>
 j2018 p2090)) (fun j2027 =>
 (idx s102.2 s1458.1).bind fun x2123 =>
 (if (x2123 || (x2019.fIssuer==x2019.fKey))=true then
 j2027 true
 else
 (xref22_current x2019.fFrom x2019.fUntil a2).bind fun r2125 =>
 (if (!r2125)=true then
 j2027 true
 else
 (xref21_Valid x2019.fResources).bind fun r2127 =>
 j2027 (!r2127)))))
 else
 some (.inl s1458.2))
def xref22_Trusted_L1 (a0:(List aCert)) (a2:Int) (s102:Int×(List Bool)):Option ((((List Bool)))⊕(Int×(List Bool))) :=
 (if (decide (s102.1<15))=true then
 chk (decide (s102.2.length≤LIM)) <|
 (loop (xref22_Trusted_L2 a0 a2 s102) (0,s102.2)).bind fun p1905 =>
 some (.inr ((w64 (s102.1+1)),p1905))
 else
 some (.inl s102.2))
def xref22_Trusted (a0:(List aCert)) (a1:(List Int)) (a2:Int):Option ((List Bool)) :=
 chk ((decide (0≤(a0.length:Int))&&decide ((a0.length:Int)≤(a0.length:Int))&&decide ((a0.length:Int)≤(LIM:Int)))) <|
 (loop (xref22_Trusted_L0 a0 a1 a2) (0,(List.replicate (a0.length:Int).toNat false))).bind fun p67 =>
 (loop (xref22_Trusted_L1 a0 a2) (0,p67)).bind fun p1455 =>
 some p1455
theorem xref22_Trusted_ac (a0:(List aCert)) (a1:(List Int)) (a2:Int) (r:(List Bool)) (h:xref22_Trusted a0 a1 a2=some r):AC Tryz.prog 15 [(.d (.list 6 (a0.map e_aCert))),(.d (.list 1 (a1.map (eI .i64)))),(.d (.int .i64 a2))] [] (.d (.list 1 (r.map eB))) []:=by
 refine ac2 Tryz.func15 rfl rfl fun B hB hN L => ?_
 delta xref22_Trusted at h
 apply sr (c (assign (L rfl) Opd.nils) rfl cn)
 obtain⟨hc1,h⟩:=chk_some h
 apply sr (c (mv hN (q 0)) rfl (c (OpJ.val (v':=(i6 (a0.length:Int))) (by simp) (lenD underlying22 (L rfl) (q 15))) rfl (cg (OpJ.make hB underlying35 tyE4 tyZD4 (by rfl) (nm:=1017) (by decide) (of_decide_eq_true (and_l2 (and_l2 hc1))) (of_decide_eq_true (and_r2 (and_l2 hc1))) (lim_mul (of_decide_eq_true (and_r2 hc1)) (by decide)) (lim_le (of_decide_eq_true (and_r2 hc1))) (L rfl) (es:=(List.replicate (a0.length:Int).toNat false).map eB) (by rw [List.map_replicate];rfl) (len:=(List.replicate (a0.length:Int).toNat false).length) (by simp) (q 16) (q 16)) rfl (c (assign (L rfl) (q 17)) rfl cn))))
 apply AWp.seq
 apply sr (c (mv hN (q 0)) rfl (c (OpJ.val (v':=(i6 (a0.length:Int))) (by simp) (lenD underlying22 (L rfl) (q 18))) rfl (c (mv hN (ii 0)) rfl cn)))
 apply AWp.block
 obtain⟨p67,hx101,h⟩:=bindS h
 refine lg (xref22_Trusted_L0 a0 a1 a2) (fun s2:Int×(List Bool)=>([(0,(qe_aCert_6 a0)),(1,(qI_1 a1)),(2,(i6 a2)),(7,(.sref 1017 1 0 s2.2.length)),(18,(qe_aCert_6 a0)),(19,(i6 (a0.length:Int))),(20,(i6 s2.1))]:EL)) (fun s2:Int×(List Bool)=>([(1017,some (.row 4 1 (s2.2.map eB)))]:OL)) (fun(p67:((List Bool))) e E' O'=>e = .exit 0∧Mat B E' O' ([(0,(qe_aCert_6 a0)),(2,(i6 a2)),(7,(.sref 1017 1 0 p67.length))]:EL) ([(1017,some (.row 4 1 (p67.map eB)))]:OL)) hx101 (mp [] _ _ hB) (fun s2 y h => ?_) (fun e E' O' hR => ?_)
 ·unfold xref22_Trusted_L0 at h
  apply sr (c (lss (L rfl) (q 20) (q 19)) rfl cn)
  apply AWp.seq
  apply AWp.cond rfl<;>intro hg68
  ·have h:=ite_t hg68 h
   apply AWp.skip
   apply seqQ_n
   apply AWp.seq
   apply AWp.block
   obtain⟨x69,hx69,h⟩:=bindS h
   apply sr (c (mv hN (q 20)) rfl (c (indexD underlying22 tyS59 (idx_some hx69).1 (get_map e_aCert (idx_some hx69).2) (L rfl) (q 18) (q 20)) rfl (c (loadD tyS59 (by rfl) (by rfl) (L rfl) (q 23)) rfl (cg (alloc hB tyZ59 (nm:=1009) (by decide) (L rfl)) rfl (c (assign (L rfl) (q 22)) rfl (cg (sB tyS59 (q 9) (q 24)) rfl cn))))))
   refine gh [(0,_),(1,_),(2,_),(7,_),(8,_),(9,_),(18,_),(19,_),(20,_)] [(1009,some _),(1017,some _)] hB rfl rfl (by rfl) ?_
   refine AWp.cut h (fun m84:(List Bool)=>([(0,(qe_aCert_6 a0)),(1,(qI_1 a1)),(2,(i6 a2)),(7,(.sref 1017 1 0 m84.length)),(18,(qe_aCert_6 a0)),(19,(i6 (a0.length:Int))),(20,(i6 s2.1))]:EL)) (fun m84:(List Bool)=>([(1017,some (.row 4 1 (m84.map eB)))]:OL)) (fun m84 h E' O' hmat => ?_) (fun j85 hjj85 h => ?_)
   ·apply blkQ_n
    apply seqQ_n
    refine AWp.ghost hmat ?_
    apply rg (c (add6 (L rfl) (q 20) (ii 1)) rfl (c (mv hN (q 52)) rfl cn))
    obtain rfl:=oi h
    exact⟨rfl,(mp [] _ _ hB)⟩
   ·rcases bft (x69.fIssuer==x69.fKey) with hg86 | hg86
    ·have h:=ite_t hg86 h
     obtain⟨r87,hr87,h⟩:=bindS h
     rcases bft r87 with hg88 | hg88
     ·have h:=ite_t hg88 h
      obtain⟨r89,hr89,h⟩:=bindS h
      rcases bft r89 with hg90 | hg90
      ·have h:=ite_t hg90 h
       obtain⟨r91,hr91,h⟩:=bindS h
       obtain⟨x92,hx92,h⟩:=bindS h
       obtain⟨x93,hx93,h⟩:=bindS h
       apply rg (c (mv hN (q 7)) rfl (c (mv hN (q 8)) rfl (c (fo 1009 1 [1] hN underlying59 1 tyS3 (q 9)) rfl (c (la hN 59 tyS3 (q 27)) rfl (c (fo 1009 0 [0] hN underlying59 0 tyS3 (q 9)) rfl (c (la hN 59 tyS3 (q 29)) rfl (c (eqlI (L rfl) (q 28) (q 30)) rfl (c (OpJ.val (v':=.d (.bool true)) (by rw [hg86]<;>rfl) (mv hN (q 31))) rfl (c (gd 32 (mv hN (q 1))) rfl (c (gd 32 (fo 1009 0 [0] hN underlying59 0 tyS3 (q 9))) rfl (c (gd 32 (la hN 59 tyS3 (q 34))) rfl (cg (gd 32 (cf hB fnOk37 (xref22_anchored_ac a1 x69.fKey r87 hr87) (L rfl) (OpdL.cons (q 33) (OpdL.cons (q 35) OpdL.nil)))) rfl (c (pickT (L rfl) (q 32) (q 36)) rfl (c (OpJ.val (v':=.d (.bool true)) (by rw [hg88]<;>rfl) (mv hN (q 37))) rfl (c (gd 38 (fo 1009 2 [2] hN underlying59 2 tyS3 (q 9))) rfl (c (gd 38 (la hN 59 tyS3 (q 39))) rfl (c (gd 38 (fo 1009 3 [3] hN underlying59 3 tyS3 (q 9))) rfl (c (gd 38 (la hN 59 tyS3 (q 41))) rfl (c (gd 38 (mv hN (q 2))) rfl (cg (gd 38 (cf hB fnOk38 (xref22_current_ac x69.fFrom x69.fUntil a2 r89 hr89) (L rfl) (OpdL.cons (q 40) (OpdL.cons (q 42) (OpdL.cons (q 43) OpdL.nil))))) rfl (c (pickT (L rfl) (q 38) (q 44)) rfl (c (OpJ.val (v':=.d (.bool true)) (by rw [hg90]<;>rfl) (mv hN (q 45))) rfl (c (gd 46 (fo 1009 4 [4] hN underlying59 4 tyS57 (q 9))) rfl (c (gd 46 (la hN 59 tyS57 (q 47))) rfl (cg (gd 46 (cf hB fnOk39 (xref21_Valid_ac x69.fResources r91 hr91) (L rfl) (OpdL.cons (q 48) OpdL.nil))) rfl (c (pickT (L rfl) (q 46) (q 49)) rfl (c (OpJ.val (v':=(.ptr 1017 (s2.1.toNat*1) [s2.1.toNat])) (by simp) (indexS underlying35 tyS4 (idx_some hx92).1 (by have:=idx_lt hx92;first | (simpa using this) | ((try simp only [List.length_map] at this);(try simp only [List.length_map]);omega)) (L rfl) (q 25) (q 26))) rfl (cg (OpJ.storeR (e:=4) (sz:=1) (es':=(s2.2.set s2.1.toNat r91).map eB) tyS4 (get_map eB (idx_some hx93).2) (o:=0) (SetAt.here _ _) (by rfl) (map_set _ _ _ _) (by rfl) (by rfl) (q 51) (q 50)) rfl cn))))))))))))))))))))))))))))
       exact hjj85 _ h _ _ (Mat.trans (mp [] [(0,(qe_aCert_6 a0)),(1,(qI_1 a1)),(2,(i6 a2)),(7,(.sref 1017 1 0 s2.2.length)),(18,(qe_aCert_6 a0)),(19,(i6 (a0.length:Int))),(20,(i6 s2.1))] [(1017,some (.row 4 1 ((s2.2.set s2.1.toNat r91).map eB)))] hB) (Mat.trans (Mat.lenP (Ts:=[(7,(.sref 1017 1 0 ((s2.2.set s2.1.toNat r91).length)))]) (Bs:=[]) (TwT.cons (x:=(.sref 1017 1 0 s2.2.length)) (by rfl) (Tw.leaf ⟨_,_,_,_,_,rfl,rfl,(by first | rfl | (simp;done) | (simp;omega) | omega)⟩) TwT.nil) TwB.nil) (mp [] _ _ hB)))
      ·have h:=ite_f hg90 h
       obtain⟨x94,hx94,h⟩:=bindS h
       obtain⟨x95,hx95,h⟩:=bindS h
       apply rg (c (mv hN (q 7)) rfl (c (mv hN (q 8)) rfl (c (fo 1009 1 [1] hN underlying59 1 tyS3 (q 9)) rfl (c (la hN 59 tyS3 (q 27)) rfl (c (fo 1009 0 [0] hN underlying59 0 tyS3 (q 9)) rfl (c (la hN 59 tyS3 (q 29)) rfl (c (eqlI (L rfl) (q 28) (q 30)) rfl (c (OpJ.val (v':=.d (.bool true)) (by rw [hg86]<;>rfl) (mv hN (q 31))) rfl (c (gd 32 (mv hN (q 1))) rfl (c (gd 32 (fo 1009 0 [0] hN underlying59 0 tyS3 (q 9))) rfl (c (gd 32 (la hN 59 tyS3 (q 34))) rfl (cg (gd 32 (cf hB fnOk37 (xref22_anchored_ac a1 x69.fKey r87 hr87) (L rfl) (OpdL.cons (q 33) (OpdL.cons (q 35) OpdL.nil)))) rfl (c (pickT (L rfl) (q 32) (q 36)) rfl (c (OpJ.val (v':=.d (.bool true)) (by rw [hg88]<;>rfl) (mv hN (q 37))) rfl (c (gd 38 (fo 1009 2 [2] hN underlying59 2 tyS3 (q 9))) rfl (c (gd 38 (la hN 59 tyS3 (q 39))) rfl (c (gd 38 (fo 1009 3 [3] hN underlying59 3 tyS3 (q 9))) rfl (c (gd 38 (la hN 59 tyS3 (q 41))) rfl (c (gd 38 (mv hN (q 2))) rfl (cg (gd 38 (cf hB fnOk38 (xref22_current_ac x69.fFrom x69.fUntil a2 r89 hr89) (L rfl) (OpdL.cons (q 40) (OpdL.cons (q 42) (OpdL.cons (q 43) OpdL.nil))))) rfl (c (pickT (L rfl) (q 38) (q 44)) rfl (c (OpJ.val (v':=.d (.bool false)) (by rw [hg90]<;>rfl) (mv hN (q 45))) rfl (ks 46 (L rfl) (ks 46 (L rfl) (ks 46 (L rfl) (c (pickF (L rfl) (q 46) (Opd.bool false)) rfl (c (OpJ.val (v':=(.ptr 1017 (s2.1.toNat*1) [s2.1.toNat])) (by simp) (indexS underlying35 tyS4 (idx_some hx94).1 (by have:=idx_lt hx94;first | (simpa using this) | ((try simp only [List.length_map] at this);(try simp only [List.length_map]);omega)) (L rfl) (q 25) (q 26))) rfl (cg (OpJ.storeR (e:=4) (sz:=1) (es':=(s2.2.set s2.1.toNat false).map eB) tyS4 (get_map eB (idx_some hx95).2) (o:=0) (SetAt.here _ _) (by rfl) (map_set _ _ _ _) (by rfl) (by rfl) (q 51) (q 50)) rfl cn))))))))))))))))))))))))))))
       exact hjj85 _ h _ _ (Mat.trans (mp [] [(0,(qe_aCert_6 a0)),(1,(qI_1 a1)),(2,(i6 a2)),(7,(.sref 1017 1 0 s2.2.length)),(18,(qe_aCert_6 a0)),(19,(i6 (a0.length:Int))),(20,(i6 s2.1))] [(1017,some (.row 4 1 ((s2.2.set s2.1.toNat false).map eB)))] hB) (Mat.trans (Mat.lenP (Ts:=[(7,(.sref 1017 1 0 ((s2.2.set s2.1.toNat false).length)))]) (Bs:=[]) (TwT.cons (x:=(.sref 1017 1 0 s2.2.length)) (by rfl) (Tw.leaf ⟨_,_,_,_,_,rfl,rfl,(by first | rfl | (simp;done) | (simp;omega) | omega)⟩) TwT.nil) TwB.nil) (mp [] _ _ hB)))
     ·have h:=ite_f hg88 h
      obtain⟨x96,hx96,h⟩:=bindS h
      obtain⟨x97,hx97,h⟩:=bindS h
      apply rg (c (mv hN (q 7)) rfl (c (mv hN (q 8)) rfl (c (fo 1009 1 [1] hN underlying59 1 tyS3 (q 9)) rfl (c (la hN 59 tyS3 (q 27)) rfl (c (fo 1009 0 [0] hN underlying59 0 tyS3 (q 9)) rfl (c (la hN 59 tyS3 (q 29)) rfl (c (eqlI (L rfl) (q 28) (q 30)) rfl (c (OpJ.val (v':=.d (.bool true)) (by rw [hg86]<;>rfl) (mv hN (q 31))) rfl (c (gd 32 (mv hN (q 1))) rfl (c (gd 32 (fo 1009 0 [0] hN underlying59 0 tyS3 (q 9))) rfl (c (gd 32 (la hN 59 tyS3 (q 34))) rfl (cg (gd 32 (cf hB fnOk37 (xref22_anchored_ac a1 x69.fKey r87 hr87) (L rfl) (OpdL.cons (q 33) (OpdL.cons (q 35) OpdL.nil)))) rfl (c (pickT (L rfl) (q 32) (q 36)) rfl (c (OpJ.val (v':=.d (.bool false)) (by rw [hg88]<;>rfl) (mv hN (q 37))) rfl (ks 38 (L rfl) (ks 38 (L rfl) (ks 38 (L rfl) (ks 38 (L rfl) (ks 38 (L rfl) (ks 38 (L rfl) (c (pickF (L rfl) (q 38) (Opd.bool false)) rfl (c (mv hN (q 45)) rfl (ks 46 (L rfl) (ks 46 (L rfl) (ks 46 (L rfl) (c (pickF (L rfl) (q 46) (Opd.bool false)) rfl (c (OpJ.val (v':=(.ptr 1017 (s2.1.toNat*1) [s2.1.toNat])) (by simp) (indexS underlying35 tyS4 (idx_some hx96).1 (by have:=idx_lt hx96;first | (simpa using this) | ((try simp only [List.length_map] at this);(try simp only [List.length_map]);omega)) (L rfl) (q 25) (q 26))) rfl (cg (OpJ.storeR (e:=4) (sz:=1) (es':=(s2.2.set s2.1.toNat false).map eB) tyS4 (get_map eB (idx_some hx97).2) (o:=0) (SetAt.here _ _) (by rfl) (map_set _ _ _ _) (by rfl) (by rfl) (q 51) (q 50)) rfl cn))))))))))))))))))))))))))))
      exact hjj85 _ h _ _ (Mat.trans (mp [] [(0,(qe_aCert_6 a0)),(1,(qI_1 a1)),(2,(i6 a2)),(7,(.sref 1017 1 0 s2.2.length)),(18,(qe_aCert_6 a0)),(19,(i6 (a0.length:Int))),(20,(i6 s2.1))] [(1017,some (.row 4 1 ((s2.2.set s2.1.toNat false).map eB)))] hB) (Mat.trans (Mat.lenP (Ts:=[(7,(.sref 1017 1 0 ((s2.2.set s2.1.toNat false).length)))]) (Bs:=[]) (TwT.cons (x:=(.sref 1017 1 0 s2.2.length)) (by rfl) (Tw.leaf ⟨_,_,_,_,_,rfl,rfl,(by first | rfl | (simp;done) | (simp;omega) | omega)⟩) TwT.nil) TwB.nil) (mp [] _ _ hB)))
    ·have h:=ite_f hg86 h
     obtain⟨x98,hx98,h⟩:=bindS h
     obtain⟨x99,hx99,h⟩:=bindS h
     apply rg (c (mv hN (q 7)) rfl (c (mv hN (q 8)) rfl (c (fo 1009 1 [1] hN underlying59 1 tyS3 (q 9)) rfl (c (la hN 59 tyS3 (q 27)) rfl (c (fo 1009 0 [0] hN underlying59 0 tyS3 (q 9)) rfl (c (la hN 59 tyS3 (q 29)) rfl (c (eqlI (L rfl) (q 28) (q 30)) rfl (c (OpJ.val (v':=.d (.bool false)) (by rw [hg86]<;>rfl) (mv hN (q 31))) rfl (ks 32 (L rfl) (ks 32 (L rfl) (ks 32 (L rfl) (ks 32 (L rfl) (c (pickF (L rfl) (q 32) (Opd.bool false)) rfl (c (mv hN (q 37)) rfl (ks 38 (L rfl) (ks 38 (L rfl) (ks 38 (L rfl) (ks 38 (L rfl) (ks 38 (L rfl) (ks 38 (L rfl) (c (pickF (L rfl) (q 38) (Opd.bool false)) rfl (c (mv hN (q 45)) rfl (ks 46 (L rfl) (ks 46 (L rfl) (ks 46 (L rfl) (c (pickF (L rfl) (q 46) (Opd.bool false)) rfl (c (OpJ.val (v':=(.ptr 1017 (s2.1.toNat*1) [s2.1.toNat])) (by simp) (indexS underlying35 tyS4 (idx_some hx98).1 (by have:=idx_lt hx98;first | (simpa using this) | ((try simp only [List.length_map] at this);(try simp only [List.length_map]);omega)) (L rfl) (q 25) (q 26))) rfl (cg (OpJ.storeR (e:=4) (sz:=1) (es':=(s2.2.set s2.1.toNat false).map eB) tyS4 (get_map eB (idx_some hx99).2) (o:=0) (SetAt.here _ _) (by rfl) (map_set _ _ _ _) (by rfl) (by rfl) (q 51) (q 50)) rfl cn))))))))))))))))))))))))))))
     exact hjj85 _ h _ _ (Mat.trans (mp [] [(0,(qe_aCert_6 a0)),(1,(qI_1 a1)),(2,(i6 a2)),(7,(.sref 1017 1 0 s2.2.length)),(18,(qe_aCert_6 a0)),(19,(i6 (a0.length:Int))),(20,(i6 s2.1))] [(1017,some (.row 4 1 ((s2.2.set s2.1.toNat false).map eB)))] hB) (Mat.trans (Mat.lenP (Ts:=[(7,(.sref 1017 1 0 ((s2.2.set s2.1.toNat false).length)))]) (Bs:=[]) (TwT.cons (x:=(.sref 1017 1 0 s2.2.length)) (by rfl) (Tw.leaf ⟨_,_,_,_,_,rfl,rfl,(by first | rfl | (simp;done) | (simp;omega) | omega)⟩) TwT.nil) TwB.nil) (mp [] _ _ hB)))
  ·have h:=ite_f hg68 h
   apply AWp.exit
   apply seqQ_e
   obtain rfl:=oi h
   exact⟨(fun hc=>by cases hc),rfl,(mp [] _ _ hB)⟩
 ·obtain⟨rfl,hmat⟩:=hR
  apply blkQ_hit
  apply seqQ_n
  refine AWp.ghost hmat ?_
  apply AWp.seq
  apply sr (c (mv hN (ii 0)) rfl cn)
  apply AWp.block
  obtain⟨p1455,hx2131,h⟩:=bindS h
  refine lg (xref22_Trusted_L1 a0 a2) (fun s102:Int×(List Bool)=>([(0,(qe_aCert_6 a0)),(2,(i6 a2)),(7,(.sref 3007 1 0 s102.2.length)),(53,(i6 s102.1))]:EL)) (fun s102:Int×(List Bool)=>([(3007,some (.row 4 1 (s102.2.map eB)))]:OL)) (fun(p1455:((List Bool))) e E' O'=>e = .exit 2∧Mat B E' O' ([(7,(.sref 3007 1 0 p1455.length))]:EL) ([(3007,some (.row 4 1 (p1455.map eB)))]:OL)) hx2131 (mp [(3007,1017)] _ _ hB) (fun s102 y h => ?_) (fun e E' O' hR => ?_)
  ·unfold xref22_Trusted_L1 at h
   apply sr (c (lss (L rfl) (q 53) (ii 15)) rfl cn)
   apply AWp.seq
   apply AWp.cond rfl<;>intro hg1456
   ·have h:=ite_t hg1456 h
    apply AWp.skip
    apply seqQ_n
    apply AWp.seq
    apply AWp.block
    apply AWp.seq
    refine AWp.ghost (Mat.freezeP (n:=3007) (e:=4) (sz:=1) (es:=s102.2.map eB) (Ts:=[(7,(.d (.list 1 (s102.2.map eB))))]) (Bs:=[]) (by rfl) (TwT.cons (x:=(.sref 3007 1 0 s102.2.length)) (by rfl) (FrzL.all (by first | rfl | (simp;done) | (simp;omega) | omega)) TwT.nil) TwB.nil) ?_
    obtain⟨hc1457,h⟩:=chk_some h
    apply rg (c (mv hN (q 7)) rfl (cg (OpJ.appendN hB underlying35 tyE4 (nm:=1056) (by decide) (ys:=s102.2.map eB) (len:=s102.2.length) (by simp) (map_sz (f:=eB) (fun _=>rfl)) (by rw [List.length_map];exact lim_mulN hc1457 (by decide)) (by rw [List.length_map];exact lim_leN hc1457) (L rfl) Opd.nils (q 55)) rfl (c (assign (L rfl) (q 56)) rfl cn)))
    apply seqQ_n
    apply AWp.seq
    apply sr (c (mv hN (q 0)) rfl (c (OpJ.val (v':=(i6 (a0.length:Int))) (by simp) (lenD underlying22 (L rfl) (q 57))) rfl (c (mv hN (ii 0)) rfl cn)))
    apply AWp.block
    obtain⟨p1905,hx2129,h⟩:=bindS h
    refine lg (xref22_Trusted_L2 a0 a2 s102) (fun s1458:Int×(List Bool)=>([(0,(qe_aCert_6 a0)),(2,(i6 a2)),(7,(.d (.list 1 (s102.2.map eB)))),(10,(.sref 1056 1 0 s1458.2.length)),(53,(i6 s102.1)),(57,(qe_aCert_6 a0)),(58,(i6 (a0.length:Int))),(59,(i6 s1458.1))]:EL)) (fun s1458:Int×(List Bool)=>([(1056,some (.row 4 1 (s1458.2.map eB)))]:OL)) (fun(p1905:((List Bool))) e E' O'=>e = .exit 4∧Mat B E' O' ([(0,(qe_aCert_6 a0)),(2,(i6 a2)),(10,(.sref 1056 1 0 p1905.length)),(53,(i6 s102.1))]:EL) ([(1056,some (.row 4 1 (p1905.map eB)))]:OL)) hx2129 (mp [] _ _ hB) (fun s1458 y h => ?_) (fun e E' O' hR => ?_)
    ·unfold xref22_Trusted_L2 at h
     apply sr (c (lss (L rfl) (q 59) (q 58)) rfl cn)
     apply AWp.seq
     apply AWp.cond rfl<;>intro hg1906
     ·have h:=ite_t hg1906 h
      apply AWp.skip
      apply seqQ_n
      apply AWp.seq
      refine AWp.cut h (fun m2017:(List Bool)=>([(0,(qe_aCert_6 a0)),(2,(i6 a2)),(7,(.d (.list 1 (s102.2.map eB)))),(10,(.sref 1056 1 0 m2017.length)),(53,(i6 s102.1)),(57,(qe_aCert_6 a0)),(58,(i6 (a0.length:Int))),(59,(i6 s1458.1))]:EL)) (fun m2017:(List Bool)=>([(1056,some (.row 4 1 (m2017.map eB)))]:OL)) (fun m2017 h E' O' hmat => ?_) (fun j2018 hjj2018 h => ?_)
      ·apply seqQ_n
       refine AWp.ghost hmat ?_
       apply rg (c (add6 (L rfl) (q 59) (ii 1)) rfl (c (mv hN (q 125)) rfl cn))
       obtain rfl:=oi h
       exact⟨rfl,(mp [] _ _ hB)⟩
      ·apply AWp.block
       obtain⟨x2019,hx2019,h⟩:=bindS h
       apply sr (c (mv hN (q 59)) rfl (c (indexD underlying22 tyS59 (idx_some hx2019).1 (get_map e_aCert (idx_some hx2019).2) (L rfl) (q 57) (q 59)) rfl (c (loadD tyS59 (by rfl) (by rfl) (L rfl) (q 62)) rfl (cg (alloc hB tyZ59 (nm:=1012) (by decide) (L rfl)) rfl (c (assign (L rfl) (q 61)) rfl (cg (sB tyS59 (q 12) (q 63)) rfl cn))))))
       apply AWp.seq
       apply AWp.seq
       refine AWp.cut h (fun m2026:Bool=>([(0,(qe_aCert_6 a0)),(2,(i6 a2)),(7,(.d (.list 1 (s102.2.map eB)))),(10,(.sref 1056 1 0 s1458.2.length)),(11,(i6 s1458.1)),(12,(pt 1012)),(53,(i6 s102.1)),(57,(qe_aCert_6 a0)),(58,(i6 (a0.length:Int))),(59,(i6 s1458.1)),(89,(bo m2026))]:EL)) (fun m2026:Bool=>([(1012,bd 59 (e_aCert x2019)),(1056,some (.row 4 1 (s1458.2.map eB)))]:OL)) (fun m2026 h E' O' hmat => ?_) (fun j2027 hjj2027 h => ?_)
       ·apply seqQ_n
        refine AWp.ghost hmat ?_
        apply AWp.cond rfl<;>intro hg2028
        ·have h:=ite_t hg2028 h
         apply AWp.exit
         apply seqQ_e
         apply blkQ_hit
         exact hjj2018 _ h _ _ (mp [] _ _ hB)
        ·have h:=ite_f hg2028 h
         apply AWp.skip
         apply seqQ_n
         apply sr (c (mv hN (q 0)) rfl (c (OpJ.val (v':=(i6 (a0.length:Int))) (by simp) (lenD underlying22 (L rfl) (q 90))) rfl (c (mv hN (ii 0)) rfl cn)))
         apply AWp.block
         obtain⟨p2090,hx2122,h⟩:=bindS h
         refine lg (xref22_Trusted_L3 a0 s102 s1458 x2019) (fun s2029:Int×(List Bool)=>([(0,(qe_aCert_6 a0)),(2,(i6 a2)),(7,(.d (.list 1 (s102.2.map eB)))),(10,(.sref 1056 1 0 s2029.2.length)),(11,(i6 s1458.1)),(12,(pt 1012)),(53,(i6 s102.1)),(57,(qe_aCert_6 a0)),(58,(i6 (a0.length:Int))),(59,(i6 s1458.1)),(90,(qe_aCert_6 a0)),(91,(i6 (a0.length:Int))),(92,(i6 s2029.1))]:EL)) (fun s2029:Int×(List Bool)=>([(1012,bd 59 (e_aCert x2019)),(1056,some (.row 4 1 (s2029.2.map eB)))]:OL)) (fun(p2090:((List Bool))) e E' O'=>e = .exit 6∧Mat B E' O' ([(0,(qe_aCert_6 a0)),(2,(i6 a2)),(7,(.d (.list 1 (s102.2.map eB)))),(10,(.sref 1056 1 0 p2090.length)),(53,(i6 s102.1)),(57,(qe_aCert_6 a0)),(58,(i6 (a0.length:Int))),(59,(i6 s1458.1))]:EL) ([(1056,some (.row 4 1 (p2090.map eB)))]:OL)) hx2122 (mp [] _ _ hB) (fun s2029 y h => ?_) (fun e E' O' hR => ?_)
         ·unfold xref22_Trusted_L3 at h
          apply sr (c (lss (L rfl) (q 92) (q 91)) rfl cn)
          apply AWp.seq
          apply AWp.cond rfl<;>intro hg2091
          ·have h:=ite_t hg2091 h
           apply AWp.skip
           apply seqQ_n
           apply AWp.seq
           apply AWp.block
           obtain⟨x2092,hx2092,h⟩:=bindS h
           apply sr (c (mv hN (q 92)) rfl (c (indexD underlying22 tyS59 (idx_some hx2092).1 (get_map e_aCert (idx_some hx2092).2) (L rfl) (q 90) (q 92)) rfl (c (loadD tyS59 (by rfl) (by rfl) (L rfl) (q 95)) rfl (cg (alloc hB tyZ59 (nm:=1014) (by decide) (L rfl)) rfl (c (assign (L rfl) (q 94)) rfl (cg (sB tyS59 (q 14) (q 96)) rfl cn))))))
           refine gh [(0,_),(2,_),(7,_),(10,_),(11,_),(12,_),(13,_),(14,_),(53,_),(57,_),(58,_),(59,_),(90,_),(91,_),(92,_)] [(1012,some _),(1014,some _),(1056,some _)] hB rfl rfl (by rfl) ?_
           refine AWp.cut h (fun m2107:(List Bool)=>([(0,(qe_aCert_6 a0)),(2,(i6 a2)),(7,(.d (.list 1 (s102.2.map eB)))),(10,(.sref 1056 1 0 m2107.length)),(11,(i6 s1458.1)),(12,(pt 1012)),(53,(i6 s102.1)),(57,(qe_aCert_6 a0)),(58,(i6 (a0.length:Int))),(59,(i6 s1458.1)),(90,(qe_aCert_6 a0)),(91,(i6 (a0.length:Int))),(92,(i6 s2029.1))]:EL)) (fun m2107:(List Bool)=>([(1012,bd 59 (e_aCert x2019)),(1056,some (.row 4 1 (m2107.map eB)))]:OL)) (fun m2107 h E' O' hmat => ?_) (fun j2108 hjj2108 h => ?_)
           ·apply blkQ_n
            apply seqQ_n
            refine AWp.ghost hmat ?_
            apply rg (c (add6 (L rfl) (q 92) (ii 1)) rfl (c (mv hN (q 124)) rfl cn))
            obtain rfl:=oi h
            exact⟨rfl,(mp [] _ _ hB)⟩
           ·obtain⟨x2109,hx2109,h⟩:=bindS h
            obtain⟨x2110,hx2110,h⟩:=bindS h
            rcases bft x2110 with hg2111 | hg2111
            ·have h:=ite_t hg2111 h
             obtain⟨x2112,hx2112,h⟩:=bindS h
             obtain⟨x2113,hx2113,h⟩:=bindS h
             apply rg (c (mv hN (q 10)) rfl (c (mv hN (q 11)) rfl (c (mv hN (q 10)) rfl (c (mv hN (q 11)) rfl (c (OpJ.val (v':=(.ptr 1056 (s1458.1.toNat*1) [s1458.1.toNat])) (by simp) (indexS underlying35 tyS4 (idx_some hx2109).1 (by have:=idx_lt hx2109;first | (simpa using this) | ((try simp only [List.length_map] at this);(try simp only [List.length_map]);omega)) (L rfl) (q 99) (q 100))) rfl (c (loadR (e:=4) (sz:=1) tyS4 (get_map eB (idx_some hx2110).2) (o:=0) (At.here _) (by rfl) (by rfl) (by rfl) (L rfl) (q 101)) rfl (c (OpJ.val (v':=.d (.bool true)) (by rw [hg2111]<;>rfl) (mv hN (q 102))) rfl (ks 103 (L rfl) (ks 103 (L rfl) (ks 103 (L rfl) (ks 103 (L rfl) (ks 103 (L rfl) (cg (sV 108 (L rfl)) rfl (cg (sV 108 (L rfl)) rfl (cg (sV 108 (L rfl)) rfl (cg (sV 108 (L rfl)) rfl (cg (sV 108 (L rfl)) rfl (ks 103 (L rfl) (ks 103 (L rfl) (cg (sV 115 (L rfl)) rfl (cg (sV 115 (L rfl)) rfl (cg (sV 115 (L rfl)) rfl (cg (sV 115 (L rfl)) rfl (cg (sV 115 (L rfl)) rfl (ks 103 (L rfl) (c (pickT (L rfl) (q 103) (Opd.bool true)) rfl (c (OpJ.val (v':=(.ptr 1056 (s1458.1.toNat*1) [s1458.1.toNat])) (by simp) (indexS underlying35 tyS4 (idx_some hx2112).1 (by have:=idx_lt hx2112;first | (simpa using this) | ((try simp only [List.length_map] at this);(try simp only [List.length_map]);omega)) (L rfl) (q 97) (q 98))) rfl (cg (OpJ.storeR (e:=4) (sz:=1) (es':=(s2029.2.set s1458.1.toNat true).map eB) tyS4 (get_map eB (idx_some hx2113).2) (o:=0) (SetAt.here _ _) (by rfl) (map_set _ _ _ _) (by rfl) (by rfl) (q 123) (q 122)) rfl cn))))))))))))))))))))))))))))
             exact hjj2108 _ h _ _ (Mat.trans (mp [] [(0,(qe_aCert_6 a0)),(2,(i6 a2)),(7,(.d (.list 1 (s102.2.map eB)))),(10,(.sref 1056 1 0 s2029.2.length)),(11,(i6 s1458.1)),(12,(pt 1012)),(53,(i6 s102.1)),(57,(qe_aCert_6 a0)),(58,(i6 (a0.length:Int))),(59,(i6 s1458.1)),(90,(qe_aCert_6 a0)),(91,(i6 (a0.length:Int))),(92,(i6 s2029.1))] [(1012,bd 59 (e_aCert x2019)),(1056,some (.row 4 1 ((s2029.2.set s1458.1.toNat true).map eB)))] hB) (Mat.trans (Mat.lenP (Ts:=[(10,(.sref 1056 1 0 ((s2029.2.set s1458.1.toNat true).length)))]) (Bs:=[]) (TwT.cons (x:=(.sref 1056 1 0 s2029.2.length)) (by rfl) (Tw.leaf ⟨_,_,_,_,_,rfl,rfl,(by first | rfl | (simp;done) | (simp;omega) | omega)⟩) TwT.nil) TwB.nil) (mp [] _ _ hB)))
            ·have h:=ite_f hg2111 h
             obtain⟨x2114,hx2114,h⟩:=bindS h
             rcases bft (x2114&&(x2092.fKey==x2019.fIssuer)) with hg2115 | hg2115
             ·have h:=ite_t hg2115 h
              obtain⟨r2116,hr2116,h⟩:=bindS h
              obtain⟨x2117,hx2117,h⟩:=bindS h
              obtain⟨x2118,hx2118,h⟩:=bindS h
              apply rg (c (mv hN (q 10)) rfl (c (mv hN (q 11)) rfl (c (mv hN (q 10)) rfl (c (mv hN (q 11)) rfl (c (OpJ.val (v':=(.ptr 1056 (s1458.1.toNat*1) [s1458.1.toNat])) (by simp) (indexS underlying35 tyS4 (idx_some hx2109).1 (by have:=idx_lt hx2109;first | (simpa using this) | ((try simp only [List.length_map] at this);(try simp only [List.length_map]);omega)) (L rfl) (q 99) (q 100))) rfl (c (loadR (e:=4) (sz:=1) tyS4 (get_map eB (idx_some hx2110).2) (o:=0) (At.here _) (by rfl) (by rfl) (by rfl) (L rfl) (q 101)) rfl (c (OpJ.val (v':=.d (.bool false)) (by rw [hg2111]<;>rfl) (mv hN (q 102))) rfl (c (gd 103 (mv hN (q 7))) rfl (c (gd 103 (mv hN (q 13))) rfl (c (gd 103 (indexD underlying35 tyS4 (idx_some hx2114).1 (get_map eB (idx_some hx2114).2) (L rfl) (q 104) (q 105))) rfl (c (gd 103 (loadD tyS4 (by rfl) (by rfl) (L rfl) (q 106))) rfl (c (gd 103 (mv hN (q 107))) rfl (c (oq hN 108 (fo 1014 0 [0] hN underlying59 0 tyS3 (q 14)) (OptL.keep (by rfl) OptL.nil) (GuardV.plain _)) rfl (c (oq hN 108 (la hN 59 tyS3 (q 109)) (OptL.opt OptL.nil) (GuardV.plain _)) rfl (c (oq hN 108 (fo 1012 1 [1] hN underlying59 1 tyS3 (q 12)) (OptL.keep (by rfl) OptL.nil) (GuardV.plain _)) rfl (c (oq hN 108 (la hN 59 tyS3 (q 111)) (OptL.opt OptL.nil) (GuardV.plain _)) rfl (c (oq hN 108 (eqlI (L rfl) (q 110) (q 112)) (OptL.opt (OptL.opt OptL.nil)) (GuardV.plain _)) rfl (c (gd 103 (pickAnd rfl (L rfl) (q 108) (q 113))) rfl (c (gd 103 (OpJ.val (v':=.d (.bool true)) (by rw [hg2115]<;>rfl) (mv hN (q 114)))) rfl (c (gd 115 (fo 1014 4 [4] hN underlying59 4 tyS57 (q 14))) rfl (c (gd 115 (la hN 59 tyS57 (q 116))) rfl (c (gd 115 (fo 1012 4 [4] hN underlying59 4 tyS57 (q 12))) rfl (c (gd 115 (la hN 59 tyS57 (q 118))) rfl (cg (gd 115 (cf hB fnOk40 (xref21_Covers_ac x2092.fResources x2019.fResources r2116 hr2116) (L rfl) (OpdL.cons (q 117) (OpdL.cons (q 119) OpdL.nil)))) rfl (c (gd 103 (pickT (L rfl) (q 115) (q 120))) rfl (c (pickF (L rfl) (q 103) (q 121)) rfl (c (OpJ.val (v':=(.ptr 1056 (s1458.1.toNat*1) [s1458.1.toNat])) (by simp) (indexS underlying35 tyS4 (idx_some hx2117).1 (by have:=idx_lt hx2117;first | (simpa using this) | ((try simp only [List.length_map] at this);(try simp only [List.length_map]);omega)) (L rfl) (q 97) (q 98))) rfl (cg (OpJ.storeR (e:=4) (sz:=1) (es':=(s2029.2.set s1458.1.toNat r2116).map eB) tyS4 (get_map eB (idx_some hx2118).2) (o:=0) (SetAt.here _ _) (by rfl) (map_set _ _ _ _) (by rfl) (by rfl) (q 123) (q 122)) rfl cn))))))))))))))))))))))))))))
              exact hjj2108 _ h _ _ (Mat.trans (mp [] [(0,(qe_aCert_6 a0)),(2,(i6 a2)),(7,(.d (.list 1 (s102.2.map eB)))),(10,(.sref 1056 1 0 s2029.2.length)),(11,(i6 s1458.1)),(12,(pt 1012)),(53,(i6 s102.1)),(57,(qe_aCert_6 a0)),(58,(i6 (a0.length:Int))),(59,(i6 s1458.1)),(90,(qe_aCert_6 a0)),(91,(i6 (a0.length:Int))),(92,(i6 s2029.1))] [(1012,bd 59 (e_aCert x2019)),(1056,some (.row 4 1 ((s2029.2.set s1458.1.toNat r2116).map eB)))] hB) (Mat.trans (Mat.lenP (Ts:=[(10,(.sref 1056 1 0 ((s2029.2.set s1458.1.toNat r2116).length)))]) (Bs:=[]) (TwT.cons (x:=(.sref 1056 1 0 s2029.2.length)) (by rfl) (Tw.leaf ⟨_,_,_,_,_,rfl,rfl,(by first | rfl | (simp;done) | (simp;omega) | omega)⟩) TwT.nil) TwB.nil) (mp [] _ _ hB)))
             ·have h:=ite_f hg2115 h
              obtain⟨x2119,hx2119,h⟩:=bindS h
              obtain⟨x2120,hx2120,h⟩:=bindS h
              apply rg (c (mv hN (q 10)) rfl (c (mv hN (q 11)) rfl (c (mv hN (q 10)) rfl (c (mv hN (q 11)) rfl (c (OpJ.val (v':=(.ptr 1056 (s1458.1.toNat*1) [s1458.1.toNat])) (by simp) (indexS underlying35 tyS4 (idx_some hx2109).1 (by have:=idx_lt hx2109;first | (simpa using this) | ((try simp only [List.length_map] at this);(try simp only [List.length_map]);omega)) (L rfl) (q 99) (q 100))) rfl (c (loadR (e:=4) (sz:=1) tyS4 (get_map eB (idx_some hx2110).2) (o:=0) (At.here _) (by rfl) (by rfl) (by rfl) (L rfl) (q 101)) rfl (c (OpJ.val (v':=.d (.bool false)) (by rw [hg2111]<;>rfl) (mv hN (q 102))) rfl (c (gd 103 (mv hN (q 7))) rfl (c (gd 103 (mv hN (q 13))) rfl (c (gd 103 (indexD underlying35 tyS4 (idx_some hx2114).1 (get_map eB (idx_some hx2114).2) (L rfl) (q 104) (q 105))) rfl (c (gd 103 (loadD tyS4 (by rfl) (by rfl) (L rfl) (q 106))) rfl (c (gd 103 (mv hN (q 107))) rfl (c (oq hN 108 (fo 1014 0 [0] hN underlying59 0 tyS3 (q 14)) (OptL.keep (by rfl) OptL.nil) (GuardV.plain _)) rfl (c (oq hN 108 (la hN 59 tyS3 (q 109)) (OptL.opt OptL.nil) (GuardV.plain _)) rfl (c (oq hN 108 (fo 1012 1 [1] hN underlying59 1 tyS3 (q 12)) (OptL.keep (by rfl) OptL.nil) (GuardV.plain _)) rfl (c (oq hN 108 (la hN 59 tyS3 (q 111)) (OptL.opt OptL.nil) (GuardV.plain _)) rfl (c (oq hN 108 (eqlI (L rfl) (q 110) (q 112)) (OptL.opt (OptL.opt OptL.nil)) (GuardV.plain _)) rfl (c (gd 103 (pickAnd rfl (L rfl) (q 108) (q 113))) rfl (c (gd 103 (OpJ.val (v':=.d (.bool false)) (by rw [hg2115]<;>rfl) (mv hN (q 114)))) rfl (ks 115 (L rfl) (ks 115 (L rfl) (ks 115 (L rfl) (ks 115 (L rfl) (ks 115 (L rfl) (c (gd 103 (pickF (L rfl) (q 115) (Opd.bool false))) rfl (c (pickF (L rfl) (q 103) (q 121)) rfl (c (OpJ.val (v':=(.ptr 1056 (s1458.1.toNat*1) [s1458.1.toNat])) (by simp) (indexS underlying35 tyS4 (idx_some hx2119).1 (by have:=idx_lt hx2119;first | (simpa using this) | ((try simp only [List.length_map] at this);(try simp only [List.length_map]);omega)) (L rfl) (q 97) (q 98))) rfl (cg (OpJ.storeR (e:=4) (sz:=1) (es':=(s2029.2.set s1458.1.toNat false).map eB) tyS4 (get_map eB (idx_some hx2120).2) (o:=0) (SetAt.here _ _) (by rfl) (map_set _ _ _ _) (by rfl) (by rfl) (q 123) (q 122)) rfl cn))))))))))))))))))))))))))))
              exact hjj2108 _ h _ _ (Mat.trans (mp [] [(0,(qe_aCert_6 a0)),(2,(i6 a2)),(7,(.d (.list 1 (s102.2.map eB)))),(10,(.sref 1056 1 0 s2029.2.length)),(11,(i6 s1458.1)),(12,(pt 1012)),(53,(i6 s102.1)),(57,(qe_aCert_6 a0)),(58,(i6 (a0.length:Int))),(59,(i6 s1458.1)),(90,(qe_aCert_6 a0)),(91,(i6 (a0.length:Int))),(92,(i6 s2029.1))] [(1012,bd 59 (e_aCert x2019)),(1056,some (.row 4 1 ((s2029.2.set s1458.1.toNat false).map eB)))] hB) (Mat.trans (Mat.lenP (Ts:=[(10,(.sref 1056 1 0 ((s2029.2.set s1458.1.toNat false).length)))]) (Bs:=[]) (TwT.cons (x:=(.sref 1056 1 0 s2029.2.length)) (by rfl) (Tw.leaf ⟨_,_,_,_,_,rfl,rfl,(by first | rfl | (simp;done) | (simp;omega) | omega)⟩) TwT.nil) TwB.nil) (mp [] _ _ hB)))
          ·have h:=ite_f hg2091 h
           apply AWp.exit
           apply seqQ_e
           obtain rfl:=oi h
           exact⟨(fun hc=>by cases hc),rfl,(mp [] _ _ hB)⟩
         ·obtain⟨rfl,hmat⟩:=hR
          apply blkQ_hit
          apply blkQ_n
          exact hjj2018 _ h _ _ (Mat.trans hmat (mp [] _ _ hB))
       ·obtain⟨x2123,hx2123,h⟩:=bindS h
        rcases bft (x2123 || (x2019.fIssuer==x2019.fKey)) with hg2124 | hg2124
        ·have h:=ite_t hg2124 h
         apply rg (c (mv hN (q 7)) rfl (c (mv hN (q 11)) rfl (c (indexD underlying35 tyS4 (idx_some hx2123).1 (get_map eB (idx_some hx2123).2) (L rfl) (q 64) (q 65)) rfl (c (loadD tyS4 (by rfl) (by rfl) (L rfl) (q 66)) rfl (c (mv hN (q 67)) rfl (c (oq hN 68 (fo 1012 1 [1] hN underlying59 1 tyS3 (q 12)) (OptL.keep (by rfl) OptL.nil) (GuardV.plain _)) rfl (c (oq hN 68 (la hN 59 tyS3 (q 69)) (OptL.opt OptL.nil) (GuardV.plain _)) rfl (c (oq hN 68 (fo 1012 0 [0] hN underlying59 0 tyS3 (q 12)) (OptL.keep (by rfl) OptL.nil) (GuardV.plain _)) rfl (c (oq hN 68 (la hN 59 tyS3 (q 71)) (OptL.opt OptL.nil) (GuardV.plain _)) rfl (c (oq hN 68 (eqlI (L rfl) (q 70) (q 72)) (OptL.opt (OptL.opt OptL.nil)) (GuardV.plain _)) rfl (c (pickOr rfl (L rfl) (q 68) (q 73)) rfl (c (OpJ.val (v':=.d (.bool true)) (by rw [hg2124]<;>rfl) (mv hN (q 74))) rfl (ks 75 (L rfl) (ks 75 (L rfl) (ks 75 (L rfl) (ks 75 (L rfl) (ks 75 (L rfl) (ks 75 (L rfl) (ks 75 (L rfl) (c (pickT (L rfl) (q 75) (Opd.bool true)) rfl (c (mv hN (q 83)) rfl (ks 84 (L rfl) (ks 84 (L rfl) (ks 84 (L rfl) (ks 84 (L rfl) (c (pickT (L rfl) (q 84) (Opd.bool true)) rfl cn))))))))))))))))))))))))))
         exact hjj2027 _ h _ _ (mp [] _ _ hB)
        ·have h:=ite_f hg2124 h
         obtain⟨r2125,hr2125,h⟩:=bindS h
         rcases bft (!r2125) with hg2126 | hg2126
         ·have h:=ite_t hg2126 h
          apply rg (c (mv hN (q 7)) rfl (c (mv hN (q 11)) rfl (c (indexD underlying35 tyS4 (idx_some hx2123).1 (get_map eB (idx_some hx2123).2) (L rfl) (q 64) (q 65)) rfl (c (loadD tyS4 (by rfl) (by rfl) (L rfl) (q 66)) rfl (c (mv hN (q 67)) rfl (c (oq hN 68 (fo 1012 1 [1] hN underlying59 1 tyS3 (q 12)) (OptL.keep (by rfl) OptL.nil) (GuardV.plain _)) rfl (c (oq hN 68 (la hN 59 tyS3 (q 69)) (OptL.opt OptL.nil) (GuardV.plain _)) rfl (c (oq hN 68 (fo 1012 0 [0] hN underlying59 0 tyS3 (q 12)) (OptL.keep (by rfl) OptL.nil) (GuardV.plain _)) rfl (c (oq hN 68 (la hN 59 tyS3 (q 71)) (OptL.opt OptL.nil) (GuardV.plain _)) rfl (c (oq hN 68 (eqlI (L rfl) (q 70) (q 72)) (OptL.opt (OptL.opt OptL.nil)) (GuardV.plain _)) rfl (c (pickOr rfl (L rfl) (q 68) (q 73)) rfl (c (OpJ.val (v':=.d (.bool false)) (by rw [hg2124]<;>rfl) (mv hN (q 74))) rfl (c (gd 75 (fo 1012 2 [2] hN underlying59 2 tyS3 (q 12))) rfl (c (gd 75 (la hN 59 tyS3 (q 76))) rfl (c (gd 75 (fo 1012 3 [3] hN underlying59 3 tyS3 (q 12))) rfl (c (gd 75 (la hN 59 tyS3 (q 78))) rfl (c (gd 75 (mv hN (q 2))) rfl (cg (gd 75 (cf hB fnOk38 (xref22_current_ac x2019.fFrom x2019.fUntil a2 r2125 hr2125) (L rfl) (OpdL.cons (q 77) (OpdL.cons (q 79) (OpdL.cons (q 80) OpdL.nil))))) rfl (c (gd 75 (OpJ.not (L rfl) (q 81))) rfl (c (pickF (L rfl) (q 75) (q 82)) rfl (c (OpJ.val (v':=.d (.bool true)) (by rw [hg2126]<;>rfl) (mv hN (q 83))) rfl (ks 84 (L rfl) (ks 84 (L rfl) (ks 84 (L rfl) (ks 84 (L rfl) (c (pickT (L rfl) (q 84) (Opd.bool true)) rfl cn))))))))))))))))))))))))))
          exact hjj2027 _ h _ _ (mp [] _ _ hB)
         ·have h:=ite_f hg2126 h
          obtain⟨r2127,hr2127,h⟩:=bindS h
          apply rg (c (mv hN (q 7)) rfl (c (mv hN (q 11)) rfl (c (indexD underlying35 tyS4 (idx_some hx2123).1 (get_map eB (idx_some hx2123).2) (L rfl) (q 64) (q 65)) rfl (c (loadD tyS4 (by rfl) (by rfl) (L rfl) (q 66)) rfl (c (mv hN (q 67)) rfl (c (oq hN 68 (fo 1012 1 [1] hN underlying59 1 tyS3 (q 12)) (OptL.keep (by rfl) OptL.nil) (GuardV.plain _)) rfl (c (oq hN 68 (la hN 59 tyS3 (q 69)) (OptL.opt OptL.nil) (GuardV.plain _)) rfl (c (oq hN 68 (fo 1012 0 [0] hN underlying59 0 tyS3 (q 12)) (OptL.keep (by rfl) OptL.nil) (GuardV.plain _)) rfl (c (oq hN 68 (la hN 59 tyS3 (q 71)) (OptL.opt OptL.nil) (GuardV.plain _)) rfl (c (oq hN 68 (eqlI (L rfl) (q 70) (q 72)) (OptL.opt (OptL.opt OptL.nil)) (GuardV.plain _)) rfl (c (pickOr rfl (L rfl) (q 68) (q 73)) rfl (c (OpJ.val (v':=.d (.bool false)) (by rw [hg2124]<;>rfl) (mv hN (q 74))) rfl (c (gd 75 (fo 1012 2 [2] hN underlying59 2 tyS3 (q 12))) rfl (c (gd 75 (la hN 59 tyS3 (q 76))) rfl (c (gd 75 (fo 1012 3 [3] hN underlying59 3 tyS3 (q 12))) rfl (c (gd 75 (la hN 59 tyS3 (q 78))) rfl (c (gd 75 (mv hN (q 2))) rfl (cg (gd 75 (cf hB fnOk38 (xref22_current_ac x2019.fFrom x2019.fUntil a2 r2125 hr2125) (L rfl) (OpdL.cons (q 77) (OpdL.cons (q 79) (OpdL.cons (q 80) OpdL.nil))))) rfl (c (gd 75 (OpJ.not (L rfl) (q 81))) rfl (c (pickF (L rfl) (q 75) (q 82)) rfl (c (OpJ.val (v':=.d (.bool false)) (by rw [hg2126]<;>rfl) (mv hN (q 83))) rfl (c (gd 84 (fo 1012 4 [4] hN underlying59 4 tyS57 (q 12))) rfl (c (gd 84 (la hN 59 tyS57 (q 85))) rfl (cg (gd 84 (cf hB fnOk39 (xref21_Valid_ac x2019.fResources r2127 hr2127) (L rfl) (OpdL.cons (q 86) OpdL.nil))) rfl (c (gd 84 (OpJ.not (L rfl) (q 87))) rfl (c (pickF (L rfl) (q 84) (q 88)) rfl cn))))))))))))))))))))))))))
          exact hjj2027 _ h _ _ (mp [] _ _ hB)
     ·have h:=ite_f hg1906 h
      apply AWp.exit
      apply seqQ_e
      obtain rfl:=oi h
      exact⟨(fun hc=>by cases hc),rfl,(mp [] _ _ hB)⟩
    ·obtain⟨rfl,hmat⟩:=hR
     apply blkQ_hit
     apply seqQ_n
     refine AWp.ghost hmat ?_
     apply rg (c (mv hN (q 10)) rfl (c (assign (L rfl) (q 126)) rfl cn))
     apply blkQ_n
     apply seqQ_n
     apply rg (c (add6 (L rfl) (q 53) (ii 1)) rfl (c (mv hN (q 127)) rfl cn))
     obtain rfl:=oi h
     exact⟨rfl,(mp [(3007,1056)] _ _ hB)⟩
   ·have h:=ite_f hg1456 h
    apply AWp.exit
    apply seqQ_e
    obtain rfl:=oi h
    exact⟨(fun hc=>by cases hc),rfl,(mp [] _ _ hB)⟩
  ·obtain⟨rfl,hmat⟩:=hR
   apply blkQ_hit
   apply seqQ_n
   refine AWp.ghost hmat ?_
   apply sr (c (mv hN (q 7)) rfl (c (assign (L rfl) (q 128)) rfl cn))
   apply AWp.ret
   obtain rfl:=oi h
   exact rt (Mat.trans (Mat.freezeP (n:=3007) (e:=4) (sz:=1) (es:=p1455.map eB) (Ts:=[(6,(.d (.list 1 (p1455.map eB))))]) (Bs:=[]) (by rfl) (TwT.cons (x:=(.sref 3007 1 0 p1455.length)) (by rfl) (FrzL.all (by first | rfl | (simp;done) | (simp;omega) | omega)) TwT.nil) TwB.nil) (mp [] [(6,(.d (.list 1 (p1455.map eB))))] [] hB)) [(.d (.list 1 (p1455.map eB)))] (Res.tmp (by rfl) (by rfl) Res.nil) rfl
def xlaw22_sameBools_L0 (a0:(List Bool)) (a1:(List Bool)) (s2:Int):Option (((Unit)⊕(Unit))⊕(Int)) :=
 (if (decide (s2<(a0.length:Int)))=true then
 (idx a0 s2).bind fun x14 =>
 (idx a1 s2).bind fun x15 =>
 (if (x15 != x14)=true then
 some (.inl (.inl ()))
 else
 some (.inr (w64 (s2+1))))
 else
 some (.inl (.inr ())))
def xlaw22_sameBools (a0:(List Bool)) (a1:(List Bool)):Option (Bool) :=
 (if ((a0.length:Int) != (a1.length:Int))=true then
 some false
 else
 (loop (xlaw22_sameBools_L0 a0 a1) 0).bind fun x17=>match x17 with
 | (.inl _) =>
  some false
 | (.inr _) =>
  some true)
theorem xlaw22_sameBools_ac (a0:(List Bool)) (a1:(List Bool)) (r:Bool) (h:xlaw22_sameBools a0 a1=some r):AC Tryz.prog 13 [(.d (.list 1 (a0.map eB))),(.d (.list 1 (a1.map eB)))] [] (.d (.bool r)) []:=by
 refine ac2 Tryz.func13 rfl rfl fun B hB hN L => ?_
 delta xlaw22_sameBools at h
 apply sr (c (assign (L rfl) (Opd.bool false)) rfl cn)
 apply AWp.seq
 apply sr (c (mv hN (q 0)) rfl (c (OpJ.val (v':=(i6 (a0.length:Int))) (by simp) (lenD underlying35 (L rfl) (q 7))) rfl (c (mv hN (q 1)) rfl (c (OpJ.val (v':=(i6 (a1.length:Int))) (by simp) (lenD underlying35 (L rfl) (q 9))) rfl (c (neqI (L rfl) (q 8) (q 10)) rfl cn)))))
 apply AWp.cond rfl<;>intro hg1
 ·have h:=ite_t hg1 h
  apply sr (c (assign (L rfl) (Opd.bool false)) rfl cn)
  apply AWp.ret
  apply seqQ_r
  obtain rfl:=oi h
  exact rt (kp [(4,_)] [] hB rfl rfl (by rfl)) [(bo false)] (Res.tmp (by rfl) (by rfl) Res.nil) rfl
 ·have h:=ite_f hg1 h
  apply AWp.skip
  apply seqQ_n
  apply AWp.seq
  apply sr (c (mv hN (q 0)) rfl (c (OpJ.val (v':=(i6 (a0.length:Int))) (by simp) (lenD underlying35 (L rfl) (q 12))) rfl (c (mv hN (ii 0)) rfl cn)))
  apply AWp.block
  obtain⟨x17,hx18,h⟩:=bindS h
  refine lg (xlaw22_sameBools_L0 a0 a1) (fun s2:Int=>([(1,(.d (.list 1 (a1.map eB)))),(12,(.d (.list 1 (a0.map eB)))),(13,(i6 (a0.length:Int))),(14,(i6 s2))]:EL)) (fun s2:Int=>([]:OL)) (fun(x:(Unit)⊕(Unit)) e E' O'=>match x with | (.inl _p)=>e = .ret∧Mat B E' O' ([(4,(bo false))]:EL) ([]:OL) | (.inr _p)=>e = .exit 0∧Mat B E' O' ([]:EL) ([]:OL)) hx18 (mp [] _ _ hB) (fun s2 y h => ?_) (fun e E' O' hR => ?_)
  ·unfold xlaw22_sameBools_L0 at h
   apply sr (c (lss (L rfl) (q 14) (q 13)) rfl cn)
   apply AWp.seq
   apply AWp.cond rfl<;>intro hg13
   ·have h:=ite_t hg13 h
    apply AWp.skip
    apply seqQ_n
    apply AWp.seq
    apply AWp.block
    obtain⟨x14,hx14,h⟩:=bindS h
    apply sr (c (mv hN (q 14)) rfl (c (indexD underlying35 tyS4 (idx_some hx14).1 (get_map eB (idx_some hx14).2) (L rfl) (q 12) (q 14)) rfl (c (loadD tyS4 (by rfl) (by rfl) (L rfl) (q 17)) rfl (c (assign (L rfl) (q 16)) rfl (c (assign (L rfl) (q 18)) rfl cn)))))
    obtain⟨x15,hx15,h⟩:=bindS h
    apply sr (c (mv hN (q 1)) rfl (c (mv hN (q 5)) rfl (c (indexD underlying35 tyS4 (idx_some hx15).1 (get_map eB (idx_some hx15).2) (L rfl) (q 19) (q 20)) rfl (c (loadD tyS4 (by rfl) (by rfl) (L rfl) (q 21)) rfl (c (mv hN (q 6)) rfl (c (OpJ.neqB underlying4 (L rfl) (q 22) (q 23)) rfl cn))))))
    apply AWp.cond rfl<;>intro hg16
    ·have h:=ite_t hg16 h
     apply sr (c (assign (L rfl) (Opd.bool false)) rfl cn)
     apply AWp.ret
     apply blkQ_r
     apply seqQ_r
     obtain rfl:=oi h
     exact⟨(fun hc=>by cases hc),rfl,(mp [] _ _ hB)⟩
    ·have h:=ite_f hg16 h
     apply AWp.skip
     apply blkQ_n
     apply seqQ_n
     apply rg (c (add6 (L rfl) (q 14) (ii 1)) rfl (c (mv hN (q 25)) rfl cn))
     obtain rfl:=oi h
     exact⟨rfl,(mp [] _ _ hB)⟩
   ·have h:=ite_f hg13 h
    apply AWp.exit
    apply seqQ_e
    obtain rfl:=oi h
    exact⟨(fun hc=>by cases hc),rfl,(mp [] _ _ hB)⟩
  ·rcases x17 with _ | _
   ·obtain⟨rfl,hmat⟩:=hR
    apply blkQ_r
    apply seqQ_r
    obtain rfl:=oi h
    exact rt (Mat.trans hmat (mp [] [(4,(bo false))] [] hB)) [(bo false)] (Res.tmp (by rfl) (by rfl) Res.nil) rfl
   ·obtain⟨rfl,hmat⟩:=hR
    apply blkQ_hit
    apply seqQ_n
    refine AWp.ghost hmat ?_
    apply sr (c (assign (L rfl) (Opd.bool true)) rfl cn)
    apply AWp.ret
    obtain rfl:=oi h
    exact rt (kp [(4,_)] [] hB rfl rfl (by rfl)) [(bo true)] (Res.tmp (by rfl) (by rfl) Res.nil) rfl
def xlaw22_OriginTrusts_L2 (a4:Int) (r5:(List aCert)×(List aSigned)×Int×xmake_Deck) (x184:(List aCert)) (x242:(List Int)) (s243:Int):Option (((Unit)⊕(Unit))⊕(Int)) :=
 (if (decide (s243<(([a4,r5.2.2.1]:List Int).length:Int)))=true then
 (idx ([a4,r5.2.2.1]:List Int) s243).bind fun x259 =>
 (origin_Trusted x184 x242 x259).bind fun r260 =>
 (xref22_Trusted x184 x242 x259).bind fun r261 =>
 (xlaw22_sameBools r260 r261).bind fun r262 =>
 (if (!r262)=true then
 some (.inl (.inl ()))
 else
 some (.inr (w64 (s243+1))))
 else
 some (.inl (.inr ())))
def xlaw22_OriginTrusts_L1 (a2:(List Int)) (a4:Int) (r5:(List aCert)×(List aSigned)×Int×xmake_Deck) (x184:(List aCert)) (r185:(List Int)) (s186:Int):Option (((Unit)⊕(Unit))⊕(Int)) :=
 (if (decide (s186<(([a2,r185]:List (List Int)).length:Int)))=true then
 (idx ([a2,r185]:List (List Int)) s186).bind fun x242 =>
 (loop (xlaw22_OriginTrusts_L2 a4 r5 x184 x242) 0).bind fun x264=>match x264 with
 | (.inl _) =>
  some (.inl (.inl ()))
 | (.inr _) =>
  some (.inr (w64 (s186+1)))
 else
 some (.inl (.inr ())))
def xlaw22_OriginTrusts_L0 (a0:(List aCert)) (a2:(List Int)) (a3:Int) (a4:Int) (r5:(List aCert)×(List aSigned)×Int×xmake_Deck) (s6:Int):Option (((Unit)⊕(Unit))⊕(Int)) :=
 (if (decide (s6<(([a0,r5.1]:List (List aCert)).length:Int)))=true then
 (idx ([a0,r5.1]:List (List aCert)) s6).bind fun x184 =>
 (xlaw22_anchors a3).bind fun r185 =>
 (loop (xlaw22_OriginTrusts_L1 a2 a4 r5 x184 r185) 0).bind fun x266=>match x266 with
 | (.inl _) =>
  some (.inl (.inl ()))
 | (.inr _) =>
  some (.inr (w64 (s6+1)))
 else
 some (.inl (.inr ())))
def xlaw22_OriginTrusts (a0:(List aCert)) (a1:(List Int)) (a2:(List Int)) (a3:Int) (a4:Int):Option (Bool) :=
 (xlaw22_light a0).bind fun r1 =>
 (if ((!r1) || (decide (20<(a2.length:Int))))=true then
 (xlaw22_awake).bind fun r3 =>
 some r3
 else
 (xmake_New a1).bind fun r4 =>
 (xlaw22_setting r4).bind fun r5 =>
 (loop (xlaw22_OriginTrusts_L0 a0 a2 a3 a4 r5) 0).bind fun x268=>match x268 with
 | (.inl _) =>
  some false
 | (.inr _) =>
  (xlaw22_awake).bind fun r270 =>
  some r270)
theorem xlaw22_OriginTrusts_ac (a0:(List aCert)) (a1:(List Int)) (a2:(List Int)) (a3:Int) (a4:Int) (r:Bool) (h:xlaw22_OriginTrusts a0 a1 a2 a3 a4=some r):AC Tryz.prog 3 [(.d (.list 6 (a0.map e_aCert))),(.d (.list 1 (a1.map (eI .i64)))),(.d (.list 1 (a2.map (eI .i64)))),(.d (.int .i64 a3)),(.d (.int .i64 a4))] [(500,(.know (globF 0 [109,150,151]))),(501,(.know (globF 1 [98,152,153])))] (.d (.bool r)) [(500,some (.know (globF 0 [109,150,151]))),(501,some (.know (globF 1 [98,152,153])))]:=by
 refine ac2 Tryz.func3 rfl rfl fun B hB hN L => ?_
 delta xlaw22_OriginTrusts at h
 apply sr (c (assign (L rfl) (Opd.bool false)) rfl cn)
 apply AWp.seq
 obtain⟨r1,hr1,h⟩:=bindS h
 apply sr (c (mv hN (q 0)) rfl (cg (cf hB fnOk8 (xlaw22_light_ac a0 r1 hr1) (L rfl) (OpdL.cons (q 20) OpdL.nil)) rfl (c (OpJ.not (L rfl) (q 21)) rfl (c (mv hN (q 22)) rfl (c (oq hN 23 (mv hN (q 2)) (OptL.keep (by rfl) OptL.nil) (GuardV.plain _)) rfl (c (oq hN 23 (OpJ.val (v':=(i6 (a2.length:Int))) (by simp) (lenD underlying23 (L rfl) (q 24))) (OptL.opt OptL.nil) (GuardV.plain _)) rfl (c (oq hN 23 (gtr (L rfl) (q 25) (ii 20)) (OptL.opt OptL.nil) (GuardV.plain _)) rfl (c (pickOr rfl (L rfl) (q 23) (q 26)) rfl cn))))))))
 apply AWp.cond rfl<;>intro hg2
 ·have h:=ite_t hg2 h
  apply AWp.seq
  obtain⟨r3,hr3,h⟩:=bindS h
  refine AWp.region (oc (OpJ.callFn hB fnOk9 (xlaw22_awake_ac  r3 hr3) [(500,500),(501,501)] (by kernel_rfl) (L rfl) (by kernel_rfl) OpdL.nil)
   (oc (assign (L rfl) (ot 28 (bo r3)))
   (OpJs.nil))) (by rfl) (by rfl) ?_
  apply seqQ_n
  refine AWp.ghost (mp [] [(10,(bo r3))] [(500,some (.know (globF 0 [109,150,151]))),(501,some (.know (globF 1 [98,152,153])))] hB) ?_
  apply AWp.ret
  apply seqQ_r
  obtain rfl:=oi h
  exact rt (kp [(10,_)] [(500,some _),(501,some _)] hB rfl rfl (by rfl)) [(bo r3)] (Res.tmp (by rfl) (by rfl) Res.nil) rfl
 ·have h:=ite_f hg2 h
  apply AWp.skip
  apply seqQ_n
  apply AWp.seq
  obtain⟨r4,hr4,h⟩:=bindS h
  obtain⟨r5,hr5,h⟩:=bindS h
  refine AWp.region (oc (mv hN (ot 1 (qI_1 a1)))
   (oc (OpJ.callFn hB fnOk11 (xmake_New_ac a1 r4 hr4) [(1005,100200)] (by kernel_rfl) (L rfl) (by kernel_rfl) (OpdL.cons (ot 30 (qI_1 a1)) OpdL.nil))
   (oc (OpJ.callFn hB fnOk10 (xlaw22_setting_ac r4 r5 hr5) [(0,100200)] (by kernel_rfl) (L rfl) (by kernel_rfl) (OpdL.cons (ot 31 (pt 100200)) OpdL.nil))
   (oc (mv hN (ot 32 (.tup [(qe_aCert_6 r5.1),(qe_aSigned_5 r5.2.1),(i6 r5.2.2.1)])))
   (oc (extract (v:=(qe_aCert_6 r5.1)) (by rfl) rfl (L rfl) (ot 29 (.tup [(qe_aCert_6 r5.1),(qe_aSigned_5 r5.2.1),(i6 r5.2.2.1)])))
   (oc (extract (v:=(qe_aSigned_5 r5.2.1)) (by rfl) rfl (L rfl) (ot 29 (.tup [(qe_aCert_6 r5.1),(qe_aSigned_5 r5.2.1),(i6 r5.2.2.1)])))
   (oc (extract (v:=(i6 r5.2.2.1)) (by rfl) rfl (L rfl) (ot 29 (.tup [(qe_aCert_6 r5.1),(qe_aSigned_5 r5.2.1),(i6 r5.2.2.1)])))
   (oc (assign (L rfl) (ot 33 (qe_aCert_6 r5.1)))
   (oc (assign (L rfl) (ot 34 (qe_aSigned_5 r5.2.1)))
   (oc (assign (L rfl) (ot 35 (i6 r5.2.2.1)))
   (OpJs.nil))))))))))) (by rfl) (by rfl) ?_
  apply seqQ_n
  refine AWp.ghost (mp [] [(0,(qe_aCert_6 a0)),(2,(qI_1 a2)),(3,(i6 a3)),(4,(i6 a4)),(11,(qe_aCert_6 r5.1)),(13,(i6 r5.2.2.1))] [(500,some (.know (globF 0 [109,150,151]))),(501,some (.know (globF 1 [98,152,153])))] hB) ?_
  apply AWp.seq
  apply sr (c (mv hN (q 0)) rfl (c (mv hN (q 11)) rfl (c (buildSlice underlying31 tyS22 tyZD22 (by rfl) (by decide) (by decide) (Opds.cons (q 36) (Opds.cons (q 37) Opds.nil)) (by kernel_rfl) (es:=([(.list 6 (a0.map e_aCert)),(.list 6 (r5.1.map e_aCert))]:List D)) (by rfl) (by rfl) (by kernel_rfl) (by simp) (L rfl)) rfl (c (OpJ.val (v':=(i6 (([a0,r5.1]:List (List aCert)).length:Int))) (by simp) (lenD underlying31 (L rfl) (q 38))) rfl (c (mv hN (ii 0)) rfl cn)))))
  apply AWp.block
  obtain⟨x268,hx269,h⟩:=bindS h
  refine lg (xlaw22_OriginTrusts_L0 a0 a2 a3 a4 r5) (fun s6:Int=>([(2,(qI_1 a2)),(3,(i6 a3)),(4,(i6 a4)),(13,(i6 r5.2.2.1)),(38,(.d (.list 1 (([a0,r5.1]:List (List aCert)).map e_LeapiCert)))),(39,(i6 (([a0,r5.1]:List (List aCert)).length:Int))),(40,(i6 s6))]:EL)) (fun s6:Int=>([(500,some (.know (globF 0 [109,150,151]))),(501,some (.know (globF 1 [98,152,153])))]:OL)) (fun(x:(Unit)⊕(Unit)) e E' O'=>match x with | (.inl _p)=>e = .ret∧Mat B E' O' ([(10,(bo false))]:EL) ([(500,some (.know (globF 0 [109,150,151]))),(501,some (.know (globF 1 [98,152,153])))]:OL) | (.inr _p)=>e = .exit 0∧Mat B E' O' ([]:EL) ([(500,some (.know (globF 0 [109,150,151]))),(501,some (.know (globF 1 [98,152,153])))]:OL)) hx269 (mp [] _ _ hB) (fun s6 y h => ?_) (fun e E' O' hR => ?_)
  ·unfold xlaw22_OriginTrusts_L0 at h
   apply sr (c (lss (L rfl) (q 40) (q 39)) rfl cn)
   apply AWp.seq
   apply AWp.cond rfl<;>intro hg183
   ·have h:=ite_t hg183 h
    apply AWp.skip
    apply seqQ_n
    apply AWp.seq
    apply AWp.block
    obtain⟨x184,hx184,h⟩:=bindS h
    apply sr (c (indexD underlying31 tyS22 (idx_some hx184).1 (get_map e_LeapiCert (idx_some hx184).2) (L rfl) (q 38) (q 40)) rfl (c (loadD tyS22 (by rfl) (by rfl) (L rfl) (q 42)) rfl (c (assign (L rfl) (q 43)) rfl cn)))
    obtain⟨r185,hr185,h⟩:=bindS h
    apply sr (c (mv hN (q 2)) rfl (c (mv hN (q 3)) rfl (cg (cf hB fnOk12 (xlaw22_anchors_ac a3 r185 hr185) (L rfl) (OpdL.cons (q 45) OpdL.nil)) rfl (c (buildSlice underlying33 tyS23 tyZD23 (by rfl) (by decide) (by decide) (Opds.cons (q 44) (Opds.cons (q 46) Opds.nil)) (by kernel_rfl) (es:=([(.list 1 (a2.map (eI .i64))),(.list 1 (r185.map (eI .i64)))]:List D)) (by rfl) (by rfl) (by kernel_rfl) (by simp) (L rfl)) rfl (c (OpJ.val (v':=(i6 (([a2,r185]:List (List Int)).length:Int))) (by simp) (lenD underlying33 (L rfl) (q 47))) rfl (c (mv hN (ii 0)) rfl cn))))))
    apply AWp.block
    obtain⟨x266,hx267,h⟩:=bindS h
    refine lg (xlaw22_OriginTrusts_L1 a2 a4 r5 x184 r185) (fun s186:Int=>([(2,(qI_1 a2)),(3,(i6 a3)),(4,(i6 a4)),(13,(i6 r5.2.2.1)),(15,(qe_aCert_6 x184)),(38,(.d (.list 1 (([a0,r5.1]:List (List aCert)).map e_LeapiCert)))),(39,(i6 (([a0,r5.1]:List (List aCert)).length:Int))),(40,(i6 s6)),(47,(.d (.list 1 (([a2,r185]:List (List Int)).map e_LeIi64)))),(48,(i6 (([a2,r185]:List (List Int)).length:Int))),(49,(i6 s186))]:EL)) (fun s186:Int=>([(500,some (.know (globF 0 [109,150,151]))),(501,some (.know (globF 1 [98,152,153])))]:OL)) (fun(x:(Unit)⊕(Unit)) e E' O'=>match x with | (.inl _p)=>e = .ret∧Mat B E' O' ([(10,(bo false))]:EL) ([(500,some (.know (globF 0 [109,150,151]))),(501,some (.know (globF 1 [98,152,153])))]:OL) | (.inr _p)=>e = .exit 2∧Mat B E' O' ([(2,(qI_1 a2)),(3,(i6 a3)),(4,(i6 a4)),(13,(i6 r5.2.2.1)),(38,(.d (.list 1 (([a0,r5.1]:List (List aCert)).map e_LeapiCert)))),(39,(i6 (([a0,r5.1]:List (List aCert)).length:Int))),(40,(i6 s6))]:EL) ([(500,some (.know (globF 0 [109,150,151]))),(501,some (.know (globF 1 [98,152,153])))]:OL)) hx267 (mp [] _ _ hB) (fun s186 y h => ?_) (fun e E' O' hR => ?_)
    ·unfold xlaw22_OriginTrusts_L1 at h
     apply sr (c (lss (L rfl) (q 49) (q 48)) rfl cn)
     apply AWp.seq
     apply AWp.cond rfl<;>intro hg241
     ·have h:=ite_t hg241 h
      apply AWp.skip
      apply seqQ_n
      apply AWp.seq
      apply AWp.block
      obtain⟨x242,hx242,h⟩:=bindS h
      apply sr (c (indexD underlying33 tyS23 (idx_some hx242).1 (get_map e_LeIi64 (idx_some hx242).2) (L rfl) (q 47) (q 49)) rfl (c (loadD tyS23 (by rfl) (by rfl) (L rfl) (q 51)) rfl (c (assign (L rfl) (q 52)) rfl cn)))
      apply sr (c (mv hN (q 4)) rfl (c (mv hN (q 13)) rfl (c (buildSlice underlying23 tyS3 tyZD3 (by rfl) (by decide) (by decide) (Opds.cons (q 53) (Opds.cons (q 54) Opds.nil)) (by kernel_rfl) (es:=([(.int .i64 a4),(.int .i64 r5.2.2.1)]:List D)) (by rfl) (by rfl) (by kernel_rfl) (by simp) (L rfl)) rfl (c (OpJ.val (v':=(i6 (([a4,r5.2.2.1]:List Int).length:Int))) (by simp) (lenD underlying23 (L rfl) (q 55))) rfl (c (mv hN (ii 0)) rfl cn)))))
      apply AWp.block
      obtain⟨x264,hx265,h⟩:=bindS h
      refine lg (xlaw22_OriginTrusts_L2 a4 r5 x184 x242) (fun s243:Int=>([(2,(qI_1 a2)),(3,(i6 a3)),(4,(i6 a4)),(13,(i6 r5.2.2.1)),(15,(qe_aCert_6 x184)),(17,(qI_1 x242)),(38,(.d (.list 1 (([a0,r5.1]:List (List aCert)).map e_LeapiCert)))),(39,(i6 (([a0,r5.1]:List (List aCert)).length:Int))),(40,(i6 s6)),(47,(.d (.list 1 (([a2,r185]:List (List Int)).map e_LeIi64)))),(48,(i6 (([a2,r185]:List (List Int)).length:Int))),(49,(i6 s186)),(55,(qI_1 ([a4,r5.2.2.1]:List Int))),(56,(i6 (([a4,r5.2.2.1]:List Int).length:Int))),(57,(i6 s243))]:EL)) (fun s243:Int=>([(500,some (.know (globF 0 [109,150,151]))),(501,some (.know (globF 1 [98,152,153])))]:OL)) (fun(x:(Unit)⊕(Unit)) e E' O'=>match x with | (.inl _p)=>e = .ret∧Mat B E' O' ([(10,(bo false))]:EL) ([(500,some (.know (globF 0 [109,150,151]))),(501,some (.know (globF 1 [98,152,153])))]:OL) | (.inr _p)=>e = .exit 4∧Mat B E' O' ([(2,(qI_1 a2)),(3,(i6 a3)),(4,(i6 a4)),(13,(i6 r5.2.2.1)),(15,(qe_aCert_6 x184)),(38,(.d (.list 1 (([a0,r5.1]:List (List aCert)).map e_LeapiCert)))),(39,(i6 (([a0,r5.1]:List (List aCert)).length:Int))),(40,(i6 s6)),(47,(.d (.list 1 (([a2,r185]:List (List Int)).map e_LeIi64)))),(48,(i6 (([a2,r185]:List (List Int)).length:Int))),(49,(i6 s186))]:EL) ([(500,some (.know (globF 0 [109,150,151]))),(501,some (.know (globF 1 [98,152,153])))]:OL)) hx265 (mp [] _ _ hB) (fun s243 y h => ?_) (fun e E' O' hR => ?_)
      ·unfold xlaw22_OriginTrusts_L2 at h
       apply sr (c (lss (L rfl) (q 57) (q 56)) rfl cn)
       apply AWp.seq
       apply AWp.cond rfl<;>intro hg258
       ·have h:=ite_t hg258 h
        apply AWp.skip
        apply seqQ_n
        apply AWp.seq
        apply AWp.block
        obtain⟨x259,hx259,h⟩:=bindS h
        apply sr (c (indexD underlying23 tyS3 (idx_some hx259).1 (get_map (eI .i64) (idx_some hx259).2) (L rfl) (q 55) (q 57)) rfl (c (loadD tyS3 (by rfl) (by rfl) (L rfl) (q 59)) rfl (c (assign (L rfl) (q 60)) rfl cn)))
        apply AWp.seq
        obtain⟨r260,hr260,h⟩:=bindS h
        obtain⟨r261,hr261,h⟩:=bindS h
        obtain⟨r262,hr262,h⟩:=bindS h
        refine AWp.region (oc (mv hN (ot 15 (qe_aCert_6 x184)))
         (oc (mv hN (ot 17 (qI_1 x242)))
         (oc (mv hN (ot 19 (i6 x259)))
         (oc (OpJ.callFn hB fnOk14 (origin_Trusted_ac x184 x242 x259 r260 hr260) [(500,500),(501,501)] (by kernel_rfl) (L rfl) (by kernel_rfl) (OpdL.cons (ot 61 (qe_aCert_6 x184)) (OpdL.cons (ot 62 (qI_1 x242)) (OpdL.cons (ot 63 (i6 x259)) OpdL.nil))))
         (oc (mv hN (ot 15 (qe_aCert_6 x184)))
         (oc (mv hN (ot 17 (qI_1 x242)))
         (oc (mv hN (ot 19 (i6 x259)))
         (oc (cf hB fnOk15 (xref22_Trusted_ac x184 x242 x259 r261 hr261) (L rfl) (OpdL.cons (ot 65 (qe_aCert_6 x184)) (OpdL.cons (ot 66 (qI_1 x242)) (OpdL.cons (ot 67 (i6 x259)) OpdL.nil))))
         (oc (cf hB fnOk13 (xlaw22_sameBools_ac r260 r261 r262 hr262) (L rfl) (OpdL.cons (ot 64 (.d (.list 1 (r260.map eB)))) (OpdL.cons (ot 68 (.d (.list 1 (r261.map eB)))) OpdL.nil)))
         (oc (OpJ.not (L rfl) (ot 69 (bo r262)))
         (OpJs.nil))))))))))) (by rfl) (by rfl) ?_
        apply seqQ_n
        refine AWp.ghost (mp [] [(2,(qI_1 a2)),(3,(i6 a3)),(4,(i6 a4)),(13,(i6 r5.2.2.1)),(15,(qe_aCert_6 x184)),(17,(qI_1 x242)),(38,(.d (.list 1 (([a0,r5.1]:List (List aCert)).map e_LeapiCert)))),(39,(i6 (([a0,r5.1]:List (List aCert)).length:Int))),(40,(i6 s6)),(47,(.d (.list 1 (([a2,r185]:List (List Int)).map e_LeIi64)))),(48,(i6 (([a2,r185]:List (List Int)).length:Int))),(49,(i6 s186)),(55,(qI_1 ([a4,r5.2.2.1]:List Int))),(56,(i6 (([a4,r5.2.2.1]:List Int).length:Int))),(57,(i6 s243)),(70,(bo (!r262)))] [(500,some (.know (globF 0 [109,150,151]))),(501,some (.know (globF 1 [98,152,153])))] hB) ?_
        apply AWp.cond rfl<;>intro hg263
        ·have h:=ite_t hg263 h
         apply sr (c (assign (L rfl) (Opd.bool false)) rfl cn)
         apply AWp.ret
         apply blkQ_r
         apply seqQ_r
         obtain rfl:=oi h
         exact⟨(fun hc=>by cases hc),rfl,(mp [] _ _ hB)⟩
        ·have h:=ite_f hg263 h
         apply AWp.skip
         apply blkQ_n
         apply seqQ_n
         apply rg (c (add6 (L rfl) (q 57) (ii 1)) rfl (c (mv hN (q 71)) rfl cn))
         obtain rfl:=oi h
         exact⟨rfl,(mp [] _ _ hB)⟩
       ·have h:=ite_f hg258 h
        apply AWp.exit
        apply seqQ_e
        obtain rfl:=oi h
        exact⟨(fun hc=>by cases hc),rfl,(mp [] _ _ hB)⟩
      ·rcases x264 with _ | _
       ·obtain⟨rfl,hmat⟩:=hR
        apply blkQ_r
        apply blkQ_r
        apply seqQ_r
        obtain rfl:=oi h
        exact⟨(fun hc=>by cases hc),rfl,(Mat.trans hmat (mp [] _ _ hB))⟩
       ·obtain⟨rfl,hmat⟩:=hR
        apply blkQ_hit
        apply blkQ_n
        apply seqQ_n
        refine AWp.ghost hmat ?_
        apply rg (c (add6 (L rfl) (q 49) (ii 1)) rfl (c (mv hN (q 72)) rfl cn))
        obtain rfl:=oi h
        exact⟨rfl,(mp [] _ _ hB)⟩
     ·have h:=ite_f hg241 h
      apply AWp.exit
      apply seqQ_e
      obtain rfl:=oi h
      exact⟨(fun hc=>by cases hc),rfl,(mp [] _ _ hB)⟩
    ·rcases x266 with _ | _
     ·obtain⟨rfl,hmat⟩:=hR
      apply blkQ_r
      apply blkQ_r
      apply seqQ_r
      obtain rfl:=oi h
      exact⟨(fun hc=>by cases hc),rfl,(Mat.trans hmat (mp [] _ _ hB))⟩
     ·obtain⟨rfl,hmat⟩:=hR
      apply blkQ_hit
      apply blkQ_n
      apply seqQ_n
      refine AWp.ghost hmat ?_
      apply rg (c (add6 (L rfl) (q 40) (ii 1)) rfl (c (mv hN (q 73)) rfl cn))
      obtain rfl:=oi h
      exact⟨rfl,(mp [] _ _ hB)⟩
   ·have h:=ite_f hg183 h
    apply AWp.exit
    apply seqQ_e
    obtain rfl:=oi h
    exact⟨(fun hc=>by cases hc),rfl,(mp [] _ _ hB)⟩
  ·rcases x268 with _ | _
   ·obtain⟨rfl,hmat⟩:=hR
    apply blkQ_r
    apply seqQ_r
    obtain rfl:=oi h
    exact rt (Mat.trans hmat (mp [] [(10,(bo false))] [(500,some (.know (globF 0 [109,150,151]))),(501,some (.know (globF 1 [98,152,153])))] hB)) [(bo false)] (Res.tmp (by rfl) (by rfl) Res.nil) rfl
   ·obtain⟨rfl,hmat⟩:=hR
    apply blkQ_hit
    apply seqQ_n
    refine AWp.ghost hmat ?_
    apply AWp.seq
    obtain⟨r270,hr270,h⟩:=bindS h
    refine AWp.region (oc (OpJ.callFn hB fnOk9 (xlaw22_awake_ac  r270 hr270) [(500,500),(501,501)] (by kernel_rfl) (L rfl) (by kernel_rfl) OpdL.nil)
     (oc (assign (L rfl) (ot 74 (bo r270)))
     (OpJs.nil))) (by rfl) (by rfl) ?_
    apply seqQ_n
    refine AWp.ghost (mp [] [(10,(bo r270))] [(500,some (.know (globF 0 [109,150,151]))),(501,some (.know (globF 1 [98,152,153])))] hB) ?_
    apply AWp.ret
    obtain rfl:=oi h
    exact rt (kp [(10,_)] [(500,some _),(501,some _)] hB rfl rfl (by rfl)) [(bo r270)] (Res.tmp (by rfl) (by rfl) Res.nil) rfl
end
end Go.Proofs.YtgfoabcickjphaaGreatDoor
