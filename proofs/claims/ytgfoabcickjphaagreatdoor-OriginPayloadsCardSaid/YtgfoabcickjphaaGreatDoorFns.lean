/- Printed by gen.py: the Go functions as plain functions, and that the code does what they say. -/
import Derived.Test.YtgfoabcickjphaaGreatDoorChecked
import Derived.Test.YtgfoabcickjphaaGreatDoorVcYB
import Derived.Test.YtgfoabcickjphaaGreatDoorVcZ
import Derived.Test.YtgfoabcickjphaaGreatDoorVcGC
import Derived.KernelRfl
import Derived.Test.YtgfoabcickjphaaGreatDoorVcMD
import Derived.Test.YtgfoabcickjphaaGreatDoorVcMQ
import Derived.Test.YtgfoabcickjphaaGreatDoorVcSG
import Derived.Test.YtgfoabcickjphaaGreatDoorFnsC
import Derived.Test.YtgfoabcickjphaaGreatDoorExt
import Derived.Test.YtgfoabcickjphaaGreatDoorVcGl
import Derived.Test.YtgfoabcickjphaaGreatDoorVcWS
namespace Go.Proofs.YtgfoabcickjphaaGreatDoor
open Go Go.Vc
open Tryz
open Go.Vc.OpJ (assign alloc lss pickT pickF extract lenD indexD loadD eqlI gtr callVal leq geq loadR nilP indexS buildSlice lenS fieldD neqI pickAnd pickOr)
set_option maxHeartbeats 4000000
set_option maxRecDepth 100000
noncomputable section
def xmake_Deck_Signed_2_L2 (a1:(List aCert)) (m422:Int×xmake_Deck) (s547:Int×aObject×xmake_Deck):Option (((aObject×xmake_Deck))⊕(Int×aObject×xmake_Deck)) :=
 (if (decide (s547.1<(a1.length:Int)))=true then
 (idx a1 s547.1).bind fun x584 =>
 (xref21_Prefixes x584.fResources).bind fun r585 =>
 jn (fun m588:Bool×xmake_Deck =>
 jn (fun m593:aObject×xmake_Deck =>
 some (.inr ((w64 (s547.1+1)),m593.1,m593.2))) (fun j594 =>
 (if m588.1=true then
 (xmake_Deck_Next m588.2 (r585.length:Int)).bind fun r596 =>
 (idx r585 r596.1).bind fun x597 =>
 j594 ((aObject.mk x597 x597.fLen s547.2.1.fASN),r596.2)
 else
 j594 (s547.2.1,m588.2)))) (fun j589 =>
 (if ((x584.fKey==m422.1)&&(decide (0<(r585.length:Int))))=true then
 (xmake_Deck_Next s547.2.2 2).bind fun r599 =>
 j589 ((r599.1==0),r599.2)
 else
 j589 (false,s547.2.2)))
 else
 some (.inl (s547.2.1,s547.2.2)))
def xmake_Deck_Signed_2_L1 (a1:(List aCert)) (r412:Int×xmake_Deck) (m422:Int×xmake_Deck) (s425:Int×(List aObject)×xmake_Deck):Option ((((List aObject)×xmake_Deck))⊕(Int×(List aObject)×xmake_Deck)) :=
 (if (decide (0<s425.1))=true then
 (xmake_Deck_Object s425.2.2).bind fun r546 =>
 (loop (xmake_Deck_Signed_2_L2 a1 m422) (0,r546.1,r546.2)).bind fun p582 =>
 chk (decide ((s425.2.1++[(aObject.mk p582.1.fPrefix p582.1.fMax r412.1)]).length≤LIM)) <|
 some (.inr ((w64 (s425.1-1)),(s425.2.1++[(aObject.mk p582.1.fPrefix p582.1.fMax r412.1)]),p582.2))
 else
 some (.inl (s425.2.1,s425.2.2)))
def xmake_Deck_Signed_2_L0 (a1:(List aCert)) (s2:Int×(List aSigned)×xmake_Deck):Option (((xmake_Deck×(List aSigned)))⊕(Int×(List aSigned)×xmake_Deck)) :=
 (if (decide (0<s2.1))=true then
 (xmake_Deck_Next s2.2.2 7).bind fun r411 =>
 (xmake_Deck_Next r411.2 5).bind fun r412 =>
 (xmake_Deck_Next r412.2 3).bind fun r413 =>
 (xmake_Deck_Next r413.2 9).bind fun r414 =>
 jn (fun m417:Bool×xmake_Deck =>
 jn (fun m422:Int×xmake_Deck =>
 (xmake_Deck_Next m422.2 4).bind fun r424 =>
 (loop (xmake_Deck_Signed_2_L1 a1 r412 m422) (r424.1,([]:List aObject),r424.2)).bind fun p544 =>
 chk (decide ((s2.2.1++[(aSigned.mk m422.1 r412.1 r413.1 (w64 (9+r414.1)) p544.1)]).length≤LIM)) <|
 some (.inr ((w64 (s2.1-1)),(s2.2.1++[(aSigned.mk m422.1 r412.1 r413.1 (w64 (9+r414.1)) p544.1)]),p544.2))) (fun j423 =>
 (if m417.1=true then
 (xmake_Deck_Next m417.2 (a1.length:Int)).bind fun r607 =>
 (idx a1 r607.1).bind fun x608 =>
 j423 (x608.fKey,r607.2)
 else
 j423 ((w64 (1+r411.1)),m417.2)))) (fun j418 =>
 (if (decide (0<(a1.length:Int)))=true then
 (xmake_Deck_Next r414.2 4).bind fun r610 =>
 j418 ((decide (0<r610.1)),r610.2)
 else
 j418 (false,r414.2)))
 else
 some (.inl (s2.2.2,s2.2.1)))
def xmake_Deck_Signed_2 (a0:xmake_Deck) (a1:(List aCert)):Option ((List aSigned)×xmake_Deck) :=
 (xmake_Deck_Next a0 6).bind fun r1 =>
 (loop (xmake_Deck_Signed_2_L0 a1) (r1.1,([]:List aSigned),r1.2)).bind fun p409 =>
 some (p409.2,p409.1)
theorem xmake_Deck_Signed_2_ac (a0:xmake_Deck) (a1:(List aCert)) (r:(List aSigned)×xmake_Deck) (h:xmake_Deck_Signed_2 a0 a1=some r):AC Tryz.prog 29 [(pt 0),(.d (.list 6 (a1.map e_aCert)))] [(0,(.box 80 (.d (e_xmake_Deck a0))))] (.sref 900000 5 0 r.1.length) [(0,bd 80 (e_xmake_Deck r.2)),(900000,some (.row 66 5 (r.1.map e_aSigned)))]:=by
 refine ac2 Tryz.func29 rfl rfl fun B hB hN L => ?_
 delta xmake_Deck_Signed_2 at h
 refine sr (SQ tt) ?_
 refine sr (SQ tt) ?_
 apply AWp.seq
 apply AWp.seq
 obtain⟨r1,hr1,h⟩:=bindS h
 refine rg (SQ (fa (cl [(0,0)] (xmake_Deck_Next_ac a0 6 r1 hr1)) tt)) ?_
 apply seqQ_n
 refine AWp.ghost (mp [] [(0,(pt 0)),(1,(qe_aCert_6 a1)),(5,.nils),(6,(i6 r1.1))] [(0,bd 80 (e_xmake_Deck r1.2))] hB) ?_
 apply AWp.block
 obtain⟨p409,hx612,h⟩:=bindS h
 refine lg (xmake_Deck_Signed_2_L0 a1) (fun s2:Int×(List aSigned)×xmake_Deck=>([(0,(pt 0)),(1,(qe_aCert_6 a1)),(5,(.sref 3005 5 0 s2.2.1.length)),(6,(i6 s2.1))]:EL)) (fun s2:Int×(List aSigned)×xmake_Deck=>([(0,bd 80 (e_xmake_Deck s2.2.2)),(3005,some (we_aSigned_66_5 s2.2.1))]:OL)) (fun(p409:(xmake_Deck×(List aSigned))) e E' O'=>e = .exit 0∧Mat B E' O' ([(5,(.sref 3005 5 0 p409.2.length))]:EL) ([(0,bd 80 (e_xmake_Deck p409.1)),(3005,some (we_aSigned_66_5 p409.2))]:OL)) hx612 (Mat.trans (Mat.beginP (n:=3005) (e:=66) (sz:=5) (Ts:=[(5,(.sref 3005 5 0 0))]) (Bs:=[]) hB (by decide) (by rfl) (by decide) (TwT.cons (x:=.nils) (by rfl) (Tw.leaf ⟨rfl,rfl⟩) TwT.nil) TwB.nil) (mp [] _ _ hB)) (fun s2 y h => ?_) (fun e E' O' hR => ?_)
 ·unfold xmake_Deck_Signed_2_L0 at h
  apply AWp.seq
  refine sr (SQ tt) ?_
  apply AWp.cond rfl<;>intro hg410
  ·have h:=ite_t hg410 h
   apply AWp.skip
   apply seqQ_n
   apply AWp.seq
   apply AWp.block
   apply AWp.seq
   obtain⟨r411,hr411,h⟩:=bindS h
   obtain⟨r412,hr412,h⟩:=bindS h
   obtain⟨r413,hr413,h⟩:=bindS h
   obtain⟨r414,hr414,h⟩:=bindS h
   refine rg (SQ (fa (cl [(0,0)] (xmake_Deck_Next_ac s2.2.2 7 r411 hr411)) (fa (cl [(0,0)] (xmake_Deck_Next_ac r411.2 5 r412 hr412)) (fa (cl [(0,0)] (xmake_Deck_Next_ac r412.2 3 r413 hr413)) (fa (cl [(0,0)] (xmake_Deck_Next_ac r413.2 9 r414 hr414)) tt))))) ?_
   apply seqQ_n
   refine AWp.ghost (mp [] [(0,(pt 0)),(1,(qe_aCert_6 a1)),(5,(.sref 3005 5 0 s2.2.1.length)),(6,(i6 s2.1)),(7,(pt 1007))] [(0,bd 80 (e_xmake_Deck r414.2)),(1007,some (.box 66 (.st [(i6 (w64 (1+r411.1))),(i6 r412.1),(i6 r413.1),(i6 (w64 (9+r414.1))),.nils]))),(3005,some (we_aSigned_66_5 s2.2.1))] hB) ?_
   apply AWp.seq
   apply AWp.seq
   refine AWp.cut h (fun m417:Bool×xmake_Deck=>([(0,(pt 0)),(1,(qe_aCert_6 a1)),(5,(.sref 3005 5 0 s2.2.1.length)),(6,(i6 s2.1)),(7,(pt 1007)),(37,(bo m417.1))]:EL)) (fun m417:Bool×xmake_Deck=>([(0,bd 80 (e_xmake_Deck m417.2)),(1007,some (.box 66 (.st [(i6 (w64 (1+r411.1))),(i6 r412.1),(i6 r413.1),(i6 (w64 (9+r414.1))),.nils]))),(3005,some (we_aSigned_66_5 s2.2.1))]:OL)) (fun m417 h E' O' hmat => ?_) (fun j418 hjj418 h => ?_)
   ·apply seqQ_n
    refine AWp.ghost hmat ?_
    refine AWp.cut h (fun m422:Int×xmake_Deck=>([(0,(pt 0)),(1,(qe_aCert_6 a1)),(5,(.sref 3005 5 0 s2.2.1.length)),(6,(i6 s2.1)),(7,(pt 1007))]:EL)) (fun m422:Int×xmake_Deck=>([(0,bd 80 (e_xmake_Deck m422.2)),(1007,some (.box 66 (.st [(i6 m422.1),(i6 r412.1),(i6 r413.1),(i6 (w64 (9+r414.1))),.nils]))),(3005,some (we_aSigned_66_5 s2.2.1))]:OL)) (fun m422 h E' O' hmat => ?_) (fun j423 hjj423 h => ?_)
    ·apply seqQ_n
     refine AWp.ghost hmat ?_
     apply AWp.seq
     apply AWp.seq
     obtain⟨r424,hr424,h⟩:=bindS h
     refine rg (SQ (fa (cl [(0,0)] (xmake_Deck_Next_ac m422.2 4 r424 hr424)) tt)) ?_
     apply seqQ_n
     refine AWp.ghost (mp [] [(0,(pt 0)),(1,(qe_aCert_6 a1)),(5,(.sref 3005 5 0 s2.2.1.length)),(6,(i6 s2.1)),(7,(pt 1007)),(8,(i6 r424.1))] [(0,bd 80 (e_xmake_Deck r424.2)),(1007,some (.box 66 (.st [(i6 m422.1),(i6 r412.1),(i6 r413.1),(i6 (w64 (9+r414.1))),.nils]))),(3005,some (we_aSigned_66_5 s2.2.1))] hB) ?_
     apply AWp.block
     obtain⟨p544,hx604,h⟩:=bindS h
     refine lg (xmake_Deck_Signed_2_L1 a1 r412 m422) (fun s425:Int×(List aObject)×xmake_Deck=>([(0,(pt 0)),(1,(qe_aCert_6 a1)),(5,(.sref 3005 5 0 s2.2.1.length)),(6,(i6 s2.1)),(7,(pt 1007)),(8,(i6 s425.1))]:EL)) (fun s425:Int×(List aObject)×xmake_Deck=>([(0,bd 80 (e_xmake_Deck s425.2.2)),(1007,some (.box 66 (.st [(i6 m422.1),(i6 r412.1),(i6 r413.1),(i6 (w64 (9+r414.1))),(.sref 13074 6 0 s425.2.1.length)]))),(3005,some (we_aSigned_66_5 s2.2.1)),(13074,some (we_aObject_48_6 s425.2.1))]:OL)) (fun(p544:((List aObject)×xmake_Deck)) e E' O'=>e = .exit 2∧Mat B E' O' ([(0,(pt 0)),(1,(qe_aCert_6 a1)),(5,(.sref 3005 5 0 s2.2.1.length)),(6,(i6 s2.1)),(7,(pt 1007))]:EL) ([(0,bd 80 (e_xmake_Deck p544.2)),(1007,some (.box 66 (.st [(i6 m422.1),(i6 r412.1),(i6 r413.1),(i6 (w64 (9+r414.1))),(.sref 13074 6 0 p544.1.length)]))),(3005,some (we_aSigned_66_5 s2.2.1)),(13074,some (we_aObject_48_6 p544.1))]:OL)) hx604 (Mat.trans (Mat.beginP (n:=13074) (e:=48) (sz:=6) (Ts:=[]) (Bs:=[(1007,some (.box 66 (.st [(i6 m422.1),(i6 r412.1),(i6 r413.1),(i6 (w64 (9+r414.1))),(.sref 13074 6 0 0)])))]) hB (by decide) (by rfl) (by decide) TwT.nil (TwB.cons (x:=(.st [(i6 m422.1),(i6 r412.1),(i6 r413.1),(i6 (w64 (9+r414.1))),.nils])) (by rfl) (Tw.st (TwL.cons (Tw.same _) (TwL.cons (Tw.same _) (TwL.cons (Tw.same _) (TwL.cons (Tw.same _) (TwL.cons (Tw.leaf ⟨rfl,rfl⟩) TwL.nil)))))) TwB.nil)) (mp [] _ _ hB)) (fun s425 y h => ?_) (fun e E' O' hR => ?_)
     ·unfold xmake_Deck_Signed_2_L1 at h
      apply AWp.seq
      refine sr (SQ tt) ?_
      apply AWp.cond rfl<;>intro hg545
      ·have h:=ite_t hg545 h
       apply AWp.skip
       apply seqQ_n
       apply AWp.seq
       apply AWp.block
       apply AWp.seq
       obtain⟨r546,hr546,h⟩:=bindS h
       refine rg (SQ (fa (cl [(0,0)] (xmake_Deck_Object_ac s425.2.2 r546 hr546)) tt)) ?_
       apply seqQ_n
       refine AWp.ghost (mp [] [(0,(pt 0)),(1,(qe_aCert_6 a1)),(5,(.sref 3005 5 0 s2.2.1.length)),(6,(i6 s2.1)),(7,(pt 1007)),(8,(i6 s425.1)),(9,(pt 1009))] [(0,bd 80 (e_xmake_Deck r546.2)),(1007,some (.box 66 (.st [(i6 m422.1),(i6 r412.1),(i6 r413.1),(i6 (w64 (9+r414.1))),(.sref 13074 6 0 s425.2.1.length)]))),(1009,bd 48 (e_aObject r546.1)),(3005,some (we_aSigned_66_5 s2.2.1)),(13074,some (we_aObject_48_6 s425.2.1))] hB) ?_
       apply AWp.seq
       refine sr (SQ tt) ?_
       apply AWp.block
       obtain⟨p582,hx601,h⟩:=bindS h
       refine lg (xmake_Deck_Signed_2_L2 a1 m422) (fun s547:Int×aObject×xmake_Deck=>([(0,(pt 0)),(1,(qe_aCert_6 a1)),(5,(.sref 3005 5 0 s2.2.1.length)),(6,(i6 s2.1)),(7,(pt 1007)),(8,(i6 s425.1)),(9,(pt 1009)),(55,(qe_aCert_6 a1)),(56,(i6 (a1.length:Int))),(57,(i6 s547.1))]:EL)) (fun s547:Int×aObject×xmake_Deck=>([(0,bd 80 (e_xmake_Deck s547.2.2)),(1007,some (.box 66 (.st [(i6 m422.1),(i6 r412.1),(i6 r413.1),(i6 (w64 (9+r414.1))),(.sref 13074 6 0 s425.2.1.length)]))),(1009,bd 48 (e_aObject s547.2.1)),(3005,some (we_aSigned_66_5 s2.2.1)),(13074,some (we_aObject_48_6 s425.2.1))]:OL)) (fun(p582:(aObject×xmake_Deck)) e E' O'=>e = .exit 4∧Mat B E' O' ([(0,(pt 0)),(1,(qe_aCert_6 a1)),(5,(.sref 3005 5 0 s2.2.1.length)),(6,(i6 s2.1)),(7,(pt 1007)),(8,(i6 s425.1)),(9,(pt 1009))]:EL) ([(0,bd 80 (e_xmake_Deck p582.2)),(1007,some (.box 66 (.st [(i6 m422.1),(i6 r412.1),(i6 r413.1),(i6 (w64 (9+r414.1))),(.sref 13074 6 0 s425.2.1.length)]))),(1009,bd 48 (e_aObject p582.1)),(3005,some (we_aSigned_66_5 s2.2.1)),(13074,some (we_aObject_48_6 s425.2.1))]:OL)) hx601 (mp [] _ _ hB) (fun s547 y h => ?_) (fun e E' O' hR => ?_)
       ·unfold xmake_Deck_Signed_2_L2 at h
        refine sr (SQ tt) ?_
        apply AWp.seq
        apply AWp.cond rfl<;>intro hg583
        ·have h:=ite_t hg583 h
         apply AWp.skip
         apply seqQ_n
         apply AWp.seq
         apply AWp.block
         obtain⟨x584,hx584,h⟩:=bindS h
         refine sr (SQ (fa hx584 tt)) ?_
         obtain⟨r585,hr585,h⟩:=bindS h
         refine sr (SQ (fa (cl [] (xref21_Prefixes_ac x584.fResources r585 hr585)) tt)) ?_
         apply AWp.seq
         refine AWp.cut h (fun m588:Bool×xmake_Deck=>([(0,(pt 0)),(1,(qe_aCert_6 a1)),(5,(.sref 3005 5 0 s2.2.1.length)),(6,(i6 s2.1)),(7,(pt 1007)),(8,(i6 s425.1)),(9,(pt 1009)),(12,(qe_aPrefix_4 r585)),(55,(qe_aCert_6 a1)),(56,(i6 (a1.length:Int))),(57,(i6 s547.1)),(78,(bo m588.1))]:EL)) (fun m588:Bool×xmake_Deck=>([(0,bd 80 (e_xmake_Deck m588.2)),(1007,some (.box 66 (.st [(i6 m422.1),(i6 r412.1),(i6 r413.1),(i6 (w64 (9+r414.1))),(.sref 13074 6 0 s425.2.1.length)]))),(1009,bd 48 (e_aObject s547.2.1)),(3005,some (we_aSigned_66_5 s2.2.1)),(13074,some (we_aObject_48_6 s425.2.1))]:OL)) (fun m588 h E' O' hmat => ?_) (fun j589 hjj589 h => ?_)
         ·apply seqQ_n
          refine AWp.ghost hmat ?_
          refine AWp.cut h (fun m593:aObject×xmake_Deck=>([(0,(pt 0)),(1,(qe_aCert_6 a1)),(5,(.sref 3005 5 0 s2.2.1.length)),(6,(i6 s2.1)),(7,(pt 1007)),(8,(i6 s425.1)),(9,(pt 1009)),(55,(qe_aCert_6 a1)),(56,(i6 (a1.length:Int))),(57,(i6 s547.1))]:EL)) (fun m593:aObject×xmake_Deck=>([(0,bd 80 (e_xmake_Deck m593.2)),(1007,some (.box 66 (.st [(i6 m422.1),(i6 r412.1),(i6 r413.1),(i6 (w64 (9+r414.1))),(.sref 13074 6 0 s425.2.1.length)]))),(1009,bd 48 (e_aObject m593.1)),(3005,some (we_aSigned_66_5 s2.2.1)),(13074,some (we_aObject_48_6 s425.2.1))]:OL)) (fun m593 h E' O' hmat => ?_) (fun j594 hjj594 h => ?_)
          ·apply blkQ_n
           apply seqQ_n
           refine AWp.ghost hmat ?_
           refine rg (SQ tt) ?_
           obtain rfl:=oi h
           exact⟨rfl,(mp [] _ _ hB)⟩
          ·apply AWp.cond rfl<;>intro hg595
           ·have h:=ite_t hg595 h
            apply AWp.seq
            obtain⟨r596,hr596,h⟩:=bindS h
            obtain⟨x597,hx597,h⟩:=bindS h
            refine rg (SQ (fa (cl [(0,0)] (xmake_Deck_Next_ac m588.2 (r585.length:Int) r596 hr596)) (fa hx597 tt))) ?_
            apply seqQ_n
            refine AWp.ghost (mp [] [(0,(pt 0)),(1,(qe_aCert_6 a1)),(5,(.sref 3005 5 0 s2.2.1.length)),(6,(i6 s2.1)),(7,(pt 1007)),(8,(i6 s425.1)),(9,(pt 1009)),(55,(qe_aCert_6 a1)),(56,(i6 (a1.length:Int))),(57,(i6 s547.1))] [(0,bd 80 (e_xmake_Deck r596.2)),(1007,some (.box 66 (.st [(i6 m422.1),(i6 r412.1),(i6 r413.1),(i6 (w64 (9+r414.1))),(.sref 13074 6 0 s425.2.1.length)]))),(1009,bd 48 (.st [(e_aPrefix x597),(.int .i64 s547.2.1.fMax),(.int .i64 s547.2.1.fASN)])),(3005,some (we_aSigned_66_5 s2.2.1)),(13074,some (we_aObject_48_6 s425.2.1))] hB) ?_
            refine rg (SQ tt) ?_
            exact hjj594 _ h _ _ (mp [] _ _ hB)
           ·have h:=ite_f hg595 h
            apply AWp.skip
            exact hjj594 _ h _ _ (mp [] _ _ hB)
         ·rcases bft ((x584.fKey==m422.1)&&(decide (0<(r585.length:Int)))) with hg598 | hg598
          ·have h:=ite_t hg598 h
           obtain⟨r599,hr599,h⟩:=bindS h
           refine rg (SQ (fa hg598 (fa (cl [(0,0)] (xmake_Deck_Next_ac s547.2.2 2 r599 hr599)) tt))) ?_
           exact hjj589 _ h _ _ (mp [] _ _ hB)
          ·have h:=ite_f hg598 h
           refine rg (SQ (fa hg598 tt)) ?_
           exact hjj589 _ h _ _ (mp [] _ _ hB)
        ·have h:=ite_f hg583 h
         apply AWp.exit
         apply seqQ_e
         obtain rfl:=oi h
         exact⟨(fun hc=>by cases hc),rfl,(mp [] _ _ hB)⟩
       ·obtain⟨rfl,hmat⟩:=hR
        apply blkQ_hit
        apply seqQ_n
        refine AWp.ghost hmat ?_
        refine sr (SQ tt) ?_
        obtain⟨hc602,h⟩:=chk_some h
        refine rg (SQ (fa hc602 tt)) ?_
        apply blkQ_n
        apply seqQ_n
        refine rg (SQ tt) ?_
        obtain rfl:=oi h
        exact⟨rfl,(mp [(13074,1099)] _ _ hB)⟩
      ·have h:=ite_f hg545 h
       apply AWp.exit
       apply seqQ_e
       obtain rfl:=oi h
       exact⟨(fun hc=>by cases hc),rfl,(mp [] _ _ hB)⟩
     ·obtain⟨rfl,hmat⟩:=hR
      apply blkQ_hit
      apply seqQ_n
      refine AWp.ghost hmat ?_
      refine AWp.ghost (Mat.freezeP (n:=13074) (e:=48) (sz:=6) (es:=p544.1.map e_aObject) (Ts:=[]) (Bs:=[(1007,some (.box 66 (.st [(i6 m422.1),(i6 r412.1),(i6 r413.1),(i6 (w64 (9+r414.1))),(qe_aObject_6 p544.1)])))]) (by rfl) TwT.nil (TwB.cons (x:=(.st [(i6 m422.1),(i6 r412.1),(i6 r413.1),(i6 (w64 (9+r414.1))),(.sref 13074 6 0 p544.1.length)])) (by rfl) (Tw.st (TwL.cons (Tw.same _) (TwL.cons (Tw.same _) (TwL.cons (Tw.same _) (TwL.cons (Tw.same _) (TwL.cons (FrzL.all (by first | rfl | (simp;done) | (simp;omega) | omega)) TwL.nil)))))) TwB.nil)) ?_
      obtain⟨hc605,h⟩:=chk_some h
      refine rg (SQ (fa hc605 tt)) ?_
      apply blkQ_n
      apply seqQ_n
      refine rg (SQ tt) ?_
      obtain rfl:=oi h
      exact⟨rfl,(mp [(3005,1104)] _ _ hB)⟩
    ·apply AWp.cond rfl<;>intro hg606
     ·have h:=ite_t hg606 h
      obtain⟨r607,hr607,h⟩:=bindS h
      obtain⟨_,hx608,h⟩:=bindS h
      refine rg (SQ (fa (cl [(0,0)] (xmake_Deck_Next_ac m417.2 (a1.length:Int) r607 hr607)) (fa hx608 tt))) ?_
      exact hjj423 _ h _ _ (mp [] _ _ hB)
     ·have h:=ite_f hg606 h
      apply AWp.skip
      exact hjj423 _ h _ _ (mp [] _ _ hB)
   ·rcases bft (decide (0<(a1.length:Int))) with hg609 | hg609
    ·have h:=ite_t hg609 h
     obtain⟨r610,hr610,h⟩:=bindS h
     refine rg (SQ (fa hg609 (fa (cl [(0,0)] (xmake_Deck_Next_ac r414.2 4 r610 hr610)) tt))) ?_
     exact hjj418 _ h _ _ (mp [] _ _ hB)
    ·have h:=ite_f hg609 h
     refine rg (SQ (fa hg609 tt)) ?_
     exact hjj418 _ h _ _ (mp [] _ _ hB)
  ·have h:=ite_f hg410 h
   apply AWp.exit
   apply seqQ_e
   obtain rfl:=oi h
   exact⟨(fun hc=>by cases hc),rfl,(mp [] _ _ hB)⟩
 ·obtain⟨rfl,hmat⟩:=hR
  apply blkQ_hit
  apply seqQ_n
  refine AWp.ghost hmat ?_
  refine sr (SQ tt) ?_
  apply AWp.ret
  obtain rfl:=oi h
  exact rt (mp [(900000,3005)] [(4,(.sref 900000 5 0 p409.2.length))] [(0,bd 80 (e_xmake_Deck p409.1)),(900000,some (we_aSigned_66_5 p409.2))] hB) [(.sref 900000 5 0 p409.2.length)] (Res.tmp (by rfl) (by rfl) Res.nil) rfl
def xlaw22_setting_2 (a0:xmake_Deck):Option ((List aCert)×(List aSigned)×Int×xmake_Deck) :=
 (xmake_Deck_Certs a0).bind fun r1 =>
 (xmake_Deck_Signed_2 r1.2 r1.1).bind fun r2 =>
 (xmake_Deck_Next r2.2 14).bind fun r3 =>
 some (r1.1,r2.1,r3.1,r3.2)
theorem xlaw22_setting_2_ac (a0:xmake_Deck) (r:(List aCert)×(List aSigned)×Int×xmake_Deck) (h:xlaw22_setting_2 a0=some r):AC Tryz.prog 10 [(pt 0)] [(0,(.box 80 (.d (e_xmake_Deck a0))))] (.tup [(.d (.list 6 (r.1.map e_aCert))),(.sref 901000 5 0 r.2.1.length),(.d (.int .i64 r.2.2.1))]) [(0,bd 80 (e_xmake_Deck r.2.2.2)),(901000,some (.row 66 5 (r.2.1.map e_aSigned)))]:=by
 refine AC.of_code2 Tryz.func10 rfl rfl (Nat.le_of_ble_eq_true (by rfl)) fun B hB hN => ?_
 delta xlaw22_setting_2 at h
 refine sr (SQ tt) ?_
 apply AWp.seq
 obtain⟨r1,hr1,h⟩:=bindS h
 refine rg (SQ (fa (cl [(0,0)] (xmake_Deck_Certs_ac a0 r1 hr1)) tt)) ?_
 apply seqQ_n
 refine AWp.ghost (mp [] [(0,(pt 0)),(5,(qe_aCert_6 r1.1))] [(0,bd 80 (e_xmake_Deck r1.2))] hB) ?_
 apply AWp.seq
 obtain⟨r2,hr2,h⟩:=bindS h
 obtain⟨r3,hr3,h⟩:=bindS h
 refine rg (SQ (fa (cl [(0,0),(900000,100100)] (xmake_Deck_Signed_2_ac r1.2 r1.1 r2 hr2)) (fa (cl [(0,0)] (xmake_Deck_Next_ac r2.2 14 r3 hr3)) tt))) ?_
 apply seqQ_n
 refine AWp.ghost (mp [] [(2,(qe_aCert_6 r1.1)),(3,(.sref 100100 5 0 r2.1.length)),(4,(i6 r3.1))] [(0,bd 80 (e_xmake_Deck r3.2)),(100100,some (we_aSigned_66_5 r2.1))] hB) ?_
 apply AWp.ret
 obtain rfl:=oi h
 exact rt (mp [(901000,100100)] [(2,(qe_aCert_6 r1.1)),(3,(.sref 901000 5 0 r2.1.length)),(4,(i6 r3.1))] [(0,bd 80 (e_xmake_Deck r3.2)),(901000,some (we_aSigned_66_5 r2.1))] hB) [(qe_aCert_6 r1.1),(.sref 901000 5 0 r2.1.length),(i6 r3.1)] (Res.tmp (by rfl) (by rfl) (Res.tmp (by rfl) (by rfl) (Res.tmp (by rfl) (by rfl) Res.nil))) rfl
def xref22_right_L0 (a0:aSigned) (s1:Int):Option (((Unit)⊕(Unit))⊕(Int)) :=
 (if (decide (s1<(a0.fObjects.length:Int)))=true then
 (idx a0.fObjects s1).bind fun x21 =>
 jn (fun m23:Int =>
 (xref02_Valid x21.fPrefix).bind fun r25 =>
 (if ((((!r25) || (decide (x21.fMax<x21.fPrefix.fLen))) || (decide (m23<x21.fMax))) || (x21.fASN != a0.fASN))=true then
 some (.inl (.inl ()))
 else
 some (.inr (w64 (s1+1))))) (fun j24 =>
 (if x21.fPrefix.fAddr.fV6=true then
 j24 128
 else
 j24 32))
 else
 some (.inl (.inr ())))
def xref22_right (a0:aSigned):Option (Bool) :=
 (loop (xref22_right_L0 a0) 0).bind fun x28=>match x28 with
 | (.inl _) =>
  some false
 | (.inr _) =>
  some (((decide (0≤a0.fASN))&&(decide (a0.fASN≤4294967295)))&&(decide ((a0.fObjects.length:Int)≤512)))
theorem xref22_right_ac (a0:aSigned) (r:Bool) (h:xref22_right a0=some r):AC Tryz.prog 52 [(.d (e_aSigned a0))] [] (.d (.bool r)) []:=by
 refine ac2 Tryz.func52 rfl rfl fun B hB hN L => ?_
 delta xref22_right at h
 refine sr (SQ tt) ?_
 apply AWp.seq
 refine sr (SQ tt) ?_
 apply AWp.block
 obtain⟨x28,hx29,h⟩:=bindS h
 refine lg (xref22_right_L0 a0) (fun s1:Int=>([(1,(pt 1001)),(7,(qe_aObject_6 a0.fObjects)),(8,(i6 (a0.fObjects.length:Int))),(9,(i6 s1))]:EL)) (fun s1:Int=>([(1001,bd 66 (e_aSigned a0))]:OL)) (fun(x:(Unit)⊕(Unit)) e E' O'=>match x with | (.inl _p)=>e = .ret∧Mat B E' O' ([(2,(bo false))]:EL) ([]:OL) | (.inr _p)=>e = .exit 0∧Mat B E' O' ([(1,(pt 1001))]:EL) ([(1001,bd 66 (e_aSigned a0))]:OL)) hx29 (mp [] _ _ hB) (fun s1 y h => ?_) (fun e E' O' hR => ?_)
 ·unfold xref22_right_L0 at h
  refine sr (SQ tt) ?_
  apply AWp.seq
  apply AWp.cond rfl<;>intro hg20
  ·have h:=ite_t hg20 h
   apply AWp.skip
   apply seqQ_n
   apply AWp.seq
   apply AWp.block
   obtain⟨x21,hx21,h⟩:=bindS h
   refine sr (SQ (fa hx21 tt)) ?_
   refine sr (SQ tt) ?_
   apply AWp.seq
   refine sr (SQ tt) ?_
   refine gh [(1,_),(4,_),(5,_),(7,_),(8,_),(9,_),(16,_)] [(1001,some _),(1004,some _)] hB rfl rfl (by rfl) ?_
   refine AWp.cut h (fun m23:Int=>([(1,(pt 1001)),(4,(pt 1004)),(5,(i6 m23)),(7,(qe_aObject_6 a0.fObjects)),(8,(i6 (a0.fObjects.length:Int))),(9,(i6 s1))]:EL)) (fun m23:Int=>([(1001,bd 66 (e_aSigned a0)),(1004,bd 48 (e_aObject x21))]:OL)) (fun m23 h E' O' hmat => ?_) (fun j24 hjj24 h => ?_)
   ·apply seqQ_n
    refine AWp.ghost hmat ?_
    obtain⟨r25,hr25,h⟩:=bindS h
    refine sr (SQ (fa (cl [] (xref02_Valid_ac x21.fPrefix r25 hr25)) tt)) ?_
    apply AWp.cond rfl<;>intro hg26
    ·have h:=ite_t hg26 h
     refine sr (SQ tt) ?_
     apply AWp.ret
     apply blkQ_r
     apply seqQ_r
     obtain rfl:=oi h
     exact⟨(fun hc=>by cases hc),rfl,(mp [] _ _ hB)⟩
    ·have h:=ite_f hg26 h
     apply AWp.skip
     apply blkQ_n
     apply seqQ_n
     refine rg (SQ tt) ?_
     obtain rfl:=oi h
     exact⟨rfl,(mp [] _ _ hB)⟩
   ·apply AWp.cond rfl<;>intro hg27
    ·have h:=ite_t hg27 h
     refine rg (SQ tt) ?_
     exact hjj24 _ h _ _ (mp [] _ _ hB)
    ·have h:=ite_f hg27 h
     apply AWp.skip
     exact hjj24 _ h _ _ (mp [] _ _ hB)
  ·have h:=ite_f hg20 h
   apply AWp.exit
   apply seqQ_e
   obtain rfl:=oi h
   exact⟨(fun hc=>by cases hc),rfl,(mp [] _ _ hB)⟩
 ·rcases x28 with _ | _
  ·obtain⟨rfl,hmat⟩:=hR
   apply blkQ_r
   apply seqQ_r
   obtain rfl:=oi h
   exact rt (Mat.trans hmat (mp [] [(2,(bo false))] [] hB)) [(bo false)] (Res.tmp (by rfl) (by rfl) Res.nil) rfl
  ·obtain⟨rfl,hmat⟩:=hR
   apply blkQ_hit
   apply seqQ_n
   refine AWp.ghost hmat ?_
   refine sr (SQ tt) ?_
   apply AWp.ret
   obtain rfl:=oi h
   exact rt (kp [(2,_)] [] hB rfl rfl (by rfl)) [(bo (((decide (0≤a0.fASN))&&(decide (a0.fASN≤4294967295)))&&(decide ((a0.fObjects.length:Int)≤512))))] (Res.tmp (by rfl) (by rfl) Res.nil) rfl
def xref22_Explain_L1 (a2:aSigned) (x183:aCert) (s191:Bool×Int):Option (((Bool))⊕(Bool×Int)) :=
 (if (decide (s191.2<(a2.fObjects.length:Int)))=true then
 (idx a2.fObjects s191.2).bind fun x205 =>
 jn (fun m208:Bool =>
 some (.inr (m208,(w64 (s191.2+1))))) (fun j209 =>
 (if s191.1=true then
 (xref21_HasPrefix x183.fResources x205.fPrefix).bind fun r211 =>
 j209 r211
 else
 j209 false))
 else
 some (.inl s191.1))
def xref22_Explain_L0 (a0:(List aCert)) (a2:aSigned) (r5:(List Bool)) (s6:Int×Int):Option (((Unit)⊕(Int))⊕(Int×Int)) :=
 (if (decide (s6.2<(a0.length:Int)))=true then
 jn (fun m181:Int =>
 some (.inr (m181,(w64 (s6.2+1))))) (fun j182 =>
 (idx a0 s6.2).bind fun x183 =>
 (if (x183.fKey != a2.fKey)=true then
 j182 s6.1
 else
 (idx r5 s6.2).bind fun x185 =>
 (if (!x185)=true then
 jn (fun m188:Int =>
 j182 m188) (fun j189 =>
 (if (s6.1==11)=true then
 j189 16
 else
 j189 s6.1))
 else
 (loop (xref22_Explain_L1 a2 x183) (true,0)).bind fun p203 =>
 (if p203=true then
 some (.inl (.inl ()))
 else
 j182 17))))
 else
 some (.inl (.inr s6.1)))
def xref22_Explain (a0:(List aCert)) (a1:(List Int)) (a2:aSigned) (a3:Int):Option (Int) :=
 (xref22_right a2).bind fun r1 =>
 (if (!r1)=true then
 some 1
 else
 (xref22_current a2.fFrom a2.fUntil a3).bind fun r3 =>
 (if (!r3)=true then
 some 14
 else
 (xref22_Trusted a0 a1 a3).bind fun r5 =>
 (loop (xref22_Explain_L0 a0 a2 r5) (11,0)).bind fun x215=>match x215 with
 | (.inl _) =>
  some 0
 | (.inr p146) =>
  some p146))
theorem xref22_Explain_ac (a0:(List aCert)) (a1:(List Int)) (a2:aSigned) (a3:Int) (r:Int) (h:xref22_Explain a0 a1 a2 a3=some r):AC Tryz.prog 26 [(.d (.list 6 (a0.map e_aCert))),(.d (.list 1 (a1.map (eI .i64)))),(.d (e_aSigned a2)),(.d (.int .i64 a3))] [] (.d (.int .i64 r)) []:=by
 refine ac2 Tryz.func26 rfl rfl fun B hB hN L => ?_
 delta xref22_Explain at h
 refine sr (SQ tt) ?_
 apply AWp.seq
 apply AWp.block
 obtain⟨r1,hr1,h⟩:=bindS h
 refine sr (SQ (fa (cl [] (xref22_right_ac a2 r1 hr1)) tt)) ?_
 apply AWp.cond rfl<;>intro hg2
 ·have h:=ite_t hg2 h
  refine sr (SQ tt) ?_
  apply AWp.ret
  apply blkQ_r
  apply seqQ_r
  obtain rfl:=oi h
  exact rt (kp [(8,_)] [] hB rfl rfl (by rfl)) [(i6 1)] (Res.tmp (by rfl) (by rfl) Res.nil) rfl
 ·have h:=ite_f hg2 h
  obtain⟨r3,hr3,h⟩:=bindS h
  refine sr (SQ (fa (cl [] (xref22_current_ac a2.fFrom a2.fUntil a3 r3 hr3)) tt)) ?_
  apply AWp.cond rfl<;>intro hg4
  ·have h:=ite_t hg4 h
   refine sr (SQ tt) ?_
   apply AWp.ret
   apply blkQ_r
   apply seqQ_r
   obtain rfl:=oi h
   exact rt (kp [(8,_)] [] hB rfl rfl (by rfl)) [(i6 14)] (Res.tmp (by rfl) (by rfl) Res.nil) rfl
  ·have h:=ite_f hg4 h
   apply AWp.skip
   apply blkQ_n
   apply seqQ_n
   obtain⟨r5,hr5,h⟩:=bindS h
   refine sr (SQ (fa (cl [] (xref22_Trusted_ac a0 a1 a3 r5 hr5)) tt)) ?_
   refine sr (SQ tt) ?_
   apply AWp.seq
   refine sr (SQ tt) ?_
   apply AWp.block
   obtain⟨x215,hx216,h⟩:=bindS h
   refine lg (xref22_Explain_L0 a0 a2 r5) (fun s6:Int×Int=>([(6,(pt 1006)),(9,(.d (.list 1 (r5.map eB)))),(10,(i6 s6.1)),(32,(qe_aCert_6 a0)),(33,(i6 (a0.length:Int))),(34,(i6 s6.2))]:EL)) (fun s6:Int×Int=>([(1006,bd 66 (e_aSigned a2))]:OL)) (fun(x:(Unit)⊕(Int)) e E' O'=>match x with | (.inl _p)=>e = .ret∧Mat B E' O' ([(8,(i6 0))]:EL) ([]:OL) | (.inr p146)=>e = .exit 1∧Mat B E' O' ([(10,(i6 p146))]:EL) ([]:OL)) hx216 (mp [] _ _ hB) (fun s6 y h => ?_) (fun e E' O' hR => ?_)
   ·unfold xref22_Explain_L0 at h
    refine sr (SQ tt) ?_
    apply AWp.seq
    apply AWp.cond rfl<;>intro hg147
    ·have h:=ite_t hg147 h
     apply AWp.skip
     apply seqQ_n
     apply AWp.seq
     refine AWp.cut h (fun m181:Int=>([(6,(pt 1006)),(9,(.d (.list 1 (r5.map eB)))),(10,(i6 m181)),(32,(qe_aCert_6 a0)),(33,(i6 (a0.length:Int))),(34,(i6 s6.2))]:EL)) (fun m181:Int=>([(1006,bd 66 (e_aSigned a2))]:OL)) (fun m181 h E' O' hmat => ?_) (fun j182 hjj182 h => ?_)
     ·apply seqQ_n
      refine AWp.ghost hmat ?_
      refine rg (SQ tt) ?_
      obtain rfl:=oi h
      exact⟨rfl,(mp [] _ _ hB)⟩
     ·apply AWp.block
      obtain⟨x183,hx183,h⟩:=bindS h
      refine sr (SQ (fa hx183 tt)) ?_
      apply AWp.seq
      refine sr (SQ tt) ?_
      apply AWp.cond rfl<;>intro hg184
      ·have h:=ite_t hg184 h
       apply AWp.exit
       apply seqQ_e
       apply blkQ_hit
       exact hjj182 _ h _ _ (mp [] _ _ hB)
      ·have h:=ite_f hg184 h
       apply AWp.skip
       apply seqQ_n
       apply AWp.seq
       obtain⟨_,hx185,h⟩:=bindS h
       refine sr (SQ (fa hx185 tt)) ?_
       apply AWp.cond rfl<;>intro hg186
       ·have h:=ite_t hg186 h
        apply AWp.seq
        refine sr (SQ tt) ?_
        refine gh [(6,_),(9,_),(10,_),(32,_),(33,_),(34,_),(50,_)] [(1006,some _)] hB rfl rfl (by rfl) ?_
        refine AWp.cut h (fun m188:Int=>([(6,(pt 1006)),(9,(.d (.list 1 (r5.map eB)))),(10,(i6 m188)),(32,(qe_aCert_6 a0)),(33,(i6 (a0.length:Int))),(34,(i6 s6.2))]:EL)) (fun m188:Int=>([(1006,bd 66 (e_aSigned a2))]:OL)) (fun m188 h E' O' hmat => ?_) (fun j189 hjj189 h => ?_)
        ·apply seqQ_n
         refine AWp.ghost hmat ?_
         apply AWp.exit
         apply seqQ_e
         apply blkQ_hit
         exact hjj182 _ h _ _ (mp [] _ _ hB)
        ·apply AWp.cond rfl<;>intro hg190
         ·have h:=ite_t hg190 h
          refine rg (SQ tt) ?_
          exact hjj189 _ h _ _ (mp [] _ _ hB)
         ·have h:=ite_f hg190 h
          apply AWp.skip
          exact hjj189 _ h _ _ (mp [] _ _ hB)
       ·have h:=ite_f hg186 h
        apply AWp.skip
        apply seqQ_n
        refine sr (SQ tt) ?_
        refine sr (SQ tt) ?_
        apply AWp.seq
        refine sr (SQ tt) ?_
        apply AWp.block
        obtain⟨p203,hx213,h⟩:=bindS h
        refine lg (xref22_Explain_L1 a2 x183) (fun s191:Bool×Int=>([(6,(pt 1006)),(9,(.d (.list 1 (r5.map eB)))),(10,(i6 17)),(12,(pt 1012)),(13,(bo s191.1)),(32,(qe_aCert_6 a0)),(33,(i6 (a0.length:Int))),(34,(i6 s6.2)),(52,(qe_aObject_6 a2.fObjects)),(53,(i6 (a2.fObjects.length:Int))),(54,(i6 s191.2))]:EL)) (fun s191:Bool×Int=>([(1006,bd 66 (e_aSigned a2)),(1012,bd 59 (e_aCert x183))]:OL)) (fun(p203:(Bool)) e E' O'=>e = .exit 3∧Mat B E' O' ([(6,(pt 1006)),(9,(.d (.list 1 (r5.map eB)))),(10,(i6 17)),(13,(bo p203)),(32,(qe_aCert_6 a0)),(33,(i6 (a0.length:Int))),(34,(i6 s6.2))]:EL) ([(1006,bd 66 (e_aSigned a2))]:OL)) hx213 (mp [] _ _ hB) (fun s191 y h => ?_) (fun e E' O' hR => ?_)
        ·unfold xref22_Explain_L1 at h
         refine sr (SQ tt) ?_
         apply AWp.seq
         apply AWp.cond rfl<;>intro hg204
         ·have h:=ite_t hg204 h
          apply AWp.skip
          apply seqQ_n
          apply AWp.seq
          apply AWp.block
          obtain⟨x205,hx205,h⟩:=bindS h
          refine sr (SQ (fa hx205 tt)) ?_
          refine gh [(6,_),(9,_),(10,_),(12,_),(13,_),(15,_),(32,_),(33,_),(34,_),(52,_),(53,_),(54,_)] [(1006,some _),(1012,some _),(1015,some _)] hB rfl rfl (by rfl) ?_
          refine AWp.cut h (fun m208:Bool=>([(6,(pt 1006)),(9,(.d (.list 1 (r5.map eB)))),(10,(i6 17)),(12,(pt 1012)),(13,(bo m208)),(32,(qe_aCert_6 a0)),(33,(i6 (a0.length:Int))),(34,(i6 s6.2)),(52,(qe_aObject_6 a2.fObjects)),(53,(i6 (a2.fObjects.length:Int))),(54,(i6 s191.2))]:EL)) (fun m208:Bool=>([(1006,bd 66 (e_aSigned a2)),(1012,bd 59 (e_aCert x183))]:OL)) (fun m208 h E' O' hmat => ?_) (fun j209 hjj209 h => ?_)
          ·apply blkQ_n
           apply seqQ_n
           refine AWp.ghost hmat ?_
           refine rg (SQ tt) ?_
           obtain rfl:=oi h
           exact⟨rfl,(mp [] _ _ hB)⟩
          ·rcases bft s191.1 with hg210 | hg210
           ·have h:=ite_t hg210 h
            obtain⟨r211,hr211,h⟩:=bindS h
            refine rg (SQ (fa hg210 (fa (cl [] (xref21_HasPrefix_ac x183.fResources x205.fPrefix r211 hr211)) tt))) ?_
            exact hjj209 _ h _ _ (mp [] _ _ hB)
           ·have h:=ite_f hg210 h
            refine rg (SQ (fa hg210 tt)) ?_
            exact hjj209 _ h _ _ (mp [] _ _ hB)
         ·have h:=ite_f hg204 h
          apply AWp.exit
          apply seqQ_e
          obtain rfl:=oi h
          exact⟨(fun hc=>by cases hc),rfl,(mp [] _ _ hB)⟩
        ·obtain⟨rfl,hmat⟩:=hR
         apply blkQ_hit
         apply seqQ_n
         refine AWp.ghost hmat ?_
         refine sr (SQ tt) ?_
         apply AWp.cond rfl<;>intro hg214
         ·have h:=ite_t hg214 h
          refine sr (SQ tt) ?_
          apply AWp.ret
          apply blkQ_r
          apply seqQ_r
          obtain rfl:=oi h
          exact⟨(fun hc=>by cases hc),rfl,(mp [] _ _ hB)⟩
         ·have h:=ite_f hg214 h
          apply AWp.skip
          apply blkQ_n
          exact hjj182 _ h _ _ (mp [] _ _ hB)
    ·have h:=ite_f hg147 h
     apply AWp.exit
     apply seqQ_e
     obtain rfl:=oi h
     exact⟨(fun hc=>by cases hc),rfl,(mp [] _ _ hB)⟩
   ·rcases x215 with _ | p146
    ·obtain⟨rfl,hmat⟩:=hR
     apply blkQ_r
     apply seqQ_r
     obtain rfl:=oi h
     exact rt (Mat.trans hmat (mp [] [(8,(i6 0))] [] hB)) [(i6 0)] (Res.tmp (by rfl) (by rfl) Res.nil) rfl
    ·obtain⟨rfl,hmat⟩:=hR
     apply blkQ_hit
     apply seqQ_n
     refine AWp.ghost hmat ?_
     refine sr (SQ tt) ?_
     apply AWp.ret
     obtain rfl:=oi h
     exact rt (kp [(8,_)] [] hB rfl rfl (by rfl)) [(i6 p146)] (Res.tmp (by rfl) (by rfl) Res.nil) rfl
def xref02_Cmp (a0:aPrefix) (a1:aPrefix):Option (Int) :=
 (xref01_Cmp a0.fAddr a1.fAddr).bind fun r1 =>
 (if (r1 != 0)=true then
 some r1
 else
 (if (decide (a0.fLen<a1.fLen))=true then
 some (-1)
 else
 (if (decide (a1.fLen<a0.fLen))=true then
 some 1
 else
 some 0)))
theorem xref02_Cmp_ac (a0:aPrefix) (a1:aPrefix) (r:Int) (h:xref02_Cmp a0 a1=some r):AC Tryz.prog 101 [(.d (e_aPrefix a0)),(.d (e_aPrefix a1))] [] (.d (.int .i64 r)) []:=by
 refine ac2 Tryz.func101 rfl rfl fun B hB hN L => ?_
 delta xref02_Cmp at h
 refine sr (SQ tt) ?_
 apply AWp.seq
 obtain⟨r1,hr1,h⟩:=bindS h
 refine sr (SQ (fa (cl [] (xref01_Cmp_ac a0.fAddr a1.fAddr r1 hr1)) tt)) ?_
 refine sr (SQ tt) ?_
 apply AWp.cond rfl<;>intro hg2
 ·have h:=ite_t hg2 h
  refine sr (SQ tt) ?_
  apply AWp.ret
  apply seqQ_r
  obtain rfl:=oi h
  exact rt (kp [(4,_)] [] hB rfl rfl (by rfl)) [(i6 r1)] (Res.tmp (by rfl) (by rfl) Res.nil) rfl
 ·have h:=ite_f hg2 h
  apply AWp.skip
  apply seqQ_n
  apply AWp.seq
  apply AWp.block
  refine sr (SQ tt) ?_
  apply AWp.cond rfl<;>intro hg3
  ·have h:=ite_t hg3 h
   refine sr (SQ tt) ?_
   apply AWp.ret
   apply blkQ_r
   apply seqQ_r
   obtain rfl:=oi h
   exact rt (kp [(4,_)] [] hB rfl rfl (by rfl)) [(i6 (-1))] (Res.tmp (by rfl) (by rfl) Res.nil) rfl
  ·have h:=ite_f hg3 h
   refine sr (SQ tt) ?_
   apply AWp.cond rfl<;>intro hg4
   ·have h:=ite_t hg4 h
    refine sr (SQ tt) ?_
    apply AWp.ret
    apply blkQ_r
    apply seqQ_r
    obtain rfl:=oi h
    exact rt (kp [(4,_)] [] hB rfl rfl (by rfl)) [(i6 1)] (Res.tmp (by rfl) (by rfl) Res.nil) rfl
   ·have h:=ite_f hg4 h
    apply AWp.skip
    apply blkQ_n
    apply seqQ_n
    refine sr (SQ tt) ?_
    apply AWp.ret
    obtain rfl:=oi h
    exact rt (kp [(4,_)] [] hB rfl rfl (by rfl)) [(i6 0)] (Res.tmp (by rfl) (by rfl) Res.nil) rfl
def xref20_Cmp (a0:aObject) (a1:aObject):Option (Int) :=
 (xref02_Cmp a0.fPrefix a1.fPrefix).bind fun r1 =>
 (if (r1 != 0)=true then
 some r1
 else
 jn (fun m4:Bool =>
 (if m4=true then
 some (-1)
 else
 (if ((((a0.fPrefix.fAddr.fV6==a1.fPrefix.fAddr.fV6)&&((a0.fPrefix.fAddr.fHi==a1.fPrefix.fAddr.fHi)&&((a0.fPrefix.fAddr.fLo==a1.fPrefix.fAddr.fLo)&&true)))&&((a0.fPrefix.fLen==a1.fPrefix.fLen)&&true))&&((a0.fMax==a1.fMax)&&((a0.fASN==a1.fASN)&&true)))=true then
 some 0
 else
 some 1))) (fun j5 =>
 (if (decide (a0.fMax<a1.fMax))=true then
 j5 true
 else
 j5 ((a0.fMax==a1.fMax)&&(decide (a0.fASN<a1.fASN))))))
theorem xref20_Cmp_ac (a0:aObject) (a1:aObject) (r:Int) (h:xref20_Cmp a0 a1=some r):AC Tryz.prog 83 [(.d (e_aObject a0)),(.d (e_aObject a1))] [] (.d (.int .i64 r)) []:=by
 refine ac2 Tryz.func83 rfl rfl fun B hB hN L => ?_
 delta xref20_Cmp at h
 refine sr (SQ tt) ?_
 apply AWp.seq
 obtain⟨r1,hr1,h⟩:=bindS h
 refine sr (SQ (fa (cl [] (xref02_Cmp_ac a0.fPrefix a1.fPrefix r1 hr1)) tt)) ?_
 refine sr (SQ tt) ?_
 apply AWp.cond rfl<;>intro hg2
 ·have h:=ite_t hg2 h
  refine sr (SQ tt) ?_
  apply AWp.ret
  apply seqQ_r
  obtain rfl:=oi h
  exact rt (kp [(4,_)] [] hB rfl rfl (by rfl)) [(i6 r1)] (Res.tmp (by rfl) (by rfl) Res.nil) rfl
 ·have h:=ite_f hg2 h
  apply AWp.skip
  apply seqQ_n
  apply AWp.seq
  apply AWp.block
  apply AWp.seq
  refine AWp.cut h (fun m4:Bool=>([(2,(pt 1002)),(3,(pt 1003)),(14,(bo m4))]:EL)) (fun m4:Bool=>([(1002,bd 48 (e_aObject a0)),(1003,bd 48 (e_aObject a1))]:OL)) (fun m4 h E' O' hmat => ?_) (fun j5 hjj5 h => ?_)
  ·apply seqQ_n
   refine AWp.ghost hmat ?_
   apply AWp.cond rfl<;>intro hg6
   ·have h:=ite_t hg6 h
    refine sr (SQ tt) ?_
    apply AWp.ret
    apply blkQ_r
    apply seqQ_r
    obtain rfl:=oi h
    exact rt (kp [(4,_)] [] hB rfl rfl (by rfl)) [(i6 (-1))] (Res.tmp (by rfl) (by rfl) Res.nil) rfl
   ·have h:=ite_f hg6 h
    apply sr (c (lb hN 48 _ _ tyS48 (At.here _) (q 2)) rfl (c (lb hN 48 _ _ tyS48 (At.here _) (q 3)) rfl (c (OpJ.eqlD (h:=4) (FitE.st underlying48 rfl held48 (FitF.cons (x:=(e_aPrefix a0.fPrefix)) (y:=(e_aPrefix a1.fPrefix)) (by decide) rfl tyS46 ⟨rfl,rfl⟩ ⟨rfl,rfl⟩ (FitE.st underlying46 rfl held46 (FitF.cons (x:=(e_aAddr a0.fPrefix.fAddr)) (y:=(e_aAddr a1.fPrefix.fAddr)) (by decide) rfl tyS44 ⟨rfl,rfl⟩ ⟨rfl,rfl⟩ (FitE.st underlying44 rfl held44 (FitF.cons (x:=(.bool a0.fPrefix.fAddr.fV6)) (y:=(.bool a1.fPrefix.fAddr.fV6)) (by decide) rfl tyS4 ⟨rfl,rfl⟩ ⟨rfl,rfl⟩ (FitE.bool (h:=0) a0.fPrefix.fAddr.fV6 a1.fPrefix.fAddr.fV6 underlying4) (FitF.cons (x:=(.int .u64 a0.fPrefix.fAddr.fHi)) (y:=(.int .u64 a1.fPrefix.fAddr.fHi)) (by decide) rfl tyS42 ⟨rfl,rfl⟩ ⟨rfl,rfl⟩ (FitE.int (h:=0) a0.fPrefix.fAddr.fHi a1.fPrefix.fAddr.fHi underlying42) (FitF.cons (x:=(.int .u64 a0.fPrefix.fAddr.fLo)) (y:=(.int .u64 a1.fPrefix.fAddr.fLo)) (by decide) rfl tyS42 ⟨rfl,rfl⟩ ⟨rfl,rfl⟩ (FitE.int (h:=0) a0.fPrefix.fAddr.fLo a1.fPrefix.fAddr.fLo underlying42) FitF.nil)))) (FitF.cons (x:=(.int .i64 a0.fPrefix.fLen)) (y:=(.int .i64 a1.fPrefix.fLen)) (by decide) rfl tyS3 ⟨rfl,rfl⟩ ⟨rfl,rfl⟩ (FitE.int (h:=1) a0.fPrefix.fLen a1.fPrefix.fLen underlying3) FitF.nil))) (FitF.cons (x:=(.int .i64 a0.fMax)) (y:=(.int .i64 a1.fMax)) (by decide) rfl tyS3 ⟨rfl,rfl⟩ ⟨rfl,rfl⟩ (FitE.int (h:=2) a0.fMax a1.fMax underlying3) (FitF.cons (x:=(.int .i64 a0.fASN)) (y:=(.int .i64 a1.fASN)) (by decide) rfl tyS3 ⟨rfl,rfl⟩ ⟨rfl,rfl⟩ (FitE.int (h:=2) a0.fASN a1.fASN underlying3) FitF.nil)))) eqg48 ⟨rfl,rfl⟩ (by rfl) (L rfl) (q 35) (q 36)) rfl (c (assign (L rfl) (q 37)) rfl cn))))
    apply AWp.cond rfl<;>intro hg7
    ·have h:=ite_t hg7 h
     refine sr (SQ tt) ?_
     apply AWp.ret
     apply blkQ_r
     apply seqQ_r
     obtain rfl:=oi h
     exact rt (kp [(4,_)] [] hB rfl rfl (by rfl)) [(i6 0)] (Res.tmp (by rfl) (by rfl) Res.nil) rfl
    ·have h:=ite_f hg7 h
     apply AWp.skip
     apply blkQ_n
     apply seqQ_n
     refine sr (SQ tt) ?_
     apply AWp.ret
     obtain rfl:=oi h
     exact rt (kp [(4,_)] [] hB rfl rfl (by rfl)) [(i6 1)] (Res.tmp (by rfl) (by rfl) Res.nil) rfl
  ·rcases bft (decide (a0.fMax<a1.fMax)) with hg8 | hg8
   ·have h:=ite_t hg8 h
    refine rg (SQ (fa hg8 tt)) ?_
    exact hjj5 _ h _ _ (mp [] _ _ hB)
   ·have h:=ite_f hg8 h
    refine rg (SQ (fa hg8 tt)) ?_
    exact hjj5 _ h _ _ (mp [] _ _ hB)
def xref20_Sorted_L1 (s1:Int×(List aObject)) (x276:aObject) (s277:Int):Option (((Int))⊕(Int)) :=
 jn (fun m305:Bool =>
 (if m305=true then
 some (.inr (w64 (s277+1)))
 else
 some (.inl s277))) (fun j306 =>
 (if (decide (s277<(s1.2.length:Int)))=true then
 (idx s1.2 s277).bind fun x309 =>
 (idx s1.2 s277).bind fun x310 =>
 (xref20_Cmp x310 x276).bind fun r311 =>
 j306 (decide (r311<0))
 else
 j306 false))
def xref20_Sorted_L0 (a0:(List aObject)) (s1:Int×(List aObject)):Option ((((List aObject)))⊕(Int×(List aObject))) :=
 (if (decide (s1.1<(a0.length:Int)))=true then
 jn (fun m274:(List aObject) =>
 some (.inr ((w64 (s1.1+1)),m274))) (fun j275 =>
 (idx a0 s1.1).bind fun x276 =>
 (loop (xref20_Sorted_L1 s1 x276) 0).bind fun p300 =>
 jn (fun m317:Bool =>
 (if m317=true then
 j275 s1.2
 else
 chk ((decide (0≤p300)&&decide (0≤p300.toNat)&&decide (p300.toNat≤s1.2.length))) <|
 chk (decide (((s1.2.take p300.toNat).drop 0).length≤LIM)) <|
 chk (decide ((((s1.2.take p300.toNat).drop 0)++[x276]).length≤LIM)) <|
 chk ((decide (0≤p300)&&decide (p300.toNat≤s1.2.length)&&decide (s1.2.length≤s1.2.length))) <|
 chk (decide (((((s1.2.take p300.toNat).drop 0)++[x276])++((s1.2.take s1.2.length).drop p300.toNat)).length≤LIM)) <|
 j275 ((((s1.2.take p300.toNat).drop 0)++[x276])++((s1.2.take s1.2.length).drop p300.toNat)))) (fun j318 =>
 (if (decide (p300<(s1.2.length:Int)))=true then
 (idx s1.2 p300).bind fun x331 =>
 (idx s1.2 p300).bind fun x332 =>
 j318 ((((x332.fPrefix.fAddr.fV6==x276.fPrefix.fAddr.fV6)&&((x332.fPrefix.fAddr.fHi==x276.fPrefix.fAddr.fHi)&&((x332.fPrefix.fAddr.fLo==x276.fPrefix.fAddr.fLo)&&true)))&&((x332.fPrefix.fLen==x276.fPrefix.fLen)&&true))&&((x332.fMax==x276.fMax)&&((x332.fASN==x276.fASN)&&true)))
 else
 j318 false)))
 else
 some (.inl s1.2))
def xref20_Sorted (a0:(List aObject)):Option ((List aObject)) :=
 (loop (xref20_Sorted_L0 a0) (0,([]:List aObject))).bind fun p214 =>
 some p214
theorem xref20_Sorted_ac (a0:(List aObject)) (r:(List aObject)) (h:xref20_Sorted a0=some r):AC Tryz.prog 51 [(.d (.list 6 (a0.map e_aObject)))] [] (.d (.list 6 (r.map e_aObject))) []:=by
 refine ac2 Tryz.func51 rfl rfl fun B hB hN L => ?_
 delta xref20_Sorted at h
 refine sr (SQ tt) ?_
 refine sr (SQ tt) ?_
 apply AWp.seq
 refine sr (SQ tt) ?_
 apply AWp.block
 obtain⟨p214,hx334,h⟩:=bindS h
 refine lg (xref20_Sorted_L0 a0) (fun s1:Int×(List aObject)=>([(3,(.sref 3003 6 0 s1.2.length)),(7,(qe_aObject_6 a0)),(8,(i6 (a0.length:Int))),(9,(i6 s1.1))]:EL)) (fun s1:Int×(List aObject)=>([(3003,some (we_aObject_48_6 s1.2))]:OL)) (fun(p214:((List aObject))) e E' O'=>e = .exit 0∧Mat B E' O' ([(3,(.sref 3003 6 0 p214.length))]:EL) ([(3003,some (we_aObject_48_6 p214))]:OL)) hx334 (Mat.trans (Mat.beginP (n:=3003) (e:=48) (sz:=6) (Ts:=[(3,(.sref 3003 6 0 0))]) (Bs:=[]) hB (by decide) (by rfl) (by decide) (TwT.cons (x:=.nils) (by rfl) (Tw.leaf ⟨rfl,rfl⟩) TwT.nil) TwB.nil) (mp [] _ _ hB)) (fun s1 y h => ?_) (fun e E' O' hR => ?_)
 ·unfold xref20_Sorted_L0 at h
  refine sr (SQ tt) ?_
  apply AWp.seq
  apply AWp.cond rfl<;>intro hg215
  ·have h:=ite_t hg215 h
   apply AWp.skip
   apply seqQ_n
   apply AWp.seq
   refine AWp.cut h (fun m274:(List aObject)=>([(3,(.sref 3003 6 0 m274.length)),(7,(qe_aObject_6 a0)),(8,(i6 (a0.length:Int))),(9,(i6 s1.1))]:EL)) (fun m274:(List aObject)=>([(3003,some (we_aObject_48_6 m274))]:OL)) (fun m274 h E' O' hmat => ?_) (fun j275 hjj275 h => ?_)
   ·apply seqQ_n
    refine AWp.ghost hmat ?_
    refine rg (SQ tt) ?_
    obtain rfl:=oi h
    exact⟨rfl,(mp [] _ _ hB)⟩
   ·apply AWp.block
    obtain⟨x276,hx276,h⟩:=bindS h
    refine sr (SQ (fa hx276 tt)) ?_
    refine sr (SQ tt) ?_
    apply AWp.seq
    apply AWp.block
    obtain⟨p300,hx313,h⟩:=bindS h
    refine lg (xref20_Sorted_L1 s1 x276) (fun s277:Int=>([(3,(.sref 3003 6 0 s1.2.length)),(5,(pt 1005)),(6,(i6 s277)),(7,(qe_aObject_6 a0)),(8,(i6 (a0.length:Int))),(9,(i6 s1.1))]:EL)) (fun s277:Int=>([(1005,bd 48 (e_aObject x276)),(3003,some (we_aObject_48_6 s1.2))]:OL)) (fun(p300:(Int)) e E' O'=>e = .exit 2∧Mat B E' O' ([(3,(.sref 3003 6 0 s1.2.length)),(5,(pt 1005)),(6,(i6 p300)),(7,(qe_aObject_6 a0)),(8,(i6 (a0.length:Int))),(9,(i6 s1.1))]:EL) ([(1005,bd 48 (e_aObject x276)),(3003,some (we_aObject_48_6 s1.2))]:OL)) hx313 (mp [] _ _ hB) (fun s277 y h => ?_) (fun e E' O' hR => ?_)
    ·unfold xref20_Sorted_L1 at h
     apply AWp.seq
     apply AWp.seq
     refine AWp.cut h (fun m305:Bool=>([(3,(.sref 3003 6 0 s1.2.length)),(5,(pt 1005)),(6,(i6 s277)),(7,(qe_aObject_6 a0)),(8,(i6 (a0.length:Int))),(9,(i6 s1.1)),(25,(bo m305))]:EL)) (fun m305:Bool=>([(1005,bd 48 (e_aObject x276)),(3003,some (we_aObject_48_6 s1.2))]:OL)) (fun m305 h E' O' hmat => ?_) (fun j306 hjj306 h => ?_)
     ·apply seqQ_n
      refine AWp.ghost hmat ?_
      apply AWp.cond rfl<;>intro hg307
      ·have h:=ite_t hg307 h
       apply AWp.skip
       apply seqQ_n
       apply AWp.block
       refine rg (SQ tt) ?_
       apply blkQ_n
       obtain rfl:=oi h
       exact⟨rfl,(mp [] _ _ hB)⟩
      ·have h:=ite_f hg307 h
       apply AWp.exit
       apply seqQ_e
       obtain rfl:=oi h
       exact⟨(fun hc=>by cases hc),rfl,(mp [] _ _ hB)⟩
     ·rcases bft (decide (s277<(s1.2.length:Int))) with hg308 | hg308
      ·have h:=ite_t hg308 h
       obtain⟨_,hx309,h⟩:=bindS h
       obtain⟨x310,hx310,h⟩:=bindS h
       obtain⟨r311,hr311,h⟩:=bindS h
       refine drS (SQ (fa hg308 (fa hx309 (fa hx310 (fa (cl [] (xref20_Cmp_ac x310 x276 r311 hr311)) tt))))) ?_
       exact hjj306 _ h _ _ (mp [] _ _ hB)
      ·have h:=ite_f hg308 h
       refine drS (SQ (fa hg308 tt)) ?_
       exact hjj306 _ h _ _ (mp [] _ _ hB)
    ·obtain⟨rfl,hmat⟩:=hR
     apply blkQ_hit
     apply seqQ_n
     refine AWp.ghost hmat ?_
     apply AWp.seq
     apply AWp.seq
     refine AWp.cut h (fun m317:Bool=>([(3,(.sref 3003 6 0 s1.2.length)),(5,(pt 1005)),(6,(i6 p300)),(7,(qe_aObject_6 a0)),(8,(i6 (a0.length:Int))),(9,(i6 s1.1)),(39,(bo m317))]:EL)) (fun m317:Bool=>([(1005,bd 48 (e_aObject x276)),(3003,some (we_aObject_48_6 s1.2))]:OL)) (fun m317 h E' O' hmat => ?_) (fun j318 hjj318 h => ?_)
     ·apply seqQ_n
      refine AWp.ghost hmat ?_
      apply AWp.cond rfl<;>intro hg319
      ·have h:=ite_t hg319 h
       apply AWp.exit
       apply seqQ_e
       apply blkQ_hit
       exact hjj275 _ h _ _ (mp [] _ _ hB)
      ·have h:=ite_f hg319 h
       apply AWp.skip
       apply seqQ_n
       refine AWp.ghost (Mat.freezeP (n:=3003) (e:=48) (sz:=6) (es:=s1.2.map e_aObject) (Ts:=[(3,(qe_aObject_6 s1.2))]) (Bs:=[]) (by rfl) (TwT.cons (x:=(.sref 3003 6 0 s1.2.length)) (by rfl) (FrzL.all (by first | rfl | (simp;done) | (simp;omega) | omega)) TwT.nil) TwB.nil) ?_
       obtain⟨hc325,h⟩:=chk_some h
       obtain⟨hc326,h⟩:=chk_some h
       obtain⟨hc327,h⟩:=chk_some h
       obtain⟨hc328,h⟩:=chk_some h
       obtain⟨hc329,h⟩:=chk_some h
       apply dr (c (mv hN (q 3)) rfl (c (mv hN (q 6)) rfl (c (OpJ.cutD underlying38 tyS48 (es':=((s1.2.take p300.toNat).drop 0).map e_aObject) (l:=0) (h:=p300.toNat) (.inl ⟨rfl,rfl,rfl⟩) (.inr ⟨_,_,_,rfl,(ot 41 (i6 p300)),(of_decide_eq_true (and_l2 (and_l2 hc325))),rfl⟩) (of_decide_eq_true (and_r2 (and_l2 hc325))) (by first | (simp;done) | simpa using (of_decide_eq_true (and_r2 hc325))) (by first | rw [List.map_drop,List.map_take] | simp [List.map_take,List.map_drop]) (L rfl) (q 40)) rfl (cg (OpJ.appendN hB underlying38 tyE48 (nm:=1043) (by decide) (ys:=((s1.2.take p300.toNat).drop 0).map e_aObject) (len:=((s1.2.take p300.toNat).drop 0).length) (by simp) (map_sz (f:=e_aObject) (fun _=>rfl)) (by rw [List.length_map];exact lim_mulN hc326 (by decide)) (by rw [List.length_map];exact lim_leN hc326) (L rfl) Opd.nils (q 42)) rfl (c (lb hN 48 _ _ tyS48 (At.here _) (q 5)) rfl (c (buildSlice underlying38 tyS48 tyZD48 (by rfl) (by decide) (by decide) (Opds.cons (q 44) Opds.nil) (by kernel_rfl) (es:=([(e_aObject x276)]:List D)) (by rfl) (by rfl) (by kernel_rfl) (by simp) (L rfl)) rfl (cg (apd hB underlying38 tyE48 1046 e_aObject ((s1.2.take p300.toNat).drop 0) [x276] hc327 (L rfl) (q 43) (q 45)) rfl (c (mv hN (q 3)) rfl (c (mv hN (q 6)) rfl (c (OpJ.cutD underlying38 tyS48 (es':=((s1.2.take s1.2.length).drop p300.toNat).map e_aObject) (l:=p300.toNat) (h:=s1.2.length) (.inr ⟨_,_,_,rfl,(ot 48 (i6 p300)),(of_decide_eq_true (and_l2 (and_l2 hc328))),rfl⟩) (.inl ⟨rfl,by simp,rfl⟩) (of_decide_eq_true (and_r2 (and_l2 hc328))) (by first | (simp;done) | simpa using (of_decide_eq_true (and_r2 hc328))) (by first | rw [List.map_drop,List.map_take] | simp [List.map_take,List.map_drop]) (L rfl) (q 47)) rfl (cg (apd hB underlying38 tyE48 1050 e_aObject (((s1.2.take p300.toNat).drop 0)++[x276]) ((s1.2.take s1.2.length).drop p300.toNat) hc329 (L rfl) (q 46) (q 49)) rfl (c (assign (L rfl) (q 50)) rfl cn)))))))))))) (by kernel_rfl) (by kernel_rfl)
       apply blkQ_n
       exact hjj275 _ h _ _ (mp [(3003,1050)] _ _ hB)
     ·rcases bft (decide (p300<(s1.2.length:Int))) with hg330 | hg330
      ·have h:=ite_t hg330 h
       obtain⟨_,hx331,h⟩:=bindS h
       obtain⟨x332,hx332,h⟩:=bindS h
       apply dr (c (mv hN (q 6)) rfl (c (mv hN (q 3)) rfl (c (lenS underlying38 (L rfl) (q 29)) rfl (c (lss (L rfl) (q 28) (q 30)) rfl (c (OpJ.val (v':=.d (.bool true)) (by rw [hg330]<;>rfl) (mv hN (q 31))) rfl (c (gd 32 (mv hN (q 3))) rfl (c (gd 32 (mv hN (q 6))) rfl (c (gd 32 (OpJ.val (v':=(.ptr 3003 (p300.toNat*6) [p300.toNat])) (by simp) (indexS underlying38 tyS48 (idx_some hx331).1 (by have:=idx_lt hx331;first | (simpa using this) | ((try simp only [List.length_map] at this);(try simp only [List.length_map]);omega)) (L rfl) (q 33) (q 34)))) rfl (c (gd 32 (loadR (e:=48) (sz:=6) tyS48 (get_map e_aObject (idx_some hx332).2) (o:=0) (At.here _) (by rfl) (by rfl) (by rfl) (L rfl) (q 35))) rfl (c (gd 32 (lb hN 48 _ _ tyS48 (At.here _) (q 5))) rfl (c (gd 32 (OpJ.eqlD (h:=4) (FitE.st underlying48 rfl held48 (FitF.cons (x:=(e_aPrefix x332.fPrefix)) (y:=(e_aPrefix x276.fPrefix)) (by decide) rfl tyS46 ⟨rfl,rfl⟩ ⟨rfl,rfl⟩ (FitE.st underlying46 rfl held46 (FitF.cons (x:=(e_aAddr x332.fPrefix.fAddr)) (y:=(e_aAddr x276.fPrefix.fAddr)) (by decide) rfl tyS44 ⟨rfl,rfl⟩ ⟨rfl,rfl⟩ (FitE.st underlying44 rfl held44 (FitF.cons (x:=(.bool x332.fPrefix.fAddr.fV6)) (y:=(.bool x276.fPrefix.fAddr.fV6)) (by decide) rfl tyS4 ⟨rfl,rfl⟩ ⟨rfl,rfl⟩ (FitE.bool (h:=0) x332.fPrefix.fAddr.fV6 x276.fPrefix.fAddr.fV6 underlying4) (FitF.cons (x:=(.int .u64 x332.fPrefix.fAddr.fHi)) (y:=(.int .u64 x276.fPrefix.fAddr.fHi)) (by decide) rfl tyS42 ⟨rfl,rfl⟩ ⟨rfl,rfl⟩ (FitE.int (h:=0) x332.fPrefix.fAddr.fHi x276.fPrefix.fAddr.fHi underlying42) (FitF.cons (x:=(.int .u64 x332.fPrefix.fAddr.fLo)) (y:=(.int .u64 x276.fPrefix.fAddr.fLo)) (by decide) rfl tyS42 ⟨rfl,rfl⟩ ⟨rfl,rfl⟩ (FitE.int (h:=0) x332.fPrefix.fAddr.fLo x276.fPrefix.fAddr.fLo underlying42) FitF.nil)))) (FitF.cons (x:=(.int .i64 x332.fPrefix.fLen)) (y:=(.int .i64 x276.fPrefix.fLen)) (by decide) rfl tyS3 ⟨rfl,rfl⟩ ⟨rfl,rfl⟩ (FitE.int (h:=1) x332.fPrefix.fLen x276.fPrefix.fLen underlying3) FitF.nil))) (FitF.cons (x:=(.int .i64 x332.fMax)) (y:=(.int .i64 x276.fMax)) (by decide) rfl tyS3 ⟨rfl,rfl⟩ ⟨rfl,rfl⟩ (FitE.int (h:=2) x332.fMax x276.fMax underlying3) (FitF.cons (x:=(.int .i64 x332.fASN)) (y:=(.int .i64 x276.fASN)) (by decide) rfl tyS3 ⟨rfl,rfl⟩ ⟨rfl,rfl⟩ (FitE.int (h:=2) x332.fASN x276.fASN underlying3) FitF.nil)))) eqg48 ⟨rfl,rfl⟩ (by rfl) (L rfl) (q 36) (q 37))) rfl (c (pickT (L rfl) (q 32) (q 38)) rfl cn)))))))))))) (by kernel_rfl) (by kernel_rfl)
       exact hjj318 _ h _ _ (mp [] _ _ hB)
      ·have h:=ite_f hg330 h
       refine drS (SQ (fa hg330 tt)) ?_
       exact hjj318 _ h _ _ (mp [] _ _ hB)
  ·have h:=ite_f hg215 h
   apply AWp.exit
   apply seqQ_e
   obtain rfl:=oi h
   exact⟨(fun hc=>by cases hc),rfl,(mp [] _ _ hB)⟩
 ·obtain⟨rfl,hmat⟩:=hR
  apply blkQ_hit
  apply seqQ_n
  refine AWp.ghost hmat ?_
  refine sr (SQ tt) ?_
  apply AWp.ret
  obtain rfl:=oi h
  exact rt (Mat.trans (Mat.freezeP (n:=3003) (e:=48) (sz:=6) (es:=p214.map e_aObject) (Ts:=[(2,(qe_aObject_6 p214))]) (Bs:=[]) (by rfl) (TwT.cons (x:=(.sref 3003 6 0 p214.length)) (by rfl) (FrzL.all (by first | rfl | (simp;done) | (simp;omega) | omega)) TwT.nil) TwB.nil) (mp [] [(2,(qe_aObject_6 p214))] [] hB)) [(qe_aObject_6 p214)] (Res.tmp (by rfl) (by rfl) Res.nil) rfl
def xref22_Payloads_L0 (a0:(List aCert)) (a1:(List aSigned)) (a2:(List Int)) (a3:Int) (s2:Int×(List aObject)):Option ((((List aObject)))⊕(Int×(List aObject))) :=
 (if (decide (s2.1<(a1.length:Int)))=true then
 (idx a1 s2.1).bind fun x23 =>
 (xref22_Explain a0 a2 x23 a3).bind fun r24 =>
 jn (fun m27:(List aObject) =>
 some (.inr ((w64 (s2.1+1)),m27))) (fun j28 =>
 (if (r24==0)=true then
 chk (decide ((s2.2++x23.fObjects).length≤LIM)) <|
 j28 (s2.2++x23.fObjects)
 else
 j28 s2.2))
 else
 some (.inl s2.2))
def xref22_Payloads (a0:(List aCert)) (a1:(List aSigned)) (a2:(List Int)) (a3:Int):Option ((List aObject)×Int) :=
 (if ((decide (512<(a0.length:Int))) || (decide (512<(a1.length:Int))))=true then
 some (([]:List aObject),3)
 else
 (loop (xref22_Payloads_L0 a0 a1 a2 a3) (0,([]:List aObject))).bind fun p21 =>
 (xref20_Sorted p21).bind fun r33 =>
 (if (decide (512<(r33.length:Int)))=true then
 some (([]:List aObject),3)
 else
 some (r33,0)))
theorem xref22_Payloads_ac (a0:(List aCert)) (a1:(List aSigned)) (a2:(List Int)) (a3:Int) (r:(List aObject)×Int) (h:xref22_Payloads a0 a1 a2 a3=some r):AC Tryz.prog 23 [(.d (.list 6 (a0.map e_aCert))),(.d (.list 5 (a1.map e_aSigned))),(.d (.list 1 (a2.map (eI .i64)))),(.d (.int .i64 a3))] [] (.tup [(.d (.list 6 (r.1.map e_aObject))),(.d (.int .i64 r.2))]) []:=by
 refine ac2 Tryz.func23 rfl rfl fun B hB hN L => ?_
 delta xref22_Payloads at h
 refine sr (SQ tt) ?_
 apply AWp.seq
 refine sr (SQ tt) ?_
 apply AWp.cond rfl<;>intro hg1
 ·have h:=ite_t hg1 h
  refine sr (SQ tt) ?_
  apply AWp.ret
  apply seqQ_r
  obtain rfl:=oi h
  exact rt (Mat.trans (Mat.coeP (Ts:=[(8,(qe_aObject_6 ([]:List aObject)))]) (Bs:=[]) (TwT.cons (x:=.nils) (by rfl) (Tw.leaf ⟨_,(Co.nils 6),rfl⟩) TwT.nil) TwB.nil) (mp [] [(8,(qe_aObject_6 ([]:List aObject))),(9,(i6 3))] [] hB)) [(qe_aObject_6 ([]:List aObject)),(i6 3)] (Res.tmp (by rfl) (by rfl) (Res.tmp (by rfl) (by rfl) Res.nil)) rfl
 ·have h:=ite_f hg1 h
  apply AWp.skip
  apply seqQ_n
  refine sr (SQ tt) ?_
  apply AWp.seq
  refine sr (SQ tt) ?_
  apply AWp.block
  obtain⟨p21,hx32,h⟩:=bindS h
  refine lg (xref22_Payloads_L0 a0 a1 a2 a3) (fun s2:Int×(List aObject)=>([(0,(qe_aCert_6 a0)),(2,(qI_1 a2)),(3,(i6 a3)),(10,(.sref 3010 6 0 s2.2.length)),(21,(qe_aSigned_5 a1)),(22,(i6 (a1.length:Int))),(23,(i6 s2.1))]:EL)) (fun s2:Int×(List aObject)=>([(3010,some (we_aObject_48_6 s2.2))]:OL)) (fun(p21:((List aObject))) e E' O'=>e = .exit 0∧Mat B E' O' ([(10,(.sref 3010 6 0 p21.length))]:EL) ([(3010,some (we_aObject_48_6 p21))]:OL)) hx32 (Mat.trans (Mat.beginP (n:=3010) (e:=48) (sz:=6) (Ts:=[(10,(.sref 3010 6 0 0))]) (Bs:=[]) hB (by decide) (by rfl) (by decide) (TwT.cons (x:=.nils) (by rfl) (Tw.leaf ⟨rfl,rfl⟩) TwT.nil) TwB.nil) (mp [] _ _ hB)) (fun s2 y h => ?_) (fun e E' O' hR => ?_)
  ·unfold xref22_Payloads_L0 at h
   refine sr (SQ tt) ?_
   apply AWp.seq
   apply AWp.cond rfl<;>intro hg22
   ·have h:=ite_t hg22 h
    apply AWp.skip
    apply seqQ_n
    apply AWp.seq
    apply AWp.block
    obtain⟨x23,hx23,h⟩:=bindS h
    refine sr (SQ (fa hx23 tt)) ?_
    obtain⟨r24,hr24,h⟩:=bindS h
    refine sr (SQ (fa (cl [] (xref22_Explain_ac a0 a2 x23 a3 r24 hr24)) tt)) ?_
    refine gh [(0,_),(2,_),(3,_),(10,_),(12,_),(21,_),(22,_),(23,_),(32,_)] [(1012,some _),(3010,some _)] hB rfl rfl (by rfl) ?_
    refine AWp.cut h (fun m27:(List aObject)=>([(0,(qe_aCert_6 a0)),(2,(qI_1 a2)),(3,(i6 a3)),(10,(.sref 3010 6 0 m27.length)),(21,(qe_aSigned_5 a1)),(22,(i6 (a1.length:Int))),(23,(i6 s2.1))]:EL)) (fun m27:(List aObject)=>([(3010,some (we_aObject_48_6 m27))]:OL)) (fun m27 h E' O' hmat => ?_) (fun j28 hjj28 h => ?_)
    ·apply blkQ_n
     apply seqQ_n
     refine AWp.ghost hmat ?_
     refine rg (SQ tt) ?_
     obtain rfl:=oi h
     exact⟨rfl,(mp [] _ _ hB)⟩
    ·apply AWp.cond rfl<;>intro hg29
     ·have h:=ite_t hg29 h
      obtain⟨hc30,h⟩:=chk_some h
      refine rg (SQ (fa hc30 tt)) ?_
      exact hjj28 _ h _ _ (mp [(3010,1036)] _ _ hB)
     ·have h:=ite_f hg29 h
      apply AWp.skip
      exact hjj28 _ h _ _ (mp [] _ _ hB)
   ·have h:=ite_f hg22 h
    apply AWp.exit
    apply seqQ_e
    obtain rfl:=oi h
    exact⟨(fun hc=>by cases hc),rfl,(mp [] _ _ hB)⟩
  ·obtain⟨rfl,hmat⟩:=hR
   apply blkQ_hit
   apply seqQ_n
   refine AWp.ghost hmat ?_
   apply AWp.seq
   refine AWp.ghost (Mat.freezeP (n:=3010) (e:=48) (sz:=6) (es:=p21.map e_aObject) (Ts:=[(10,(qe_aObject_6 p21))]) (Bs:=[]) (by rfl) (TwT.cons (x:=(.sref 3010 6 0 p21.length)) (by rfl) (FrzL.all (by first | rfl | (simp;done) | (simp;omega) | omega)) TwT.nil) TwB.nil) ?_
   obtain⟨r33,hr33,h⟩:=bindS h
   refine rg (SQ (fa (cl [] (xref20_Sorted_ac p21 r33 hr33)) tt)) ?_
   apply seqQ_n
   apply AWp.seq
   refine sr (SQ tt) ?_
   apply AWp.cond rfl<;>intro hg34
   ·have h:=ite_t hg34 h
    refine sr (SQ tt) ?_
    apply AWp.ret
    apply seqQ_r
    obtain rfl:=oi h
    exact rt (Mat.trans (Mat.coeP (Ts:=[(8,(qe_aObject_6 ([]:List aObject)))]) (Bs:=[]) (TwT.cons (x:=.nils) (by rfl) (Tw.leaf ⟨_,(Co.nils 6),rfl⟩) TwT.nil) TwB.nil) (mp [] [(8,(qe_aObject_6 ([]:List aObject))),(9,(i6 3))] [] hB)) [(qe_aObject_6 ([]:List aObject)),(i6 3)] (Res.tmp (by rfl) (by rfl) (Res.tmp (by rfl) (by rfl) Res.nil)) rfl
   ·have h:=ite_f hg34 h
    apply AWp.skip
    apply seqQ_n
    refine sr (SQ tt) ?_
    apply AWp.ret
    obtain rfl:=oi h
    exact rt (kp [(8,_),(9,_)] [] hB rfl rfl (by rfl)) [(qe_aObject_6 r33),(i6 0)] (Res.tmp (by rfl) (by rfl) (Res.tmp (by rfl) (by rfl) Res.nil)) rfl
def xref20_SameObjects_L0 (a0:(List aObject)) (a1:(List aObject)) (s2:Int):Option (((Unit)⊕(Unit))⊕(Int)) :=
 (if (decide (s2<(a0.length:Int)))=true then
 (idx a0 s2).bind fun x14 =>
 (idx a1 s2).bind fun x15 =>
 (if (!((((x15.fPrefix.fAddr.fV6==x14.fPrefix.fAddr.fV6)&&((x15.fPrefix.fAddr.fHi==x14.fPrefix.fAddr.fHi)&&((x15.fPrefix.fAddr.fLo==x14.fPrefix.fAddr.fLo)&&true)))&&((x15.fPrefix.fLen==x14.fPrefix.fLen)&&true))&&((x15.fMax==x14.fMax)&&((x15.fASN==x14.fASN)&&true))))=true then
 some (.inl (.inl ()))
 else
 some (.inr (w64 (s2+1))))
 else
 some (.inl (.inr ())))
def xref20_SameObjects (a0:(List aObject)) (a1:(List aObject)):Option (Bool) :=
 (if ((a0.length:Int) != (a1.length:Int))=true then
 some false
 else
 (loop (xref20_SameObjects_L0 a0 a1) 0).bind fun x17=>match x17 with
 | (.inl _) =>
  some false
 | (.inr _) =>
  some true)
theorem xref20_SameObjects_ac (a0:(List aObject)) (a1:(List aObject)) (r:Bool) (h:xref20_SameObjects a0 a1=some r):AC Tryz.prog 24 [(.d (.list 6 (a0.map e_aObject))),(.d (.list 6 (a1.map e_aObject)))] [] (.d (.bool r)) []:=by
 refine ac2 Tryz.func24 rfl rfl fun B hB hN L => ?_
 delta xref20_SameObjects at h
 refine sr (SQ tt) ?_
 apply AWp.seq
 refine sr (SQ tt) ?_
 apply AWp.cond rfl<;>intro hg1
 ·have h:=ite_t hg1 h
  refine sr (SQ tt) ?_
  apply AWp.ret
  apply seqQ_r
  obtain rfl:=oi h
  exact rt (kp [(4,_)] [] hB rfl rfl (by rfl)) [(bo false)] (Res.tmp (by rfl) (by rfl) Res.nil) rfl
 ·have h:=ite_f hg1 h
  apply AWp.skip
  apply seqQ_n
  apply AWp.seq
  refine sr (SQ tt) ?_
  apply AWp.block
  obtain⟨x17,hx18,h⟩:=bindS h
  refine lg (xref20_SameObjects_L0 a0 a1) (fun s2:Int=>([(1,(qe_aObject_6 a1)),(12,(qe_aObject_6 a0)),(13,(i6 (a0.length:Int))),(14,(i6 s2))]:EL)) (fun s2:Int=>([]:OL)) (fun(x:(Unit)⊕(Unit)) e E' O'=>match x with | (.inl _p)=>e = .ret∧Mat B E' O' ([(4,(bo false))]:EL) ([]:OL) | (.inr _p)=>e = .exit 0∧Mat B E' O' ([]:EL) ([]:OL)) hx18 (mp [] _ _ hB) (fun s2 y h => ?_) (fun e E' O' hR => ?_)
  ·unfold xref20_SameObjects_L0 at h
   refine sr (SQ tt) ?_
   apply AWp.seq
   apply AWp.cond rfl<;>intro hg13
   ·have h:=ite_t hg13 h
    apply AWp.skip
    apply seqQ_n
    apply AWp.seq
    apply AWp.block
    obtain⟨x14,hx14,h⟩:=bindS h
    refine sr (SQ (fa hx14 tt)) ?_
    obtain⟨x15,hx15,h⟩:=bindS h
    apply sd (c (mv hN (q 1)) rfl (c (mv hN (q 5)) rfl (c (indexD underlying38 tyS48 (idx_some hx15).1 (get_map e_aObject (idx_some hx15).2) (L rfl) (q 19) (q 20)) rfl (c (loadD tyS48 (by rfl) (by rfl) (L rfl) (q 21)) rfl (c (lb hN 48 _ _ tyS48 (At.here _) (q 6)) rfl (c (OpJ.neqD (h:=4) (FitE.st underlying48 rfl held48 (FitF.cons (x:=(e_aPrefix x15.fPrefix)) (y:=(e_aPrefix x14.fPrefix)) (by decide) rfl tyS46 ⟨rfl,rfl⟩ ⟨rfl,rfl⟩ (FitE.st underlying46 rfl held46 (FitF.cons (x:=(e_aAddr x15.fPrefix.fAddr)) (y:=(e_aAddr x14.fPrefix.fAddr)) (by decide) rfl tyS44 ⟨rfl,rfl⟩ ⟨rfl,rfl⟩ (FitE.st underlying44 rfl held44 (FitF.cons (x:=(.bool x15.fPrefix.fAddr.fV6)) (y:=(.bool x14.fPrefix.fAddr.fV6)) (by decide) rfl tyS4 ⟨rfl,rfl⟩ ⟨rfl,rfl⟩ (FitE.bool (h:=0) x15.fPrefix.fAddr.fV6 x14.fPrefix.fAddr.fV6 underlying4) (FitF.cons (x:=(.int .u64 x15.fPrefix.fAddr.fHi)) (y:=(.int .u64 x14.fPrefix.fAddr.fHi)) (by decide) rfl tyS42 ⟨rfl,rfl⟩ ⟨rfl,rfl⟩ (FitE.int (h:=0) x15.fPrefix.fAddr.fHi x14.fPrefix.fAddr.fHi underlying42) (FitF.cons (x:=(.int .u64 x15.fPrefix.fAddr.fLo)) (y:=(.int .u64 x14.fPrefix.fAddr.fLo)) (by decide) rfl tyS42 ⟨rfl,rfl⟩ ⟨rfl,rfl⟩ (FitE.int (h:=0) x15.fPrefix.fAddr.fLo x14.fPrefix.fAddr.fLo underlying42) FitF.nil)))) (FitF.cons (x:=(.int .i64 x15.fPrefix.fLen)) (y:=(.int .i64 x14.fPrefix.fLen)) (by decide) rfl tyS3 ⟨rfl,rfl⟩ ⟨rfl,rfl⟩ (FitE.int (h:=1) x15.fPrefix.fLen x14.fPrefix.fLen underlying3) FitF.nil))) (FitF.cons (x:=(.int .i64 x15.fMax)) (y:=(.int .i64 x14.fMax)) (by decide) rfl tyS3 ⟨rfl,rfl⟩ ⟨rfl,rfl⟩ (FitE.int (h:=2) x15.fMax x14.fMax underlying3) (FitF.cons (x:=(.int .i64 x15.fASN)) (y:=(.int .i64 x14.fASN)) (by decide) rfl tyS3 ⟨rfl,rfl⟩ ⟨rfl,rfl⟩ (FitE.int (h:=2) x15.fASN x14.fASN underlying3) FitF.nil)))) eqg48 ⟨rfl,rfl⟩ (by rfl) (L rfl) (q 22) (q 23)) rfl cn)))))) (by kernel_rfl) (by kernel_rfl)
    apply AWp.cond rfl<;>intro hg16
    ·have h:=ite_t hg16 h
     refine sr (SQ tt) ?_
     apply AWp.ret
     apply blkQ_r
     apply seqQ_r
     obtain rfl:=oi h
     exact⟨(fun hc=>by cases hc),rfl,(mp [] _ _ hB)⟩
    ·have h:=ite_f hg16 h
     apply AWp.skip
     apply blkQ_n
     apply seqQ_n
     refine rg (SQ tt) ?_
     obtain rfl:=oi h
     exact⟨rfl,(mp [] _ _ hB)⟩
   ·have h:=ite_f hg13 h
    apply AWp.exit
    apply seqQ_e
    obtain rfl:=oi h
    exact⟨(fun hc=>by cases hc),rfl,(mp [] _ _ hB)⟩
  ·rcases x17 with _ | _
   ·obtain⟨rfl,hmat⟩:=hR
    apply blkQ_r
    apply seqQ_r
    obtain rfl:=oi h
    exact rt (Mat.trans hmat (mp [] [(4,(bo false))] [] hB)) [(bo false)] (Res.tmp (by rfl) (by rfl) Res.nil) rfl
   ·obtain⟨rfl,hmat⟩:=hR
    apply blkQ_hit
    apply seqQ_n
    refine AWp.ghost hmat ?_
    refine sr (SQ tt) ?_
    apply AWp.ret
    obtain rfl:=oi h
    exact rt (kp [(4,_)] [] hB rfl rfl (by rfl)) [(bo true)] (Res.tmp (by rfl) (by rfl) Res.nil) rfl
def origin_Explain (a0:(List aCert)) (a1:(List Int)) (a2:aSigned) (a3:Int):Option (Int) :=
 (origin_Trusted a0 a1 a3).bind fun r1 =>
 (origin_explain a0 r1 a2 a3).bind fun r2 =>
 some r2
theorem origin_Explain_ac (a0:(List aCert)) (a1:(List Int)) (a2:aSigned) (a3:Int) (r:Int) (h:origin_Explain a0 a1 a2 a3=some r):AC Tryz.prog 25 [(.d (.list 6 (a0.map e_aCert))),(.d (.list 1 (a1.map (eI .i64)))),(.d (e_aSigned a2)),(.d (.int .i64 a3))] [(500,(.know (globF 0 [109,150,151]))),(501,(.know (globF 1 [98,152,153])))] (.d (.int .i64 r)) [(500,some (.know (globF 0 [109,150,151]))),(501,some (.know (globF 1 [98,152,153])))]:=by
 refine AC.of_code2 Tryz.func25 rfl rfl (Nat.le_of_ble_eq_true (by rfl)) fun B hB hN => ?_
 delta origin_Explain at h
 refine sr (SQ tt) ?_
 apply AWp.seq
 obtain⟨r1,hr1,h⟩:=bindS h
 obtain⟨r2,hr2,h⟩:=bindS h
 refine drS (SQ (fa (cl [(500,500),(501,501)] (origin_Trusted_ac a0 a1 a3 r1 hr1)) (fa (cl [] (origin_explain_ac a0 r1 a2 a3 r2 hr2)) tt))) ?_
 apply seqQ_n
 refine AWp.ghost (mp [] [(8,(i6 r2))] [(500,some (.know (globF 0 [109,150,151]))),(501,some (.know (globF 1 [98,152,153])))] hB) ?_
 apply AWp.ret
 obtain rfl:=oi h
 exact rt (kp [(8,_)] [(500,some _),(501,some _)] hB rfl rfl (by rfl)) [(i6 r2)] (Res.tmp (by rfl) (by rfl) Res.nil) rfl
def xlaw22_OriginPayloads_L0 (a0:(List aSigned)) (s3:Int):Option (((Bool)⊕(Unit))⊕(Int)) :=
 (if (decide (s3<(a0.length:Int)))=true then
 (idx a0 s3).bind fun x15 =>
 (if (decide (20<(x15.fObjects.length:Int)))=true then
 (xlaw22_awake).bind fun r17 =>
 some (.inl (.inl r17))
 else
 some (.inr (w64 (s3+1))))
 else
 some (.inl (.inr ())))
def xlaw22_OriginPayloads_L2 (a2:Int) (r21:(List aCert)×(List aSigned)×Int×xmake_Deck) (x126:(List aSigned)) (s133:Int):Option (((Unit)⊕(Unit))⊕(Int)) :=
 (if (decide (s133<(x126.length:Int)))=true then
 (idx x126 s133).bind fun x151 =>
 (xlaw22_anchors a2).bind fun r152 =>
 (origin_Explain r21.1 r152 x151 r21.2.2.1).bind fun r153 =>
 (xlaw22_anchors a2).bind fun r154 =>
 (xref22_Explain r21.1 r154 x151 r21.2.2.1).bind fun r155 =>
 (if (r153 != r155)=true then
 some (.inl (.inl ()))
 else
 some (.inr (w64 (s133+1))))
 else
 some (.inl (.inr ())))
def xlaw22_OriginPayloads_L1 (a0:(List aSigned)) (a2:Int) (r21:(List aCert)×(List aSigned)×Int×xmake_Deck) (m50:(List aSigned)) (s52:Int):Option (((Unit)⊕(Unit))⊕(Int)) :=
 (if (decide (s52<(([a0,m50]:List (List aSigned)).length:Int)))=true then
 (idx ([a0,m50]:List (List aSigned)) s52).bind fun x126 =>
 (xlaw22_anchors a2).bind fun r127 =>
 (origin_Payloads r21.1 x126 r127 r21.2.2.1).bind fun r128 =>
 (xlaw22_anchors a2).bind fun r129 =>
 (xref22_Payloads r21.1 x126 r129 r21.2.2.1).bind fun r130 =>
 (xref20_SameObjects r128.1 r130.1).bind fun r131 =>
 (if ((!r131) || (r128.2 != r130.2))=true then
 some (.inl (.inl ()))
 else
 (loop (xlaw22_OriginPayloads_L2 a2 r21 x126) 0).bind fun x157=>match x157 with
 | (.inl _) =>
  some (.inl (.inl ()))
 | (.inr _) =>
  some (.inr (w64 (s52+1))))
 else
 some (.inl (.inr ())))
def xlaw22_OriginPayloads (a0:(List aSigned)) (a1:(List Int)) (a2:Int) (a3:Int):Option (Bool) :=
 (if (decide (20<(a0.length:Int)))=true then
 (xlaw22_awake).bind fun r2 =>
 some r2
 else
 (loop (xlaw22_OriginPayloads_L0 a0) 0).bind fun x18=>match x18 with
 | (.inl p12) =>
  some p12
 | (.inr _) =>
  (xmake_New a1).bind fun r20 =>
  (xlaw22_setting_2 r20).bind fun r21 =>
  jn (fun m50:(List aSigned) =>
  (loop (xlaw22_OriginPayloads_L1 a0 a2 r21 m50) 0).bind fun x159=>match x159 with
  | (.inl _) =>
   some false
  | (.inr _) =>
   (xlaw22_awake).bind fun r161 =>
   some r161) (fun j51 =>
  (if (decide (0<(r21.2.1.length:Int)))=true then
  (xmake_Mod a3 (r21.2.1.length:Int)).bind fun r163 =>
  (idx r21.2.1 r163).bind fun x164 =>
  (idx r21.2.1 r163).bind fun x165 =>
  (xmake_Mod a3 6).bind fun r166 =>
  jn (fun m177:aSigned =>
  chk (decide ((r21.2.1++[m177]).length≤LIM)) <|
  j51 (r21.2.1++[m177])) (fun j178 =>
  (if (r166==0)=true then
  (xmake_Mod a2 2).bind fun r181 =>
  (idx ([(-1),4294967296]:List Int) r181).bind fun x182 =>
  j178 (aSigned.mk x165.fKey x182 x165.fFrom x165.fUntil x165.fObjects)
  else
  (if (r166==1)=true then
  j178 (aSigned.mk x165.fKey x165.fASN x165.fFrom 0 x165.fObjects)
  else
  (if (r166==2)=true then
  chk (decide (x165.fObjects.length≤LIM)) <|
  chk (decide ((x165.fObjects++[(aObject.mk (aPrefix.mk (aAddr.mk false 0 0) 0) 33 x165.fASN)]).length≤LIM)) <|
  j178 (aSigned.mk x165.fKey x165.fASN x165.fFrom x165.fUntil (x165.fObjects++[(aObject.mk (aPrefix.mk (aAddr.mk false 0 0) 0) 33 x165.fASN)]))
  else
  (if (r166==3)=true then
  chk (decide (x165.fObjects.length≤LIM)) <|
  chk (decide ((x165.fObjects++[(aObject.mk (aPrefix.mk (aAddr.mk false 0 0) 0) 0 (w64 (x165.fASN+1)))]).length≤LIM)) <|
  j178 (aSigned.mk x165.fKey x165.fASN x165.fFrom x165.fUntil (x165.fObjects++[(aObject.mk (aPrefix.mk (aAddr.mk false 0 0) 0) 0 (w64 (x165.fASN+1)))]))
  else
  j178 x165)))))
  else
  j51 r21.2.1)))
theorem xlaw22_OriginPayloads_ac (a0:(List aSigned)) (a1:(List Int)) (a2:Int) (a3:Int) (r:Bool) (h:xlaw22_OriginPayloads a0 a1 a2 a3=some r):AC Tryz.prog 6 [(.d (.list 5 (a0.map e_aSigned))),(.d (.list 1 (a1.map (eI .i64)))),(.d (.int .i64 a2)),(.d (.int .i64 a3))] [(500,(.know (globF 0 [109,150,151]))),(501,(.know (globF 1 [98,152,153])))] (.d (.bool r)) [(500,some (.know (globF 0 [109,150,151]))),(501,some (.know (globF 1 [98,152,153])))]:=by
 refine ac2 Tryz.func6 rfl rfl fun B hB hN L => ?_
 delta xlaw22_OriginPayloads at h
 refine sr (SQ tt) ?_
 apply AWp.seq
 refine sr (SQ tt) ?_
 apply AWp.cond rfl<;>intro hg1
 ·have h:=ite_t hg1 h
  apply AWp.seq
  obtain⟨r2,hr2,h⟩:=bindS h
  refine rg (SQ (fa (cl [(500,500),(501,501)] (xlaw22_awake_ac  r2 hr2)) tt)) ?_
  apply seqQ_n
  refine AWp.ghost (mp [] [(8,(bo r2))] [(500,some (.know (globF 0 [109,150,151]))),(501,some (.know (globF 1 [98,152,153])))] hB) ?_
  apply AWp.ret
  apply seqQ_r
  obtain rfl:=oi h
  exact rt (kp [(8,_)] [(500,some _),(501,some _)] hB rfl rfl (by rfl)) [(bo r2)] (Res.tmp (by rfl) (by rfl) Res.nil) rfl
 ·have h:=ite_f hg1 h
  apply AWp.skip
  apply seqQ_n
  apply AWp.seq
  refine sr (SQ tt) ?_
  apply AWp.block
  obtain⟨x18,hx19,h⟩:=bindS h
  refine lg (xlaw22_OriginPayloads_L0 a0) (fun s3:Int=>([(0,(qe_aSigned_5 a0)),(1,(qI_1 a1)),(2,(i6 a2)),(3,(i6 a3)),(27,(qe_aSigned_5 a0)),(28,(i6 (a0.length:Int))),(29,(i6 s3))]:EL)) (fun s3:Int=>([(500,some (.know (globF 0 [109,150,151]))),(501,some (.know (globF 1 [98,152,153])))]:OL)) (fun(x:(Bool)⊕(Unit)) e E' O'=>match x with | (.inl p12)=>e = .ret∧Mat B E' O' ([(8,(bo p12))]:EL) ([(500,some (.know (globF 0 [109,150,151]))),(501,some (.know (globF 1 [98,152,153])))]:OL) | (.inr _p)=>e = .exit 0∧Mat B E' O' ([(0,(qe_aSigned_5 a0)),(1,(qI_1 a1)),(2,(i6 a2)),(3,(i6 a3))]:EL) ([(500,some (.know (globF 0 [109,150,151]))),(501,some (.know (globF 1 [98,152,153])))]:OL)) hx19 (mp [] _ _ hB) (fun s3 y h => ?_) (fun e E' O' hR => ?_)
  ·unfold xlaw22_OriginPayloads_L0 at h
   refine sr (SQ tt) ?_
   apply AWp.seq
   apply AWp.cond rfl<;>intro hg14
   ·have h:=ite_t hg14 h
    apply AWp.skip
    apply seqQ_n
    apply AWp.seq
    apply AWp.block
    obtain⟨_,hx15,h⟩:=bindS h
    refine sr (SQ (fa hx15 tt)) ?_
    refine sr (SQ tt) ?_
    apply AWp.cond rfl<;>intro hg16
    ·have h:=ite_t hg16 h
     apply AWp.seq
     obtain⟨r17,hr17,h⟩:=bindS h
     refine rg (SQ (fa (cl [(500,500),(501,501)] (xlaw22_awake_ac  r17 hr17)) tt)) ?_
     apply seqQ_n
     refine AWp.ghost (mp [] [(8,(bo r17))] [(500,some (.know (globF 0 [109,150,151]))),(501,some (.know (globF 1 [98,152,153])))] hB) ?_
     apply AWp.ret
     apply blkQ_r
     apply seqQ_r
     obtain rfl:=oi h
     exact⟨(fun hc=>by cases hc),rfl,(mp [] _ _ hB)⟩
    ·have h:=ite_f hg16 h
     apply AWp.skip
     apply blkQ_n
     apply seqQ_n
     refine rg (SQ tt) ?_
     obtain rfl:=oi h
     exact⟨rfl,(mp [] _ _ hB)⟩
   ·have h:=ite_f hg14 h
    apply AWp.exit
    apply seqQ_e
    obtain rfl:=oi h
    exact⟨(fun hc=>by cases hc),rfl,(mp [] _ _ hB)⟩
  ·rcases x18 with p12 | _
   ·obtain⟨rfl,hmat⟩:=hR
    apply blkQ_r
    apply seqQ_r
    obtain rfl:=oi h
    exact rt (Mat.trans hmat (mp [] [(8,(bo p12))] [(500,some (.know (globF 0 [109,150,151]))),(501,some (.know (globF 1 [98,152,153])))] hB)) [(bo p12)] (Res.tmp (by rfl) (by rfl) Res.nil) rfl
   ·obtain⟨rfl,hmat⟩:=hR
    apply blkQ_hit
    apply seqQ_n
    refine AWp.ghost hmat ?_
    apply AWp.seq
    obtain⟨r20,hr20,h⟩:=bindS h
    obtain⟨r21,hr21,h⟩:=bindS h
    refine rg (SQ (fa (cl [(1005,100200)] (xmake_New_ac a1 r20 hr20)) (fa (cl [(0,100200),(901000,100300)] (xlaw22_setting_2_ac r20 r21 hr21)) tt))) ?_
    apply seqQ_n
    refine AWp.ghost (mp [] [(0,(qe_aSigned_5 a0)),(2,(i6 a2)),(3,(i6 a3)),(11,(qe_aCert_6 r21.1)),(12,(.sref 100300 5 0 r21.2.1.length)),(13,(i6 r21.2.2.1))] [(500,some (.know (globF 0 [109,150,151]))),(501,some (.know (globF 1 [98,152,153]))),(100300,some (we_aSigned_66_5 r21.2.1))] hB) ?_
    apply AWp.seq
    refine sr (SQ tt) ?_
    refine gh [(0,_),(2,_),(3,_),(11,_),(12,_),(13,_),(48,_)] [(500,some _),(501,some _),(100300,some _)] hB rfl rfl (by rfl) ?_
    refine AWp.cut h (fun m50:(List aSigned)=>([(0,(qe_aSigned_5 a0)),(2,(i6 a2)),(11,(qe_aCert_6 r21.1)),(12,(.sref 3012 5 0 m50.length)),(13,(i6 r21.2.2.1))]:EL)) (fun m50:(List aSigned)=>([(500,some (.know (globF 0 [109,150,151]))),(501,some (.know (globF 1 [98,152,153]))),(3012,some (we_aSigned_66_5 m50))]:OL)) (fun m50 h E' O' hmat => ?_) (fun j51 hjj51 h => ?_)
    ·apply seqQ_n
     refine AWp.ghost hmat ?_
     apply AWp.seq
     apply AWp.seq
     refine AWp.ghost (Mat.freezeP (n:=3012) (e:=66) (sz:=5) (es:=m50.map e_aSigned) (Ts:=[(12,(qe_aSigned_5 m50))]) (Bs:=[]) (by rfl) (TwT.cons (x:=(.sref 3012 5 0 m50.length)) (by rfl) (FrzL.all (by first | rfl | (simp;done) | (simp;omega) | omega)) TwT.nil) TwB.nil) ?_
     refine rg (SQ tt) ?_
     apply seqQ_n
     apply AWp.block
     obtain⟨x159,hx160,h⟩:=bindS h
     refine lg (xlaw22_OriginPayloads_L1 a0 a2 r21 m50) (fun s52:Int=>([(2,(i6 a2)),(11,(qe_aCert_6 r21.1)),(13,(i6 r21.2.2.1)),(98,(.d (.list 1 (([a0,m50]:List (List aSigned)).map e_LeapiSigned)))),(99,(i6 (([a0,m50]:List (List aSigned)).length:Int))),(100,(i6 s52))]:EL)) (fun s52:Int=>([(500,some (.know (globF 0 [109,150,151]))),(501,some (.know (globF 1 [98,152,153])))]:OL)) (fun(x:(Unit)⊕(Unit)) e E' O'=>match x with | (.inl _p)=>e = .ret∧Mat B E' O' ([(8,(bo false))]:EL) ([(500,some (.know (globF 0 [109,150,151]))),(501,some (.know (globF 1 [98,152,153])))]:OL) | (.inr _p)=>e = .exit 3∧Mat B E' O' ([]:EL) ([(500,some (.know (globF 0 [109,150,151]))),(501,some (.know (globF 1 [98,152,153])))]:OL)) hx160 (mp [] _ _ hB) (fun s52 y h => ?_) (fun e E' O' hR => ?_)
     ·unfold xlaw22_OriginPayloads_L1 at h
      refine sr (SQ tt) ?_
      apply AWp.seq
      apply AWp.cond rfl<;>intro hg125
      ·have h:=ite_t hg125 h
       apply AWp.skip
       apply seqQ_n
       apply AWp.seq
       apply AWp.block
       obtain⟨x126,hx126,h⟩:=bindS h
       refine sr (SQ (fa hx126 tt)) ?_
       apply AWp.seq
       obtain⟨r127,hr127,h⟩:=bindS h
       obtain⟨r128,hr128,h⟩:=bindS h
       refine rg (SQ (fa (cl [] (xlaw22_anchors_ac a2 r127 hr127)) (fa (cl [(500,500),(501,501)] (origin_Payloads_ac r21.1 x126 r127 r21.2.2.1 r128 hr128)) tt))) ?_
       apply seqQ_n
       refine AWp.ghost (mp [] [(2,(i6 a2)),(11,(qe_aCert_6 r21.1)),(13,(i6 r21.2.2.1)),(16,(qe_aSigned_5 x126)),(17,(qe_aObject_6 r128.1)),(18,(i6 r128.2)),(98,(.d (.list 1 (([a0,m50]:List (List aSigned)).map e_LeapiSigned)))),(99,(i6 (([a0,m50]:List (List aSigned)).length:Int))),(100,(i6 s52))] [(500,some (.know (globF 0 [109,150,151]))),(501,some (.know (globF 1 [98,152,153])))] hB) ?_
       obtain⟨r129,hr129,h⟩:=bindS h
       obtain⟨r130,hr130,h⟩:=bindS h
       refine sr (SQ (fa (cl [] (xlaw22_anchors_ac a2 r129 hr129)) (fa (cl [] (xref22_Payloads_ac r21.1 x126 r129 r21.2.2.1 r130 hr130)) tt))) ?_
       apply AWp.seq
       obtain⟨r131,hr131,h⟩:=bindS h
       refine sr (SQ (fa (cl [] (xref20_SameObjects_ac r128.1 r130.1 r131 hr131)) tt)) ?_
       apply AWp.cond rfl<;>intro hg132
       ·have h:=ite_t hg132 h
        refine sr (SQ tt) ?_
        apply AWp.ret
        apply seqQ_r
        apply blkQ_r
        apply seqQ_r
        obtain rfl:=oi h
        exact⟨(fun hc=>by cases hc),rfl,(mp [] _ _ hB)⟩
       ·have h:=ite_f hg132 h
        apply AWp.skip
        apply seqQ_n
        refine sr (SQ tt) ?_
        apply AWp.block
        obtain⟨x157,hx158,h⟩:=bindS h
        refine lg (xlaw22_OriginPayloads_L2 a2 r21 x126) (fun s133:Int=>([(2,(i6 a2)),(11,(qe_aCert_6 r21.1)),(13,(i6 r21.2.2.1)),(98,(.d (.list 1 (([a0,m50]:List (List aSigned)).map e_LeapiSigned)))),(99,(i6 (([a0,m50]:List (List aSigned)).length:Int))),(100,(i6 s52)),(131,(qe_aSigned_5 x126)),(132,(i6 (x126.length:Int))),(133,(i6 s133))]:EL)) (fun s133:Int=>([(500,some (.know (globF 0 [109,150,151]))),(501,some (.know (globF 1 [98,152,153])))]:OL)) (fun(x:(Unit)⊕(Unit)) e E' O'=>match x with | (.inl _p)=>e = .ret∧Mat B E' O' ([(8,(bo false))]:EL) ([(500,some (.know (globF 0 [109,150,151]))),(501,some (.know (globF 1 [98,152,153])))]:OL) | (.inr _p)=>e = .exit 5∧Mat B E' O' ([(2,(i6 a2)),(11,(qe_aCert_6 r21.1)),(13,(i6 r21.2.2.1)),(98,(.d (.list 1 (([a0,m50]:List (List aSigned)).map e_LeapiSigned)))),(99,(i6 (([a0,m50]:List (List aSigned)).length:Int))),(100,(i6 s52))]:EL) ([(500,some (.know (globF 0 [109,150,151]))),(501,some (.know (globF 1 [98,152,153])))]:OL)) hx158 (mp [] _ _ hB) (fun s133 y h => ?_) (fun e E' O' hR => ?_)
        ·unfold xlaw22_OriginPayloads_L2 at h
         refine sr (SQ tt) ?_
         apply AWp.seq
         apply AWp.cond rfl<;>intro hg150
         ·have h:=ite_t hg150 h
          apply AWp.skip
          apply seqQ_n
          apply AWp.seq
          apply AWp.block
          obtain⟨x151,hx151,h⟩:=bindS h
          refine sr (SQ (fa hx151 tt)) ?_
          apply AWp.seq
          obtain⟨r152,hr152,h⟩:=bindS h
          obtain⟨r153,hr153,h⟩:=bindS h
          obtain⟨r154,hr154,h⟩:=bindS h
          obtain⟨r155,hr155,h⟩:=bindS h
          refine drS (SQ (fa (cl [] (xlaw22_anchors_ac a2 r152 hr152)) (fa (cl [(500,500),(501,501)] (origin_Explain_ac r21.1 r152 x151 r21.2.2.1 r153 hr153)) (fa (cl [] (xlaw22_anchors_ac a2 r154 hr154)) (fa (cl [] (xref22_Explain_ac r21.1 r154 x151 r21.2.2.1 r155 hr155)) tt))))) ?_
          apply seqQ_n
          refine AWp.ghost (mp [] [(2,(i6 a2)),(11,(qe_aCert_6 r21.1)),(13,(i6 r21.2.2.1)),(98,(.d (.list 1 (([a0,m50]:List (List aSigned)).map e_LeapiSigned)))),(99,(i6 (([a0,m50]:List (List aSigned)).length:Int))),(100,(i6 s52)),(131,(qe_aSigned_5 x126)),(132,(i6 (x126.length:Int))),(133,(i6 s133)),(149,(bo (r153 != r155)))] [(500,some (.know (globF 0 [109,150,151]))),(501,some (.know (globF 1 [98,152,153])))] hB) ?_
          apply AWp.cond rfl<;>intro hg156
          ·have h:=ite_t hg156 h
           refine sr (SQ tt) ?_
           apply AWp.ret
           apply blkQ_r
           apply seqQ_r
           obtain rfl:=oi h
           exact⟨(fun hc=>by cases hc),rfl,(mp [] _ _ hB)⟩
          ·have h:=ite_f hg156 h
           apply AWp.skip
           apply blkQ_n
           apply seqQ_n
           refine rg (SQ tt) ?_
           obtain rfl:=oi h
           exact⟨rfl,(mp [] _ _ hB)⟩
         ·have h:=ite_f hg150 h
          apply AWp.exit
          apply seqQ_e
          obtain rfl:=oi h
          exact⟨(fun hc=>by cases hc),rfl,(mp [] _ _ hB)⟩
        ·rcases x157 with _ | _
         ·obtain⟨rfl,hmat⟩:=hR
          apply blkQ_r
          apply blkQ_r
          apply seqQ_r
          obtain rfl:=oi h
          exact⟨(fun hc=>by cases hc),rfl,(Mat.trans hmat (mp [] _ _ hB))⟩
         ·obtain⟨rfl,hmat⟩:=hR
          apply blkQ_hit
          apply blkQ_n
          apply seqQ_n
          refine AWp.ghost hmat ?_
          refine rg (SQ tt) ?_
          obtain rfl:=oi h
          exact⟨rfl,(mp [] _ _ hB)⟩
      ·have h:=ite_f hg125 h
       apply AWp.exit
       apply seqQ_e
       obtain rfl:=oi h
       exact⟨(fun hc=>by cases hc),rfl,(mp [] _ _ hB)⟩
     ·rcases x159 with _ | _
      ·obtain⟨rfl,hmat⟩:=hR
       apply blkQ_r
       apply seqQ_r
       obtain rfl:=oi h
       exact rt (Mat.trans hmat (mp [] [(8,(bo false))] [(500,some (.know (globF 0 [109,150,151]))),(501,some (.know (globF 1 [98,152,153])))] hB)) [(bo false)] (Res.tmp (by rfl) (by rfl) Res.nil) rfl
      ·obtain⟨rfl,hmat⟩:=hR
       apply blkQ_hit
       apply seqQ_n
       refine AWp.ghost hmat ?_
       apply AWp.seq
       obtain⟨r161,hr161,h⟩:=bindS h
       refine rg (SQ (fa (cl [(500,500),(501,501)] (xlaw22_awake_ac  r161 hr161)) tt)) ?_
       apply seqQ_n
       refine AWp.ghost (mp [] [(8,(bo r161))] [(500,some (.know (globF 0 [109,150,151]))),(501,some (.know (globF 1 [98,152,153])))] hB) ?_
       apply AWp.ret
       obtain rfl:=oi h
       exact rt (kp [(8,_)] [(500,some _),(501,some _)] hB rfl rfl (by rfl)) [(bo r161)] (Res.tmp (by rfl) (by rfl) Res.nil) rfl
    ·apply AWp.cond rfl<;>intro hg162
     ·have h:=ite_t hg162 h
      obtain⟨r163,hr163,h⟩:=bindS h
      obtain⟨_,hx164,h⟩:=bindS h
      obtain⟨x165,hx165,h⟩:=bindS h
      refine sr (SQ (fa (cl [] (xmake_Mod_ac a3 (r21.2.1.length:Int) r163 hr163)) (fa hx164 (fa hx165 tt)))) ?_
      apply AWp.seq
      obtain⟨r166,hr166,h⟩:=bindS h
      refine sr (SQ (fa (cl [] (xmake_Mod_ac a3 6 r166 hr166)) tt)) ?_
      apply AWp.block
      refine sr (SQ tt) ?_
      refine gh [(0,_),(2,_),(11,_),(12,_),(13,_),(14,_),(57,_),(58,_)] [(500,some _),(501,some _),(1014,some _),(100300,some _)] hB rfl rfl (by rfl) ?_
      refine AWp.cut h (fun m177:aSigned=>([(0,(qe_aSigned_5 a0)),(2,(i6 a2)),(11,(qe_aCert_6 r21.1)),(12,(.sref 100300 5 0 r21.2.1.length)),(13,(i6 r21.2.2.1)),(14,(pt 1014))]:EL)) (fun m177:aSigned=>([(500,some (.know (globF 0 [109,150,151]))),(501,some (.know (globF 1 [98,152,153]))),(1014,bd 66 (e_aSigned m177)),(100300,some (we_aSigned_66_5 r21.2.1))]:OL)) (fun m177 h E' O' hmat => ?_) (fun j178 hjj178 h => ?_)
      ·apply blkQ_n
       apply seqQ_n
       refine AWp.ghost hmat ?_
       obtain⟨hc179,h⟩:=chk_some h
       refine rg (SQ (fa hc179 tt)) ?_
       exact hjj51 _ h _ _ (mp [(3012,1095)] _ _ hB)
      ·apply AWp.cond rfl<;>intro hg180
       ·have h:=ite_t hg180 h
        obtain⟨r181,hr181,h⟩:=bindS h
        obtain⟨_,hx182,h⟩:=bindS h
        refine rg (SQ (fa (cl [] (xmake_Mod_ac a2 2 r181 hr181)) (fa hx182 tt))) ?_
        exact hjj178 _ h _ _ (mp [] _ _ hB)
       ·have h:=ite_f hg180 h
        refine sr (SQ tt) ?_
        apply AWp.cond rfl<;>intro hg183
        ·have h:=ite_t hg183 h
         refine rg (SQ tt) ?_
         exact hjj178 _ h _ _ (mp [] _ _ hB)
        ·have h:=ite_f hg183 h
         refine sr (SQ tt) ?_
         apply AWp.cond rfl<;>intro hg184
         ·have h:=ite_t hg184 h
          obtain⟨hc185,h⟩:=chk_some h
          obtain⟨hc186,h⟩:=chk_some h
          refine drS (SQ (fa hc185 (fa hc186 tt))) ?_
          exact hjj178 _ h _ _ (Mat.trans (mp [] [(0,(qe_aSigned_5 a0)),(2,(i6 a2)),(11,(qe_aCert_6 r21.1)),(12,(.sref 100300 5 0 r21.2.1.length)),(13,(i6 r21.2.2.1)),(14,(pt 1014))] [(500,some (.know (globF 0 [109,150,151]))),(501,some (.know (globF 1 [98,152,153]))),(1014,some (.box 66 (.st [(i6 x165.fKey),(i6 x165.fASN),(i6 x165.fFrom),(i6 x165.fUntil),(.sref 1078 6 0 ((x165.fObjects++[(aObject.mk (aPrefix.mk (aAddr.mk false 0 0) 0) 33 x165.fASN)]).length))]))),(1078,some (we_aObject_48_6 (x165.fObjects++[(aObject.mk (aPrefix.mk (aAddr.mk false 0 0) 0) 33 x165.fASN)]))),(100300,some (we_aSigned_66_5 r21.2.1))] hB) (Mat.trans (Mat.freezeP (n:=1078) (e:=48) (sz:=6) (es:=(x165.fObjects++[(aObject.mk (aPrefix.mk (aAddr.mk false 0 0) 0) 33 x165.fASN)]).map e_aObject) (Ts:=[]) (Bs:=[(1014,some (.box 66 (.st [(i6 x165.fKey),(i6 x165.fASN),(i6 x165.fFrom),(i6 x165.fUntil),(qe_aObject_6 (x165.fObjects++[(aObject.mk (aPrefix.mk (aAddr.mk false 0 0) 0) 33 x165.fASN)]))])))]) (by rfl) TwT.nil (TwB.cons (x:=(.st [(i6 x165.fKey),(i6 x165.fASN),(i6 x165.fFrom),(i6 x165.fUntil),(.sref 1078 6 0 ((x165.fObjects++[(aObject.mk (aPrefix.mk (aAddr.mk false 0 0) 0) 33 x165.fASN)]).length))])) (by rfl) (Tw.st (TwL.cons (Tw.same _) (TwL.cons (Tw.same _) (TwL.cons (Tw.same _) (TwL.cons (Tw.same _) (TwL.cons (FrzL.all (by first | rfl | (simp;done) | (simp;omega) | omega)) TwL.nil)))))) TwB.nil)) (Mat.trans (Mat.coeP (Ts:=[]) (Bs:=[(1014,some (.box 66 (.d (.st [(.int .i64 x165.fKey),(.int .i64 x165.fASN),(.int .i64 x165.fFrom),(.int .i64 x165.fUntil),(.list 6 ((x165.fObjects++[(aObject.mk (aPrefix.mk (aAddr.mk false 0 0) 0) 33 x165.fASN)]).map e_aObject))]))))]) TwT.nil (TwB.cons (x:=(.st [(i6 x165.fKey),(i6 x165.fASN),(i6 x165.fFrom),(i6 x165.fUntil),(qe_aObject_6 (x165.fObjects++[(aObject.mk (aPrefix.mk (aAddr.mk false 0 0) 0) 33 x165.fASN)]))])) (by rfl) (Tw.leaf ⟨_,(Co.st (CoL.cons (Co.d _) (CoL.cons (Co.d _) (CoL.cons (Co.d _) (CoL.cons (Co.d _) (CoL.cons (Co.d _) CoL.nil)))))),rfl⟩) TwB.nil)) (mp [] _ _ hB))))
         ·have h:=ite_f hg184 h
          refine sr (SQ tt) ?_
          apply AWp.cond rfl<;>intro hg187
          ·have h:=ite_t hg187 h
           obtain⟨hc188,h⟩:=chk_some h
           obtain⟨hc189,h⟩:=chk_some h
           refine drS (SQ (fa hc188 (fa hc189 tt))) ?_
           exact hjj178 _ h _ _ (Mat.trans (mp [] [(0,(qe_aSigned_5 a0)),(2,(i6 a2)),(11,(qe_aCert_6 r21.1)),(12,(.sref 100300 5 0 r21.2.1.length)),(13,(i6 r21.2.2.1)),(14,(pt 1014))] [(500,some (.know (globF 0 [109,150,151]))),(501,some (.know (globF 1 [98,152,153]))),(1014,some (.box 66 (.st [(i6 x165.fKey),(i6 x165.fASN),(i6 x165.fFrom),(i6 x165.fUntil),(.sref 1090 6 0 ((x165.fObjects++[(aObject.mk (aPrefix.mk (aAddr.mk false 0 0) 0) 0 (w64 (x165.fASN+1)))]).length))]))),(1090,some (we_aObject_48_6 (x165.fObjects++[(aObject.mk (aPrefix.mk (aAddr.mk false 0 0) 0) 0 (w64 (x165.fASN+1)))]))),(100300,some (we_aSigned_66_5 r21.2.1))] hB) (Mat.trans (Mat.freezeP (n:=1090) (e:=48) (sz:=6) (es:=(x165.fObjects++[(aObject.mk (aPrefix.mk (aAddr.mk false 0 0) 0) 0 (w64 (x165.fASN+1)))]).map e_aObject) (Ts:=[]) (Bs:=[(1014,some (.box 66 (.st [(i6 x165.fKey),(i6 x165.fASN),(i6 x165.fFrom),(i6 x165.fUntil),(qe_aObject_6 (x165.fObjects++[(aObject.mk (aPrefix.mk (aAddr.mk false 0 0) 0) 0 (w64 (x165.fASN+1)))]))])))]) (by rfl) TwT.nil (TwB.cons (x:=(.st [(i6 x165.fKey),(i6 x165.fASN),(i6 x165.fFrom),(i6 x165.fUntil),(.sref 1090 6 0 ((x165.fObjects++[(aObject.mk (aPrefix.mk (aAddr.mk false 0 0) 0) 0 (w64 (x165.fASN+1)))]).length))])) (by rfl) (Tw.st (TwL.cons (Tw.same _) (TwL.cons (Tw.same _) (TwL.cons (Tw.same _) (TwL.cons (Tw.same _) (TwL.cons (FrzL.all (by first | rfl | (simp;done) | (simp;omega) | omega)) TwL.nil)))))) TwB.nil)) (Mat.trans (Mat.coeP (Ts:=[]) (Bs:=[(1014,some (.box 66 (.d (.st [(.int .i64 x165.fKey),(.int .i64 x165.fASN),(.int .i64 x165.fFrom),(.int .i64 x165.fUntil),(.list 6 ((x165.fObjects++[(aObject.mk (aPrefix.mk (aAddr.mk false 0 0) 0) 0 (w64 (x165.fASN+1)))]).map e_aObject))]))))]) TwT.nil (TwB.cons (x:=(.st [(i6 x165.fKey),(i6 x165.fASN),(i6 x165.fFrom),(i6 x165.fUntil),(qe_aObject_6 (x165.fObjects++[(aObject.mk (aPrefix.mk (aAddr.mk false 0 0) 0) 0 (w64 (x165.fASN+1)))]))])) (by rfl) (Tw.leaf ⟨_,(Co.st (CoL.cons (Co.d _) (CoL.cons (Co.d _) (CoL.cons (Co.d _) (CoL.cons (Co.d _) (CoL.cons (Co.d _) CoL.nil)))))),rfl⟩) TwB.nil)) (mp [] _ _ hB))))
          ·have h:=ite_f hg187 h
           apply AWp.skip
           exact hjj178 _ h _ _ (mp [] _ _ hB)
     ·have h:=ite_f hg162 h
      apply AWp.skip
      exact hjj51 _ h _ _ (mp [(3012,100300)] _ _ hB)
end
end Go.Proofs.YtgfoabcickjphaaGreatDoor
