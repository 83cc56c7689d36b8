/- Printed by gen.py: the Go functions as plain functions, and that the code does what they say. -/
import Derived.Test.YtgfoabcickjphaaGreatDoorChecked
import Derived.Test.YtgfoabcickjphaaGreatDoorVcYB
import Derived.Test.YtgfoabcickjphaaGreatDoorVcZ
import Derived.KernelRfl
import Derived.Test.YtgfoabcickjphaaGreatDoorVcMD
import Derived.Test.YtgfoabcickjphaaGreatDoorVcMQ
import Derived.Test.YtgfoabcickjphaaGreatDoorVcSG
import Derived.Test.YtgfoabcickjphaaGreatDoorFnsD
import Derived.Test.YtgfoabcickjphaaGreatDoorExt
import Derived.Test.YtgfoabcickjphaaGreatDoorVcGl
import Derived.Test.YtgfoabcickjphaaGreatDoorVcWS
namespace Go.Proofs.YtgfoabcickjphaaGreatDoor
open Go Go.Vc
open Tryz
open Go.Vc.OpJ (assign alloc lss pickT pickF extract lenD indexD loadD eqlI gtr callVal leq geq loadR nilP indexS buildSlice lenS fieldD neqI pickAnd pickOr)
set_option maxHeartbeats 4000000
set_option maxRecDepth 100000
noncomputable section
def xmake_Deck_Signed_L2 (a1 : (List aCert)) (m422 : Int × xmake_Deck) (s547 : Int × aObject × xmake_Deck) : Option (((aObject × xmake_Deck)) ⊕ (Int × aObject × xmake_Deck)) :=
 (if (decide (s547.1 < (a1.length : Int))) = true then
 (idx a1 s547.1).bind fun x584 =>
 (xref21_Prefixes x584.fResources).bind fun r585 =>
 jn (fun m588 : Bool × xmake_Deck =>
 jn (fun m593 : aObject × xmake_Deck =>
 some (.inr ((w64 (s547.1 + 1)), m593.1, m593.2))) (fun j594 =>
 (if m588.1 = true then
 (xmake_Deck_Next m588.2 (r585.length : Int)).bind fun r596 =>
 (idx r585 r596.1).bind fun x597 =>
 j594 ((aObject.mk x597 x597.fLen s547.2.1.fASN), r596.2)
 else
 j594 (s547.2.1, m588.2)))) (fun j589 =>
 (if ((x584.fKey == m422.1) && (decide (0 < (r585.length : Int)))) = true then
 (xmake_Deck_Next s547.2.2 2).bind fun r599 =>
 j589 ((r599.1 == 0), r599.2)
 else
 j589 (false, s547.2.2)))
 else
 some (.inl (s547.2.1, s547.2.2)))
def xmake_Deck_Signed_L1 (a1 : (List aCert)) (r412 : Int × xmake_Deck) (m422 : Int × xmake_Deck) (s425 : Int × (List aObject) × xmake_Deck) : Option ((((List aObject) × xmake_Deck)) ⊕ (Int × (List aObject) × xmake_Deck)) :=
 (if (decide (0 < s425.1)) = true then
 (xmake_Deck_Object s425.2.2).bind fun r546 =>
 (loop (xmake_Deck_Signed_L2 a1 m422) (0, r546.1, r546.2)).bind fun p582 =>
 chk (decide ((s425.2.1 ++ [(aObject.mk p582.1.fPrefix p582.1.fMax r412.1)]).length ≤ LIM)) <|
 some (.inr ((w64 (s425.1 - 1)), (s425.2.1 ++ [(aObject.mk p582.1.fPrefix p582.1.fMax r412.1)]), p582.2))
 else
 some (.inl (s425.2.1, s425.2.2)))
def xmake_Deck_Signed_L0 (a1 : (List aCert)) (s2 : Int × (List aSigned) × xmake_Deck) : Option (((xmake_Deck × (List aSigned))) ⊕ (Int × (List aSigned) × xmake_Deck)) :=
 (if (decide (0 < s2.1)) = true then
 (xmake_Deck_Next s2.2.2 7).bind fun r411 =>
 (xmake_Deck_Next r411.2 5).bind fun r412 =>
 (xmake_Deck_Next r412.2 3).bind fun r413 =>
 (xmake_Deck_Next r413.2 9).bind fun r414 =>
 jn (fun m417 : Bool × xmake_Deck =>
 jn (fun m422 : Int × xmake_Deck =>
 (xmake_Deck_Next m422.2 4).bind fun r424 =>
 (loop (xmake_Deck_Signed_L1 a1 r412 m422) (r424.1, ([] : List aObject), r424.2)).bind fun p544 =>
 chk (decide ((s2.2.1 ++ [(aSigned.mk m422.1 r412.1 r413.1 (w64 (9 + r414.1)) p544.1)]).length ≤ LIM)) <|
 some (.inr ((w64 (s2.1 - 1)), (s2.2.1 ++ [(aSigned.mk m422.1 r412.1 r413.1 (w64 (9 + r414.1)) p544.1)]), p544.2))) (fun j423 =>
 (if m417.1 = true then
 (xmake_Deck_Next m417.2 (a1.length : Int)).bind fun r607 =>
 (idx a1 r607.1).bind fun x608 =>
 j423 (x608.fKey, r607.2)
 else
 j423 ((w64 (1 + r411.1)), m417.2)))) (fun j418 =>
 (if (decide (0 < (a1.length : Int))) = true then
 (xmake_Deck_Next r414.2 4).bind fun r610 =>
 j418 ((decide (0 < r610.1)), r610.2)
 else
 j418 (false, r414.2)))
 else
 some (.inl (s2.2.2, s2.2.1)))
def xmake_Deck_Signed (a0 : xmake_Deck) (a1 : (List aCert)) : Option ((List aSigned) × xmake_Deck) :=
 (xmake_Deck_Next a0 6).bind fun r1 =>
 (loop (xmake_Deck_Signed_L0 a1) (r1.1, ([] : List aSigned), r1.2)).bind fun p409 =>
 some (p409.2, p409.1)
theorem xmake_Deck_Signed_ac (a0 : xmake_Deck) (a1 : (List aCert)) (r : (List aSigned) × xmake_Deck) (h : xmake_Deck_Signed a0 a1 = some r) : AC Tryz.prog 29 [(pt 0), (.d (.list 6 (a1.map e_aCert)))] [(0, (.box 80 (.d (e_xmake_Deck a0))))] (.d (.list 5 (r.1.map e_aSigned))) [(0, bd 80 (e_xmake_Deck r.2))] := by
 refine ac2 Tryz.func29 rfl rfl fun B hB hN L => ?_
 delta xmake_Deck_Signed at h
 apply sr (c (assign (L rfl) Opd.nils) rfl cn)
 apply sr (c (assign (L rfl) Opd.nils) rfl cn)
 apply AWp.seq
 apply AWp.seq
 obtain ⟨r1, hr1, h⟩ := bindS h
 refine AWp.region (oc (mv hN (ot 0 (pt 0)))
 (oc (OpJ.callFn hB fnOk30 (xmake_Deck_Next_ac a0 6 r1 hr1) [(0, 0)] (by kernel_rfl) (L rfl) (by kernel_rfl) (OpdL.cons (ot 13 (pt 0)) (OpdL.cons (ii 6) OpdL.nil)))
 (oc (assign (L rfl) (ot 14 (i6 r1.1)))
 (OpJs.nil)))) (by rfl) (by rfl) ?_
 apply seqQ_n
 refine AWp.ghost (mp [] [(0, (pt 0)), (1, (qe_aCert_6 a1)), (5, .nils), (6, (i6 r1.1))] [(0, bd 80 (e_xmake_Deck r1.2))] hB) ?_
 apply AWp.block
 obtain ⟨p409, hx612, h⟩ := bindS h
 refine lg (xmake_Deck_Signed_L0 a1) (fun s2 : Int × (List aSigned) × xmake_Deck => ([(0, (pt 0)), (1, (qe_aCert_6 a1)), (5, (.sref 3005 5 0 s2.2.1.length)), (6, (i6 s2.1))] : EL)) (fun s2 : Int × (List aSigned) × xmake_Deck => ([(0, bd 80 (e_xmake_Deck s2.2.2)), (3005, some (we_aSigned_66_5 s2.2.1))] : OL)) (fun (p409 : (xmake_Deck × (List aSigned))) e E' O' => e = .exit 0 ∧ Mat B E' O' ([(5, (.sref 3005 5 0 p409.2.length))] : EL) ([(0, bd 80 (e_xmake_Deck p409.1)), (3005, some (we_aSigned_66_5 p409.2))] : OL)) hx612 (Mat.trans (Mat.beginP (n := 3005) (e := 66) (sz := 5) (Ts := [(5, (.sref 3005 5 0 0))]) (Bs := []) hB (by decide) (by rfl) (by decide) (TwT.cons (x := .nils) (by rfl) (Tw.leaf ⟨rfl, rfl⟩) TwT.nil) TwB.nil) (mp [] _ _ hB)) (fun s2 y h => ?_) (fun e E' O' hR => ?_)
 ·unfold xmake_Deck_Signed_L0 at h
  apply AWp.seq
  apply sr (c (mv hN (q 6)) rfl (c (gtr (L rfl) (q 15) (ii 0)) rfl cn))
  apply AWp.cond rfl <;> intro hg410
  ·have h := ite_t hg410 h
   apply AWp.skip
   apply seqQ_n
   apply AWp.seq
   apply AWp.block
   apply AWp.seq
   obtain ⟨r411, hr411, h⟩ := bindS h
   obtain ⟨r412, hr412, h⟩ := bindS h
   obtain ⟨r413, hr413, h⟩ := bindS h
   obtain ⟨r414, hr414, h⟩ := bindS h
   refine AWp.region (oc (mv hN (ot 0 (pt 0)))
    (oc (OpJ.callFn hB fnOk30 (xmake_Deck_Next_ac s2.2.2 7 r411 hr411) [(0, 0)] (by kernel_rfl) (L rfl) (by kernel_rfl) (OpdL.cons (ot 19 (pt 0)) (OpdL.cons (ii 7) OpdL.nil)))
    (oc (add6 (L rfl) (ii 1) (ot 20 (i6 r411.1)))
    (oc (mv hN (ot 0 (pt 0)))
    (oc (OpJ.callFn hB fnOk30 (xmake_Deck_Next_ac r411.2 5 r412 hr412) [(0, 0)] (by kernel_rfl) (L rfl) (by kernel_rfl) (OpdL.cons (ot 22 (pt 0)) (OpdL.cons (ii 5) OpdL.nil)))
    (oc (mv hN (ot 0 (pt 0)))
    (oc (OpJ.callFn hB fnOk30 (xmake_Deck_Next_ac r412.2 3 r413 hr413) [(0, 0)] (by kernel_rfl) (L rfl) (by kernel_rfl) (OpdL.cons (ot 24 (pt 0)) (OpdL.cons (ii 3) OpdL.nil)))
    (oc (mv hN (ot 0 (pt 0)))
    (oc (OpJ.callFn hB fnOk30 (xmake_Deck_Next_ac r413.2 9 r414 hr414) [(0, 0)] (by kernel_rfl) (L rfl) (by kernel_rfl) (OpdL.cons (ot 26 (pt 0)) (OpdL.cons (ii 9) OpdL.nil)))
    (oc (add6 (L rfl) (ii 9) (ot 27 (i6 r414.1)))
    (oc (OpJ.build (places := [(0, 1), (1, 1), (2, 1), (3, 1), (4, 1)]) ⟨underlying66, fun w => by kernel_rfl⟩ tyZS66 (Opds.cons (ot 21 (i6 (w64 (1 + r411.1)))) (Opds.cons (ot 23 (i6 r412.1)) (Opds.cons (ot 25 (i6 r413.1)) (Opds.cons (ot 28 (i6 (w64 (9 + r414.1)))) Opds.nil)))) (by kernel_rfl) (r := (.st [(i6 (w64 (1 + r411.1))), (i6 r412.1), (i6 r413.1), (i6 (w64 (9 + r414.1))), .nils])) (by rfl) (L rfl))
    (oc (alloc hB tyZ66 (nm := 1007) (by decide) (L rfl))
    (oc (OpJ.storeB (bt := 66) (c := (.st [(i6 0), (i6 0), (i6 0), (i6 0), .nils])) (v := (.st [(i6 (w64 (1 + r411.1))), (i6 r412.1), (i6 r413.1), (i6 (w64 (9 + r414.1))), .nils])) (c' := (.st [(i6 (w64 (1 + r411.1))), (i6 r412.1), (i6 r413.1), (i6 (w64 (9 + r414.1))), .nils])) tyS66 (SetAt.here _ _) (by rfl) (by rfl) (by simp) rfl (ot 7 (pt 1007)) (ot 29 (.st [(i6 (w64 (1 + r411.1))), (i6 r412.1), (i6 r413.1), (i6 (w64 (9 + r414.1))), .nils])))
    (OpJs.nil)))))))))))))) (by rfl) (by rfl) ?_
   apply seqQ_n
   refine AWp.ghost (mp [] [(0, (pt 0)), (1, (qe_aCert_6 a1)), (5, (.sref 3005 5 0 s2.2.1.length)), (6, (i6 s2.1)), (7, (pt 1007))] [(0, bd 80 (e_xmake_Deck r414.2)), (1007, some (.box 66 (.st [(i6 (w64 (1 + r411.1))), (i6 r412.1), (i6 r413.1), (i6 (w64 (9 + r414.1))), .nils]))), (3005, some (we_aSigned_66_5 s2.2.1))] hB) ?_
   apply AWp.seq
   apply AWp.seq
   refine AWp.cut h (fun m417 : Bool × xmake_Deck => ([(0, (pt 0)), (1, (qe_aCert_6 a1)), (5, (.sref 3005 5 0 s2.2.1.length)), (6, (i6 s2.1)), (7, (pt 1007)), (37, (bo m417.1))] : EL)) (fun m417 : Bool × xmake_Deck => ([(0, bd 80 (e_xmake_Deck m417.2)), (1007, some (.box 66 (.st [(i6 (w64 (1 + r411.1))), (i6 r412.1), (i6 r413.1), (i6 (w64 (9 + r414.1))), .nils]))), (3005, some (we_aSigned_66_5 s2.2.1))] : OL)) (fun m417 h E' O' hmat => ?_) (fun j418 hjj418 h => ?_)
   ·apply seqQ_n
    refine AWp.ghost hmat ?_
    refine AWp.cut h (fun m422 : Int × xmake_Deck => ([(0, (pt 0)), (1, (qe_aCert_6 a1)), (5, (.sref 3005 5 0 s2.2.1.length)), (6, (i6 s2.1)), (7, (pt 1007))] : EL)) (fun m422 : Int × xmake_Deck => ([(0, bd 80 (e_xmake_Deck m422.2)), (1007, some (.box 66 (.st [(i6 m422.1), (i6 r412.1), (i6 r413.1), (i6 (w64 (9 + r414.1))), .nils]))), (3005, some (we_aSigned_66_5 s2.2.1))] : OL)) (fun m422 h E' O' hmat => ?_) (fun j423 hjj423 h => ?_)
    ·apply seqQ_n
     refine AWp.ghost hmat ?_
     apply AWp.seq
     apply AWp.seq
     obtain ⟨r424, hr424, h⟩ := bindS h
     refine AWp.region (oc (mv hN (ot 0 (pt 0)))
      (oc (OpJ.callFn hB fnOk30 (xmake_Deck_Next_ac m422.2 4 r424 hr424) [(0, 0)] (by kernel_rfl) (L rfl) (by kernel_rfl) (OpdL.cons (ot 47 (pt 0)) (OpdL.cons (ii 4) OpdL.nil)))
      (oc (assign (L rfl) (ot 48 (i6 r424.1)))
      (OpJs.nil)))) (by rfl) (by rfl) ?_
     apply seqQ_n
     refine AWp.ghost (mp [] [(0, (pt 0)), (1, (qe_aCert_6 a1)), (5, (.sref 3005 5 0 s2.2.1.length)), (6, (i6 s2.1)), (7, (pt 1007)), (8, (i6 r424.1))] [(0, bd 80 (e_xmake_Deck r424.2)), (1007, some (.box 66 (.st [(i6 m422.1), (i6 r412.1), (i6 r413.1), (i6 (w64 (9 + r414.1))), .nils]))), (3005, some (we_aSigned_66_5 s2.2.1))] hB) ?_
     apply AWp.block
     obtain ⟨p544, hx604, h⟩ := bindS h
     refine lg (xmake_Deck_Signed_L1 a1 r412 m422) (fun s425 : Int × (List aObject) × xmake_Deck => ([(0, (pt 0)), (1, (qe_aCert_6 a1)), (5, (.sref 3005 5 0 s2.2.1.length)), (6, (i6 s2.1)), (7, (pt 1007)), (8, (i6 s425.1))] : EL)) (fun s425 : Int × (List aObject) × xmake_Deck => ([(0, bd 80 (e_xmake_Deck s425.2.2)), (1007, some (.box 66 (.st [(i6 m422.1), (i6 r412.1), (i6 r413.1), (i6 (w64 (9 + r414.1))), (.sref 13074 6 0 s425.2.1.length)]))), (3005, some (we_aSigned_66_5 s2.2.1)), (13074, some (we_aObject_48_6 s425.2.1))] : OL)) (fun (p544 : ((List aObject) × xmake_Deck)) e E' O' => e = .exit 2 ∧ Mat B E' O' ([(0, (pt 0)), (1, (qe_aCert_6 a1)), (5, (.sref 3005 5 0 s2.2.1.length)), (6, (i6 s2.1)), (7, (pt 1007))] : EL) ([(0, bd 80 (e_xmake_Deck p544.2)), (1007, some (.box 66 (.st [(i6 m422.1), (i6 r412.1), (i6 r413.1), (i6 (w64 (9 + r414.1))), (.sref 13074 6 0 p544.1.length)]))), (3005, some (we_aSigned_66_5 s2.2.1)), (13074, some (we_aObject_48_6 p544.1))] : OL)) hx604 (Mat.trans (Mat.beginP (n := 13074) (e := 48) (sz := 6) (Ts := []) (Bs := [(1007, some (.box 66 (.st [(i6 m422.1), (i6 r412.1), (i6 r413.1), (i6 (w64 (9 + r414.1))), (.sref 13074 6 0 0)])))]) hB (by decide) (by rfl) (by decide) TwT.nil (TwB.cons (x := (.st [(i6 m422.1), (i6 r412.1), (i6 r413.1), (i6 (w64 (9 + r414.1))), .nils])) (by rfl) (Tw.st (TwL.cons (Tw.same _) (TwL.cons (Tw.same _) (TwL.cons (Tw.same _) (TwL.cons (Tw.same _) (TwL.cons (Tw.leaf ⟨rfl, rfl⟩) TwL.nil)))))) TwB.nil)) (mp [] _ _ hB)) (fun s425 y h => ?_) (fun e E' O' hR => ?_)
     ·unfold xmake_Deck_Signed_L1 at h
      apply AWp.seq
      apply sr (c (mv hN (q 8)) rfl (c (gtr (L rfl) (q 49) (ii 0)) rfl cn))
      apply AWp.cond rfl <;> intro hg545
      ·have h := ite_t hg545 h
       apply AWp.skip
       apply seqQ_n
       apply AWp.seq
       apply AWp.block
       apply AWp.seq
       obtain ⟨r546, hr546, h⟩ := bindS h
       refine AWp.region (oc (mv hN (ot 0 (pt 0)))
        (oc (OpJ.callFn hB fnOk57 (xmake_Deck_Object_ac s425.2.2 r546 hr546) [(0, 0)] (by kernel_rfl) (L rfl) (by kernel_rfl) (OpdL.cons (ot 53 (pt 0)) OpdL.nil))
        (oc (alloc hB tyZ48 (nm := 1009) (by decide) (L rfl))
        (oc (OpJ.storeB (bt := 48) (c := (.d (.st [(.st [(.st [(.bool false), (.int .u64 0), (.int .u64 0)]), (.int .i64 0)]), (.int .i64 0), (.int .i64 0)]))) (v := (.d (e_aObject r546.1))) (c' := (.d (e_aObject r546.1))) tyS48 (SetAt.here _ _) (by rfl) (by rfl) (by simp) rfl (ot 9 (pt 1009)) (ot 54 (.d (e_aObject r546.1))))
        (OpJs.nil))))) (by rfl) (by rfl) ?_
       apply seqQ_n
       refine AWp.ghost (mp [] [(0, (pt 0)), (1, (qe_aCert_6 a1)), (5, (.sref 3005 5 0 s2.2.1.length)), (6, (i6 s2.1)), (7, (pt 1007)), (8, (i6 s425.1)), (9, (pt 1009))] [(0, bd 80 (e_xmake_Deck r546.2)), (1007, some (.box 66 (.st [(i6 m422.1), (i6 r412.1), (i6 r413.1), (i6 (w64 (9 + r414.1))), (.sref 13074 6 0 s425.2.1.length)]))), (1009, bd 48 (e_aObject r546.1)), (3005, some (we_aSigned_66_5 s2.2.1)), (13074, some (we_aObject_48_6 s425.2.1))] hB) ?_
       apply AWp.seq
       apply sr (c (mv hN (q 1)) rfl (c (OpJ.val (v' := (i6 (a1.length : Int))) (by simp) (lenD underlying22 (L rfl) (q 55))) rfl (c (mv hN (ii 0)) rfl cn)))
       apply AWp.block
       obtain ⟨p582, hx601, h⟩ := bindS h
       refine lg (xmake_Deck_Signed_L2 a1 m422) (fun s547 : Int × aObject × xmake_Deck => ([(0, (pt 0)), (1, (qe_aCert_6 a1)), (5, (.sref 3005 5 0 s2.2.1.length)), (6, (i6 s2.1)), (7, (pt 1007)), (8, (i6 s425.1)), (9, (pt 1009)), (55, (qe_aCert_6 a1)), (56, (i6 (a1.length : Int))), (57, (i6 s547.1))] : EL)) (fun s547 : Int × aObject × xmake_Deck => ([(0, bd 80 (e_xmake_Deck s547.2.2)), (1007, some (.box 66 (.st [(i6 m422.1), (i6 r412.1), (i6 r413.1), (i6 (w64 (9 + r414.1))), (.sref 13074 6 0 s425.2.1.length)]))), (1009, bd 48 (e_aObject s547.2.1)), (3005, some (we_aSigned_66_5 s2.2.1)), (13074, some (we_aObject_48_6 s425.2.1))] : OL)) (fun (p582 : (aObject × xmake_Deck)) e E' O' => e = .exit 4 ∧ Mat B E' O' ([(0, (pt 0)), (1, (qe_aCert_6 a1)), (5, (.sref 3005 5 0 s2.2.1.length)), (6, (i6 s2.1)), (7, (pt 1007)), (8, (i6 s425.1)), (9, (pt 1009))] : EL) ([(0, bd 80 (e_xmake_Deck p582.2)), (1007, some (.box 66 (.st [(i6 m422.1), (i6 r412.1), (i6 r413.1), (i6 (w64 (9 + r414.1))), (.sref 13074 6 0 s425.2.1.length)]))), (1009, bd 48 (e_aObject p582.1)), (3005, some (we_aSigned_66_5 s2.2.1)), (13074, some (we_aObject_48_6 s425.2.1))] : OL)) hx601 (mp [] _ _ hB) (fun s547 y h => ?_) (fun e E' O' hR => ?_)
       ·unfold xmake_Deck_Signed_L2 at h
        apply sr (c (lss (L rfl) (q 57) (q 56)) rfl cn)
        apply AWp.seq
        apply AWp.cond rfl <;> intro hg583
        ·have h := ite_t hg583 h
         apply AWp.skip
         apply seqQ_n
         apply AWp.seq
         apply AWp.block
         obtain ⟨x584, hx584, h⟩ := bindS h
         apply sr (c (indexD underlying22 tyS59 (idx_some hx584).1 (get_map e_aCert (idx_some hx584).2) (L rfl) (q 55) (q 57)) rfl (c (loadD tyS59 (by rfl) (by rfl) (L rfl) (q 59)) rfl (cg (alloc hB tyZ59 (nm := 1011) (by decide) (L rfl)) rfl (cg (sB tyS59 (q 11) (q 60)) rfl cn))))
         obtain ⟨r585, hr585, h⟩ := bindS h
         apply sr (c (fo 1011 4 [4] hN underlying59 4 tyS57 (q 11)) rfl (c (la hN 59 tyS57 (q 61)) rfl (cg (cf hB fnOk58 (xref21_Prefixes_ac x584.fResources r585 hr585) (L rfl) (OpdL.cons (q 62) OpdL.nil)) rfl (c (assign (L rfl) (q 63)) rfl cn))))
         apply AWp.seq
         refine AWp.cut h (fun m588 : Bool × xmake_Deck => ([(0, (pt 0)), (1, (qe_aCert_6 a1)), (5, (.sref 3005 5 0 s2.2.1.length)), (6, (i6 s2.1)), (7, (pt 1007)), (8, (i6 s425.1)), (9, (pt 1009)), (12, (qe_aPrefix_4 r585)), (55, (qe_aCert_6 a1)), (56, (i6 (a1.length : Int))), (57, (i6 s547.1)), (78, (bo m588.1))] : EL)) (fun m588 : Bool × xmake_Deck => ([(0, bd 80 (e_xmake_Deck m588.2)), (1007, some (.box 66 (.st [(i6 m422.1), (i6 r412.1), (i6 r413.1), (i6 (w64 (9 + r414.1))), (.sref 13074 6 0 s425.2.1.length)]))), (1009, bd 48 (e_aObject s547.2.1)), (3005, some (we_aSigned_66_5 s2.2.1)), (13074, some (we_aObject_48_6 s425.2.1))] : OL)) (fun m588 h E' O' hmat => ?_) (fun j589 hjj589 h => ?_)
         ·apply seqQ_n
          refine AWp.ghost hmat ?_
          refine AWp.cut h (fun m593 : aObject × xmake_Deck => ([(0, (pt 0)), (1, (qe_aCert_6 a1)), (5, (.sref 3005 5 0 s2.2.1.length)), (6, (i6 s2.1)), (7, (pt 1007)), (8, (i6 s425.1)), (9, (pt 1009)), (55, (qe_aCert_6 a1)), (56, (i6 (a1.length : Int))), (57, (i6 s547.1))] : EL)) (fun m593 : aObject × xmake_Deck => ([(0, bd 80 (e_xmake_Deck m593.2)), (1007, some (.box 66 (.st [(i6 m422.1), (i6 r412.1), (i6 r413.1), (i6 (w64 (9 + r414.1))), (.sref 13074 6 0 s425.2.1.length)]))), (1009, bd 48 (e_aObject m593.1)), (3005, some (we_aSigned_66_5 s2.2.1)), (13074, some (we_aObject_48_6 s425.2.1))] : OL)) (fun m593 h E' O' hmat => ?_) (fun j594 hjj594 h => ?_)
          ·apply blkQ_n
           apply seqQ_n
           refine AWp.ghost hmat ?_
           apply rg (c (add6 (L rfl) (q 57) (ii 1)) rfl (c (mv hN (q 91)) rfl cn))
           obtain rfl := oi h
           exact ⟨rfl, (mp [] _ _ hB)⟩
          ·apply AWp.cond rfl <;> intro hg595
           ·have h := ite_t hg595 h
            apply AWp.seq
            obtain ⟨r596, hr596, h⟩ := bindS h
            obtain ⟨x597, hx597, h⟩ := bindS h
            refine AWp.region (oc (mv hN (ot 12 (qe_aPrefix_4 r585)))
             (oc (mv hN (ot 0 (pt 0)))
             (oc (mv hN (ot 12 (qe_aPrefix_4 r585)))
             (oc (OpJ.val (v' := (i6 (r585.length : Int))) (by simp) (lenD underlying50 (L rfl) (ot 81 (qe_aPrefix_4 r585))))
             (oc (OpJ.callFn hB fnOk30 (xmake_Deck_Next_ac m588.2 (r585.length : Int) r596 hr596) [(0, 0)] (by kernel_rfl) (L rfl) (by kernel_rfl) (OpdL.cons (ot 80 (pt 0)) (OpdL.cons (ot 82 (i6 (r585.length : Int))) OpdL.nil)))
             (oc (indexD (el := (e_aPrefix x597)) underlying50 tyS46 (idx_some hx597).1 (get_map e_aPrefix (idx_some hx597).2) (L rfl) (ot 79 (qe_aPrefix_4 r585)) (ot 83 (i6 r596.1)))
             (oc (loadD tyS46 (by rfl) (by rfl) (L rfl) (ot 84 (.dptr (e_aPrefix x597))))
             (oc (ov (.ptr 1009 0 [0]) (fp hN underlying48 0 tyS46 (.box 48 (.d (e_aObject s547.2.1))) (ot 9 (pt 1009))))
             (oc (OpJ.storeB (bt := 48) (c := (.d (e_aObject s547.2.1))) (v := (.d (e_aPrefix x597))) (c' := (.d (.st [(e_aPrefix x597), (.int .i64 s547.2.1.fMax), (.int .i64 s547.2.1.fASN)]))) tyS46 (SetAt.dst1 (f := (e_aPrefix s547.2.1.fPrefix)) (f' := (e_aPrefix x597)) (by rfl) (by rfl) (SetAt.here _ _) (by rfl) (by rfl) (by first | rfl | omega)) (by rfl) (by rfl) (by simp) rfl (ot 86 (.ptr 1009 0 [0])) (ot 85 (.d (e_aPrefix x597))))
             (OpJs.nil)))))))))) (by rfl) (by rfl) ?_
            apply seqQ_n
            refine AWp.ghost (mp [] [(0, (pt 0)), (1, (qe_aCert_6 a1)), (5, (.sref 3005 5 0 s2.2.1.length)), (6, (i6 s2.1)), (7, (pt 1007)), (8, (i6 s425.1)), (9, (pt 1009)), (55, (qe_aCert_6 a1)), (56, (i6 (a1.length : Int))), (57, (i6 s547.1))] [(0, bd 80 (e_xmake_Deck r596.2)), (1007, some (.box 66 (.st [(i6 m422.1), (i6 r412.1), (i6 r413.1), (i6 (w64 (9 + r414.1))), (.sref 13074 6 0 s425.2.1.length)]))), (1009, bd 48 (.st [(e_aPrefix x597), (.int .i64 s547.2.1.fMax), (.int .i64 s547.2.1.fASN)])), (3005, some (we_aSigned_66_5 s2.2.1)), (13074, some (we_aObject_48_6 s425.2.1))] hB) ?_
            apply rg (c (fo 1009 0 [0] hN underlying48 0 tyS46 (q 9)) rfl (c (fo 1009 3 [0, 1] hN underlying46 3 tyS3 (q 87)) rfl (c (lb hN 48 _ _ tyS3 (At.dst1 (by rfl) (by rfl) (ad _) (by first | rfl | omega)) (q 88)) rfl (c (fo 1009 4 [1] hN underlying48 4 tyS3 (q 9)) rfl (cg (OpJ.storeB tyS3 (SetAt.dst1 (by rfl) (by rfl) (SetAt.here _ _) (by rfl) (by rfl) (by first | rfl | omega)) (by rfl) (by rfl) (by simp) rfl (q 90) (q 89)) rfl cn)))))
            exact hjj594 _ h _ _ (mp [] _ _ hB)
           ·have h := ite_f hg595 h
            apply AWp.skip
            exact hjj594 _ h _ _ (mp [] _ _ hB)
         ·rcases bft ((x584.fKey == m422.1) && (decide (0 < (r585.length : Int)))) with hg598 | hg598
          ·have h := ite_t hg598 h
           obtain ⟨r599, hr599, h⟩ := bindS h
           refine AWp.region (oc (ov (.ptr 1011 0 [0]) (fp hN underlying59 0 tyS3 (.box 59 (.d (e_aCert x584))) (ot 11 (pt 1011))))
            (oc (lb hN 59 (.d (e_aCert x584)) (i6 x584.fKey) tyS3 (ad (.int .i64 x584.fKey)) (ot 64 (.ptr 1011 0 [0])))
            (oc (ov (.ptr 1007 0 [0]) (fp hN underlying66 0 tyS3 (.box 66 (.st [(i6 m422.1), (i6 r412.1), (i6 r413.1), (i6 (w64 (9 + r414.1))), (.sref 13074 6 0 s425.2.1.length)])) (ot 7 (pt 1007))))
            (oc (lb hN 66 (.st [(i6 m422.1), (i6 r412.1), (i6 r413.1), (i6 (w64 (9 + r414.1))), (.sref 13074 6 0 s425.2.1.length)]) (i6 m422.1) tyS3 (At.st1 (f := (i6 m422.1)) (by rfl) (by rfl) (At.here _) (by first | rfl | omega)) (ot 66 (.ptr 1007 0 [0])))
            (oc (eqlI (L rfl) (ot 65 (i6 x584.fKey)) (ot 67 (i6 m422.1)))
            (oc (mv hN (ot 68 (bo (x584.fKey == m422.1))))
            (oc (op hN 69 (qe_aPrefix_4 r585) (mv hN (ot 12 (qe_aPrefix_4 r585))) (OptL.keep rfl OptL.nil) (GuardV.plain _))
            (oc (op hN 69 (i6 (r585.length : Int)) (OpJ.val (v' := (i6 (r585.length : Int))) (by simp) (lenD underlying50 (L rfl) (ot 70 (qe_aPrefix_4 r585)))) (OptL.opt OptL.nil) (GuardV.plain _))
            (oc (op hN 69 (bo (decide (0 < (r585.length : Int)))) (gtr (L rfl) (ot 71 (i6 (r585.length : Int))) (ii 0)) (OptL.opt OptL.nil) (GuardV.plain _))
            (oc (pickAnd rfl (L rfl) (ot 69 (bo (x584.fKey == m422.1))) (ot 72 (.opt ((x584.fKey == m422.1) == true) (bo (decide (0 < (r585.length : Int)))))))
            (oc (OpJ.val (v' := .d (.bool true)) (by rw [hg598] <;> rfl) (mv hN (ot 73 (bo ((x584.fKey == m422.1) && (decide (0 < (r585.length : Int))))))))
            (oc (gd 74 (mv hN (ot 0 (pt 0))))
            (oc (gd 74 (OpJ.callFn hB fnOk30 (xmake_Deck_Next_ac s547.2.2 2 r599 hr599) [(0, 0)] (by kernel_rfl) (L rfl) (by kernel_rfl) (OpdL.cons (ot 75 (pt 0)) (OpdL.cons (ii 2) OpdL.nil))))
            (oc (gd 74 (eqlI (L rfl) (ot 76 (i6 r599.1)) (ii 0)))
            (oc (pickT (L rfl) (ot 74 (bo true)) (ot 77 (bo (r599.1 == 0))))
            (OpJs.nil)))))))))))))))) (by rfl) (by rfl) ?_
           exact hjj589 _ h _ _ (mp [] _ _ hB)
          ·have h := ite_f hg598 h
           apply rg (c (fo 1011 0 [0] hN underlying59 0 tyS3 (q 11)) rfl (c (la hN 59 tyS3 (q 64)) rfl (c (fo 1007 0 [0] hN underlying66 0 tyS3 (q 7)) rfl (c (lb hN 66 _ (i6 m422.1) tyS3 (At.st1 (f := (i6 m422.1)) (by rfl) (by rfl) (At.here _) (by first | rfl | omega)) (q 66)) rfl (c (eqlI (L rfl) (q 65) (q 67)) rfl (c (mv hN (q 68)) rfl (c (oq hN 69 (mv hN (q 12)) (OptL.keep (by rfl) OptL.nil) (GuardV.plain _)) rfl (c (oq hN 69 (OpJ.val (v' := (i6 (r585.length : Int))) (by simp) (lenD underlying50 (L rfl) (q 70))) (OptL.opt OptL.nil) (GuardV.plain _)) rfl (c (oq hN 69 (gtr (L rfl) (q 71) (ii 0)) (OptL.opt OptL.nil) (GuardV.plain _)) rfl (c (pickAnd rfl (L rfl) (q 69) (q 72)) rfl (c (OpJ.val (v' := .d (.bool false)) (by rw [hg598] <;> rfl) (mv hN (q 73))) rfl (ks 74 (L rfl) (ks 74 (L rfl) (ks 74 (L rfl) (c (pickF (L rfl) (q 74) (Opd.bool false)) rfl cn)))))))))))))))
           exact hjj589 _ h _ _ (mp [] _ _ hB)
        ·have h := ite_f hg583 h
         apply AWp.exit
         apply seqQ_e
         obtain rfl := oi h
         exact ⟨(fun hc => by cases hc), rfl, (mp [] _ _ hB)⟩
       ·obtain ⟨rfl, hmat⟩ := hR
        apply blkQ_hit
        apply seqQ_n
        refine AWp.ghost hmat ?_
        apply sr (c (fo 1007 1 [1] hN underlying66 1 tyS3 (q 7)) rfl (c (lb hN 66 _ (i6 r412.1) tyS3 (At.st1 (f := (i6 r412.1)) (by rfl) (by rfl) (At.here _) (by first | rfl | omega)) (q 92)) rfl (c (fo 1009 5 [2] hN underlying48 5 tyS3 (q 9)) rfl (cg (OpJ.storeB tyS3 (SetAt.dst1 (by rfl) (by rfl) (SetAt.here _ _) (by rfl) (by rfl) (by first | rfl | omega)) (by rfl) (by rfl) (by simp) rfl (q 94) (q 93)) rfl cn))))
        obtain ⟨hc602, h⟩ := chk_some h
        apply rg (c (fo 1007 4 [4] hN underlying66 4 tyS38 (q 7)) rfl (c (lb hN 66 _ (.sref 13074 6 0 s425.2.1.length) tyS38 (At.st1 (f := (.sref 13074 6 0 s425.2.1.length)) (by rfl) (by rfl) (At.here _) (by first | rfl | omega)) (q 95)) rfl (c (lb hN 48 _ _ tyS48 (At.here _) (q 9)) rfl (c (buildSlice underlying38 tyS48 tyZD48 (by rfl) (by decide) (by decide) (Opds.cons (q 97) Opds.nil) (by kernel_rfl) (es := ([(.st [(e_aPrefix p582.1.fPrefix), (.int .i64 p582.1.fMax), (.int .i64 r412.1)])] : List D)) (by rfl) (by rfl) (by kernel_rfl) (by simp) (L rfl)) rfl (cg (apd hB underlying38 tyE48 1099 e_aObject s425.2.1 [(aObject.mk p582.1.fPrefix p582.1.fMax r412.1)] hc602 (L rfl) (q 96) (q 98)) rfl (c (fo 1007 4 [4] hN underlying66 4 tyS38 (q 7)) rfl (cg (OpJ.storeB (c' := (.st [(i6 m422.1), (i6 r412.1), (i6 r413.1), (i6 (w64 (9 + r414.1))), (.sref 1099 6 0 ((s425.2.1 ++ [(aObject.mk p582.1.fPrefix p582.1.fMax r412.1)]).length))])) tyS38 (SetAt.st1 (f := (.sref 13074 6 0 s425.2.1.length)) (by rfl) (by rfl) (SetAt.here _ _) (by rfl) (by rfl) (by first | rfl | omega)) (by rfl) (by rfl) (by simp) rfl (q 100) (q 99)) rfl cn)))))))
        apply blkQ_n
        apply seqQ_n
        apply rg (c (mv hN (q 8)) rfl (c (sub6 (L rfl) (q 51) (ii 1)) rfl (c (assign (L rfl) (q 52)) rfl cn)))
        obtain rfl := oi h
        exact ⟨rfl, (mp [(13074, 1099)] _ _ hB)⟩
      ·have h := ite_f hg545 h
       apply AWp.exit
       apply seqQ_e
       obtain rfl := oi h
       exact ⟨(fun hc => by cases hc), rfl, (mp [] _ _ hB)⟩
     ·obtain ⟨rfl, hmat⟩ := hR
      apply blkQ_hit
      apply seqQ_n
      refine AWp.ghost hmat ?_
      refine AWp.ghost (Mat.freezeP (n := 13074) (e := 48) (sz := 6) (es := p544.1.map e_aObject) (Ts := []) (Bs := [(1007, some (.box 66 (.st [(i6 m422.1), (i6 r412.1), (i6 r413.1), (i6 (w64 (9 + r414.1))), (qe_aObject_6 p544.1)])))]) (by rfl) TwT.nil (TwB.cons (x := (.st [(i6 m422.1), (i6 r412.1), (i6 r413.1), (i6 (w64 (9 + r414.1))), (.sref 13074 6 0 p544.1.length)])) (by rfl) (Tw.st (TwL.cons (Tw.same _) (TwL.cons (Tw.same _) (TwL.cons (Tw.same _) (TwL.cons (Tw.same _) (TwL.cons (FrzL.all (by first | rfl | (simp; done) | (simp; omega) | omega)) TwL.nil)))))) TwB.nil)) ?_
      obtain ⟨hc605, h⟩ := chk_some h
      apply rg (c (mv hN (q 5)) rfl (c (lb hN 66 _ _ tyS66 (At.here _) (q 7)) rfl (c (buildSlice underlying26 tyS66 tyZD66 (by rfl) (by decide) (by decide) (Opds.cons (Opd.co (Co.st (CoL.cons (Co.d _) (CoL.cons (Co.d _) (CoL.cons (Co.d _) (CoL.cons (Co.d _) (CoL.cons (Co.d _) CoL.nil)))))) (q 102)) Opds.nil) (by kernel_rfl) (es := ([(.st [(.int .i64 m422.1), (.int .i64 r412.1), (.int .i64 r413.1), (.int .i64 (w64 (9 + r414.1))), (.list 6 (p544.1.map e_aObject))])] : List D)) (by rfl) (by rfl) (by kernel_rfl) (by simp) (L rfl)) rfl (cg (apd hB underlying26 tyE66 1104 e_aSigned s2.2.1 [(aSigned.mk m422.1 r412.1 r413.1 (w64 (9 + r414.1)) p544.1)] hc605 (L rfl) (q 101) (q 103)) rfl (c (assign (L rfl) (q 104)) rfl cn)))))
      apply blkQ_n
      apply seqQ_n
      apply rg (c (mv hN (q 6)) rfl (c (sub6 (L rfl) (q 17) (ii 1)) rfl (c (assign (L rfl) (q 18)) rfl cn)))
      obtain rfl := oi h
      exact ⟨rfl, (mp [(3005, 1104)] _ _ hB)⟩
    ·apply AWp.cond rfl <;> intro hg606
     ·have h := ite_t hg606 h
      obtain ⟨r607, hr607, h⟩ := bindS h
      obtain ⟨x608, hx608, h⟩ := bindS h
      refine AWp.region (oc (mv hN (ot 1 (qe_aCert_6 a1)))
       (oc (mv hN (ot 0 (pt 0)))
       (oc (mv hN (ot 1 (qe_aCert_6 a1)))
       (oc (OpJ.val (v' := (i6 (a1.length : Int))) (by simp) (lenD underlying22 (L rfl) (ot 40 (qe_aCert_6 a1))))
       (oc (OpJ.callFn hB fnOk30 (xmake_Deck_Next_ac m417.2 (a1.length : Int) r607 hr607) [(0, 0)] (by kernel_rfl) (L rfl) (by kernel_rfl) (OpdL.cons (ot 39 (pt 0)) (OpdL.cons (ot 41 (i6 (a1.length : Int))) OpdL.nil)))
       (oc (indexD (el := (e_aCert x608)) underlying22 tyS59 (idx_some hx608).1 (get_map e_aCert (idx_some hx608).2) (L rfl) (ot 38 (qe_aCert_6 a1)) (ot 42 (i6 r607.1)))
       (oc (fieldD underlying59 (by rfl) (o := 0) (by rfl) tyS3 (by decide) (ds := [(.int .i64 x608.fKey), (.int .i64 x608.fIssuer), (.int .i64 x608.fFrom), (.int .i64 x608.fUntil), (e_aResources x608.fResources)]) (e := (.int .i64 x608.fKey)) (by rfl) (by rfl) (L rfl) (ot 43 (.dptr (e_aCert x608))))
       (oc (loadD tyS3 (by rfl) (by rfl) (L rfl) (ot 44 (.dptr (.int .i64 x608.fKey))))
       (oc (ov (.ptr 1007 0 [0]) (fp hN underlying66 0 tyS3 (.box 66 (.st [(i6 (w64 (1 + r411.1))), (i6 r412.1), (i6 r413.1), (i6 (w64 (9 + r414.1))), .nils])) (ot 7 (pt 1007))))
       (oc (OpJ.storeB (bt := 66) (c := (.st [(i6 (w64 (1 + r411.1))), (i6 r412.1), (i6 r413.1), (i6 (w64 (9 + r414.1))), .nils])) (v := (i6 x608.fKey)) (c' := (.st [(i6 x608.fKey), (i6 r412.1), (i6 r413.1), (i6 (w64 (9 + r414.1))), .nils])) tyS3 (SetAt.st1 (f := (i6 (w64 (1 + r411.1)))) (by rfl) (by rfl) (SetAt.here _ _) (by rfl) (by rfl) (by first | rfl | omega)) (by rfl) (by rfl) (by simp) rfl (ot 46 (.ptr 1007 0 [0])) (ot 45 (i6 x608.fKey)))
       (OpJs.nil))))))))))) (by rfl) (by rfl) ?_
      exact hjj423 _ h _ _ (mp [] _ _ hB)
     ·have h := ite_f hg606 h
      apply AWp.skip
      exact hjj423 _ h _ _ (mp [] _ _ hB)
   ·rcases bft (decide (0 < (a1.length : Int))) with hg609 | hg609
    ·have h := ite_t hg609 h
     obtain ⟨r610, hr610, h⟩ := bindS h
     refine AWp.region (oc (mv hN (ot 1 (qe_aCert_6 a1)))
      (oc (OpJ.val (v' := (i6 (a1.length : Int))) (by simp) (lenD underlying22 (L rfl) (ot 30 (qe_aCert_6 a1))))
      (oc (gtr (L rfl) (ot 31 (i6 (a1.length : Int))) (ii 0))
      (oc (OpJ.val (v' := .d (.bool true)) (by rw [hg609] <;> rfl) (mv hN (ot 32 (bo (decide (0 < (a1.length : Int)))))))
      (oc (gd 33 (mv hN (ot 0 (pt 0))))
      (oc (gd 33 (OpJ.callFn hB fnOk30 (xmake_Deck_Next_ac r414.2 4 r610 hr610) [(0, 0)] (by kernel_rfl) (L rfl) (by kernel_rfl) (OpdL.cons (ot 34 (pt 0)) (OpdL.cons (ii 4) OpdL.nil))))
      (oc (gd 33 (gtr (L rfl) (ot 35 (i6 r610.1)) (ii 0)))
      (oc (pickT (L rfl) (ot 33 (bo true)) (ot 36 (bo (decide (0 < r610.1)))))
      (OpJs.nil))))))))) (by rfl) (by rfl) ?_
     exact hjj418 _ h _ _ (mp [] _ _ hB)
    ·have h := ite_f hg609 h
     apply rg (c (mv hN (q 1)) rfl (c (OpJ.val (v' := (i6 (a1.length : Int))) (by simp) (lenD underlying22 (L rfl) (q 30))) rfl (c (gtr (L rfl) (q 31) (ii 0)) rfl (c (OpJ.val (v' := .d (.bool false)) (by rw [hg609] <;> rfl) (mv hN (q 32))) rfl (ks 33 (L rfl) (ks 33 (L rfl) (ks 33 (L rfl) (c (pickF (L rfl) (q 33) (Opd.bool false)) rfl cn))))))))
     exact hjj418 _ h _ _ (mp [] _ _ hB)
  ·have h := ite_f hg410 h
   apply AWp.exit
   apply seqQ_e
   obtain rfl := oi h
   exact ⟨(fun hc => by cases hc), rfl, (mp [] _ _ hB)⟩
 ·obtain ⟨rfl, hmat⟩ := hR
  apply blkQ_hit
  apply seqQ_n
  refine AWp.ghost hmat ?_
  apply sr (c (mv hN (q 5)) rfl (c (assign (L rfl) (q 105)) rfl cn))
  apply AWp.ret
  obtain rfl := oi h
  exact rt (Mat.trans (Mat.freezeP (n := 3005) (e := 66) (sz := 5) (es := p409.2.map e_aSigned) (Ts := [(4, (qe_aSigned_5 p409.2))]) (Bs := []) (by rfl) (TwT.cons (x := (.sref 3005 5 0 p409.2.length)) (by rfl) (FrzL.all (by first | rfl | (simp; done) | (simp; omega) | omega)) TwT.nil) TwB.nil) (mp [] [(4, (qe_aSigned_5 p409.2))] [(0, bd 80 (e_xmake_Deck p409.1))] hB)) [(qe_aSigned_5 p409.2)] (Res.tmp (by rfl) (by rfl) Res.nil) rfl
def xlaw22_setting (a0 : xmake_Deck) : Option ((List aCert) × (List aSigned) × Int × xmake_Deck) :=
 (xmake_Deck_Certs a0).bind fun r1 =>
 (xmake_Deck_Signed r1.2 r1.1).bind fun r2 =>
 (xmake_Deck_Next r2.2 14).bind fun r3 =>
 some (r1.1, r2.1, r3.1, r3.2)
theorem xlaw22_setting_ac (a0 : xmake_Deck) (r : (List aCert) × (List aSigned) × Int × xmake_Deck) (h : xlaw22_setting a0 = some r) : AC Tryz.prog 10 [(pt 0)] [(0, (.box 80 (.d (e_xmake_Deck a0))))] (.tup [(.d (.list 6 (r.1.map e_aCert))), (.d (.list 5 (r.2.1.map e_aSigned))), (.d (.int .i64 r.2.2.1))]) [(0, bd 80 (e_xmake_Deck r.2.2.2))] := by
 refine AC.of_code2 Tryz.func10 rfl rfl (Nat.le_of_ble_eq_true (by rfl)) fun B hB hN => ?_
 delta xlaw22_setting at h
 apply sr (c (assign (ltN hN rfl) Opd.nils) rfl (c (assign (ltN hN rfl) Opd.nils) rfl (c (assign (ltN hN rfl) (ii 0)) rfl cn)))
 apply AWp.seq
 obtain ⟨r1, hr1, h⟩ := bindS h
 refine AWp.region (oc (mv hN (ot 0 (pt 0)))
 (oc (OpJ.callFn hB fnOk22 (xmake_Deck_Certs_ac a0 r1 hr1) [(0, 0)] (by kernel_rfl) (ltN hN rfl) (by kernel_rfl) (OpdL.cons (ot 6 (pt 0)) OpdL.nil))
 (oc (assign (ltN hN rfl) (ot 7 (qe_aCert_6 r1.1)))
 (OpJs.nil)))) (by rfl) (by rfl) ?_
 apply seqQ_n
 refine AWp.ghost (mp [] [(0, (pt 0)), (5, (qe_aCert_6 r1.1))] [(0, bd 80 (e_xmake_Deck r1.2))] hB) ?_
 apply AWp.seq
 obtain ⟨r2, hr2, h⟩ := bindS h
 obtain ⟨r3, hr3, h⟩ := bindS h
 refine AWp.region (oc (mv hN (ot 5 (qe_aCert_6 r1.1)))
 (oc (mv hN (ot 0 (pt 0)))
 (oc (mv hN (ot 5 (qe_aCert_6 r1.1)))
 (oc (OpJ.callFn hB fnOk29 (xmake_Deck_Signed_ac r1.2 r1.1 r2 hr2) [(0, 0)] (by kernel_rfl) (ltN hN rfl) (by kernel_rfl) (OpdL.cons (ot 9 (pt 0)) (OpdL.cons (ot 10 (qe_aCert_6 r1.1)) OpdL.nil)))
 (oc (mv hN (ot 0 (pt 0)))
 (oc (OpJ.callFn hB fnOk30 (xmake_Deck_Next_ac r2.2 14 r3 hr3) [(0, 0)] (by kernel_rfl) (ltN hN rfl) (by kernel_rfl) (OpdL.cons (ot 12 (pt 0)) (OpdL.cons (ii 14) OpdL.nil)))
 (oc (assign (ltN hN rfl) (ot 8 (qe_aCert_6 r1.1)))
 (oc (assign (ltN hN rfl) (ot 11 (qe_aSigned_5 r2.1)))
 (oc (assign (ltN hN rfl) (ot 13 (i6 r3.1)))
 (OpJs.nil)))))))))) (by rfl) (by rfl) ?_
 apply seqQ_n
 refine AWp.ghost (mp [] [(2, (qe_aCert_6 r1.1)), (3, (qe_aSigned_5 r2.1)), (4, (i6 r3.1))] [(0, bd 80 (e_xmake_Deck r3.2))] hB) ?_
 apply AWp.ret
 obtain rfl := oi h
 exact rt (kp [(2, _), (3, _), (4, _)] [(0, some _)] hB rfl rfl (by rfl)) [(qe_aCert_6 r1.1), (qe_aSigned_5 r2.1), (i6 r3.1)] (Res.tmp (by rfl) (by rfl) (Res.tmp (by rfl) (by rfl) (Res.tmp (by rfl) (by rfl) Res.nil))) rfl
def xlaw22_anchors (a0 : Int) : Option ((List Int)) :=
 (xmake_Mod a0 4).bind fun r1 =>
 (idx ([([1] : List Int), ([1, 2, 3] : List Int), ([] : List Int), ([1, 2, 3, 4, 5, 6, 7] : List Int)] : List (List Int)) r1).bind fun x2 =>
 some x2
theorem xlaw22_anchors_ac (a0 : Int) (r : (List Int)) (h : xlaw22_anchors a0 = some r) : AC Tryz.prog 12 [(.d (.int .i64 a0))] [] (.d (.list 1 (r.map (eI .i64)))) [] := by
 refine AC.of_code2 Tryz.func12 rfl rfl (Nat.le_of_ble_eq_true (by rfl)) fun B hB hN => ?_
 delta xlaw22_anchors at h
 apply sr (c (assign (ltN hN rfl) Opd.nils) rfl cn)
 obtain ⟨r1, hr1, h⟩ := bindS h
 obtain ⟨x2, hx2, h⟩ := bindS h
 apply sr (c (buildSlice underlying23 tyS3 tyZD3 (by rfl) (by decide) (by decide) (Opds.cons (ii 1) Opds.nil) (by kernel_rfl) (es := ([(.int .i64 1)] : List D)) (by rfl) (by rfl) (by kernel_rfl) (by simp) (ltN hN rfl)) rfl (c (buildSlice underlying23 tyS3 tyZD3 (by rfl) (by decide) (by decide) (Opds.cons (ii 1) (Opds.cons (ii 2) (Opds.cons (ii 3) Opds.nil))) (by kernel_rfl) (es := ([(.int .i64 1), (.int .i64 2), (.int .i64 3)] : List D)) (by rfl) (by rfl) (by kernel_rfl) (by simp) (ltN hN rfl)) rfl (c (buildSlice underlying23 tyS3 tyZD3 (by rfl) (by decide) (by decide) (Opds.cons (ii 1) (Opds.cons (ii 2) (Opds.cons (ii 3) (Opds.cons (ii 4) (Opds.cons (ii 5) (Opds.cons (ii 6) (Opds.cons (ii 7) Opds.nil))))))) (by kernel_rfl) (es := ([(.int .i64 1), (.int .i64 2), (.int .i64 3), (.int .i64 4), (.int .i64 5), (.int .i64 6), (.int .i64 7)] : List D)) (by rfl) (by rfl) (by kernel_rfl) (by simp) (ltN hN rfl)) rfl (c (buildSlice underlying33 tyS23 tyZD23 (by rfl) (by decide) (by decide) (Opds.cons (q 3) (Opds.cons (q 4) (Opds.cons (Opd.co (Co.nils 1) Opd.nils) (Opds.cons (q 5) Opds.nil)))) (by kernel_rfl) (es := ([(.list 1 (([1] : List Int).map (eI .i64))), (.list 1 (([1, 2, 3] : List Int).map (eI .i64))), (.list 1 (([] : List Int).map (eI .i64))), (.list 1 (([1, 2, 3, 4, 5, 6, 7] : List Int).map (eI .i64)))] : List D)) (by rfl) (by rfl) (by kernel_rfl) (by simp) (ltN hN rfl)) rfl (c (mv hN (q 0)) rfl (cg (OpJ.callFn hB fnOk19 (xmake_Mod_ac a0 4 r1 hr1) [] (by kernel_rfl) (ltN hN rfl) (by kernel_rfl) (OpdL.cons (q 7) (OpdL.cons (ii 4) OpdL.nil))) rfl (c (indexD underlying33 tyS23 (idx_some hx2).1 (get_map e_LeIi64 (idx_some hx2).2) (ltN hN rfl) (q 6) (q 8)) rfl (c (loadD tyS23 (by rfl) (by rfl) (ltN hN rfl) (q 9)) rfl (c (assign (ltN hN rfl) (q 10)) rfl cn)))))))))
 apply AWp.ret
 obtain rfl := oi h
 exact rt (kp [(2, _)] [] hB rfl rfl (by rfl)) [(qI_1 x2)] (Res.tmp (by rfl) (by rfl) Res.nil) rfl
def xref21_HasPrefix_L0 (a0 : aResources) (a1 : aPrefix) (s1 : Int) : Option (((Unit) ⊕ (Unit)) ⊕ (Int)) :=
 (if (decide (s1 < (a0.fAddrs.length : Int))) = true then
 (idx a0.fAddrs s1).bind fun x35 =>
 jn (fun m41 : Bool =>
 (if m41 = true then
 some (.inl (.inl ()))
 else
 some (.inr (w64 (s1 + 1))))) (fun j42 =>
 (if (x35.fFrom.fV6 == a1.fAddr.fV6) = true then
 (xref01_Cmp x35.fFrom a1.fAddr).bind fun r45 =>
 (if (decide (r45 ≤ 0)) = true then
 (xref02_Last a1).bind fun r47 =>
 (xref01_Cmp r47 x35.fTo).bind fun r48 =>
 j42 (decide (r48 ≤ 0))
 else
 j42 false)
 else
 j42 false))
 else
 some (.inl (.inr ())))
def xref21_HasPrefix (a0 : aResources) (a1 : aPrefix) : Option (Bool) :=
 (loop (xref21_HasPrefix_L0 a0 a1) 0).bind fun x49 => match x49 with
 | (.inl _) =>
  some true
 | (.inr _) =>
  some false
theorem xref21_HasPrefix_ac (a0 : aResources) (a1 : aPrefix) (r : Bool) (h : xref21_HasPrefix a0 a1 = some r) : AC Tryz.prog 20 [(.d (e_aResources a0)), (.d (e_aPrefix a1))] [] (.d (.bool r)) [] := by
 refine ac2 Tryz.func20 rfl rfl fun B hB hN L => ?_
 delta xref21_HasPrefix at h
 apply sr (cg (OpJ.box hB (nm := 1002) (by decide) (by simp) rfl (L rfl) (q 0)) rfl (cg (OpJ.box hB (nm := 1003) (by decide) (by simp) rfl (L rfl) (q 1)) rfl (c (assign (L rfl) (Opd.bool false)) rfl cn)))
 apply AWp.seq
 apply sr (c (fo 1002 0 [0] hN underlying57 0 tyS54 (q 2)) rfl (c (la hN 57 tyS54 (q 7)) rfl (c (OpJ.val (v' := (i6 (a0.fAddrs.length : Int))) (by simp) (lenD underlying54 (L rfl) (q 8))) rfl (c (mv hN (ii 0)) rfl cn))))
 apply AWp.block
 obtain ⟨x49, hx50, h⟩ := bindS h
 refine lg (xref21_HasPrefix_L0 a0 a1) (fun s1 : Int => ([(3, (pt 1003)), (8, (qe_aRange_6 a0.fAddrs)), (9, (i6 (a0.fAddrs.length : Int))), (10, (i6 s1))] : EL)) (fun s1 : Int => ([(1003, bd 46 (e_aPrefix a1))] : OL)) (fun (x : (Unit) ⊕ (Unit)) e E' O' => match x with | (.inl _p) => e = .ret ∧ Mat B E' O' ([(4, (bo true))] : EL) ([] : OL) | (.inr _p) => e = .exit 0 ∧ Mat B E' O' ([] : EL) ([] : OL)) hx50 (mp [] _ _ hB) (fun s1 y h => ?_) (fun e E' O' hR => ?_)
 ·unfold xref21_HasPrefix_L0 at h
  apply sr (c (lss (L rfl) (q 10) (q 9)) rfl cn)
  apply AWp.seq
  apply AWp.cond rfl <;> intro hg34
  ·have h := ite_t hg34 h
   apply AWp.skip
   apply seqQ_n
   apply AWp.seq
   apply AWp.block
   obtain ⟨x35, hx35, h⟩ := bindS h
   apply sr (c (indexD underlying54 tyS92 (idx_some hx35).1 (get_map e_aRange (idx_some hx35).2) (L rfl) (q 8) (q 10)) rfl (c (loadD tyS92 (by rfl) (by rfl) (L rfl) (q 12)) rfl (cg (alloc hB tyZ92 (nm := 1006) (by decide) (L rfl)) rfl (cg (sB tyS92 (q 6) (q 13)) rfl cn))))
   apply AWp.seq
   refine AWp.cut h (fun m41 : Bool => ([(3, (pt 1003)), (8, (qe_aRange_6 a0.fAddrs)), (9, (i6 (a0.fAddrs.length : Int))), (10, (i6 s1)), (36, (bo m41))] : EL)) (fun m41 : Bool => ([(1003, bd 46 (e_aPrefix a1))] : OL)) (fun m41 h E' O' hmat => ?_) (fun j42 hjj42 h => ?_)
   ·apply seqQ_n
    refine AWp.ghost hmat ?_
    apply AWp.cond rfl <;> intro hg43
    ·have h := ite_t hg43 h
     apply sr (c (assign (L rfl) (Opd.bool true)) rfl cn)
     apply AWp.ret
     apply blkQ_r
     apply seqQ_r
     obtain rfl := oi h
     exact ⟨(fun hc => by cases hc), rfl, (mp [] _ _ hB)⟩
    ·have h := ite_f hg43 h
     apply AWp.skip
     apply blkQ_n
     apply seqQ_n
     apply rg (c (add6 (L rfl) (q 10) (ii 1)) rfl (c (mv hN (q 37)) rfl cn))
     obtain rfl := oi h
     exact ⟨rfl, (mp [] _ _ hB)⟩
   ·rcases bft (x35.fFrom.fV6 == a1.fAddr.fV6) with hg44 | hg44
    ·have h := ite_t hg44 h
     obtain ⟨r45, hr45, h⟩ := bindS h
     rcases bft (decide (r45 ≤ 0)) with hg46 | hg46
     ·have h := ite_t hg46 h
      obtain ⟨r47, hr47, h⟩ := bindS h
      obtain ⟨r48, hr48, h⟩ := bindS h
      apply dr (c (fo 1006 0 [0] hN underlying92 0 tyS44 (q 6)) rfl (c (fo 1006 0 [0, 0] hN underlying44 0 tyS4 (q 14)) rfl (c (lb hN 92 _ _ tyS4 (At.dst1 (by rfl) (by rfl) (ad _) (by first | rfl | omega)) (q 15)) rfl (c (fo 1003 0 [0] hN underlying46 0 tyS44 (q 3)) rfl (c (fo 1003 0 [0, 0] hN underlying44 0 tyS4 (q 17)) rfl (c (lb hN 46 _ _ tyS4 (At.dst1 (by rfl) (by rfl) (ad _) (by first | rfl | omega)) (q 18)) rfl (c (OpJ.eqlB underlying4 (L rfl) (q 16) (q 19)) rfl (c (OpJ.val (v' := .d (.bool true)) (by rw [hg44] <;> rfl) (mv hN (q 20))) rfl (c (gd 21 (fo 1006 0 [0] hN underlying92 0 tyS44 (q 6))) rfl (c (gd 21 (la hN 92 tyS44 (q 22))) rfl (c (gd 21 (fo 1003 0 [0] hN underlying46 0 tyS44 (q 3))) rfl (c (gd 21 (la hN 46 tyS44 (q 24))) rfl (cg (gd 21 (cf hB fnOk46 (xref01_Cmp_ac x35.fFrom a1.fAddr r45 hr45) (L rfl) (OpdL.cons (q 23) (OpdL.cons (q 25) OpdL.nil)))) rfl (c (gd 21 (leq (L rfl) (q 26) (ii 0))) rfl (c (pickT (L rfl) (q 21) (q 27)) rfl (c (OpJ.val (v' := .d (.bool true)) (by rw [hg46] <;> rfl) (mv hN (q 28))) rfl (c (gd 29 (lb hN 46 _ _ tyS46 (At.here _) (q 3))) rfl (cg (gd 29 (cf hB fnOk47 (xref02_Last_ac a1 r47 hr47) (L rfl) (OpdL.cons (q 30) OpdL.nil))) rfl (c (gd 29 (fo 1006 3 [1] hN underlying92 3 tyS44 (q 6))) rfl (c (gd 29 (la hN 92 tyS44 (q 32))) rfl (cg (gd 29 (cf hB fnOk46 (xref01_Cmp_ac r47 x35.fTo r48 hr48) (L rfl) (OpdL.cons (q 31) (OpdL.cons (q 33) OpdL.nil)))) rfl (c (gd 29 (leq (L rfl) (q 34) (ii 0))) rfl (c (pickT (L rfl) (q 29) (q 35)) rfl cn))))))))))))))))))))))) (by kernel_rfl) (by kernel_rfl)
      exact hjj42 _ h _ _ (mp [] _ _ hB)
     ·have h := ite_f hg46 h
      apply dr (c (fo 1006 0 [0] hN underlying92 0 tyS44 (q 6)) rfl (c (fo 1006 0 [0, 0] hN underlying44 0 tyS4 (q 14)) rfl (c (lb hN 92 _ _ tyS4 (At.dst1 (by rfl) (by rfl) (ad _) (by first | rfl | omega)) (q 15)) rfl (c (fo 1003 0 [0] hN underlying46 0 tyS44 (q 3)) rfl (c (fo 1003 0 [0, 0] hN underlying44 0 tyS4 (q 17)) rfl (c (lb hN 46 _ _ tyS4 (At.dst1 (by rfl) (by rfl) (ad _) (by first | rfl | omega)) (q 18)) rfl (c (OpJ.eqlB underlying4 (L rfl) (q 16) (q 19)) rfl (c (OpJ.val (v' := .d (.bool true)) (by rw [hg44] <;> rfl) (mv hN (q 20))) rfl (c (gd 21 (fo 1006 0 [0] hN underlying92 0 tyS44 (q 6))) rfl (c (gd 21 (la hN 92 tyS44 (q 22))) rfl (c (gd 21 (fo 1003 0 [0] hN underlying46 0 tyS44 (q 3))) rfl (c (gd 21 (la hN 46 tyS44 (q 24))) rfl (cg (gd 21 (cf hB fnOk46 (xref01_Cmp_ac x35.fFrom a1.fAddr r45 hr45) (L rfl) (OpdL.cons (q 23) (OpdL.cons (q 25) OpdL.nil)))) rfl (c (gd 21 (leq (L rfl) (q 26) (ii 0))) rfl (c (pickT (L rfl) (q 21) (q 27)) rfl (c (OpJ.val (v' := .d (.bool false)) (by rw [hg46] <;> rfl) (mv hN (q 28))) rfl (ks 29 (L rfl) (ks 29 (L rfl) (ks 29 (L rfl) (ks 29 (L rfl) (ks 29 (L rfl) (ks 29 (L rfl) (c (pickF (L rfl) (q 29) (Opd.bool false)) rfl cn))))))))))))))))))))))) (by kernel_rfl) (by kernel_rfl)
      exact hjj42 _ h _ _ (mp [] _ _ hB)
    ·have h := ite_f hg44 h
     apply dr (c (fo 1006 0 [0] hN underlying92 0 tyS44 (q 6)) rfl (c (fo 1006 0 [0, 0] hN underlying44 0 tyS4 (q 14)) rfl (c (lb hN 92 _ _ tyS4 (At.dst1 (by rfl) (by rfl) (ad _) (by first | rfl | omega)) (q 15)) rfl (c (fo 1003 0 [0] hN underlying46 0 tyS44 (q 3)) rfl (c (fo 1003 0 [0, 0] hN underlying44 0 tyS4 (q 17)) rfl (c (lb hN 46 _ _ tyS4 (At.dst1 (by rfl) (by rfl) (ad _) (by first | rfl | omega)) (q 18)) rfl (c (OpJ.eqlB underlying4 (L rfl) (q 16) (q 19)) rfl (c (OpJ.val (v' := .d (.bool false)) (by rw [hg44] <;> rfl) (mv hN (q 20))) rfl (ks 21 (L rfl) (ks 21 (L rfl) (ks 21 (L rfl) (ks 21 (L rfl) (ks 21 (L rfl) (ks 21 (L rfl) (c (pickF (L rfl) (q 21) (Opd.bool false)) rfl (c (mv hN (q 28)) rfl (ks 29 (L rfl) (ks 29 (L rfl) (ks 29 (L rfl) (ks 29 (L rfl) (ks 29 (L rfl) (ks 29 (L rfl) (c (pickF (L rfl) (q 29) (Opd.bool false)) rfl cn))))))))))))))))))))))) (by kernel_rfl) (by kernel_rfl)
     exact hjj42 _ h _ _ (mp [] _ _ hB)
  ·have h := ite_f hg34 h
   apply AWp.exit
   apply seqQ_e
   obtain rfl := oi h
   exact ⟨(fun hc => by cases hc), rfl, (mp [] _ _ hB)⟩
 ·rcases x49 with _ | _
  ·obtain ⟨rfl, hmat⟩ := hR
   apply blkQ_r
   apply seqQ_r
   obtain rfl := oi h
   exact rt (Mat.trans hmat (mp [] [(4, (bo true))] [] hB)) [(bo true)] (Res.tmp (by rfl) (by rfl) Res.nil) rfl
  ·obtain ⟨rfl, hmat⟩ := hR
   apply blkQ_hit
   apply seqQ_n
   refine AWp.ghost hmat ?_
   apply sr (c (assign (L rfl) (Opd.bool false)) rfl cn)
   apply AWp.ret
   obtain rfl := oi h
   exact rt (kp [(4, _)] [] hB rfl rfl (by rfl)) [(bo false)] (Res.tmp (by rfl) (by rfl) Res.nil) rfl
def xref02_Contains (a0 : aPrefix) (a1 : aAddr) : Option (Bool) :=
 (xref02_Make a1 a0.fLen).bind fun r1 =>
 some ((r1.2 == 0) && (((r1.1.fAddr.fV6 == a0.fAddr.fV6) && ((r1.1.fAddr.fHi == a0.fAddr.fHi) && ((r1.1.fAddr.fLo == a0.fAddr.fLo) && true))) && ((r1.1.fLen == a0.fLen) && true)))
theorem xref02_Contains_ac (a0 : aPrefix) (a1 : aAddr) (r : Bool) (h : xref02_Contains a0 a1 = some r) : AC Tryz.prog 48 [(.d (e_aPrefix a0)), (.d (e_aAddr a1))] [] (.d (.bool r)) [] := by
 refine AC.of_code2 Tryz.func48 rfl rfl (Nat.le_of_ble_eq_true (by rfl)) fun B hB hN => ?_
 delta xref02_Contains at h
 apply sr (cg (OpJ.box hB (nm := 1002) (by decide) (by simp) rfl (ltN hN rfl) (q 0)) rfl (cg (OpJ.box hB (nm := 1003) (by decide) (by simp) rfl (ltN hN rfl) (q 1)) rfl (c (assign (ltN hN rfl) (Opd.bool false)) rfl cn)))
 obtain ⟨r1, hr1, h⟩ := bindS h
 apply sr (c (lb hN 44 _ _ tyS44 (At.here _) (q 3)) rfl (c (fo 1002 3 [1] hN underlying46 3 tyS3 (q 2)) rfl (c (la hN 46 tyS3 (q 9)) rfl (cg (OpJ.callFn hB fnOk44 (xref02_Make_ac a1 a0.fLen r1 hr1) [] (by kernel_rfl) (ltN hN rfl) (by kernel_rfl) (OpdL.cons (q 8) (OpdL.cons (q 10) OpdL.nil))) rfl (c (mv hN (q 11)) rfl (c (extract (by rfl) rfl (ltN hN rfl) (q 7)) rfl (c (extract (by rfl) rfl (ltN hN rfl) (q 7)) rfl (cg (alloc hB tyZ46 (nm := 1005) (by decide) (ltN hN rfl)) rfl (cg (sB tyS46 (q 5) (q 12)) rfl (c (assign (ltN hN rfl) (q 13)) rfl cn))))))))))
 apply sr (c (mv hN (q 6)) rfl (c (eqlI (ltN hN rfl) (q 14) (ii 0)) rfl (c (mv hN (q 15)) rfl (c (oq hN 16 (lb hN 46 _ _ tyS46 (At.here _) (q 5)) (OptL.keep (by rfl) OptL.nil) (GuardV.plain _)) rfl (c (oq hN 16 (lb hN 46 _ _ tyS46 (At.here _) (q 2)) (OptL.keep (by rfl) OptL.nil) (GuardV.plain _)) rfl (c (oq hN 16 (OpJ.eqlD (h := 3) (FitE.st underlying46 rfl held46 (FitF.cons (x := (e_aAddr r1.1.fAddr)) (y := (e_aAddr a0.fAddr)) (by decide) rfl tyS44 ⟨rfl, rfl⟩ ⟨rfl, rfl⟩ (FitE.st underlying44 rfl held44 (FitF.cons (x := (.bool r1.1.fAddr.fV6)) (y := (.bool a0.fAddr.fV6)) (by decide) rfl tyS4 ⟨rfl, rfl⟩ ⟨rfl, rfl⟩ (FitE.bool (h := 0) r1.1.fAddr.fV6 a0.fAddr.fV6 underlying4) (FitF.cons (x := (.int .u64 r1.1.fAddr.fHi)) (y := (.int .u64 a0.fAddr.fHi)) (by decide) rfl tyS42 ⟨rfl, rfl⟩ ⟨rfl, rfl⟩ (FitE.int (h := 0) r1.1.fAddr.fHi a0.fAddr.fHi underlying42) (FitF.cons (x := (.int .u64 r1.1.fAddr.fLo)) (y := (.int .u64 a0.fAddr.fLo)) (by decide) rfl tyS42 ⟨rfl, rfl⟩ ⟨rfl, rfl⟩ (FitE.int (h := 0) r1.1.fAddr.fLo a0.fAddr.fLo underlying42) FitF.nil)))) (FitF.cons (x := (.int .i64 r1.1.fLen)) (y := (.int .i64 a0.fLen)) (by decide) rfl tyS3 ⟨rfl, rfl⟩ ⟨rfl, rfl⟩ (FitE.int (h := 1) r1.1.fLen a0.fLen underlying3) FitF.nil))) eqg46 ⟨rfl, rfl⟩ (by rfl) (ltN hN rfl) (q 17) (q 18)) (OptL.opt (OptL.opt OptL.nil)) (GuardV.plain _)) rfl (c (pickAnd rfl (ltN hN rfl) (q 16) (q 19)) rfl (c (assign (ltN hN rfl) (q 20)) rfl cn))))))))
 apply AWp.ret
 obtain rfl := oi h
 exact rt (kp [(4, _)] [] hB rfl rfl (by rfl)) [(bo ((r1.2 == 0) && (((r1.1.fAddr.fV6 == a0.fAddr.fV6) && ((r1.1.fAddr.fHi == a0.fAddr.fHi) && ((r1.1.fAddr.fLo == a0.fAddr.fLo) && true))) && ((r1.1.fLen == a0.fLen) && true))))] (Res.tmp (by rfl) (by rfl) Res.nil) rfl
def xref02_Covers (a0 : aPrefix) (a1 : aPrefix) : Option (Bool) :=
 jn (fun m3 : Bool =>
 some m3) (fun j4 =>
 (if (decide (a0.fLen ≤ a1.fLen)) = true then
 (xref02_Contains a0 a1.fAddr).bind fun r6 =>
 j4 r6
 else
 j4 false))
theorem xref02_Covers_ac (a0 : aPrefix) (a1 : aPrefix) (r : Bool) (h : xref02_Covers a0 a1 = some r) : AC Tryz.prog 21 [(.d (e_aPrefix a0)), (.d (e_aPrefix a1))] [] (.d (.bool r)) [] := by
 refine ac2 Tryz.func21 rfl rfl fun B hB hN L => ?_
 delta xref02_Covers at h
 apply sr (cg (OpJ.box hB (nm := 1002) (by decide) (by simp) rfl (L rfl) (q 0)) rfl (cg (OpJ.box hB (nm := 1003) (by decide) (by simp) rfl (L rfl) (q 1)) rfl (c (assign (L rfl) (Opd.bool false)) rfl cn)))
 apply AWp.seq
 refine AWp.cut h (fun m3 : Bool => ([(4, (bo m3))] : EL)) (fun m3 : Bool => ([] : OL)) (fun m3 h E' O' hmat => ?_) (fun j4 hjj4 h => ?_)
 ·apply seqQ_n
  refine AWp.ghost hmat ?_
  apply AWp.ret
  obtain rfl := oi h
  exact rt (kp [(4, _)] [] hB rfl rfl (by rfl)) [(bo m3)] (Res.tmp (by rfl) (by rfl) Res.nil) rfl
 ·rcases bft (decide (a0.fLen ≤ a1.fLen)) with hg5 | hg5
  ·have h := ite_t hg5 h
   obtain ⟨r6, hr6, h⟩ := bindS h
   apply rg (c (fo 1003 3 [1] hN underlying46 3 tyS3 (q 3)) rfl (c (la hN 46 tyS3 (q 5)) rfl (c (fo 1002 3 [1] hN underlying46 3 tyS3 (q 2)) rfl (c (la hN 46 tyS3 (q 7)) rfl (c (geq (L rfl) (q 6) (q 8)) rfl (c (OpJ.val (v' := .d (.bool true)) (by rw [hg5] <;> rfl) (mv hN (q 9))) rfl (c (gd 10 (lb hN 46 _ _ tyS46 (At.here _) (q 2))) rfl (c (gd 10 (fo 1003 0 [0] hN underlying46 0 tyS44 (q 3))) rfl (c (gd 10 (la hN 46 tyS44 (q 12))) rfl (cg (gd 10 (cf hB fnOk48 (xref02_Contains_ac a0 a1.fAddr r6 hr6) (L rfl) (OpdL.cons (q 11) (OpdL.cons (q 13) OpdL.nil)))) rfl (c (pickT (L rfl) (q 10) (q 14)) rfl (c (assign (L rfl) (q 15)) rfl cn))))))))))))
   exact hjj4 _ h _ _ (mp [] _ _ hB)
  ·have h := ite_f hg5 h
   apply rg (c (fo 1003 3 [1] hN underlying46 3 tyS3 (q 3)) rfl (c (la hN 46 tyS3 (q 5)) rfl (c (fo 1002 3 [1] hN underlying46 3 tyS3 (q 2)) rfl (c (la hN 46 tyS3 (q 7)) rfl (c (geq (L rfl) (q 6) (q 8)) rfl (c (OpJ.val (v' := .d (.bool false)) (by rw [hg5] <;> rfl) (mv hN (q 9))) rfl (ks 10 (L rfl) (ks 10 (L rfl) (ks 10 (L rfl) (ks 10 (L rfl) (c (pickF (L rfl) (q 10) (Opd.bool false)) rfl (c (assign (L rfl) (q 15)) rfl cn))))))))))))
   exact hjj4 _ h _ _ (mp [] _ _ hB)
def xlaw22_OriginHolders_L3 (r2 : (List aCert) × (List aSigned) × Int × xmake_Deck) (r6 : (List Bool)) (x1406 : aObject) (s1407 : Bool × Int) : Option (((Bool)) ⊕ (Bool × Int)) :=
 (if (decide (s1407.2 < (r2.1.length : Int))) = true then
 (idx r2.1 s1407.2).bind fun x1433 =>
 jn (fun m1438 : Bool =>
 some (.inr (m1438, (w64 (s1407.2 + 1))))) (fun j1439 =>
 (if s1407.1 = true then
 j1439 true
 else
 (idx r6 s1407.2).bind fun x1441 =>
 (if x1441 = true then
 (xref21_HasPrefix x1433.fResources x1406.fPrefix).bind fun r1443 =>
 j1439 r1443
 else
 j1439 false)))
 else
 some (.inl s1407.1))
def xlaw22_OriginHolders_L2 (r2 : (List aCert) × (List aSigned) × Int × xmake_Deck) (r6 : (List Bool)) (x1300 : aPrefix) (r1302 : Int × (List aObject)) (s1304 : Int) : Option (((Unit) ⊕ (Unit)) ⊕ (Int)) :=
 (if (decide (s1304 < (r1302.2.length : Int))) = true then
 (idx r1302.2 s1304).bind fun x1406 =>
 (loop (xlaw22_OriginHolders_L3 r2 r6 x1406) (false, 0)).bind fun p1431 =>
 jn (fun m1448 : Bool =>
 (if m1448 = true then
 some (.inl (.inl ()))
 else
 some (.inr (w64 (s1304 + 1))))) (fun j1449 =>
 (if (!p1431) = true then
 j1449 true
 else
 (xref02_Covers x1406.fPrefix x1300).bind fun r1452 =>
 j1449 (!r1452)))
 else
 some (.inl (.inr ())))
def xlaw22_OriginHolders_L1 (a2 : Int) (r2 : (List aCert) × (List aSigned) × Int × xmake_Deck) (r4 : (List aObject) × Int) (r6 : (List Bool)) (x978 : aObject) (r979 : aPrefix × xmake_Deck) (s980 : Int) : Option (((Unit) ⊕ (Unit)) ⊕ (Int)) :=
 (if (decide (s980 < ([x978.fPrefix, r979.1].length : Int))) = true then
 (idx [x978.fPrefix, r979.1] s980).bind fun x1300 =>
 (xmake_Mod a2 6).bind fun r1301 =>
 (origin_State r4.1 x1300 r1301).bind fun r1302 =>
 (if ((r1302.1 == 0) != ((r1302.2.length : Int) == 0)) = true then
 some (.inl (.inl ()))
 else
 (loop (xlaw22_OriginHolders_L2 r2 r6 x1300 r1302) 0).bind fun x1453 => match x1453 with
 | (.inl _) =>
  some (.inl (.inl ()))
 | (.inr _) =>
  some (.inr (w64 (s980 + 1))))
 else
 some (.inl (.inr ())))
def xlaw22_OriginHolders_L0 (a2 : Int) (r2 : (List aCert) × (List aSigned) × Int × xmake_Deck) (r4 : (List aObject) × Int) (r6 : (List Bool)) (s8 : Int × xmake_Deck) : Option (((Unit) ⊕ (Unit)) ⊕ (Int × xmake_Deck)) :=
 (if (decide (s8.1 < (r4.1.length : Int))) = true then
 (idx r4.1 s8.1).bind fun x978 =>
 (xmake_Deck_Prefix s8.2).bind fun r979 =>
 (loop (xlaw22_OriginHolders_L1 a2 r2 r4 r6 x978 r979) 0).bind fun x1455 => match x1455 with
 | (.inl _) =>
  some (.inl (.inl ()))
 | (.inr _) =>
  some (.inr ((w64 (s8.1 + 1)), r979.2))
 else
 some (.inl (.inr ())))
def xlaw22_OriginHolders_L4 (r1459 : (List Bool)) (s1460 : Int) : Option (((Unit) ⊕ (Unit)) ⊕ (Int)) :=
 (if (decide (s1460 < (r1459.length : Int))) = true then
 (idx r1459 s1460).bind fun x1470 =>
 (if x1470 = true then
 some (.inl (.inl ()))
 else
 some (.inr (w64 (s1460 + 1))))
 else
 some (.inl (.inr ())))
def xlaw22_OriginHolders (a0 : (List Int)) (a1 : Int) (a2 : Int) : Option (Bool) :=
 (xmake_New a0).bind fun r1 =>
 (xlaw22_setting r1).bind fun r2 =>
 (xlaw22_anchors a1).bind fun r3 =>
 (origin_Payloads r2.1 r2.2.1 r3 r2.2.2.1).bind fun r4 =>
 (xlaw22_anchors a1).bind fun r5 =>
 (origin_Trusted r2.1 r5 r2.2.2.1).bind fun r6 =>
 (if ((r4.2 != 0) || ((r6.length : Int) != (r2.1.length : Int))) = true then
 some false
 else
 (loop (xlaw22_OriginHolders_L0 a2 r2 r4 r6) (0, r2.2.2.2)).bind fun x1457 => match x1457 with
 | (.inl _) =>
  some false
 | (.inr _) =>
  (origin_Trusted r2.1 ([] : List Int) r2.2.2.1).bind fun r1459 =>
  (loop (xlaw22_OriginHolders_L4 r1459) 0).bind fun x1472 => match x1472 with
  | (.inl _) =>
   some false
  | (.inr _) =>
   (xlaw22_awake).bind fun r1474 =>
   some r1474)
theorem xlaw22_OriginHolders_ac (a0 : (List Int)) (a1 : Int) (a2 : Int) (r : Bool) (h : xlaw22_OriginHolders a0 a1 a2 = some r) : AC Tryz.prog 4 [(.d (.list 1 (a0.map (eI .i64)))), (.d (.int .i64 a1)), (.d (.int .i64 a2))] [(500, (.know (globF 0 [109, 150, 151]))), (501, (.know (globF 1 [98, 152, 153])))] (.d (.bool r)) [(500, some (.know (globF 0 [109, 150, 151]))), (501, some (.know (globF 1 [98, 152, 153])))] := by
 refine ac2 Tryz.func4 rfl rfl fun B hB hN L => ?_
 delta xlaw22_OriginHolders at h
 apply sr (c (assign (L rfl) (Opd.bool false)) rfl cn)
 apply AWp.seq
 obtain ⟨r1, hr1, h⟩ := bindS h
 refine AWp.region (oc (mv hN (ot 0 (qI_1 a0)))
 (oc (OpJ.callFn hB fnOk11 (xmake_New_ac a0 r1 hr1) [(1005, 100000)] (by kernel_rfl) (L rfl) (by kernel_rfl) (OpdL.cons (ot 27 (qI_1 a0)) OpdL.nil))
 (oc (assign (L rfl) (ot 28 (pt 100000)))
 (OpJs.nil)))) (by rfl) (by rfl) ?_
 apply seqQ_n
 refine AWp.ghost (mp [] [(1, (i6 a1)), (2, (i6 a2)), (7, (pt 100000))] [(500, some (.know (globF 0 [109, 150, 151]))), (501, some (.know (globF 1 [98, 152, 153]))), (100000, bd 80 (e_xmake_Deck r1))] hB) ?_
 apply AWp.seq
 obtain ⟨r2, hr2, h⟩ := bindS h
 refine AWp.region (oc (mv hN (ot 7 (pt 100000)))
 (oc (OpJ.callFn hB fnOk10 (xlaw22_setting_ac r1 r2 hr2) [(0, 100000)] (by kernel_rfl) (L rfl) (by kernel_rfl) (OpdL.cons (ot 30 (pt 100000)) OpdL.nil))
 (oc (mv hN (ot 31 (.tup [(qe_aCert_6 r2.1), (qe_aSigned_5 r2.2.1), (i6 r2.2.2.1)])))
 (oc (extract (v := (qe_aCert_6 r2.1)) (by rfl) rfl (L rfl) (ot 29 (.tup [(qe_aCert_6 r2.1), (qe_aSigned_5 r2.2.1), (i6 r2.2.2.1)])))
 (oc (extract (v := (qe_aSigned_5 r2.2.1)) (by rfl) rfl (L rfl) (ot 29 (.tup [(qe_aCert_6 r2.1), (qe_aSigned_5 r2.2.1), (i6 r2.2.2.1)])))
 (oc (extract (v := (i6 r2.2.2.1)) (by rfl) rfl (L rfl) (ot 29 (.tup [(qe_aCert_6 r2.1), (qe_aSigned_5 r2.2.1), (i6 r2.2.2.1)])))
 (oc (assign (L rfl) (ot 32 (qe_aCert_6 r2.1)))
 (oc (assign (L rfl) (ot 33 (qe_aSigned_5 r2.2.1)))
 (oc (assign (L rfl) (ot 34 (i6 r2.2.2.1)))
 (OpJs.nil)))))))))) (by rfl) (by rfl) ?_
 apply seqQ_n
 refine AWp.ghost (mp [] [(1, (i6 a1)), (2, (i6 a2)), (7, (pt 100000)), (8, (qe_aCert_6 r2.1)), (9, (qe_aSigned_5 r2.2.1)), (10, (i6 r2.2.2.1))] [(500, some (.know (globF 0 [109, 150, 151]))), (501, some (.know (globF 1 [98, 152, 153]))), (100000, bd 80 (e_xmake_Deck r2.2.2.2))] hB) ?_
 apply AWp.seq
 obtain ⟨r3, hr3, h⟩ := bindS h
 obtain ⟨r4, hr4, h⟩ := bindS h
 refine AWp.region (oc (mv hN (ot 8 (qe_aCert_6 r2.1)))
 (oc (mv hN (ot 9 (qe_aSigned_5 r2.2.1)))
 (oc (mv hN (ot 1 (i6 a1)))
 (oc (cf hB fnOk12 (xlaw22_anchors_ac a1 r3 hr3) (L rfl) (OpdL.cons (ot 38 (i6 a1)) OpdL.nil))
 (oc (mv hN (ot 10 (i6 r2.2.2.1)))
 (oc (OpJ.callFn hB fnOk16 (origin_Payloads_ac r2.1 r2.2.1 r3 r2.2.2.1 r4 hr4) [(500, 500), (501, 501)] (by kernel_rfl) (L rfl) (by kernel_rfl) (OpdL.cons (ot 36 (qe_aCert_6 r2.1)) (OpdL.cons (ot 37 (qe_aSigned_5 r2.2.1)) (OpdL.cons (ot 39 (qI_1 r3)) (OpdL.cons (ot 40 (i6 r2.2.2.1)) OpdL.nil)))))
 (oc (mv hN (ot 41 (.tup [(qe_aObject_6 r4.1), (i6 r4.2)])))
 (oc (extract (v := (qe_aObject_6 r4.1)) (by rfl) rfl (L rfl) (ot 35 (.tup [(qe_aObject_6 r4.1), (i6 r4.2)])))
 (oc (extract (v := (i6 r4.2)) (by rfl) rfl (L rfl) (ot 35 (.tup [(qe_aObject_6 r4.1), (i6 r4.2)])))
 (oc (assign (L rfl) (ot 42 (qe_aObject_6 r4.1)))
 (oc (assign (L rfl) (ot 43 (i6 r4.2)))
 (OpJs.nil)))))))))))) (by rfl) (by rfl) ?_
 apply seqQ_n
 refine AWp.ghost (mp [] [(1, (i6 a1)), (2, (i6 a2)), (7, (pt 100000)), (8, (qe_aCert_6 r2.1)), (10, (i6 r2.2.2.1)), (11, (qe_aObject_6 r4.1)), (12, (i6 r4.2))] [(500, some (.know (globF 0 [109, 150, 151]))), (501, some (.know (globF 1 [98, 152, 153]))), (100000, bd 80 (e_xmake_Deck r2.2.2.2))] hB) ?_
 apply AWp.seq
 obtain ⟨r5, hr5, h⟩ := bindS h
 obtain ⟨r6, hr6, h⟩ := bindS h
 refine AWp.region (oc (mv hN (ot 8 (qe_aCert_6 r2.1)))
 (oc (mv hN (ot 1 (i6 a1)))
 (oc (cf hB fnOk12 (xlaw22_anchors_ac a1 r5 hr5) (L rfl) (OpdL.cons (ot 45 (i6 a1)) OpdL.nil))
 (oc (mv hN (ot 10 (i6 r2.2.2.1)))
 (oc (OpJ.callFn hB fnOk14 (origin_Trusted_ac r2.1 r5 r2.2.2.1 r6 hr6) [(500, 500), (501, 501)] (by kernel_rfl) (L rfl) (by kernel_rfl) (OpdL.cons (ot 44 (qe_aCert_6 r2.1)) (OpdL.cons (ot 46 (qI_1 r5)) (OpdL.cons (ot 47 (i6 r2.2.2.1)) OpdL.nil))))
 (oc (assign (L rfl) (ot 48 (.d (.list 1 (r6.map eB)))))
 (OpJs.nil))))))) (by rfl) (by rfl) ?_
 apply seqQ_n
 refine AWp.ghost (mp [] [(2, (i6 a2)), (7, (pt 100000)), (8, (qe_aCert_6 r2.1)), (10, (i6 r2.2.2.1)), (11, (qe_aObject_6 r4.1)), (12, (i6 r4.2)), (13, (.d (.list 1 (r6.map eB))))] [(500, some (.know (globF 0 [109, 150, 151]))), (501, some (.know (globF 1 [98, 152, 153]))), (100000, bd 80 (e_xmake_Deck r2.2.2.2))] hB) ?_
 apply AWp.seq
 apply sr (c (mv hN (q 12)) rfl (c (neqI (L rfl) (q 49) (ii 0)) rfl (c (mv hN (q 50)) rfl (c (oq hN 51 (mv hN (q 13)) (OptL.keep (by rfl) OptL.nil) (GuardV.plain _)) rfl (c (oq hN 51 (OpJ.val (v' := (i6 (r6.length : Int))) (by simp) (lenD underlying35 (L rfl) (q 52))) (OptL.opt OptL.nil) (GuardV.plain _)) rfl (c (oq hN 51 (mv hN (q 8)) (OptL.keep (by rfl) OptL.nil) (GuardV.plain _)) rfl (c (oq hN 51 (OpJ.val (v' := (i6 (r2.1.length : Int))) (by simp) (lenD underlying22 (L rfl) (q 54))) (OptL.opt OptL.nil) (GuardV.plain _)) rfl (c (oq hN 51 (neqI (L rfl) (q 53) (q 55)) (OptL.opt (OptL.opt OptL.nil)) (GuardV.plain _)) rfl (c (pickOr rfl (L rfl) (q 51) (q 56)) rfl cn)))))))))
 apply AWp.cond rfl <;> intro hg7
 ·have h := ite_t hg7 h
  apply sr (c (assign (L rfl) (Opd.bool false)) rfl cn)
  apply AWp.ret
  apply seqQ_r
  obtain rfl := oi h
  exact rt (kp [(6, _)] [(500, some _), (501, some _)] hB rfl rfl (by rfl)) [(bo false)] (Res.tmp (by rfl) (by rfl) Res.nil) rfl
 ·have h := ite_f hg7 h
  apply AWp.skip
  apply seqQ_n
  apply AWp.seq
  apply sr (c (mv hN (q 11)) rfl (c (OpJ.val (v' := (i6 (r4.1.length : Int))) (by simp) (lenD underlying38 (L rfl) (q 58))) rfl (c (mv hN (ii 0)) rfl cn)))
  apply AWp.block
  obtain ⟨x1457, hx1458, h⟩ := bindS h
  refine lg (xlaw22_OriginHolders_L0 a2 r2 r4 r6) (fun s8 : Int × xmake_Deck => ([(2, (i6 a2)), (7, (pt 100000)), (8, (qe_aCert_6 r2.1)), (10, (i6 r2.2.2.1)), (11, (qe_aObject_6 r4.1)), (13, (.d (.list 1 (r6.map eB)))), (58, (qe_aObject_6 r4.1)), (59, (i6 (r4.1.length : Int))), (60, (i6 s8.1))] : EL)) (fun s8 : Int × xmake_Deck => ([(500, some (.know (globF 0 [109, 150, 151]))), (501, some (.know (globF 1 [98, 152, 153]))), (100000, bd 80 (e_xmake_Deck s8.2))] : OL)) (fun (x : (Unit) ⊕ (Unit)) e E' O' => match x with | (.inl _p) => e = .ret ∧ Mat B E' O' ([(6, (bo false))] : EL) ([(500, some (.know (globF 0 [109, 150, 151]))), (501, some (.know (globF 1 [98, 152, 153])))] : OL) | (.inr _p) => e = .exit 0 ∧ Mat B E' O' ([(8, (qe_aCert_6 r2.1)), (10, (i6 r2.2.2.1))] : EL) ([(500, some (.know (globF 0 [109, 150, 151]))), (501, some (.know (globF 1 [98, 152, 153])))] : OL)) hx1458 (mp [] _ _ hB) (fun s8 y h => ?_) (fun e E' O' hR => ?_)
  ·unfold xlaw22_OriginHolders_L0 at h
   apply sr (c (lss (L rfl) (q 60) (q 59)) rfl cn)
   apply AWp.seq
   apply AWp.cond rfl <;> intro hg977
   ·have h := ite_t hg977 h
    apply AWp.skip
    apply seqQ_n
    apply AWp.seq
    apply AWp.block
    obtain ⟨x978, hx978, h⟩ := bindS h
    apply sr (c (indexD underlying38 tyS48 (idx_some hx978).1 (get_map e_aObject (idx_some hx978).2) (L rfl) (q 58) (q 60)) rfl (c (loadD tyS48 (by rfl) (by rfl) (L rfl) (q 62)) rfl (cg (alloc hB tyZ48 (nm := 1015) (by decide) (L rfl)) rfl (cg (sB tyS48 (q 15) (q 63)) rfl cn))))
    apply AWp.seq
    obtain ⟨r979, hr979, h⟩ := bindS h
    refine AWp.draws (by kernel_rfl) (oc (ov (.ptr 1015 0 [0]) (fp hN underlying48 0 tyS46 (.box 48 (.d (e_aObject x978))) (ot 15 (pt 1015))))
     (oc (lb hN 48 (.d (e_aObject x978)) (.d (e_aPrefix x978.fPrefix)) tyS46 (ad (e_aPrefix x978.fPrefix)) (ot 64 (.ptr 1015 0 [0])))
     (oc (mv hN (ot 7 (pt 100000)))
     (oc (OpJ.callFn hB fnOk17 (xmake_Deck_Prefix_ac s8.2 r979 hr979) [(0, 100000)] (by kernel_rfl) (L rfl) (by kernel_rfl) (OpdL.cons (ot 66 (pt 100000)) OpdL.nil))
     (oc (buildSlice underlying50 tyS46 tyZD46 (by rfl) (by decide) (by decide) (Opds.cons (ot 65 (.d (e_aPrefix x978.fPrefix))) (Opds.cons (ot 67 (.d (e_aPrefix r979.1))) Opds.nil)) (by kernel_rfl) (es := ([(e_aPrefix x978.fPrefix), (e_aPrefix r979.1)] : List D)) (by rfl) (by rfl) (by kernel_rfl) (by simp) (L rfl))
     (oc (OpJ.val (v' := (i6 ([x978.fPrefix, r979.1].length : Int))) (by simp) (lenD underlying50 (L rfl) (ot 68 (qe_aPrefix_4 [x978.fPrefix, r979.1]))))
     (oc (mv hN (ii 0))
     (OpJs.nil)))))))) (by kernel_rfl) (by rfl) (by rfl) ?_
    apply seqQ_n
    refine AWp.ghost (mp [] [(2, (i6 a2)), (7, (pt 100000)), (8, (qe_aCert_6 r2.1)), (10, (i6 r2.2.2.1)), (11, (qe_aObject_6 r4.1)), (13, (.d (.list 1 (r6.map eB)))), (58, (qe_aObject_6 r4.1)), (59, (i6 (r4.1.length : Int))), (60, (i6 s8.1)), (68, (qe_aPrefix_4 [x978.fPrefix, r979.1])), (69, (i6 ([x978.fPrefix, r979.1].length : Int))), (70, (i6 0))] [(500, some (.know (globF 0 [109, 150, 151]))), (501, some (.know (globF 1 [98, 152, 153]))), (100000, bd 80 (e_xmake_Deck r979.2))] hB) ?_
    apply AWp.block
    obtain ⟨x1455, hx1456, h⟩ := bindS h
    refine lg (xlaw22_OriginHolders_L1 a2 r2 r4 r6 x978 r979) (fun s980 : Int => ([(2, (i6 a2)), (7, (pt 100000)), (8, (qe_aCert_6 r2.1)), (10, (i6 r2.2.2.1)), (11, (qe_aObject_6 r4.1)), (13, (.d (.list 1 (r6.map eB)))), (58, (qe_aObject_6 r4.1)), (59, (i6 (r4.1.length : Int))), (60, (i6 s8.1)), (68, (qe_aPrefix_4 [x978.fPrefix, r979.1])), (69, (i6 ([x978.fPrefix, r979.1].length : Int))), (70, (i6 s980))] : EL)) (fun s980 : Int => ([(500, some (.know (globF 0 [109, 150, 151]))), (501, some (.know (globF 1 [98, 152, 153]))), (100000, bd 80 (e_xmake_Deck r979.2))] : OL)) (fun (x : (Unit) ⊕ (Unit)) e E' O' => match x with | (.inl _p) => e = .ret ∧ Mat B E' O' ([(6, (bo false))] : EL) ([(500, some (.know (globF 0 [109, 150, 151]))), (501, some (.know (globF 1 [98, 152, 153])))] : OL) | (.inr _p) => e = .exit 2 ∧ Mat B E' O' ([(2, (i6 a2)), (7, (pt 100000)), (8, (qe_aCert_6 r2.1)), (10, (i6 r2.2.2.1)), (11, (qe_aObject_6 r4.1)), (13, (.d (.list 1 (r6.map eB)))), (58, (qe_aObject_6 r4.1)), (59, (i6 (r4.1.length : Int))), (60, (i6 s8.1))] : EL) ([(500, some (.know (globF 0 [109, 150, 151]))), (501, some (.know (globF 1 [98, 152, 153]))), (100000, bd 80 (e_xmake_Deck r979.2))] : OL)) hx1456 (mp [] _ _ hB) (fun s980 y h => ?_) (fun e E' O' hR => ?_)
    ·unfold xlaw22_OriginHolders_L1 at h
     apply sr (c (lss (L rfl) (q 70) (q 69)) rfl cn)
     apply AWp.seq
     apply AWp.cond rfl <;> intro hg1299
     ·have h := ite_t hg1299 h
      apply AWp.skip
      apply seqQ_n
      apply AWp.seq
      apply AWp.block
      obtain ⟨x1300, hx1300, h⟩ := bindS h
      apply sr (c (indexD underlying50 tyS46 (idx_some hx1300).1 (get_map e_aPrefix (idx_some hx1300).2) (L rfl) (q 68) (q 70)) rfl (c (loadD tyS46 (by rfl) (by rfl) (L rfl) (q 72)) rfl (cg (alloc hB tyZ46 (nm := 1017) (by decide) (L rfl)) rfl (cg (sB tyS46 (q 17) (q 73)) rfl cn))))
      obtain ⟨r1301, hr1301, h⟩ := bindS h
      obtain ⟨r1302, hr1302, h⟩ := bindS h
      apply sd (c (mv hN (q 11)) rfl (c (lb hN 46 _ _ tyS46 (At.here _) (q 17)) rfl (c (mv hN (q 2)) rfl (cg (cf hB fnOk19 (xmake_Mod_ac a2 6 r1301 hr1301) (L rfl) (OpdL.cons (q 77) (OpdL.cons (ii 6) OpdL.nil))) rfl (cg (cf hB fnOk18 (origin_State_ac r4.1 x1300 r1301 r1302 hr1302) (L rfl) (OpdL.cons (q 75) (OpdL.cons (q 76) (OpdL.cons (q 78) OpdL.nil)))) rfl (c (mv hN (q 79)) rfl (c (extract (by rfl) rfl (L rfl) (q 74)) rfl (c (extract (by rfl) rfl (L rfl) (q 74)) rfl (c (assign (L rfl) (q 80)) rfl (c (assign (L rfl) (q 81)) rfl cn)))))))))) (by kernel_rfl) (by kernel_rfl)
      apply AWp.seq
      apply sr (c (mv hN (q 18)) rfl (c (eqlI (L rfl) (q 82) (ii 0)) rfl (c (mv hN (q 19)) rfl (c (OpJ.val (v' := (i6 (r1302.2.length : Int))) (by simp) (lenD underlying38 (L rfl) (q 84))) rfl (c (eqlI (L rfl) (q 85) (ii 0)) rfl (c (OpJ.neqB underlying4 (L rfl) (q 83) (q 86)) rfl cn))))))
      apply AWp.cond rfl <;> intro hg1303
      ·have h := ite_t hg1303 h
       apply sr (c (assign (L rfl) (Opd.bool false)) rfl cn)
       apply AWp.ret
       apply seqQ_r
       apply blkQ_r
       apply seqQ_r
       obtain rfl := oi h
       exact ⟨(fun hc => by cases hc), rfl, (mp [] _ _ hB)⟩
      ·have h := ite_f hg1303 h
       apply AWp.skip
       apply seqQ_n
       apply sr (c (mv hN (q 19)) rfl (c (OpJ.val (v' := (i6 (r1302.2.length : Int))) (by simp) (lenD underlying38 (L rfl) (q 88))) rfl (c (mv hN (ii 0)) rfl cn)))
       apply AWp.block
       obtain ⟨x1453, hx1454, h⟩ := bindS h
       refine lg (xlaw22_OriginHolders_L2 r2 r6 x1300 r1302) (fun s1304 : Int => ([(2, (i6 a2)), (7, (pt 100000)), (8, (qe_aCert_6 r2.1)), (10, (i6 r2.2.2.1)), (11, (qe_aObject_6 r4.1)), (13, (.d (.list 1 (r6.map eB)))), (17, (pt 1017)), (58, (qe_aObject_6 r4.1)), (59, (i6 (r4.1.length : Int))), (60, (i6 s8.1)), (68, (qe_aPrefix_4 [x978.fPrefix, r979.1])), (69, (i6 ([x978.fPrefix, r979.1].length : Int))), (70, (i6 s980)), (88, (qe_aObject_6 r1302.2)), (89, (i6 (r1302.2.length : Int))), (90, (i6 s1304))] : EL)) (fun s1304 : Int => ([(500, some (.know (globF 0 [109, 150, 151]))), (501, some (.know (globF 1 [98, 152, 153]))), (1017, bd 46 (e_aPrefix x1300)), (100000, bd 80 (e_xmake_Deck r979.2))] : OL)) (fun (x : (Unit) ⊕ (Unit)) e E' O' => match x with | (.inl _p) => e = .ret ∧ Mat B E' O' ([(6, (bo false))] : EL) ([(500, some (.know (globF 0 [109, 150, 151]))), (501, some (.know (globF 1 [98, 152, 153])))] : OL) | (.inr _p) => e = .exit 4 ∧ Mat B E' O' ([(2, (i6 a2)), (7, (pt 100000)), (8, (qe_aCert_6 r2.1)), (10, (i6 r2.2.2.1)), (11, (qe_aObject_6 r4.1)), (13, (.d (.list 1 (r6.map eB)))), (58, (qe_aObject_6 r4.1)), (59, (i6 (r4.1.length : Int))), (60, (i6 s8.1)), (68, (qe_aPrefix_4 [x978.fPrefix, r979.1])), (69, (i6 ([x978.fPrefix, r979.1].length : Int))), (70, (i6 s980))] : EL) ([(500, some (.know (globF 0 [109, 150, 151]))), (501, some (.know (globF 1 [98, 152, 153]))), (100000, bd 80 (e_xmake_Deck r979.2))] : OL)) hx1454 (mp [] _ _ hB) (fun s1304 y h => ?_) (fun e E' O' hR => ?_)
       ·unfold xlaw22_OriginHolders_L2 at h
        apply sr (c (lss (L rfl) (q 90) (q 89)) rfl cn)
        apply AWp.seq
        apply AWp.cond rfl <;> intro hg1405
        ·have h := ite_t hg1405 h
         apply AWp.skip
         apply seqQ_n
         apply AWp.seq
         apply AWp.block
         obtain ⟨x1406, hx1406, h⟩ := bindS h
         apply sr (c (indexD underlying38 tyS48 (idx_some hx1406).1 (get_map e_aObject (idx_some hx1406).2) (L rfl) (q 88) (q 90)) rfl (c (loadD tyS48 (by rfl) (by rfl) (L rfl) (q 92)) rfl (cg (alloc hB tyZ48 (nm := 1021) (by decide) (L rfl)) rfl (cg (sB tyS48 (q 21) (q 93)) rfl cn))))
         apply sr (c (assign (L rfl) (Opd.bool false)) rfl cn)
         apply AWp.seq
         apply sr (c (mv hN (q 8)) rfl (c (OpJ.val (v' := (i6 (r2.1.length : Int))) (by simp) (lenD underlying22 (L rfl) (q 94))) rfl (c (mv hN (ii 0)) rfl cn)))
         apply AWp.block
         obtain ⟨p1431, hx1445, h⟩ := bindS h
         refine lg (xlaw22_OriginHolders_L3 r2 r6 x1406) (fun s1407 : Bool × Int => ([(2, (i6 a2)), (7, (pt 100000)), (8, (qe_aCert_6 r2.1)), (10, (i6 r2.2.2.1)), (11, (qe_aObject_6 r4.1)), (13, (.d (.list 1 (r6.map eB)))), (17, (pt 1017)), (21, (pt 1021)), (22, (bo s1407.1)), (58, (qe_aObject_6 r4.1)), (59, (i6 (r4.1.length : Int))), (60, (i6 s8.1)), (68, (qe_aPrefix_4 [x978.fPrefix, r979.1])), (69, (i6 ([x978.fPrefix, r979.1].length : Int))), (70, (i6 s980)), (88, (qe_aObject_6 r1302.2)), (89, (i6 (r1302.2.length : Int))), (90, (i6 s1304)), (94, (qe_aCert_6 r2.1)), (95, (i6 (r2.1.length : Int))), (96, (i6 s1407.2))] : EL)) (fun s1407 : Bool × Int => ([(500, some (.know (globF 0 [109, 150, 151]))), (501, some (.know (globF 1 [98, 152, 153]))), (1017, bd 46 (e_aPrefix x1300)), (1021, bd 48 (e_aObject x1406)), (100000, bd 80 (e_xmake_Deck r979.2))] : OL)) (fun (p1431 : (Bool)) e E' O' => e = .exit 6 ∧ Mat B E' O' ([(2, (i6 a2)), (7, (pt 100000)), (8, (qe_aCert_6 r2.1)), (10, (i6 r2.2.2.1)), (11, (qe_aObject_6 r4.1)), (13, (.d (.list 1 (r6.map eB)))), (17, (pt 1017)), (21, (pt 1021)), (22, (bo p1431)), (58, (qe_aObject_6 r4.1)), (59, (i6 (r4.1.length : Int))), (60, (i6 s8.1)), (68, (qe_aPrefix_4 [x978.fPrefix, r979.1])), (69, (i6 ([x978.fPrefix, r979.1].length : Int))), (70, (i6 s980)), (88, (qe_aObject_6 r1302.2)), (89, (i6 (r1302.2.length : Int))), (90, (i6 s1304))] : EL) ([(500, some (.know (globF 0 [109, 150, 151]))), (501, some (.know (globF 1 [98, 152, 153]))), (1017, bd 46 (e_aPrefix x1300)), (1021, bd 48 (e_aObject x1406)), (100000, bd 80 (e_xmake_Deck r979.2))] : OL)) hx1445 (mp [] _ _ hB) (fun s1407 y h => ?_) (fun e E' O' hR => ?_)
         ·unfold xlaw22_OriginHolders_L3 at h
          apply sr (c (lss (L rfl) (q 96) (q 95)) rfl cn)
          apply AWp.seq
          apply AWp.cond rfl <;> intro hg1432
          ·have h := ite_t hg1432 h
           apply AWp.skip
           apply seqQ_n
           apply AWp.seq
           apply AWp.block
           obtain ⟨x1433, hx1433, h⟩ := bindS h
           apply sr (c (mv hN (q 96)) rfl (c (indexD underlying22 tyS59 (idx_some hx1433).1 (get_map e_aCert (idx_some hx1433).2) (L rfl) (q 94) (q 96)) rfl (c (loadD tyS59 (by rfl) (by rfl) (L rfl) (q 99)) rfl (cg (alloc hB tyZ59 (nm := 1024) (by decide) (L rfl)) rfl (c (assign (L rfl) (q 98)) rfl (cg (sB tyS59 (q 24) (q 100)) rfl cn))))))
           refine gh [(2, _), (7, _), (8, _), (10, _), (11, _), (13, _), (17, _), (21, _), (22, _), (23, _), (24, _), (58, _), (59, _), (60, _), (68, _), (69, _), (70, _), (88, _), (89, _), (90, _), (94, _), (95, _), (96, _)] [(500, some _), (501, some _), (1017, some _), (1021, some _), (1024, some _), (100000, some _)] hB rfl rfl (by rfl) ?_
           refine AWp.cut h (fun m1438 : Bool => ([(2, (i6 a2)), (7, (pt 100000)), (8, (qe_aCert_6 r2.1)), (10, (i6 r2.2.2.1)), (11, (qe_aObject_6 r4.1)), (13, (.d (.list 1 (r6.map eB)))), (17, (pt 1017)), (21, (pt 1021)), (22, (bo m1438)), (58, (qe_aObject_6 r4.1)), (59, (i6 (r4.1.length : Int))), (60, (i6 s8.1)), (68, (qe_aPrefix_4 [x978.fPrefix, r979.1])), (69, (i6 ([x978.fPrefix, r979.1].length : Int))), (70, (i6 s980)), (88, (qe_aObject_6 r1302.2)), (89, (i6 (r1302.2.length : Int))), (90, (i6 s1304)), (94, (qe_aCert_6 r2.1)), (95, (i6 (r2.1.length : Int))), (96, (i6 s1407.2))] : EL)) (fun m1438 : Bool => ([(500, some (.know (globF 0 [109, 150, 151]))), (501, some (.know (globF 1 [98, 152, 153]))), (1017, bd 46 (e_aPrefix x1300)), (1021, bd 48 (e_aObject x1406)), (100000, bd 80 (e_xmake_Deck r979.2))] : OL)) (fun m1438 h E' O' hmat => ?_) (fun j1439 hjj1439 h => ?_)
           ·apply blkQ_n
            apply seqQ_n
            refine AWp.ghost hmat ?_
            apply rg (c (add6 (L rfl) (q 96) (ii 1)) rfl (c (mv hN (q 115)) rfl cn))
            obtain rfl := oi h
            exact ⟨rfl, (mp [] _ _ hB)⟩
           ·rcases bft s1407.1 with hg1440 | hg1440
            ·have h := ite_t hg1440 h
             apply rg (c (mv hN (q 22)) rfl (c (OpJ.val (v' := .d (.bool true)) (by rw [hg1440] <;> rfl) (mv hN (q 101))) rfl (ks 102 (L rfl) (ks 102 (L rfl) (ks 102 (L rfl) (ks 102 (L rfl) (ks 102 (L rfl) (cg (sV 107 (L rfl)) rfl (cg (sV 107 (L rfl)) rfl (cg (sV 107 (L rfl)) rfl (cg (sV 107 (L rfl)) rfl (cg (sV 107 (L rfl)) rfl (ks 102 (L rfl) (c (pickT (L rfl) (q 102) (Opd.bool true)) rfl (c (assign (L rfl) (q 114)) rfl cn)))))))))))))))
             exact hjj1439 _ h _ _ (mp [] _ _ hB)
            ·have h := ite_f hg1440 h
             obtain ⟨x1441, hx1441, h⟩ := bindS h
             rcases bft x1441 with hg1442 | hg1442
             ·have h := ite_t hg1442 h
              obtain ⟨r1443, hr1443, h⟩ := bindS h
              apply rg (c (mv hN (q 22)) rfl (c (OpJ.val (v' := .d (.bool false)) (by rw [hg1440] <;> rfl) (mv hN (q 101))) rfl (c (gd 102 (mv hN (q 13))) rfl (c (gd 102 (mv hN (q 23))) rfl (c (gd 102 (indexD underlying35 tyS4 (idx_some hx1441).1 (get_map eB (idx_some hx1441).2) (L rfl) (q 103) (q 104))) rfl (c (gd 102 (loadD tyS4 (by rfl) (by rfl) (L rfl) (q 105))) rfl (c (gd 102 (OpJ.val (v' := .d (.bool true)) (by rw [hg1442] <;> rfl) (mv hN (q 106)))) rfl (c (gd 107 (fo 1024 4 [4] hN underlying59 4 tyS57 (q 24))) rfl (c (gd 107 (la hN 59 tyS57 (q 108))) rfl (c (gd 107 (fo 1021 0 [0] hN underlying48 0 tyS46 (q 21))) rfl (c (gd 107 (la hN 48 tyS46 (q 110))) rfl (cg (gd 107 (cf hB fnOk20 (xref21_HasPrefix_ac x1433.fResources x1406.fPrefix r1443 hr1443) (L rfl) (OpdL.cons (q 109) (OpdL.cons (q 111) OpdL.nil)))) rfl (c (gd 102 (pickT (L rfl) (q 107) (q 112))) rfl (c (pickF (L rfl) (q 102) (q 113)) rfl (c (assign (L rfl) (q 114)) rfl cn)))))))))))))))
              exact hjj1439 _ h _ _ (mp [] _ _ hB)
             ·have h := ite_f hg1442 h
              apply rg (c (mv hN (q 22)) rfl (c (OpJ.val (v' := .d (.bool false)) (by rw [hg1440] <;> rfl) (mv hN (q 101))) rfl (c (gd 102 (mv hN (q 13))) rfl (c (gd 102 (mv hN (q 23))) rfl (c (gd 102 (indexD underlying35 tyS4 (idx_some hx1441).1 (get_map eB (idx_some hx1441).2) (L rfl) (q 103) (q 104))) rfl (c (gd 102 (loadD tyS4 (by rfl) (by rfl) (L rfl) (q 105))) rfl (c (gd 102 (OpJ.val (v' := .d (.bool false)) (by rw [hg1442] <;> rfl) (mv hN (q 106)))) rfl (ks 107 (L rfl) (ks 107 (L rfl) (ks 107 (L rfl) (ks 107 (L rfl) (ks 107 (L rfl) (c (gd 102 (pickF (L rfl) (q 107) (Opd.bool false))) rfl (c (pickF (L rfl) (q 102) (q 113)) rfl (c (assign (L rfl) (q 114)) rfl cn)))))))))))))))
              exact hjj1439 _ h _ _ (mp [] _ _ hB)
          ·have h := ite_f hg1432 h
           apply AWp.exit
           apply seqQ_e
           obtain rfl := oi h
           exact ⟨(fun hc => by cases hc), rfl, (mp [] _ _ hB)⟩
         ·obtain ⟨rfl, hmat⟩ := hR
          apply blkQ_hit
          apply seqQ_n
          refine AWp.ghost hmat ?_
          apply AWp.seq
          refine AWp.cut h (fun m1448 : Bool => ([(2, (i6 a2)), (7, (pt 100000)), (8, (qe_aCert_6 r2.1)), (10, (i6 r2.2.2.1)), (11, (qe_aObject_6 r4.1)), (13, (.d (.list 1 (r6.map eB)))), (17, (pt 1017)), (58, (qe_aObject_6 r4.1)), (59, (i6 (r4.1.length : Int))), (60, (i6 s8.1)), (68, (qe_aPrefix_4 [x978.fPrefix, r979.1])), (69, (i6 ([x978.fPrefix, r979.1].length : Int))), (70, (i6 s980)), (88, (qe_aObject_6 r1302.2)), (89, (i6 (r1302.2.length : Int))), (90, (i6 s1304)), (124, (bo m1448))] : EL)) (fun m1448 : Bool => ([(500, some (.know (globF 0 [109, 150, 151]))), (501, some (.know (globF 1 [98, 152, 153]))), (1017, bd 46 (e_aPrefix x1300)), (100000, bd 80 (e_xmake_Deck r979.2))] : OL)) (fun m1448 h E' O' hmat => ?_) (fun j1449 hjj1449 h => ?_)
          ·apply seqQ_n
           refine AWp.ghost hmat ?_
           apply AWp.cond rfl <;> intro hg1450
           ·have h := ite_t hg1450 h
            apply sr (c (assign (L rfl) (Opd.bool false)) rfl cn)
            apply AWp.ret
            apply blkQ_r
            apply seqQ_r
            obtain rfl := oi h
            exact ⟨(fun hc => by cases hc), rfl, (mp [] _ _ hB)⟩
           ·have h := ite_f hg1450 h
            apply AWp.skip
            apply blkQ_n
            apply seqQ_n
            apply rg (c (add6 (L rfl) (q 90) (ii 1)) rfl (c (mv hN (q 125)) rfl cn))
            obtain rfl := oi h
            exact ⟨rfl, (mp [] _ _ hB)⟩
          ·rcases bft (!p1431) with hg1451 | hg1451
           ·have h := ite_t hg1451 h
            apply rg (c (mv hN (q 22)) rfl (c (OpJ.not (L rfl) (q 116)) rfl (c (OpJ.val (v' := .d (.bool true)) (by rw [hg1451] <;> rfl) (mv hN (q 117))) rfl (ks 118 (L rfl) (ks 118 (L rfl) (ks 118 (L rfl) (ks 118 (L rfl) (ks 118 (L rfl) (c (pickT (L rfl) (q 118) (Opd.bool true)) rfl cn)))))))))
            exact hjj1449 _ h _ _ (mp [] _ _ hB)
           ·have h := ite_f hg1451 h
            obtain ⟨r1452, hr1452, h⟩ := bindS h
            apply rg (c (mv hN (q 22)) rfl (c (OpJ.not (L rfl) (q 116)) rfl (c (OpJ.val (v' := .d (.bool false)) (by rw [hg1451] <;> rfl) (mv hN (q 117))) rfl (c (gd 118 (fo 1021 0 [0] hN underlying48 0 tyS46 (q 21))) rfl (c (gd 118 (la hN 48 tyS46 (q 119))) rfl (c (gd 118 (lb hN 46 _ _ tyS46 (At.here _) (q 17))) rfl (cg (gd 118 (cf hB fnOk21 (xref02_Covers_ac x1406.fPrefix x1300 r1452 hr1452) (L rfl) (OpdL.cons (q 120) (OpdL.cons (q 121) OpdL.nil)))) rfl (c (gd 118 (OpJ.not (L rfl) (q 122))) rfl (c (pickF (L rfl) (q 118) (q 123)) rfl cn)))))))))
            exact hjj1449 _ h _ _ (mp [] _ _ hB)
        ·have h := ite_f hg1405 h
         apply AWp.exit
         apply seqQ_e
         obtain rfl := oi h
         exact ⟨(fun hc => by cases hc), rfl, (mp [] _ _ hB)⟩
       ·rcases x1453 with _ | _
        ·obtain ⟨rfl, hmat⟩ := hR
         apply blkQ_r
         apply blkQ_r
         apply seqQ_r
         obtain rfl := oi h
         exact ⟨(fun hc => by cases hc), rfl, (Mat.trans hmat (mp [] _ _ hB))⟩
        ·obtain ⟨rfl, hmat⟩ := hR
         apply blkQ_hit
         apply blkQ_n
         apply seqQ_n
         refine AWp.ghost hmat ?_
         apply rg (c (add6 (L rfl) (q 70) (ii 1)) rfl (c (mv hN (q 126)) rfl cn))
         obtain rfl := oi h
         exact ⟨rfl, (mp [] _ _ hB)⟩
     ·have h := ite_f hg1299 h
      apply AWp.exit
      apply seqQ_e
      obtain rfl := oi h
      exact ⟨(fun hc => by cases hc), rfl, (mp [] _ _ hB)⟩
    ·rcases x1455 with _ | _
     ·obtain ⟨rfl, hmat⟩ := hR
      apply blkQ_r
      apply blkQ_r
      apply seqQ_r
      obtain rfl := oi h
      exact ⟨(fun hc => by cases hc), rfl, (Mat.trans hmat (mp [] _ _ hB))⟩
     ·obtain ⟨rfl, hmat⟩ := hR
      apply blkQ_hit
      apply blkQ_n
      apply seqQ_n
      refine AWp.ghost hmat ?_
      apply rg (c (add6 (L rfl) (q 60) (ii 1)) rfl (c (mv hN (q 127)) rfl cn))
      obtain rfl := oi h
      exact ⟨rfl, (mp [] _ _ hB)⟩
   ·have h := ite_f hg977 h
    apply AWp.exit
    apply seqQ_e
    obtain rfl := oi h
    exact ⟨(fun hc => by cases hc), rfl, (mp [] _ _ hB)⟩
  ·rcases x1457 with _ | _
   ·obtain ⟨rfl, hmat⟩ := hR
    apply blkQ_r
    apply seqQ_r
    obtain rfl := oi h
    exact rt (Mat.trans hmat (mp [] [(6, (bo false))] [(500, some (.know (globF 0 [109, 150, 151]))), (501, some (.know (globF 1 [98, 152, 153])))] hB)) [(bo false)] (Res.tmp (by rfl) (by rfl) Res.nil) rfl
   ·obtain ⟨rfl, hmat⟩ := hR
    apply blkQ_hit
    apply seqQ_n
    refine AWp.ghost hmat ?_
    apply AWp.seq
    apply AWp.seq
    obtain ⟨r1459, hr1459, h⟩ := bindS h
    refine AWp.region (oc (mv hN (ot 8 (qe_aCert_6 r2.1)))
     (oc (mv hN (ot 10 (i6 r2.2.2.1)))
     (oc (OpJ.callFn hB fnOk14 (origin_Trusted_ac r2.1 ([] : List Int) r2.2.2.1 r1459 hr1459) [(500, 500), (501, 501)] (by kernel_rfl) (L rfl) (by kernel_rfl) (OpdL.cons (ot 128 (qe_aCert_6 r2.1)) (OpdL.cons (Opd.tw Opd.nils (Tw.leaf ⟨_, (Co.nils 1), rfl⟩)) (OpdL.cons (ot 129 (i6 r2.2.2.1)) OpdL.nil))))
     (oc (OpJ.val (v' := (i6 (r1459.length : Int))) (by simp) (lenD underlying35 (L rfl) (ot 130 (.d (.list 1 (r1459.map eB))))))
     (oc (mv hN (ii 0))
     (OpJs.nil)))))) (by rfl) (by rfl) ?_
    apply seqQ_n
    refine AWp.ghost (mp [] [(130, (.d (.list 1 (r1459.map eB)))), (131, (i6 (r1459.length : Int))), (132, (i6 0))] [(500, some (.know (globF 0 [109, 150, 151]))), (501, some (.know (globF 1 [98, 152, 153])))] hB) ?_
    apply AWp.block
    obtain ⟨x1472, hx1473, h⟩ := bindS h
    refine lg (xlaw22_OriginHolders_L4 r1459) (fun s1460 : Int => ([(130, (.d (.list 1 (r1459.map eB)))), (131, (i6 (r1459.length : Int))), (132, (i6 s1460))] : EL)) (fun s1460 : Int => ([(500, some (.know (globF 0 [109, 150, 151]))), (501, some (.know (globF 1 [98, 152, 153])))] : OL)) (fun (x : (Unit) ⊕ (Unit)) e E' O' => match x with | (.inl _p) => e = .ret ∧ Mat B E' O' ([(6, (bo false))] : EL) ([(500, some (.know (globF 0 [109, 150, 151]))), (501, some (.know (globF 1 [98, 152, 153])))] : OL) | (.inr _p) => e = .exit 8 ∧ Mat B E' O' ([] : EL) ([(500, some (.know (globF 0 [109, 150, 151]))), (501, some (.know (globF 1 [98, 152, 153])))] : OL)) hx1473 (mp [] _ _ hB) (fun s1460 y h => ?_) (fun e E' O' hR => ?_)
    ·unfold xlaw22_OriginHolders_L4 at h
     apply sr (c (lss (L rfl) (q 132) (q 131)) rfl cn)
     apply AWp.seq
     apply AWp.cond rfl <;> intro hg1469
     ·have h := ite_t hg1469 h
      apply AWp.skip
      apply seqQ_n
      apply AWp.seq
      apply AWp.block
      obtain ⟨x1470, hx1470, h⟩ := bindS h
      apply sr (c (indexD underlying35 tyS4 (idx_some hx1470).1 (get_map eB (idx_some hx1470).2) (L rfl) (q 130) (q 132)) rfl (c (loadD tyS4 (by rfl) (by rfl) (L rfl) (q 134)) rfl (c (assign (L rfl) (q 135)) rfl cn)))
      apply sr (c (mv hN (q 26)) rfl cn)
      apply AWp.cond rfl <;> intro hg1471
      ·have h := ite_t hg1471 h
       apply sr (c (assign (L rfl) (Opd.bool false)) rfl cn)
       apply AWp.ret
       apply blkQ_r
       apply seqQ_r
       obtain rfl := oi h
       exact ⟨(fun hc => by cases hc), rfl, (mp [] _ _ hB)⟩
      ·have h := ite_f hg1471 h
       apply AWp.skip
       apply blkQ_n
       apply seqQ_n
       apply rg (c (add6 (L rfl) (q 132) (ii 1)) rfl (c (mv hN (q 137)) rfl cn))
       obtain rfl := oi h
       exact ⟨rfl, (mp [] _ _ hB)⟩
     ·have h := ite_f hg1469 h
      apply AWp.exit
      apply seqQ_e
      obtain rfl := oi h
      exact ⟨(fun hc => by cases hc), rfl, (mp [] _ _ hB)⟩
    ·rcases x1472 with _ | _
     ·obtain ⟨rfl, hmat⟩ := hR
      apply blkQ_r
      apply seqQ_r
      obtain rfl := oi h
      exact rt (Mat.trans hmat (mp [] [(6, (bo false))] [(500, some (.know (globF 0 [109, 150, 151]))), (501, some (.know (globF 1 [98, 152, 153])))] hB)) [(bo false)] (Res.tmp (by rfl) (by rfl) Res.nil) rfl
     ·obtain ⟨rfl, hmat⟩ := hR
      apply blkQ_hit
      apply seqQ_n
      refine AWp.ghost hmat ?_
      apply AWp.seq
      obtain ⟨r1474, hr1474, h⟩ := bindS h
      refine AWp.region (oc (OpJ.callFn hB fnOk9 (xlaw22_awake_ac  r1474 hr1474) [(500, 500), (501, 501)] (by kernel_rfl) (L rfl) (by kernel_rfl) OpdL.nil)
       (oc (assign (L rfl) (ot 138 (bo r1474)))
       (OpJs.nil))) (by rfl) (by rfl) ?_
      apply seqQ_n
      refine AWp.ghost (mp [] [(6, (bo r1474))] [(500, some (.know (globF 0 [109, 150, 151]))), (501, some (.know (globF 1 [98, 152, 153])))] hB) ?_
      apply AWp.ret
      obtain rfl := oi h
      exact rt (kp [(6, _)] [(500, some _), (501, some _)] hB rfl rfl (by rfl)) [(bo r1474)] (Res.tmp (by rfl) (by rfl) Res.nil) rfl
end
end Go.Proofs.YtgfoabcickjphaaGreatDoor
