/- Printed by gen.py: the Go functions as plain functions, and that the code does what they say. -/
import Derived.Test.YtgfoabcickjphaaGreatDoorChecked
import Derived.Test.YtgfoabcickjphaaGreatDoorVcYB
import Derived.Test.YtgfoabcickjphaaGreatDoorVcZ
import Derived.KernelRfl
import Derived.Test.YtgfoabcickjphaaGreatDoorVcMD
import Derived.Test.YtgfoabcickjphaaGreatDoorVcMQ
import Derived.Test.YtgfoabcickjphaaGreatDoorVcSG
import Derived.Test.YtgfoabcickjphaaGreatDoorFnsD
import Derived.Test.YtgfoabcickjphaaGreatDoorExt
import Derived.Test.YtgfoabcickjphaaGreatDoorVcGl
import Derived.Test.YtgfoabcickjphaaGreatDoorVcWS
namespace Go.Proofs.YtgfoabcickjphaaGreatDoor
open Go Go.Vc
open Tryz
open Go.Vc.OpJ (assign alloc lss pickT pickF extract lenD indexD loadD eqlI gtr callVal leq geq loadR nilP indexS buildSlice lenS fieldD neqI pickAnd pickOr)
set_option maxHeartbeats 4000000
set_option maxRecDepth 100000
noncomputable section
def xmake_Deck_Signed_L2 (a1 : (List aCert)) (m422 : Int × xmake_Deck) (s547 : Int × aObject × xmake_Deck) : Option (((aObject × xmake_Deck)) ⊕ (Int × aObject × xmake_Deck)) :=
 (if (decide (s547.1 < (a1.length : Int))) = true then
 (idx a1 s547.1).bind fun x584 =>
 (xref21_Prefixes x584.fResources).bind fun r585 =>
 jn (fun m588 : Bool × xmake_Deck =>
 jn (fun m593 : aObject × xmake_Deck =>
 some (.inr ((w64 (s547.1 + 1)), m593.1, m593.2))) (fun j594 =>
 (if m588.1 = true then
 (xmake_Deck_Next m588.2 (r585.length : Int)).bind fun r596 =>
 (idx r585 r596.1).bind fun x597 =>
 j594 ((aObject.mk x597 x597.fLen s547.2.1.fASN), r596.2)
 else
 j594 (s547.2.1, m588.2)))) (fun j589 =>
 (if ((x584.fKey == m422.1) && (decide (0 < (r585.length : Int)))) = true then
 (xmake_Deck_Next s547.2.2 2).bind fun r599 =>
 j589 ((r599.1 == 0), r599.2)
 else
 j589 (false, s547.2.2)))
 else
 some (.inl (s547.2.1, s547.2.2)))
def xmake_Deck_Signed_L1 (a1 : (List aCert)) (r412 : Int × xmake_Deck) (m422 : Int × xmake_Deck) (s425 : Int × (List aObject) × xmake_Deck) : Option ((((List aObject) × xmake_Deck)) ⊕ (Int × (List aObject) × xmake_Deck)) :=
 (if (decide (0 < s425.1)) = true then
 (xmake_Deck_Object s425.2.2).bind fun r546 =>
 (loop (xmake_Deck_Signed_L2 a1 m422) (0, r546.1, r546.2)).bind fun p582 =>
 chk (decide ((s425.2.1 ++ [(aObject.mk p582.1.fPrefix p582.1.fMax r412.1)]).length ≤ LIM)) <|
 some (.inr ((w64 (s425.1 - 1)), (s425.2.1 ++ [(aObject.mk p582.1.fPrefix p582.1.fMax r412.1)]), p582.2))
 else
 some (.inl (s425.2.1, s425.2.2)))
def xmake_Deck_Signed_L0 (a1 : (List aCert)) (s2 : Int × (List aSigned) × xmake_Deck) : Option (((xmake_Deck × (List aSigned))) ⊕ (Int × (List aSigned) × xmake_Deck)) :=
 (if (decide (0 < s2.1)) = true then
 (xmake_Deck_Next s2.2.2 7).bind fun r411 =>
 (xmake_Deck_Next r411.2 5).bind fun r412 =>
 (xmake_Deck_Next r412.2 3).bind fun r413 =>
 (xmake_Deck_Next r413.2 9).bind fun r414 =>
 jn (fun m417 : Bool × xmake_Deck =>
 jn (fun m422 : Int × xmake_Deck =>
 (xmake_Deck_Next m422.2 4).bind fun r424 =>
 (loop (xmake_Deck_Signed_L1 a1 r412 m422) (r424.1, ([] : List aObject), r424.2)).bind fun p544 =>
 chk (decide ((s2.2.1 ++ [(aSigned.mk m422.1 r412.1 r413.1 (w64 (9 + r414.1)) p544.1)]).length ≤ LIM)) <|
 some (.inr ((w64 (s2.1 - 1)), (s2.2.1 ++ [(aSigned.mk m422.1 r412.1 r413.1 (w64 (9 + r414.1)) p544.1)]), p544.2))) (fun j423 =>
 (if m417.1 = true then
 (xmake_Deck_Next m417.2 (a1.length : Int)).bind fun r607 =>
 (idx a1 r607.1).bind fun x608 =>
 j423 (x608.fKey, r607.2)
 else
 j423 ((w64 (1 + r411.1)), m417.2)))) (fun j418 =>
 (if (decide (0 < (a1.length : Int))) = true then
 (xmake_Deck_Next r414.2 4).bind fun r610 =>
 j418 ((decide (0 < r610.1)), r610.2)
 else
 j418 (false, r414.2)))
 else
 some (.inl (s2.2.2, s2.2.1)))
def xmake_Deck_Signed (a0 : xmake_Deck) (a1 : (List aCert)) : Option ((List aSigned) × xmake_Deck) :=
 (xmake_Deck_Next a0 6).bind fun r1 =>
 (loop (xmake_Deck_Signed_L0 a1) (r1.1, ([] : List aSigned), r1.2)).bind fun p409 =>
 some (p409.2, p409.1)
theorem xmake_Deck_Signed_ac (a0 : xmake_Deck) (a1 : (List aCert)) (r : (List aSigned) × xmake_Deck) (h : xmake_Deck_Signed a0 a1 = some r) : AC Tryz.prog 29 [(pt 0), (.d (.list 6 (a1.map e_aCert)))] [(0, (.box 80 (.d (e_xmake_Deck a0))))] (.d (.list 5 (r.1.map e_aSigned))) [(0, bd 80 (e_xmake_Deck r.2))] := by
 refine ac2 Tryz.func29 rfl rfl fun B hB hN L => ?_
 delta xmake_Deck_Signed at h
 apply sr (c (assign (L rfl) Opd.nils) rfl cn)
 apply sr (c (assign (L rfl) Opd.nils) rfl cn)
 apply AWp.seq
 apply AWp.seq
 obtain ⟨r1, hr1, h⟩ := bindS h
 refine AWp.region (oc (mv hN (ot 0 (pt 0)))
 (oc (OpJ.callFn hB fnOk30 (xmake_Deck_Next_ac a0 6 r1 hr1) [(0, 0)] (by kernel_rfl) (L rfl) (by kernel_rfl) (OpdL.cons (ot 13 (pt 0)) (OpdL.cons (ii 6) OpdL.nil)))
 (oc (assign (L rfl) (ot 14 (i6 r1.1)))
 (OpJs.nil)))) (by rfl) (by rfl) ?_
 apply seqQ_n
 refine AWp.ghost (mp [] [(0, (pt 0)), (1, (qe_aCert_6 a1)), (5, .nils), (6, (i6 r1.1))] [(0, bd 80 (e_xmake_Deck r1.2))] hB) ?_
 apply AWp.block
 obtain ⟨p409, hx612, h⟩ := bindS h
 refine lg (xmake_Deck_Signed_L0 a1) (fun s2 : Int × (List aSigned) × xmake_Deck => ([(0, (pt 0)), (1, (qe_aCert_6 a1)), (5, (.sref 3005 5 0 s2.2.1.length)), (6, (i6 s2.1))] : EL)) (fun s2 : Int × (List aSigned) × xmake_Deck => ([(0, bd 80 (e_xmake_Deck s2.2.2)), (3005, some (we_aSigned_66_5 s2.2.1))] : OL)) (fun (p409 : (xmake_Deck × (List aSigned))) e E' O' => e = .exit 0 ∧ Mat B E' O' ([(5, (.sref 3005 5 0 p409.2.length))] : EL) ([(0, bd 80 (e_xmake_Deck p409.1)), (3005, some (we_aSigned_66_5 p409.2))] : OL)) hx612 (Mat.trans (Mat.beginP (n := 3005) (e := 66) (sz := 5) (Ts := [(5, (.sref 3005 5 0 0))]) (Bs := []) hB (by decide) (by rfl) (by decide) (TwT.cons (x := .nils) (by rfl) (Tw.leaf ⟨rfl, rfl⟩) TwT.nil) TwB.nil) (mp [] _ _ hB)) (fun s2 y h => ?_) (fun e E' O' hR => ?_)
 ·unfold xmake_Deck_Signed_L0 at h
  apply AWp.seq
  apply sr (c (mv hN (q 6)) rfl (c (gtr (L rfl) (q 15) (ii 0)) rfl cn))
  apply AWp.cond rfl <;> intro hg410
  ·have h := ite_t hg410 h
   apply AWp.skip
   apply seqQ_n
   apply AWp.seq
   apply AWp.block
   apply AWp.seq
   obtain ⟨r411, hr411, h⟩ := bindS h
   obtain ⟨r412, hr412, h⟩ := bindS h
   obtain ⟨r413, hr413, h⟩ := bindS h
   obtain ⟨r414, hr414, h⟩ := bindS h
   refine AWp.region (oc (mv hN (ot 0 (pt 0)))
    (oc (OpJ.callFn hB fnOk30 (xmake_Deck_Next_ac s2.2.2 7 r411 hr411) [(0, 0)] (by kernel_rfl) (L rfl) (by kernel_rfl) (OpdL.cons (ot 19 (pt 0)) (OpdL.cons (ii 7) OpdL.nil)))
    (oc (add6 (L rfl) (ii 1) (ot 20 (i6 r411.1)))
    (oc (mv hN (ot 0 (pt 0)))
    (oc (OpJ.callFn hB fnOk30 (xmake_Deck_Next_ac r411.2 5 r412 hr412) [(0, 0)] (by kernel_rfl) (L rfl) (by kernel_rfl) (OpdL.cons (ot 22 (pt 0)) (OpdL.cons (ii 5) OpdL.nil)))
    (oc (mv hN (ot 0 (pt 0)))
    (oc (OpJ.callFn hB fnOk30 (xmake_Deck_Next_ac r412.2 3 r413 hr413) [(0, 0)] (by kernel_rfl) (L rfl) (by kernel_rfl) (OpdL.cons (ot 24 (pt 0)) (OpdL.cons (ii 3) OpdL.nil)))
    (oc (mv hN (ot 0 (pt 0)))
    (oc (OpJ.callFn hB fnOk30 (xmake_Deck_Next_ac r413.2 9 r414 hr414) [(0, 0)] (by kernel_rfl) (L rfl) (by kernel_rfl) (OpdL.cons (ot 26 (pt 0)) (OpdL.cons (ii 9) OpdL.nil)))
    (oc (add6 (L rfl) (ii 9) (ot 27 (i6 r414.1)))
    (oc (OpJ.build (places := [(0, 1), (1, 1), (2, 1), (3, 1), (4, 1)]) ⟨underlying66, fun w => by kernel_rfl⟩ tyZS66 (Opds.cons (ot 21 (i6 (w64 (1 + r411.1)))) (Opds.cons (ot 23 (i6 r412.1)) (Opds.cons (ot 25 (i6 r413.1)) (Opds.cons (ot 28 (i6 (w64 (9 + r414.1)))) Opds.nil)))) (by kernel_rfl) (r := (.st [(i6 (w64 (1 + r411.1))), (i6 r412.1), (i6 r413.1), (i6 (w64 (9 + r414.1))), .nils])) (by rfl) (L rfl))
    (oc (alloc hB tyZ66 (nm := 1007) (by decide) (L rfl))
    (oc (OpJ.storeB (bt := 66) (c := (.st [(i6 0), (i6 0), (i6 0), (i6 0), .nils])) (v := (.st [(i6 (w64 (1 + r411.1))), (i6 r412.1), (i6 r413.1), (i6 (w64 (9 + r414.1))), .nils])) (c' := (.st [(i6 (w64 (1 + r411.1))), (i6 r412.1), (i6 r413.1), (i6 (w64 (9 + r414.1))), .nils])) tyS66 (SetAt.here _ _) (by rfl) (by rfl) (by simp) rfl (ot 7 (pt 1007)) (ot 29 (.st [(i6 (w64 (1 + r411.1))), (i6 r412.1), (i6 r413.1), (i6 (w64 (9 + r414.1))), .nils])))
    (OpJs.nil)))))))))))))) (by rfl) (by rfl) ?_
   apply seqQ_n
   refine AWp.ghost (mp [] [(0, (pt 0)), (1, (qe_aCert_6 a1)), (5, (.sref 3005 5 0 s2.2.1.length)), (6, (i6 s2.1)), (7, (pt 1007))] [(0, bd 80 (e_xmake_Deck r414.2)), (1007, some (.box 66 (.st [(i6 (w64 (1 + r411.1))), (i6 r412.1), (i6 r413.1), (i6 (w64 (9 + r414.1))), .nils]))), (3005, some (we_aSigned_66_5 s2.2.1))] hB) ?_
   apply AWp.seq
   apply AWp.seq
   refine AWp.cut h (fun m417 : Bool × xmake_Deck => ([(0, (pt 0)), (1, (qe_aCert_6 a1)), (5, (.sref 3005 5 0 s2.2.1.length)), (6, (i6 s2.1)), (7, (pt 1007)), (37, (bo m417.1))] : EL)) (fun m417 : Bool × xmake_Deck => ([(0, bd 80 (e_xmake_Deck m417.2)), (1007, some (.box 66 (.st [(i6 (w64 (1 + r411.1))), (i6 r412.1), (i6 r413.1), (i6 (w64 (9 + r414.1))), .nils]))), (3005, some (we_aSigned_66_5 s2.2.1))] : OL)) (fun m417 h E' O' hmat => ?_) (fun j418 hjj418 h => ?_)
   ·apply seqQ_n
    refine AWp.ghost hmat ?_
    refine AWp.cut h (fun m422 : Int × xmake_Deck => ([(0, (pt 0)), (1, (qe_aCert_6 a1)), (5, (.sref 3005 5 0 s2.2.1.length)), (6, (i6 s2.1)), (7, (pt 1007))] : EL)) (fun m422 : Int × xmake_Deck => ([(0, bd 80 (e_xmake_Deck m422.2)), (1007, some (.box 66 (.st [(i6 m422.1), (i6 r412.1), (i6 r413.1), (i6 (w64 (9 + r414.1))), .nils]))), (3005, some (we_aSigned_66_5 s2.2.1))] : OL)) (fun m422 h E' O' hmat => ?_) (fun j423 hjj423 h => ?_)
    ·apply seqQ_n
     refine AWp.ghost hmat ?_
     apply AWp.seq
     apply AWp.seq
     obtain ⟨r424, hr424, h⟩ := bindS h
     refine AWp.region (oc (mv hN (ot 0 (pt 0)))
      (oc (OpJ.callFn hB fnOk30 (xmake_Deck_Next_ac m422.2 4 r424 hr424) [(0, 0)] (by kernel_rfl) (L rfl) (by kernel_rfl) (OpdL.cons (ot 47 (pt 0)) (OpdL.cons (ii 4) OpdL.nil)))
      (oc (assign (L rfl) (ot 48 (i6 r424.1)))
      (OpJs.nil)))) (by rfl) (by rfl) ?_
     apply seqQ_n
     refine AWp.ghost (mp [] [(0, (pt 0)), (1, (qe_aCert_6 a1)), (5, (.sref 3005 5 0 s2.2.1.length)), (6, (i6 s2.1)), (7, (pt 1007)), (8, (i6 r424.1))] [(0, bd 80 (e_xmake_Deck r424.2)), (1007, some (.box 66 (.st [(i6 m422.1), (i6 r412.1), (i6 r413.1), (i6 (w64 (9 + r414.1))), .nils]))), (3005, some (we_aSigned_66_5 s2.2.1))] hB) ?_
     apply AWp.block
     obtain ⟨p544, hx604, h⟩ := bindS h
     refine lg (xmake_Deck_Signed_L1 a1 r412 m422) (fun s425 : Int × (List aObject) × xmake_Deck => ([(0, (pt 0)), (1, (qe_aCert_6 a1)), (5, (.sref 3005 5 0 s2.2.1.length)), (6, (i6 s2.1)), (7, (pt 1007)), (8, (i6 s425.1))] : EL)) (fun s425 : Int × (List aObject) × xmake_Deck => ([(0, bd 80 (e_xmake_Deck s425.2.2)), (1007, some (.box 66 (.st [(i6 m422.1), (i6 r412.1), (i6 r413.1), (i6 (w64 (9 + r414.1))), (.sref 13074 6 0 s425.2.1.length)]))), (3005, some (we_aSigned_66_5 s2.2.1)), (13074, some (we_aObject_48_6 s425.2.1))] : OL)) (fun (p544 : ((List aObject) × xmake_Deck)) e E' O' => e = .exit 2 ∧ Mat B E' O' ([(0, (pt 0)), (1, (qe_aCert_6 a1)), (5, (.sref 3005 5 0 s2.2.1.length)), (6, (i6 s2.1)), (7, (pt 1007))] : EL) ([(0, bd 80 (e_xmake_Deck p544.2)), (1007, some (.box 66 (.st [(i6 m422.1), (i6 r412.1), (i6 r413.1), (i6 (w64 (9 + r414.1))), (.sref 13074 6 0 p544.1.length)]))), (3005, some (we_aSigned_66_5 s2.2.1)), (13074, some (we_aObject_48_6 p544.1))] : OL)) hx604 (Mat.trans (Mat.beginP (n := 13074) (e := 48) (sz := 6) (Ts := []) (Bs := [(1007, some (.box 66 (.st [(i6 m422.1), (i6 r412.1), (i6 r413.1), (i6 (w64 (9 + r414.1))), (.sref 13074 6 0 0)])))]) hB (by decide) (by rfl) (by decide) TwT.nil (TwB.cons (x := (.st [(i6 m422.1), (i6 r412.1), (i6 r413.1), (i6 (w64 (9 + r414.1))), .nils])) (by rfl) (Tw.st (TwL.cons (Tw.same _) (TwL.cons (Tw.same _) (TwL.cons (Tw.same _) (TwL.cons (Tw.same _) (TwL.cons (Tw.leaf ⟨rfl, rfl⟩) TwL.nil)))))) TwB.nil)) (mp [] _ _ hB)) (fun s425 y h => ?_) (fun e E' O' hR => ?_)
     ·unfold xmake_Deck_Signed_L1 at h
      apply AWp.seq
      apply sr (c (mv hN (q 8)) rfl (c (gtr (L rfl) (q 49) (ii 0)) rfl cn))
      apply AWp.cond rfl <;> intro hg545
      ·have h := ite_t hg545 h
       apply AWp.skip
       apply seqQ_n
       apply AWp.seq
       apply AWp.block
       apply AWp.seq
       obtain ⟨r546, hr546, h⟩ := bindS h
       refine AWp.region (oc (mv hN (ot 0 (pt 0)))
        (oc (OpJ.callFn hB fnOk57 (xmake_Deck_Object_ac s425.2.2 r546 hr546) [(0, 0)] (by kernel_rfl) (L rfl) (by kernel_rfl) (OpdL.cons (ot 53 (pt 0)) OpdL.nil))
        (oc (alloc hB tyZ48 (nm := 1009) (by decide) (L rfl))
        (oc (OpJ.storeB (bt := 48) (c := (.d (.st [(.st [(.st [(.bool false), (.int .u64 0), (.int .u64 0)]), (.int .i64 0)]), (.int .i64 0), (.int .i64 0)]))) (v := (.d (e_aObject r546.1))) (c' := (.d (e_aObject r546.1))) tyS48 (SetAt.here _ _) (by rfl) (by rfl) (by simp) rfl (ot 9 (pt 1009)) (ot 54 (.d (e_aObject r546.1))))
        (OpJs.nil))))) (by rfl) (by rfl) ?_
       apply seqQ_n
       refine AWp.ghost (mp [] [(0, (pt 0)), (1, (qe_aCert_6 a1)), (5, (.sref 3005 5 0 s2.2.1.length)), (6, (i6 s2.1)), (7, (pt 1007)), (8, (i6 s425.1)), (9, (pt 1009))] [(0, bd 80 (e_xmake_Deck r546.2)), (1007, some (.box 66 (.st [(i6 m422.1), (i6 r412.1), (i6 r413.1), (i6 (w64 (9 + r414.1))), (.sref 13074 6 0 s425.2.1.length)]))), (1009, bd 48 (e_aObject r546.1)), (3005, some (we_aSigned_66_5 s2.2.1)), (13074, some (we_aObject_48_6 s425.2.1))] hB) ?_
       apply AWp.seq
       apply sr (c (mv hN (q 1)) rfl (c (OpJ.val (v' := (i6 (a1.length : Int))) (by simp) (lenD underlying22 (L rfl) (q 55))) rfl (c (mv hN (ii 0)) rfl cn)))
       apply AWp.block
       obtain ⟨p582, hx601, h⟩ := bindS h
       refine lg (xmake_Deck_Signed_L2 a1 m422) (fun s547 : Int × aObject × xmake_Deck => ([(0, (pt 0)), (1, (qe_aCert_6 a1)), (5, (.sref 3005 5 0 s2.2.1.length)), (6, (i6 s2.1)), (7, (pt 1007)), (8, (i6 s425.1)), (9, (pt 1009)), (55, (qe_aCert_6 a1)), (56, (i6 (a1.length : Int))), (57, (i6 s547.1))] : EL)) (fun s547 : Int × aObject × xmake_Deck => ([(0, bd 80 (e_xmake_Deck s547.2.2)), (1007, some (.box 66 (.st [(i6 m422.1), (i6 r412.1), (i6 r413.1), (i6 (w64 (9 + r414.1))), (.sref 13074 6 0 s425.2.1.length)]))), (1009, bd 48 (e_aObject s547.2.1)), (3005, some (we_aSigned_66_5 s2.2.1)), (13074, some (we_aObject_48_6 s425.2.1))] : OL)) (fun (p582 : (aObject × xmake_Deck)) e E' O' => e = .exit 4 ∧ Mat B E' O' ([(0, (pt 0)), (1, (qe_aCert_6 a1)), (5, (.sref 3005 5 0 s2.2.1.length)), (6, (i6 s2.1)), (7, (pt 1007)), (8, (i6 s425.1)), (9, (pt 1009))] : EL) ([(0, bd 80 (e_xmake_Deck p582.2)), (1007, some (.box 66 (.st [(i6 m422.1), (i6 r412.1), (i6 r413.1), (i6 (w64 (9 + r414.1))), (.sref 13074 6 0 s425.2.1.length)]))), (1009, bd 48 (e_aObject p582.1)), (3005, some (we_aSigned_66_5 s2.2.1)), (13074, some (we_aObject_48_6 s425.2.1))] : OL)) hx601 (mp [] _ _ hB) (fun s547 y h => ?_) (fun e E' O' hR => ?_)
       ·unfold xmake_Deck_Signed_L2 at h
        apply sr (c (lss (L rfl) (q 57) (q 56)) rfl cn)
        apply AWp.seq
        apply AWp.cond rfl <;> intro hg583
        ·have h := ite_t hg583 h
         apply AWp.skip
         apply seqQ_n
         apply AWp.seq
         apply AWp.block
         obtain ⟨x584, hx584, h⟩ := bindS h
         apply sr (c (indexD underlying22 tyS59 (idx_some hx584).1 (get_map e_aCert (idx_some hx584).2) (L rfl) (q 55) (q 57)) rfl (c (loadD tyS59 (by rfl) (by rfl) (L rfl) (q 59)) rfl (cg (alloc hB tyZ59 (nm := 1011) (by decide) (L rfl)) rfl (cg (sB tyS59 (q 11) (q 60)) rfl cn))))
         obtain ⟨r585, hr585, h⟩ := bindS h
         apply sr (c (fo 1011 4 [4] hN underlying59 4 tyS57 (q 11)) rfl (c (la hN 59 tyS57 (q 61)) rfl (cg (cf hB fnOk58 (xref21_Prefixes_ac x584.fResources r585 hr585) (L rfl) (OpdL.cons (q 62) OpdL.nil)) rfl (c (assign (L rfl) (q 63)) rfl cn))))
         apply AWp.seq
         refine AWp.cut h (fun m588 : Bool × xmake_Deck => ([(0, (pt 0)), (1, (qe_aCert_6 a1)), (5, (.sref 3005 5 0 s2.2.1.length)), (6, (i6 s2.1)), (7, (pt 1007)), (8, (i6 s425.1)), (9, (pt 1009)), (12, (qe_aPrefix_4 r585)), (55, (qe_aCert_6 a1)), (56, (i6 (a1.length : Int))), (57, (i6 s547.1)), (78, (bo m588.1))] : EL)) (fun m588 : Bool × xmake_Deck => ([(0, bd 80 (e_xmake_Deck m588.2)), (1007, some (.box 66 (.st [(i6 m422.1), (i6 r412.1), (i6 r413.1), (i6 (w64 (9 + r414.1))), (.sref 13074 6 0 s425.2.1.length)]))), (1009, bd 48 (e_aObject s547.2.1)), (3005, some (we_aSigned_66_5 s2.2.1)), (13074, some (we_aObject_48_6 s425.2.1))] : OL)) (fun m588 h E' O' hmat => ?_) (fun j589 hjj589 h => ?_)
         ·apply seqQ_n
          refine AWp.ghost hmat ?_
          refine AWp.cut h (fun m593 : aObject × xmake_Deck => ([(0, (pt 0)), (1, (qe_aCert_6 a1)), (5, (.sref 3005 5 0 s2.2.1.length)), (6, (i6 s2.1)), (7, (pt 1007)), (8, (i6 s425.1)), (9, (pt 1009)), (55, (qe_aCert_6 a1)), (56, (i6 (a1.length : Int))), (57, (i6 s547.1))] : EL)) (fun m593 : aObject × xmake_Deck => ([(0, bd 80 (e_xmake_Deck m593.2)), (1007, some (.box 66 (.st [(i6 m422.1), (i6 r412.1), (i6 r413.1), (i6 (w64 (9 + r414.1))), (.sref 13074 6 0 s425.2.1.length)]))), (1009, bd 48 (e_aObject m593.1)), (3005, some (we_aSigned_66_5 s2.2.1)), (13074, some (we_aObject_48_6 s425.2.1))] : OL)) (fun m593 h E' O' hmat => ?_) (fun j594 hjj594 h => ?_)
          ·apply blkQ_n
           apply seqQ_n
           refine AWp.ghost hmat ?_
           apply rg (c (add6 (L rfl) (q 57) (ii 1)) rfl (c (mv hN (q 91)) rfl cn))
           obtain rfl := oi h
           exact ⟨rfl, (mp [] _ _ hB)⟩
          ·apply AWp.cond rfl <;> intro hg595
           ·have h := ite_t hg595 h
            apply AWp.seq
            obtain ⟨r596, hr596, h⟩ := bindS h
            obtain ⟨x597, hx597, h⟩ := bindS h
            refine AWp.region (oc (mv hN (ot 12 (qe_aPrefix_4 r585)))
             (oc (mv hN (ot 0 (pt 0)))
             (oc (mv hN (ot 12 (qe_aPrefix_4 r585)))
             (oc (OpJ.val (v' := (i6 (r585.length : Int))) (by simp) (lenD underlying50 (L rfl) (ot 81 (qe_aPrefix_4 r585))))
             (oc (OpJ.callFn hB fnOk30 (xmake_Deck_Next_ac m588.2 (r585.length : Int) r596 hr596) [(0, 0)] (by kernel_rfl) (L rfl) (by kernel_rfl) (OpdL.cons (ot 80 (pt 0)) (OpdL.cons (ot 82 (i6 (r585.length : Int))) OpdL.nil)))
             (oc (indexD (el := (e_aPrefix x597)) underlying50 tyS46 (idx_some hx597).1 (get_map e_aPrefix (idx_some hx597).2) (L rfl) (ot 79 (qe_aPrefix_4 r585)) (ot 83 (i6 r596.1)))
             (oc (loadD tyS46 (by rfl) (by rfl) (L rfl) (ot 84 (.dptr (e_aPrefix x597))))
             (oc (ov (.ptr 1009 0 [0]) (fp hN underlying48 0 tyS46 (.box 48 (.d (e_aObject s547.2.1))) (ot 9 (pt 1009))))
             (oc (OpJ.storeB (bt := 48) (c := (.d (e_aObject s547.2.1))) (v := (.d (e_aPrefix x597))) (c' := (.d (.st [(e_aPrefix x597), (.int .i64 s547.2.1.fMax), (.int .i64 s547.2.1.fASN)]))) tyS46 (SetAt.dst1 (f := (e_aPrefix s547.2.1.fPrefix)) (f' := (e_aPrefix x597)) (by rfl) (by rfl) (SetAt.here _ _) (by rfl) (by rfl) (by first | rfl | omega)) (by rfl) (by rfl) (by simp) rfl (ot 86 (.ptr 1009 0 [0])) (ot 85 (.d (e_aPrefix x597))))
             (OpJs.nil)))))))))) (by rfl) (by rfl) ?_
            apply seqQ_n
            refine AWp.ghost (mp [] [(0, (pt 0)), (1, (qe_aCert_6 a1)), (5, (.sref 3005 5 0 s2.2.1.length)), (6, (i6 s2.1)), (7, (pt 1007)), (8, (i6 s425.1)), (9, (pt 1009)), (55, (qe_aCert_6 a1)), (56, (i6 (a1.length : Int))), (57, (i6 s547.1))] [(0, bd 80 (e_xmake_Deck r596.2)), (1007, some (.box 66 (.st [(i6 m422.1), (i6 r412.1), (i6 r413.1), (i6 (w64 (9 + r414.1))), (.sref 13074 6 0 s425.2.1.length)]))), (1009, bd 48 (.st [(e_aPrefix x597), (.int .i64 s547.2.1.fMax), (.int .i64 s547.2.1.fASN)])), (3005, some (we_aSigned_66_5 s2.2.1)), (13074, some (we_aObject_48_6 s425.2.1))] hB) ?_
            apply rg (c (fo 1009 0 [0] hN underlying48 0 tyS46 (q 9)) rfl (c (fo 1009 3 [0, 1] hN underlying46 3 tyS3 (q 87)) rfl (c (lb hN 48 _ _ tyS3 (At.dst1 (by rfl) (by rfl) (ad _) (by first | rfl | omega)) (q 88)) rfl (c (fo 1009 4 [1] hN underlying48 4 tyS3 (q 9)) rfl (cg (OpJ.storeB tyS3 (SetAt.dst1 (by rfl) (by rfl) (SetAt.here _ _) (by rfl) (by rfl) (by first | rfl | omega)) (by rfl) (by rfl) (by simp) rfl (q 90) (q 89)) rfl cn)))))
            exact hjj594 _ h _ _ (mp [] _ _ hB)
           ·have h := ite_f hg595 h
            apply AWp.skip
            exact hjj594 _ h _ _ (mp [] _ _ hB)
         ·rcases bft ((x584.fKey == m422.1) && (decide (0 < (r585.length : Int)))) with hg598 | hg598
          ·have h := ite_t hg598 h
           obtain ⟨r599, hr599, h⟩ := bindS h
           refine AWp.region (oc (ov (.ptr 1011 0 [0]) (fp hN underlying59 0 tyS3 (.box 59 (.d (e_aCert x584))) (ot 11 (pt 1011))))
            (oc (lb hN 59 (.d (e_aCert x584)) (i6 x584.fKey) tyS3 (ad (.int .i64 x584.fKey)) (ot 64 (.ptr 1011 0 [0])))
            (oc (ov (.ptr 1007 0 [0]) (fp hN underlying66 0 tyS3 (.box 66 (.st [(i6 m422.1), (i6 r412.1), (i6 r413.1), (i6 (w64 (9 + r414.1))), (.sref 13074 6 0 s425.2.1.length)])) (ot 7 (pt 1007))))
            (oc (lb hN 66 (.st [(i6 m422.1), (i6 r412.1), (i6 r413.1), (i6 (w64 (9 + r414.1))), (.sref 13074 6 0 s425.2.1.length)]) (i6 m422.1) tyS3 (At.st1 (f := (i6 m422.1)) (by rfl) (by rfl) (At.here _) (by first | rfl | omega)) (ot 66 (.ptr 1007 0 [0])))
            (oc (eqlI (L rfl) (ot 65 (i6 x584.fKey)) (ot 67 (i6 m422.1)))
            (oc (mv hN (ot 68 (bo (x584.fKey == m422.1))))
            (oc (op hN 69 (qe_aPrefix_4 r585) (mv hN (ot 12 (qe_aPrefix_4 r585))) (OptL.keep rfl OptL.nil) (GuardV.plain _))
            (oc (op hN 69 (i6 (r585.length : Int)) (OpJ.val (v' := (i6 (r585.length : Int))) (by simp) (lenD underlying50 (L rfl) (ot 70 (qe_aPrefix_4 r585)))) (OptL.opt OptL.nil) (GuardV.plain _))
            (oc (op hN 69 (bo (decide (0 < (r585.length : Int)))) (gtr (L rfl) (ot 71 (i6 (r585.length : Int))) (ii 0)) (OptL.opt OptL.nil) (GuardV.plain _))
            (oc (pickAnd rfl (L rfl) (ot 69 (bo (x584.fKey == m422.1))) (ot 72 (.opt ((x584.fKey == m422.1) == true) (bo (decide (0 < (r585.length : Int)))))))
            (oc (OpJ.val (v' := .d (.bool true)) (by rw [hg598] <;> rfl) (mv hN (ot 73 (bo ((x584.fKey == m422.1) && (decide (0 < (r585.length : Int))))))))
            (oc (gd 74 (mv hN (ot 0 (pt 0))))
            (oc (gd 74 (OpJ.callFn hB fnOk30 (xmake_Deck_Next_ac s547.2.2 2 r599 hr599) [(0, 0)] (by kernel_rfl) (L rfl) (by kernel_rfl) (OpdL.cons (ot 75 (pt 0)) (OpdL.cons (ii 2) OpdL.nil))))
            (oc (gd 74 (eqlI (L rfl) (ot 76 (i6 r599.1)) (ii 0)))
            (oc (pickT (L rfl) (ot 74 (bo true)) (ot 77 (bo (r599.1 == 0))))
            (OpJs.nil)))))))))))))))) (by rfl) (by rfl) ?_
           exact hjj589 _ h _ _ (mp [] _ _ hB)
          ·have h := ite_f hg598 h
           apply rg (c (fo 1011 0 [0] hN underlying59 0 tyS3 (q 11)) rfl (c (la hN 59 tyS3 (q 64)) rfl (c (fo 1007 0 [0] hN underlying66 0 tyS3 (q 7)) rfl (c (lb hN 66 _ (i6 m422.1) tyS3 (At.st1 (f := (i6 m422.1)) (by rfl) (by rfl) (At.here _) (by first | rfl | omega)) (q 66)) rfl (c (eqlI (L rfl) (q 65) (q 67)) rfl (c (mv hN (q 68)) rfl (c (oq hN 69 (mv hN (q 12)) (OptL.keep (by rfl) OptL.nil) (GuardV.plain _)) rfl (c (oq hN 69 (OpJ.val (v' := (i6 (r585.length : Int))) (by simp) (lenD underlying50 (L rfl) (q 70))) (OptL.opt OptL.nil) (GuardV.plain _)) rfl (c (oq hN 69 (gtr (L rfl) (q 71) (ii 0)) (OptL.opt OptL.nil) (GuardV.plain _)) rfl (c (pickAnd rfl (L rfl) (q 69) (q 72)) rfl (c (OpJ.val (v' := .d (.bool false)) (by rw [hg598] <;> rfl) (mv hN (q 73))) rfl (ks 74 (L rfl) (ks 74 (L rfl) (ks 74 (L rfl) (c (pickF (L rfl) (q 74) (Opd.bool false)) rfl cn)))))))))))))))
           exact hjj589 _ h _ _ (mp [] _ _ hB)
        ·have h := ite_f hg583 h
         apply AWp.exit
         apply seqQ_e
         obtain rfl := oi h
         exact ⟨(fun hc => by cases hc), rfl, (mp [] _ _ hB)⟩
       ·obtain ⟨rfl, hmat⟩ := hR
        apply blkQ_hit
        apply seqQ_n
        refine AWp.ghost hmat ?_
        apply sr (c (fo 1007 1 [1] hN underlying66 1 tyS3 (q 7)) rfl (c (lb hN 66 _ (i6 r412.1) tyS3 (At.st1 (f := (i6 r412.1)) (by rfl) (by rfl) (At.here _) (by first | rfl | omega)) (q 92)) rfl (c (fo 1009 5 [2] hN underlying48 5 tyS3 (q 9)) rfl (cg (OpJ.storeB tyS3 (SetAt.dst1 (by rfl) (by rfl) (SetAt.here _ _) (by rfl) (by rfl) (by first | rfl | omega)) (by rfl) (by rfl) (by simp) rfl (q 94) (q 93)) rfl cn))))
        obtain ⟨hc602, h⟩ := chk_some h
        apply rg (c (fo 1007 4 [4] hN underlying66 4 tyS38 (q 7)) rfl (c (lb hN 66 _ (.sref 13074 6 0 s425.2.1.length) tyS38 (At.st1 (f := (.sref 13074 6 0 s425.2.1.length)) (by rfl) (by rfl) (At.here _) (by first | rfl | omega)) (q 95)) rfl (c (lb hN 48 _ _ tyS48 (At.here _) (q 9)) rfl (c (buildSlice underlying38 tyS48 tyZD48 (by rfl) (by decide) (by decide) (Opds.cons (q 97) Opds.nil) (by kernel_rfl) (es := ([(.st [(e_aPrefix p582.1.fPrefix), (.int .i64 p582.1.fMax), (.int .i64 r412.1)])] : List D)) (by rfl) (by rfl) (by kernel_rfl) (by simp) (L rfl)) rfl (cg (apd hB underlying38 tyE48 1099 e_aObject s425.2.1 [(aObject.mk p582.1.fPrefix p582.1.fMax r412.1)] hc602 (L rfl) (q 96) (q 98)) rfl (c (fo 1007 4 [4] hN underlying66 4 tyS38 (q 7)) rfl (cg (OpJ.storeB (c' := (.st [(i6 m422.1), (i6 r412.1), (i6 r413.1), (i6 (w64 (9 + r414.1))), (.sref 1099 6 0 ((s425.2.1 ++ [(aObject.mk p582.1.fPrefix p582.1.fMax r412.1)]).length))])) tyS38 (SetAt.st1 (f := (.sref 13074 6 0 s425.2.1.length)) (by rfl) (by rfl) (SetAt.here _ _) (by rfl) (by rfl) (by first | rfl | omega)) (by rfl) (by rfl) (by simp) rfl (q 100) (q 99)) rfl cn)))))))
        apply blkQ_n
        apply seqQ_n
        apply rg (c (mv hN (q 8)) rfl (c (sub6 (L rfl) (q 51) (ii 1)) rfl (c (assign (L rfl) (q 52)) rfl cn)))
        obtain rfl := oi h
        exact ⟨rfl, (mp [(13074, 1099)] _ _ hB)⟩
      ·have h := ite_f hg545 h
       apply AWp.exit
       apply seqQ_e
       obtain rfl := oi h
       exact ⟨(fun hc => by cases hc), rfl, (mp [] _ _ hB)⟩
     ·obtain ⟨rfl, hmat⟩ := hR
      apply blkQ_hit
      apply seqQ_n
      refine AWp.ghost hmat ?_
      refine AWp.ghost (Mat.freezeP (n := 13074) (e := 48) (sz := 6) (es := p544.1.map e_aObject) (Ts := []) (Bs := [(1007, some (.box 66 (.st [(i6 m422.1), (i6 r412.1), (i6 r413.1), (i6 (w64 (9 + r414.1))), (qe_aObject_6 p544.1)])))]) (by rfl) TwT.nil (TwB.cons (x := (.st [(i6 m422.1), (i6 r412.1), (i6 r413.1), (i6 (w64 (9 + r414.1))), (.sref 13074 6 0 p544.1.length)])) (by rfl) (Tw.st (TwL.cons (Tw.same _) (TwL.cons (Tw.same _) (TwL.cons (Tw.same _) (TwL.cons (Tw.same _) (TwL.cons (FrzL.all (by first | rfl | (simp; done) | (simp; omega) | omega)) TwL.nil)))))) TwB.nil)) ?_
      obtain ⟨hc605, h⟩ := chk_some h
      apply rg (c (mv hN (q 5)) rfl (c (lb hN 66 _ _ tyS66 (At.here _) (q 7)) rfl (c (buildSlice underlying26 tyS66 tyZD66 (by rfl) (by decide) (by decide) (Opds.cons (Opd.co (Co.st (CoL.cons (Co.d _) (CoL.cons (Co.d _) (CoL.cons (Co.d _) (CoL.cons (Co.d _) (CoL.cons (Co.d _) CoL.nil)))))) (q 102)) Opds.nil) (by kernel_rfl) (es := ([(.st [(.int .i64 m422.1), (.int .i64 r412.1), (.int .i64 r413.1), (.int .i64 (w64 (9 + r414.1))), (.list 6 (p544.1.map e_aObject))])] : List D)) (by rfl) (by rfl) (by kernel_rfl) (by simp) (L rfl)) rfl (cg (apd hB underlying26 tyE66 1104 e_aSigned s2.2.1 [(aSigned.mk m422.1 r412.1 r413.1 (w64 (9 + r414.1)) p544.1)] hc605 (L rfl) (q 101) (q 103)) rfl (c (assign (L rfl) (q 104)) rfl cn)))))
      apply blkQ_n
      apply seqQ_n
      apply rg (c (mv hN (q 6)) rfl (c (sub6 (L rfl) (q 17) (ii 1)) rfl (c (assign (L rfl) (q 18)) rfl cn)))
      obtain rfl := oi h
      exact ⟨rfl, (mp [(3005, 1104)] _ _ hB)⟩
    ·apply AWp.cond rfl <;> intro hg606
     ·have h := ite_t hg606 h
      obtain ⟨r607, hr607, h⟩ := bindS h
      obtain ⟨x608, hx608, h⟩ := bindS h
      refine AWp.region (oc (mv hN (ot 1 (qe_aCert_6 a1)))
       (oc (mv hN (ot 0 (pt 0)))
       (oc (mv hN (ot 1 (qe_aCert_6 a1)))
       (oc (OpJ.val (v' := (i6 (a1.length : Int))) (by simp) (lenD underlying22 (L rfl) (ot 40 (qe_aCert_6 a1))))
       (oc (OpJ.callFn hB fnOk30 (xmake_Deck_Next_ac m417.2 (a1.length : Int) r607 hr607) [(0, 0)] (by kernel_rfl) (L rfl) (by kernel_rfl) (OpdL.cons (ot 39 (pt 0)) (OpdL.cons (ot 41 (i6 (a1.length : Int))) OpdL.nil)))
       (oc (indexD (el := (e_aCert x608)) underlying22 tyS59 (idx_some hx608).1 (get_map e_aCert (idx_some hx608).2) (L rfl) (ot 38 (qe_aCert_6 a1)) (ot 42 (i6 r607.1)))
       (oc (fieldD underlying59 (by rfl) (o := 0) (by rfl) tyS3 (by decide) (ds := [(.int .i64 x608.fKey), (.int .i64 x608.fIssuer), (.int .i64 x608.fFrom), (.int .i64 x608.fUntil), (e_aResources x608.fResources)]) (e := (.int .i64 x608.fKey)) (by rfl) (by rfl) (L rfl) (ot 43 (.dptr (e_aCert x608))))
       (oc (loadD tyS3 (by rfl) (by rfl) (L rfl) (ot 44 (.dptr (.int .i64 x608.fKey))))
       (oc (ov (.ptr 1007 0 [0]) (fp hN underlying66 0 tyS3 (.box 66 (.st [(i6 (w64 (1 + r411.1))), (i6 r412.1), (i6 r413.1), (i6 (w64 (9 + r414.1))), .nils])) (ot 7 (pt 1007))))
       (oc (OpJ.storeB (bt := 66) (c := (.st [(i6 (w64 (1 + r411.1))), (i6 r412.1), (i6 r413.1), (i6 (w64 (9 + r414.1))), .nils])) (v := (i6 x608.fKey)) (c' := (.st [(i6 x608.fKey), (i6 r412.1), (i6 r413.1), (i6 (w64 (9 + r414.1))), .nils])) tyS3 (SetAt.st1 (f := (i6 (w64 (1 + r411.1)))) (by rfl) (by rfl) (SetAt.here _ _) (by rfl) (by rfl) (by first | rfl | omega)) (by rfl) (by rfl) (by simp) rfl (ot 46 (.ptr 1007 0 [0])) (ot 45 (i6 x608.fKey)))
       (OpJs.nil))))))))))) (by rfl) (by rfl) ?_
      exact hjj423 _ h _ _ (mp [] _ _ hB)
     ·have h := ite_f hg606 h
      apply AWp.skip
      exact hjj423 _ h _ _ (mp [] _ _ hB)
   ·rcases bft (decide (0 < (a1.length : Int))) with hg609 | hg609
    ·have h := ite_t hg609 h
     obtain ⟨r610, hr610, h⟩ := bindS h
     refine AWp.region (oc (mv hN (ot 1 (qe_aCert_6 a1)))
      (oc (OpJ.val (v' := (i6 (a1.length : Int))) (by simp) (lenD underlying22 (L rfl) (ot 30 (qe_aCert_6 a1))))
      (oc (gtr (L rfl) (ot 31 (i6 (a1.length : Int))) (ii 0))
      (oc (OpJ.val (v' := .d (.bool true)) (by rw [hg609] <;> rfl) (mv hN (ot 32 (bo (decide (0 < (a1.length : Int)))))))
      (oc (gd 33 (mv hN (ot 0 (pt 0))))
      (oc (gd 33 (OpJ.callFn hB fnOk30 (xmake_Deck_Next_ac r414.2 4 r610 hr610) [(0, 0)] (by kernel_rfl) (L rfl) (by kernel_rfl) (OpdL.cons (ot 34 (pt 0)) (OpdL.cons (ii 4) OpdL.nil))))
      (oc (gd 33 (gtr (L rfl) (ot 35 (i6 r610.1)) (ii 0)))
      (oc (pickT (L rfl) (ot 33 (bo true)) (ot 36 (bo (decide (0 < r610.1)))))
      (OpJs.nil))))))))) (by rfl) (by rfl) ?_
     exact hjj418 _ h _ _ (mp [] _ _ hB)
    ·have h := ite_f hg609 h
     apply rg (c (mv hN (q 1)) rfl (c (OpJ.val (v' := (i6 (a1.length : Int))) (by simp) (lenD underlying22 (L rfl) (q 30))) rfl (c (gtr (L rfl) (q 31) (ii 0)) rfl (c (OpJ.val (v' := .d (.bool false)) (by rw [hg609] <;> rfl) (mv hN (q 32))) rfl (ks 33 (L rfl) (ks 33 (L rfl) (ks 33 (L rfl) (c (pickF (L rfl) (q 33) (Opd.bool false)) rfl cn))))))))
     exact hjj418 _ h _ _ (mp [] _ _ hB)
  ·have h := ite_f hg410 h
   apply AWp.exit
   apply seqQ_e
   obtain rfl := oi h
   exact ⟨(fun hc => by cases hc), rfl, (mp [] _ _ hB)⟩
 ·obtain ⟨rfl, hmat⟩ := hR
  apply blkQ_hit
  apply seqQ_n
  refine AWp.ghost hmat ?_
  apply sr (c (mv hN (q 5)) rfl (c (assign (L rfl) (q 105)) rfl cn))
  apply AWp.ret
  obtain rfl := oi h
  exact rt (Mat.trans (Mat.freezeP (n := 3005) (e := 66) (sz := 5) (es := p409.2.map e_aSigned) (Ts := [(4, (qe_aSigned_5 p409.2))]) (Bs := []) (by rfl) (TwT.cons (x := (.sref 3005 5 0 p409.2.length)) (by rfl) (FrzL.all (by first | rfl | (simp; done) | (simp; omega) | omega)) TwT.nil) TwB.nil) (mp [] [(4, (qe_aSigned_5 p409.2))] [(0, bd 80 (e_xmake_Deck p409.1))] hB)) [(qe_aSigned_5 p409.2)] (Res.tmp (by rfl) (by rfl) Res.nil) rfl
def xlaw22_setting (a0 : xmake_Deck) : Option ((List aCert) × (List aSigned) × Int × xmake_Deck) :=
 (xmake_Deck_Certs a0).bind fun r1 =>
 (xmake_Deck_Signed r1.2 r1.1).bind fun r2 =>
 (xmake_Deck_Next r2.2 14).bind fun r3 =>
 some (r1.1, r2.1, r3.1, r3.2)
theorem xlaw22_setting_ac (a0 : xmake_Deck) (r : (List aCert) × (List aSigned) × Int × xmake_Deck) (h : xlaw22_setting a0 = some r) : AC Tryz.prog 10 [(pt 0)] [(0, (.box 80 (.d (e_xmake_Deck a0))))] (.tup [(.d (.list 6 (r.1.map e_aCert))), (.d (.list 5 (r.2.1.map e_aSigned))), (.d (.int .i64 r.2.2.1))]) [(0, bd 80 (e_xmake_Deck r.2.2.2))] := by
 refine AC.of_code2 Tryz.func10 rfl rfl (Nat.le_of_ble_eq_true (by rfl)) fun B hB hN => ?_
 delta xlaw22_setting at h
 apply sr (c (assign (ltN hN rfl) Opd.nils) rfl (c (assign (ltN hN rfl) Opd.nils) rfl (c (assign (ltN hN rfl) (ii 0)) rfl cn)))
 apply AWp.seq
 obtain ⟨r1, hr1, h⟩ := bindS h
 refine AWp.region (oc (mv hN (ot 0 (pt 0)))
 (oc (OpJ.callFn hB fnOk22 (xmake_Deck_Certs_ac a0 r1 hr1) [(0, 0)] (by kernel_rfl) (ltN hN rfl) (by kernel_rfl) (OpdL.cons (ot 6 (pt 0)) OpdL.nil))
 (oc (assign (ltN hN rfl) (ot 7 (qe_aCert_6 r1.1)))
 (OpJs.nil)))) (by rfl) (by rfl) ?_
 apply seqQ_n
 refine AWp.ghost (mp [] [(0, (pt 0)), (5, (qe_aCert_6 r1.1))] [(0, bd 80 (e_xmake_Deck r1.2))] hB) ?_
 apply AWp.seq
 obtain ⟨r2, hr2, h⟩ := bindS h
 obtain ⟨r3, hr3, h⟩ := bindS h
 refine AWp.region (oc (mv hN (ot 5 (qe_aCert_6 r1.1)))
 (oc (mv hN (ot 0 (pt 0)))
 (oc (mv hN (ot 5 (qe_aCert_6 r1.1)))
 (oc (OpJ.callFn hB fnOk29 (xmake_Deck_Signed_ac r1.2 r1.1 r2 hr2) [(0, 0)] (by kernel_rfl) (ltN hN rfl) (by kernel_rfl) (OpdL.cons (ot 9 (pt 0)) (OpdL.cons (ot 10 (qe_aCert_6 r1.1)) OpdL.nil)))
 (oc (mv hN (ot 0 (pt 0)))
 (oc (OpJ.callFn hB fnOk30 (xmake_Deck_Next_ac r2.2 14 r3 hr3) [(0, 0)] (by kernel_rfl) (ltN hN rfl) (by kernel_rfl) (OpdL.cons (ot 12 (pt 0)) (OpdL.cons (ii 14) OpdL.nil)))
 (oc (assign (ltN hN rfl) (ot 8 (qe_aCert_6 r1.1)))
 (oc (assign (ltN hN rfl) (ot 11 (qe_aSigned_5 r2.1)))
 (oc (assign (ltN hN rfl) (ot 13 (i6 r3.1)))
 (OpJs.nil)))))))))) (by rfl) (by rfl) ?_
 apply seqQ_n
 refine AWp.ghost (mp [] [(2, (qe_aCert_6 r1.1)), (3, (qe_aSigned_5 r2.1)), (4, (i6 r3.1))] [(0, bd 80 (e_xmake_Deck r3.2))] hB) ?_
 apply AWp.ret
 obtain rfl := oi h
 exact rt (kp [(2, _), (3, _), (4, _)] [(0, some _)] hB rfl rfl (by rfl)) [(qe_aCert_6 r1.1), (qe_aSigned_5 r2.1), (i6 r3.1)] (Res.tmp (by rfl) (by rfl) (Res.tmp (by rfl) (by rfl) (Res.tmp (by rfl) (by rfl) Res.nil))) rfl
def xlaw22_anchors (a0 : Int) : Option ((List Int)) :=
 (xmake_Mod a0 4).bind fun r1 =>
 (idx ([([1] : List Int), ([1, 2, 3] : List Int), ([] : List Int), ([1, 2, 3, 4, 5, 6, 7] : List Int)] : List (List Int)) r1).bind fun x2 =>
 some x2
theorem xlaw22_anchors_ac (a0 : Int) (r : (List Int)) (h : xlaw22_anchors a0 = some r) : AC Tryz.prog 12 [(.d (.int .i64 a0))] [] (.d (.list 1 (r.map (eI .i64)))) [] := by
 refine AC.of_code2 Tryz.func12 rfl rfl (Nat.le_of_ble_eq_true (by rfl)) fun B hB hN => ?_
 delta xlaw22_anchors at h
 apply sr (c (assign (ltN hN rfl) Opd.nils) rfl cn)
 obtain ⟨r1, hr1, h⟩ := bindS h
 obtain ⟨x2, hx2, h⟩ := bindS h
 apply sr (c (buildSlice underlying23 tyS3 tyZD3 (by rfl) (by decide) (by decide) (Opds.cons (ii 1) Opds.nil) (by kernel_rfl) (es := ([(.int .i64 1)] : List D)) (by rfl) (by rfl) (by kernel_rfl) (by simp) (ltN hN rfl)) rfl (c (buildSlice underlying23 tyS3 tyZD3 (by rfl) (by decide) (by decide) (Opds.cons (ii 1) (Opds.cons (ii 2) (Opds.cons (ii 3) Opds.nil))) (by kernel_rfl) (es := ([(.int .i64 1), (.int .i64 2), (.int .i64 3)] : List D)) (by rfl) (by rfl) (by kernel_rfl) (by simp) (ltN hN rfl)) rfl (c (buildSlice underlying23 tyS3 tyZD3 (by rfl) (by decide) (by decide) (Opds.cons (ii 1) (Opds.cons (ii 2) (Opds.cons (ii 3) (Opds.cons (ii 4) (Opds.cons (ii 5) (Opds.cons (ii 6) (Opds.cons (ii 7) Opds.nil))))))) (by kernel_rfl) (es := ([(.int .i64 1), (.int .i64 2), (.int .i64 3), (.int .i64 4), (.int .i64 5), (.int .i64 6), (.int .i64 7)] : List D)) (by rfl) (by rfl) (by kernel_rfl) (by simp) (ltN hN rfl)) rfl (c (buildSlice underlying33 tyS23 tyZD23 (by rfl) (by decide) (by decide) (Opds.cons (q 3) (Opds.cons (q 4) (Opds.cons (Opd.co (Co.nils 1) Opd.nils) (Opds.cons (q 5) Opds.nil)))) (by kernel_rfl) (es := ([(.list 1 (([1] : List Int).map (eI .i64))), (.list 1 (([1, 2, 3] : List Int).map (eI .i64))), (.list 1 (([] : List Int).map (eI .i64))), (.list 1 (([1, 2, 3, 4, 5, 6, 7] : List Int).map (eI .i64)))] : List D)) (by rfl) (by rfl) (by kernel_rfl) (by simp) (ltN hN rfl)) rfl (c (mv hN (q 0)) rfl (cg (OpJ.callFn hB fnOk19 (xmake_Mod_ac a0 4 r1 hr1) [] (by kernel_rfl) (ltN hN rfl) (by kernel_rfl) (OpdL.cons (q 7) (OpdL.cons (ii 4) OpdL.nil))) rfl (c (indexD underlying33 tyS23 (idx_some hx2).1 (get_map e_LeIi64 (idx_some hx2).2) (ltN hN rfl) (q 6) (q 8)) rfl (c (loadD tyS23 (by rfl) (by rfl) (ltN hN rfl) (q 9)) rfl (c (assign (ltN hN rfl) (q 10)) rfl cn)))))))))
 apply AWp.ret
 obtain rfl := oi h
 exact rt (kp [(2, _)] [] hB rfl rfl (by rfl)) [(qI_1 x2)] (Res.tmp (by rfl) (by rfl) Res.nil) rfl
def origin_Explain (a0 : (List aCert)) (a1 : (List Int)) (a2 : aSigned) (a3 : Int) : Option (Int) :=
 (origin_Trusted a0 a1 a3).bind fun r1 =>
 (origin_explain a0 r1 a2 a3).bind fun r2 =>
 some r2
theorem origin_Explain_ac (a0 : (List aCert)) (a1 : (List Int)) (a2 : aSigned) (a3 : Int) (r : Int) (h : origin_Explain a0 a1 a2 a3 = some r) : AC Tryz.prog 25 [(.d (.list 6 (a0.map e_aCert))), (.d (.list 1 (a1.map (eI .i64)))), (.d (e_aSigned a2)), (.d (.int .i64 a3))] [(500, (.know (globF 0 [109, 150, 151]))), (501, (.know (globF 1 [98, 152, 153])))] (.d (.int .i64 r)) [(500, some (.know (globF 0 [109, 150, 151]))), (501, some (.know (globF 1 [98, 152, 153])))] := by
 refine AC.of_code2 Tryz.func25 rfl rfl (Nat.le_of_ble_eq_true (by rfl)) fun B hB hN => ?_
 delta origin_Explain at h
 apply sr (cg (OpJ.box hB (nm := 1006) (by decide) (by simp) rfl (ltN hN rfl) (q 2)) rfl (c (assign (ltN hN rfl) (ii 0)) rfl cn))
 apply AWp.seq
 obtain ⟨r1, hr1, h⟩ := bindS h
 obtain ⟨r2, hr2, h⟩ := bindS h
 refine AWp.draws (by kernel_rfl) (oc (mv hN (ot 0 (qe_aCert_6 a0)))
 (oc (mv hN (ot 0 (qe_aCert_6 a0)))
 (oc (mv hN (ot 1 (qI_1 a1)))
 (oc (mv hN (ot 3 (i6 a3)))
 (oc (OpJ.callFn hB fnOk14 (origin_Trusted_ac a0 a1 a3 r1 hr1) [(500, 500), (501, 501)] (by kernel_rfl) (ltN hN rfl) (by kernel_rfl) (OpdL.cons (ot 10 (qe_aCert_6 a0)) (OpdL.cons (ot 11 (qI_1 a1)) (OpdL.cons (ot 12 (i6 a3)) OpdL.nil))))
 (oc (lb hN 66 (.d (e_aSigned a2)) (.d (e_aSigned a2)) tyS66 (At.here _) (ot 6 (pt 1006)))
 (oc (mv hN (ot 3 (i6 a3)))
 (oc (OpJ.callFn hB fnOk41 (origin_explain_ac a0 r1 a2 a3 r2 hr2) [] (by kernel_rfl) (ltN hN rfl) (by kernel_rfl) (OpdL.cons (ot 9 (qe_aCert_6 a0)) (OpdL.cons (ot 13 (.d (.list 1 (r1.map eB)))) (OpdL.cons (ot 14 (.d (e_aSigned a2))) (OpdL.cons (ot 15 (i6 a3)) OpdL.nil)))))
 (oc (assign (ltN hN rfl) (ot 16 (i6 r2)))
 (OpJs.nil)))))))))) (by kernel_rfl) (by rfl) (by rfl) ?_
 apply seqQ_n
 refine AWp.ghost (mp [] [(8, (i6 r2))] [(500, some (.know (globF 0 [109, 150, 151]))), (501, some (.know (globF 1 [98, 152, 153])))] hB) ?_
 apply AWp.ret
 obtain rfl := oi h
 exact rt (kp [(8, _)] [(500, some _), (501, some _)] hB rfl rfl (by rfl)) [(i6 r2)] (Res.tmp (by rfl) (by rfl) Res.nil) rfl
def xlaw22_OriginTimes_L2 (x364 : aSigned) (s369 : Int × (List (aObject × Bool))) : Option ((((List (aObject × Bool)))) ⊕ (Int × (List (aObject × Bool)))) :=
 (if (decide (s369.1 < (x364.fObjects.length : Int))) = true then
 (idx x364.fObjects s369.1).bind fun x376 =>
 some (.inr ((w64 (s369.1 + 1)), (mput keq48 s369.2 x376 true)))
 else
 some (.inl s369.2))
def xlaw22_OriginTimes_L1 (a1 : Int) (r2 : (List aCert) × (List aSigned) × Int × xmake_Deck) (s3 : Int) (s272 : Int × (List (aObject × Bool))) : Option (((Unit) ⊕ ((List (aObject × Bool)))) ⊕ (Int × (List (aObject × Bool)))) :=
 (if (decide (s272.1 < (r2.2.1.length : Int))) = true then
 jn (fun m362 : (List (aObject × Bool)) =>
 some (.inr ((w64 (s272.1 + 1)), m362))) (fun j363 =>
 (idx r2.2.1 s272.1).bind fun x364 =>
 (xlaw22_anchors a1).bind fun r365 =>
 (origin_Explain r2.1 r365 x364 s3).bind fun r366 =>
 (if (r366 != 0) = true then
 j363 s272.2
 else
 (if ((decide (s3 < x364.fFrom)) || (decide (x364.fUntil < s3))) = true then
 some (.inl (.inl ()))
 else
 (loop (xlaw22_OriginTimes_L2 x364) (0, s272.2)).bind fun p374 =>
 j363 p374)))
 else
 some (.inl (.inr s272.2)))
def xlaw22_OriginTimes_L3 (r270 : (List aObject) × Int) (p344 : (List (aObject × Bool))) (s382 : Int) : Option (((Unit) ⊕ (Unit)) ⊕ (Int)) :=
 (if (decide (s382 < (r270.1.length : Int))) = true then
 (idx r270.1 s382).bind fun x392 =>
 (if (!((mget keq48 p344 x392).getD false)) = true then
 some (.inl (.inl ()))
 else
 some (.inr (w64 (s382 + 1))))
 else
 some (.inl (.inr ())))
def xlaw22_OriginTimes_L0 (a1 : Int) (r2 : (List aCert) × (List aSigned) × Int × xmake_Deck) (s3 : Int) : Option (((Unit) ⊕ (Unit)) ⊕ (Int)) :=
 (if (decide (s3 < 20)) = true then
 (xlaw22_anchors a1).bind fun r269 =>
 (origin_Payloads r2.1 r2.2.1 r269 s3).bind fun r270 =>
 (if (r270.2 != 0) = true then
 some (.inl (.inl ()))
 else
 (loop (xlaw22_OriginTimes_L1 a1 r2 s3) (0, ([] : List (aObject × Bool)))).bind fun x379 => match x379 with
 | (.inl _) =>
  some (.inl (.inl ()))
 | (.inr p344) =>
  (if ((p344.length : Int) != (r270.1.length : Int)) = true then
  some (.inl (.inl ()))
  else
  (loop (xlaw22_OriginTimes_L3 r270 p344) 0).bind fun x394 => match x394 with
  | (.inl _) =>
   some (.inl (.inl ()))
  | (.inr _) =>
   some (.inr (w64 (s3 + 1)))))
 else
 some (.inl (.inr ())))
def xlaw22_OriginTimes (a0 : (List Int)) (a1 : Int) : Option (Bool) :=
 (xmake_New a0).bind fun r1 =>
 (xlaw22_setting r1).bind fun r2 =>
 (loop (xlaw22_OriginTimes_L0 a1 r2) 0).bind fun x396 => match x396 with
 | (.inl _) =>
  some false
 | (.inr _) =>
  (xlaw22_awake).bind fun r398 =>
  some r398
theorem xlaw22_OriginTimes_ac (a0 : (List Int)) (a1 : Int) (r : Bool) (h : xlaw22_OriginTimes a0 a1 = some r) : AC Tryz.prog 7 [(.d (.list 1 (a0.map (eI .i64)))), (.d (.int .i64 a1))] [(500, (.know (globF 0 [109, 150, 151]))), (501, (.know (globF 1 [98, 152, 153])))] (.d (.bool r)) [(500, some (.know (globF 0 [109, 150, 151]))), (501, some (.know (globF 1 [98, 152, 153])))] := by
 refine ac2 Tryz.func7 rfl rfl fun B hB hN L => ?_
 delta xlaw22_OriginTimes at h
 apply sr (c (assign (L rfl) (Opd.bool false)) rfl cn)
 apply AWp.seq
 obtain ⟨r1, hr1, h⟩ := bindS h
 refine AWp.region (oc (mv hN (ot 0 (qI_1 a0)))
 (oc (OpJ.callFn hB fnOk11 (xmake_New_ac a0 r1 hr1) [(1005, 100000)] (by kernel_rfl) (L rfl) (by kernel_rfl) (OpdL.cons (ot 19 (qI_1 a0)) OpdL.nil))
 (oc (assign (L rfl) (ot 20 (pt 100000)))
 (OpJs.nil)))) (by rfl) (by rfl) ?_
 apply seqQ_n
 refine AWp.ghost (mp [] [(1, (i6 a1)), (5, (pt 100000))] [(500, some (.know (globF 0 [109, 150, 151]))), (501, some (.know (globF 1 [98, 152, 153]))), (100000, bd 80 (e_xmake_Deck r1))] hB) ?_
 apply AWp.seq
 obtain ⟨r2, hr2, h⟩ := bindS h
 refine AWp.region (oc (mv hN (ot 5 (pt 100000)))
 (oc (OpJ.callFn hB fnOk10 (xlaw22_setting_ac r1 r2 hr2) [(0, 100000)] (by kernel_rfl) (L rfl) (by kernel_rfl) (OpdL.cons (ot 22 (pt 100000)) OpdL.nil))
 (oc (mv hN (ot 23 (.tup [(qe_aCert_6 r2.1), (qe_aSigned_5 r2.2.1), (i6 r2.2.2.1)])))
 (oc (extract (v := (qe_aCert_6 r2.1)) (by rfl) rfl (L rfl) (ot 21 (.tup [(qe_aCert_6 r2.1), (qe_aSigned_5 r2.2.1), (i6 r2.2.2.1)])))
 (oc (extract (v := (qe_aSigned_5 r2.2.1)) (by rfl) rfl (L rfl) (ot 21 (.tup [(qe_aCert_6 r2.1), (qe_aSigned_5 r2.2.1), (i6 r2.2.2.1)])))
 (oc (extract (v := (i6 r2.2.2.1)) (by rfl) rfl (L rfl) (ot 21 (.tup [(qe_aCert_6 r2.1), (qe_aSigned_5 r2.2.1), (i6 r2.2.2.1)])))
 (oc (assign (L rfl) (ot 24 (qe_aCert_6 r2.1)))
 (oc (assign (L rfl) (ot 25 (qe_aSigned_5 r2.2.1)))
 (oc (assign (L rfl) (ot 26 (i6 r2.2.2.1)))
 (OpJs.nil)))))))))) (by rfl) (by rfl) ?_
 apply seqQ_n
 refine AWp.ghost (mp [] [(1, (i6 a1)), (6, (qe_aCert_6 r2.1)), (7, (qe_aSigned_5 r2.2.1))] [(500, some (.know (globF 0 [109, 150, 151]))), (501, some (.know (globF 1 [98, 152, 153])))] hB) ?_
 apply AWp.seq
 apply sr (c (mv hN (ii 0)) rfl cn)
 apply AWp.block
 obtain ⟨x396, hx397, h⟩ := bindS h
 refine lg (xlaw22_OriginTimes_L0 a1 r2) (fun s3 : Int => ([(1, (i6 a1)), (6, (qe_aCert_6 r2.1)), (7, (qe_aSigned_5 r2.2.1)), (27, (i6 s3))] : EL)) (fun s3 : Int => ([(500, some (.know (globF 0 [109, 150, 151]))), (501, some (.know (globF 1 [98, 152, 153])))] : OL)) (fun (x : (Unit) ⊕ (Unit)) e E' O' => match x with | (.inl _p) => e = .ret ∧ Mat B E' O' ([(4, (bo false))] : EL) ([(500, some (.know (globF 0 [109, 150, 151]))), (501, some (.know (globF 1 [98, 152, 153])))] : OL) | (.inr _p) => e = .exit 0 ∧ Mat B E' O' ([] : EL) ([(500, some (.know (globF 0 [109, 150, 151]))), (501, some (.know (globF 1 [98, 152, 153])))] : OL)) hx397 (mp [] _ _ hB) (fun s3 y h => ?_) (fun e E' O' hR => ?_)
 ·unfold xlaw22_OriginTimes_L0 at h
  apply sr (c (lss (L rfl) (q 27) (ii 20)) rfl cn)
  apply AWp.seq
  apply AWp.cond rfl <;> intro hg268
  ·have h := ite_t hg268 h
   apply AWp.skip
   apply seqQ_n
   apply AWp.seq
   apply AWp.block
   apply sr (c (mv hN (q 27)) rfl (c (assign (L rfl) (q 29)) rfl cn))
   apply AWp.seq
   obtain ⟨r269, hr269, h⟩ := bindS h
   obtain ⟨r270, hr270, h⟩ := bindS h
   refine AWp.region (oc (mv hN (ot 6 (qe_aCert_6 r2.1)))
    (oc (mv hN (ot 7 (qe_aSigned_5 r2.2.1)))
    (oc (mv hN (ot 1 (i6 a1)))
    (oc (cf hB fnOk12 (xlaw22_anchors_ac a1 r269 hr269) (L rfl) (OpdL.cons (ot 33 (i6 a1)) OpdL.nil))
    (oc (mv hN (ot 9 (i6 s3)))
    (oc (OpJ.callFn hB fnOk16 (origin_Payloads_ac r2.1 r2.2.1 r269 s3 r270 hr270) [(500, 500), (501, 501)] (by kernel_rfl) (L rfl) (by kernel_rfl) (OpdL.cons (ot 31 (qe_aCert_6 r2.1)) (OpdL.cons (ot 32 (qe_aSigned_5 r2.2.1)) (OpdL.cons (ot 34 (qI_1 r269)) (OpdL.cons (ot 35 (i6 s3)) OpdL.nil)))))
    (oc (mv hN (ot 36 (.tup [(qe_aObject_6 r270.1), (i6 r270.2)])))
    (oc (extract (v := (qe_aObject_6 r270.1)) (by rfl) rfl (L rfl) (ot 30 (.tup [(qe_aObject_6 r270.1), (i6 r270.2)])))
    (oc (extract (v := (i6 r270.2)) (by rfl) rfl (L rfl) (ot 30 (.tup [(qe_aObject_6 r270.1), (i6 r270.2)])))
    (oc (assign (L rfl) (ot 37 (qe_aObject_6 r270.1)))
    (oc (assign (L rfl) (ot 38 (i6 r270.2)))
    (OpJs.nil)))))))))))) (by rfl) (by rfl) ?_
   apply seqQ_n
   refine AWp.ghost (mp [] [(1, (i6 a1)), (6, (qe_aCert_6 r2.1)), (7, (qe_aSigned_5 r2.2.1)), (9, (i6 s3)), (10, (qe_aObject_6 r270.1)), (11, (i6 r270.2)), (27, (i6 s3))] [(500, some (.know (globF 0 [109, 150, 151]))), (501, some (.know (globF 1 [98, 152, 153])))] hB) ?_
   apply AWp.seq
   apply sr (c (mv hN (q 11)) rfl (c (neqI (L rfl) (q 39) (ii 0)) rfl cn))
   apply AWp.cond rfl <;> intro hg271
   ·have h := ite_t hg271 h
    apply sr (c (assign (L rfl) (Opd.bool false)) rfl cn)
    apply AWp.ret
    apply seqQ_r
    apply blkQ_r
    apply seqQ_r
    obtain rfl := oi h
    exact ⟨(fun hc => by cases hc), rfl, (mp [] _ _ hB)⟩
   ·have h := ite_f hg271 h
    apply AWp.skip
    apply seqQ_n
    apply sr (cg (OpJ.mkmapQ hB (nm := 1041) (by decide) (L rfl)) rfl (c (assign (L rfl) (q 41)) rfl cn))
    apply AWp.seq
    apply sr (c (mv hN (q 7)) rfl (c (OpJ.val (v' := (i6 (r2.2.1.length : Int))) (by simp) (lenD underlying26 (L rfl) (q 42))) rfl (c (mv hN (ii 0)) rfl cn)))
    apply AWp.block
    obtain ⟨x379, hx380, h⟩ := bindS h
    refine lg (xlaw22_OriginTimes_L1 a1 r2 s3) (fun s272 : Int × (List (aObject × Bool)) => ([(1, (i6 a1)), (6, (qe_aCert_6 r2.1)), (7, (qe_aSigned_5 r2.2.1)), (9, (i6 s3)), (10, (qe_aObject_6 r270.1)), (12, (.mref 1041)), (27, (i6 s3)), (42, (qe_aSigned_5 r2.2.1)), (43, (i6 (r2.2.1.length : Int))), (44, (i6 s272.1))] : EL)) (fun s272 : Int × (List (aObject × Bool)) => ([(500, some (.know (globF 0 [109, 150, 151]))), (501, some (.know (globF 1 [98, 152, 153]))), (1041, some (.blk (mapQ (mpairs e_aObject eB s272.2))))] : OL)) (fun (x : (Unit) ⊕ ((List (aObject × Bool)))) e E' O' => match x with | (.inl _p) => e = .ret ∧ Mat B E' O' ([(4, (bo false))] : EL) ([(500, some (.know (globF 0 [109, 150, 151]))), (501, some (.know (globF 1 [98, 152, 153])))] : OL) | (.inr p344) => e = .exit 2 ∧ Mat B E' O' ([(1, (i6 a1)), (6, (qe_aCert_6 r2.1)), (7, (qe_aSigned_5 r2.2.1)), (10, (qe_aObject_6 r270.1)), (12, (.mref 1041)), (27, (i6 s3))] : EL) ([(500, some (.know (globF 0 [109, 150, 151]))), (501, some (.know (globF 1 [98, 152, 153]))), (1041, some (.blk (mapQ (mpairs e_aObject eB p344))))] : OL)) hx380 (mp [] _ _ hB) (fun s272 y h => ?_) (fun e E' O' hR => ?_)
    ·unfold xlaw22_OriginTimes_L1 at h
     apply sr (c (lss (L rfl) (q 44) (q 43)) rfl cn)
     apply AWp.seq
     apply AWp.cond rfl <;> intro hg345
     ·have h := ite_t hg345 h
      apply AWp.skip
      apply seqQ_n
      apply AWp.seq
      refine AWp.cut h (fun m362 : (List (aObject × Bool)) => ([(1, (i6 a1)), (6, (qe_aCert_6 r2.1)), (7, (qe_aSigned_5 r2.2.1)), (9, (i6 s3)), (10, (qe_aObject_6 r270.1)), (12, (.mref 1041)), (27, (i6 s3)), (42, (qe_aSigned_5 r2.2.1)), (43, (i6 (r2.2.1.length : Int))), (44, (i6 s272.1))] : EL)) (fun m362 : (List (aObject × Bool)) => ([(500, some (.know (globF 0 [109, 150, 151]))), (501, some (.know (globF 1 [98, 152, 153]))), (1041, some (.blk (mapQ (mpairs e_aObject eB m362))))] : OL)) (fun m362 h E' O' hmat => ?_) (fun j363 hjj363 h => ?_)
      ·apply seqQ_n
       refine AWp.ghost hmat ?_
       apply rg (c (add6 (L rfl) (q 44) (ii 1)) rfl (c (mv hN (q 75)) rfl cn))
       obtain rfl := oi h
       exact ⟨rfl, (mp [] _ _ hB)⟩
      ·apply AWp.block
       obtain ⟨x364, hx364, h⟩ := bindS h
       apply sr (c (indexD underlying26 tyS66 (idx_some hx364).1 (get_map e_aSigned (idx_some hx364).2) (L rfl) (q 42) (q 44)) rfl (c (loadD tyS66 (by rfl) (by rfl) (L rfl) (q 46)) rfl (cg (alloc hB tyZ66 (nm := 1014) (by decide) (L rfl)) rfl (cg (sB tyS66 (q 14) (q 47)) rfl cn))))
       apply AWp.seq
       apply AWp.seq
       obtain ⟨r365, hr365, h⟩ := bindS h
       obtain ⟨r366, hr366, h⟩ := bindS h
       refine AWp.draws (by kernel_rfl) (oc (mv hN (ot 6 (qe_aCert_6 r2.1)))
        (oc (mv hN (ot 1 (i6 a1)))
        (oc (cf hB fnOk12 (xlaw22_anchors_ac a1 r365 hr365) (L rfl) (OpdL.cons (ot 49 (i6 a1)) OpdL.nil))
        (oc (lb hN 66 (.d (e_aSigned x364)) (.d (e_aSigned x364)) tyS66 (At.here _) (ot 14 (pt 1014)))
        (oc (mv hN (ot 9 (i6 s3)))
        (oc (OpJ.callFn hB fnOk25 (origin_Explain_ac r2.1 r365 x364 s3 r366 hr366) [(500, 500), (501, 501)] (by kernel_rfl) (L rfl) (by kernel_rfl) (OpdL.cons (ot 48 (qe_aCert_6 r2.1)) (OpdL.cons (ot 50 (qI_1 r365)) (OpdL.cons (ot 51 (.d (e_aSigned x364))) (OpdL.cons (ot 52 (i6 s3)) OpdL.nil)))))
        (oc (neqI (L rfl) (ot 53 (i6 r366)) (ii 0))
        (OpJs.nil)))))))) (by kernel_rfl) (by rfl) (by rfl) ?_
       apply seqQ_n
       refine AWp.ghost (mp [] [(1, (i6 a1)), (6, (qe_aCert_6 r2.1)), (7, (qe_aSigned_5 r2.2.1)), (9, (i6 s3)), (10, (qe_aObject_6 r270.1)), (12, (.mref 1041)), (14, (pt 1014)), (27, (i6 s3)), (42, (qe_aSigned_5 r2.2.1)), (43, (i6 (r2.2.1.length : Int))), (44, (i6 s272.1)), (54, (bo (r366 != 0)))] [(500, some (.know (globF 0 [109, 150, 151]))), (501, some (.know (globF 1 [98, 152, 153]))), (1014, bd 66 (e_aSigned x364)), (1041, some (.blk (mapQ (mpairs e_aObject eB s272.2))))] hB) ?_
       apply AWp.cond rfl <;> intro hg367
       ·have h := ite_t hg367 h
        apply AWp.exit
        apply seqQ_e
        apply blkQ_hit
        exact hjj363 _ h _ _ (mp [] _ _ hB)
       ·have h := ite_f hg367 h
        apply AWp.skip
        apply seqQ_n
        apply AWp.seq
        apply sr (c (fo 1014 2 [2] hN underlying66 2 tyS3 (q 14)) rfl (c (la hN 66 tyS3 (q 55)) rfl (c (mv hN (q 9)) rfl (c (gtr (L rfl) (q 56) (q 57)) rfl (c (mv hN (q 58)) rfl (c (oq hN 59 (fo 1014 3 [3] hN underlying66 3 tyS3 (q 14)) (OptL.keep (by rfl) OptL.nil) (GuardV.plain _)) rfl (c (oq hN 59 (la hN 66 tyS3 (q 60)) (OptL.opt OptL.nil) (GuardV.plain _)) rfl (c (oq hN 59 (mv hN (q 9)) (OptL.keep (by rfl) OptL.nil) (GuardV.plain _)) rfl (c (oq hN 59 (lss (L rfl) (q 61) (q 62)) (OptL.opt (OptL.opt OptL.nil)) (GuardV.plain _)) rfl (c (pickOr rfl (L rfl) (q 59) (q 63)) rfl cn))))))))))
        apply AWp.cond rfl <;> intro hg368
        ·have h := ite_t hg368 h
         apply sr (c (assign (L rfl) (Opd.bool false)) rfl cn)
         apply AWp.ret
         apply seqQ_r
         apply blkQ_r
         apply seqQ_r
         obtain rfl := oi h
         exact ⟨(fun hc => by cases hc), rfl, (mp [] _ _ hB)⟩
        ·have h := ite_f hg368 h
         apply AWp.skip
         apply seqQ_n
         apply sr (c (fo 1014 4 [4] hN underlying66 4 tyS38 (q 14)) rfl (c (la hN 66 tyS38 (q 65)) rfl (c (OpJ.val (v' := (i6 (x364.fObjects.length : Int))) (by simp) (lenD underlying38 (L rfl) (q 66))) rfl (c (mv hN (ii 0)) rfl cn))))
         apply AWp.block
         obtain ⟨p374, hx378, h⟩ := bindS h
         refine lg (xlaw22_OriginTimes_L2 x364) (fun s369 : Int × (List (aObject × Bool)) => ([(1, (i6 a1)), (6, (qe_aCert_6 r2.1)), (7, (qe_aSigned_5 r2.2.1)), (9, (i6 s3)), (10, (qe_aObject_6 r270.1)), (12, (.mref 1041)), (27, (i6 s3)), (42, (qe_aSigned_5 r2.2.1)), (43, (i6 (r2.2.1.length : Int))), (44, (i6 s272.1)), (66, (qe_aObject_6 x364.fObjects)), (67, (i6 (x364.fObjects.length : Int))), (68, (i6 s369.1))] : EL)) (fun s369 : Int × (List (aObject × Bool)) => ([(500, some (.know (globF 0 [109, 150, 151]))), (501, some (.know (globF 1 [98, 152, 153]))), (1041, some (.blk (mapQ (mpairs e_aObject eB s369.2))))] : OL)) (fun (p374 : ((List (aObject × Bool)))) e E' O' => e = .exit 4 ∧ Mat B E' O' ([(1, (i6 a1)), (6, (qe_aCert_6 r2.1)), (7, (qe_aSigned_5 r2.2.1)), (9, (i6 s3)), (10, (qe_aObject_6 r270.1)), (12, (.mref 1041)), (27, (i6 s3)), (42, (qe_aSigned_5 r2.2.1)), (43, (i6 (r2.2.1.length : Int))), (44, (i6 s272.1))] : EL) ([(500, some (.know (globF 0 [109, 150, 151]))), (501, some (.know (globF 1 [98, 152, 153]))), (1041, some (.blk (mapQ (mpairs e_aObject eB p374))))] : OL)) hx378 (mp [] _ _ hB) (fun s369 y h => ?_) (fun e E' O' hR => ?_)
         ·unfold xlaw22_OriginTimes_L2 at h
          apply sr (c (lss (L rfl) (q 68) (q 67)) rfl cn)
          apply AWp.seq
          apply AWp.cond rfl <;> intro hg375
          ·have h := ite_t hg375 h
           apply AWp.skip
           apply seqQ_n
           apply AWp.seq
           apply AWp.block
           obtain ⟨x376, hx376, h⟩ := bindS h
           apply sr (c (indexD underlying38 tyS48 (idx_some hx376).1 (get_map e_aObject (idx_some hx376).2) (L rfl) (q 66) (q 68)) rfl (c (loadD tyS48 (by rfl) (by rfl) (L rfl) (q 70)) rfl (cg (alloc hB tyZ48 (nm := 1016) (by decide) (L rfl)) rfl (cg (sB tyS48 (q 16) (q 71)) rfl cn))))
           apply rg (c (mv hN (q 12)) rfl (c (lb hN 48 _ _ tyS48 (At.here _) (q 16)) rfl (cg (OpJ.mputQ (g := eB) (v := true) (l := s369.2) (k := x376) tyU71 underlying48 keyEq48 (q 72) (q 73) (Opd.bool true)) rfl cn)))
           apply blkQ_n
           apply seqQ_n
           apply rg (c (add6 (L rfl) (q 68) (ii 1)) rfl (c (mv hN (q 74)) rfl cn))
           obtain rfl := oi h
           exact ⟨rfl, (mp [] _ _ hB)⟩
          ·have h := ite_f hg375 h
           apply AWp.exit
           apply seqQ_e
           obtain rfl := oi h
           exact ⟨(fun hc => by cases hc), rfl, (mp [] _ _ hB)⟩
         ·obtain ⟨rfl, hmat⟩ := hR
          apply blkQ_hit
          apply blkQ_n
          exact hjj363 _ h _ _ (Mat.trans hmat (mp [] _ _ hB))
     ·have h := ite_f hg345 h
      apply AWp.exit
      apply seqQ_e
      obtain rfl := oi h
      exact ⟨(fun hc => by cases hc), rfl, (mp [] _ _ hB)⟩
    ·rcases x379 with _ | p344
     ·obtain ⟨rfl, hmat⟩ := hR
      apply blkQ_r
      apply seqQ_r
      apply blkQ_r
      apply seqQ_r
      obtain rfl := oi h
      exact ⟨(fun hc => by cases hc), rfl, (Mat.trans hmat (mp [] _ _ hB))⟩
     ·obtain ⟨rfl, hmat⟩ := hR
      apply blkQ_hit
      apply seqQ_n
      refine AWp.ghost hmat ?_
      apply AWp.seq
      apply sr (c (mv hN (q 12)) rfl (cg (OpJ.val (v' := (i6 (p344.length : Int))) (by simp [mpairs]) (OpJ.mlenQ (ps := mpairs e_aObject eB p344) tyU71 (L rfl) (q 76))) rfl (c (mv hN (q 10)) rfl (c (OpJ.val (v' := (i6 (r270.1.length : Int))) (by simp) (lenD underlying38 (L rfl) (q 78))) rfl (c (neqI (L rfl) (q 77) (q 79)) rfl cn)))))
      apply AWp.cond rfl <;> intro hg381
      ·have h := ite_t hg381 h
       apply sr (c (assign (L rfl) (Opd.bool false)) rfl cn)
       apply AWp.ret
       apply seqQ_r
       apply blkQ_r
       apply seqQ_r
       obtain rfl := oi h
       exact ⟨(fun hc => by cases hc), rfl, (mp [] _ _ hB)⟩
      ·have h := ite_f hg381 h
       apply AWp.skip
       apply seqQ_n
       apply sr (c (mv hN (q 10)) rfl (c (OpJ.val (v' := (i6 (r270.1.length : Int))) (by simp) (lenD underlying38 (L rfl) (q 81))) rfl (c (mv hN (ii 0)) rfl cn)))
       apply AWp.block
       obtain ⟨x394, hx395, h⟩ := bindS h
       refine lg (xlaw22_OriginTimes_L3 r270 p344) (fun s382 : Int => ([(1, (i6 a1)), (6, (qe_aCert_6 r2.1)), (7, (qe_aSigned_5 r2.2.1)), (12, (.mref 1041)), (27, (i6 s3)), (81, (qe_aObject_6 r270.1)), (82, (i6 (r270.1.length : Int))), (83, (i6 s382))] : EL)) (fun s382 : Int => ([(500, some (.know (globF 0 [109, 150, 151]))), (501, some (.know (globF 1 [98, 152, 153]))), (1041, some (.blk (mapQ (mpairs e_aObject eB p344))))] : OL)) (fun (x : (Unit) ⊕ (Unit)) e E' O' => match x with | (.inl _p) => e = .ret ∧ Mat B E' O' ([(4, (bo false))] : EL) ([(500, some (.know (globF 0 [109, 150, 151]))), (501, some (.know (globF 1 [98, 152, 153])))] : OL) | (.inr _p) => e = .exit 6 ∧ Mat B E' O' ([(1, (i6 a1)), (6, (qe_aCert_6 r2.1)), (7, (qe_aSigned_5 r2.2.1)), (27, (i6 s3))] : EL) ([(500, some (.know (globF 0 [109, 150, 151]))), (501, some (.know (globF 1 [98, 152, 153])))] : OL)) hx395 (mp [] _ _ hB) (fun s382 y h => ?_) (fun e E' O' hR => ?_)
       ·unfold xlaw22_OriginTimes_L3 at h
        apply sr (c (lss (L rfl) (q 83) (q 82)) rfl cn)
        apply AWp.seq
        apply AWp.cond rfl <;> intro hg391
        ·have h := ite_t hg391 h
         apply AWp.skip
         apply seqQ_n
         apply AWp.seq
         apply AWp.block
         obtain ⟨x392, hx392, h⟩ := bindS h
         apply sr (c (indexD underlying38 tyS48 (idx_some hx392).1 (get_map e_aObject (idx_some hx392).2) (L rfl) (q 81) (q 83)) rfl (c (loadD tyS48 (by rfl) (by rfl) (L rfl) (q 85)) rfl (cg (alloc hB tyZ48 (nm := 1018) (by decide) (L rfl)) rfl (cg (sB tyS48 (q 18) (q 86)) rfl cn))))
         apply sr (c (mv hN (q 12)) rfl (c (lb hN 48 _ _ tyS48 (At.here _) (q 18)) rfl (cg (OpJ.mlookQ (g := eB) (l := p344) (k := x392) tyU71 underlying48 keyEq48 (z := false) tyZD4 (L rfl) (q 87) (q 88)) rfl (c (OpJ.not (L rfl) (q 89)) rfl cn))))
         apply AWp.cond rfl <;> intro hg393
         ·have h := ite_t hg393 h
          apply sr (c (assign (L rfl) (Opd.bool false)) rfl cn)
          apply AWp.ret
          apply blkQ_r
          apply seqQ_r
          obtain rfl := oi h
          exact ⟨(fun hc => by cases hc), rfl, (mp [] _ _ hB)⟩
         ·have h := ite_f hg393 h
          apply AWp.skip
          apply blkQ_n
          apply seqQ_n
          apply rg (c (add6 (L rfl) (q 83) (ii 1)) rfl (c (mv hN (q 91)) rfl cn))
          obtain rfl := oi h
          exact ⟨rfl, (mp [] _ _ hB)⟩
        ·have h := ite_f hg391 h
         apply AWp.exit
         apply seqQ_e
         obtain rfl := oi h
         exact ⟨(fun hc => by cases hc), rfl, (mp [] _ _ hB)⟩
       ·rcases x394 with _ | _
        ·obtain ⟨rfl, hmat⟩ := hR
         apply blkQ_r
         apply blkQ_r
         apply seqQ_r
         obtain rfl := oi h
         exact ⟨(fun hc => by cases hc), rfl, (Mat.trans hmat (mp [] _ _ hB))⟩
        ·obtain ⟨rfl, hmat⟩ := hR
         apply blkQ_hit
         apply blkQ_n
         apply seqQ_n
         refine AWp.ghost hmat ?_
         apply rg (c (add6 (L rfl) (q 27) (ii 1)) rfl (c (mv hN (q 92)) rfl cn))
         obtain rfl := oi h
         exact ⟨rfl, (mp [] _ _ hB)⟩
  ·have h := ite_f hg268 h
   apply AWp.exit
   apply seqQ_e
   obtain rfl := oi h
   exact ⟨(fun hc => by cases hc), rfl, (mp [] _ _ hB)⟩
 ·rcases x396 with _ | _
  ·obtain ⟨rfl, hmat⟩ := hR
   apply blkQ_r
   apply seqQ_r
   obtain rfl := oi h
   exact rt (Mat.trans hmat (mp [] [(4, (bo false))] [(500, some (.know (globF 0 [109, 150, 151]))), (501, some (.know (globF 1 [98, 152, 153])))] hB)) [(bo false)] (Res.tmp (by rfl) (by rfl) Res.nil) rfl
  ·obtain ⟨rfl, hmat⟩ := hR
   apply blkQ_hit
   apply seqQ_n
   refine AWp.ghost hmat ?_
   apply AWp.seq
   obtain ⟨r398, hr398, h⟩ := bindS h
   refine AWp.region (oc (OpJ.callFn hB fnOk9 (xlaw22_awake_ac  r398 hr398) [(500, 500), (501, 501)] (by kernel_rfl) (L rfl) (by kernel_rfl) OpdL.nil)
    (oc (assign (L rfl) (ot 93 (bo r398)))
    (OpJs.nil))) (by rfl) (by rfl) ?_
   apply seqQ_n
   refine AWp.ghost (mp [] [(4, (bo r398))] [(500, some (.know (globF 0 [109, 150, 151]))), (501, some (.know (globF 1 [98, 152, 153])))] hB) ?_
   apply AWp.ret
   obtain rfl := oi h
   exact rt (kp [(4, _)] [(500, some _), (501, some _)] hB rfl rfl (by rfl)) [(bo r398)] (Res.tmp (by rfl) (by rfl) Res.nil) rfl
end
end Go.Proofs.YtgfoabcickjphaaGreatDoor
