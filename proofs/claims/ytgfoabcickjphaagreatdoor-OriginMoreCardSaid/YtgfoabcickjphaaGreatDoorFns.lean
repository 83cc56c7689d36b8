/- Printed by gen.py: the Go functions as plain functions, and that the code does what they say. -/
import Derived.Test.YtgfoabcickjphaaGreatDoorChecked
import Derived.Test.YtgfoabcickjphaaGreatDoorVcYB
import Derived.Test.YtgfoabcickjphaaGreatDoorVcZ
import Derived.KernelRfl
import Derived.Test.YtgfoabcickjphaaGreatDoorVcMD
import Derived.Test.YtgfoabcickjphaaGreatDoorVcMQ
import Derived.Test.YtgfoabcickjphaaGreatDoorVcSG
import Derived.Test.YtgfoabcickjphaaGreatDoorFnsD
import Derived.Test.YtgfoabcickjphaaGreatDoorExt
import Derived.Test.YtgfoabcickjphaaGreatDoorVcGl
import Derived.Test.YtgfoabcickjphaaGreatDoorVcWS
namespace Go.Proofs.YtgfoabcickjphaaGreatDoor
open Go Go.Vc
open Tryz
set_option maxHeartbeats 4000000
set_option maxRecDepth 100000
noncomputable def exchangepointmake_Deck_Signed_L2 (a1 : (List api_Cert)) (m422 : Int × exchangepointmake_Deck) (s547 : Int × api_Object × exchangepointmake_Deck) : Option (((api_Object × exchangepointmake_Deck)) ⊕ (Int × api_Object × exchangepointmake_Deck)) :=
 (if (decide (s547.1 < (a1.length : Int))) = true then
 (idx a1 s547.1).bind fun x584 =>
 (exchangepointref21_Prefixes x584.fResources).bind fun r585 =>
 jn (fun m588 : Bool × exchangepointmake_Deck =>
 jn (fun m593 : api_Object × exchangepointmake_Deck =>
 some (.inr ((w64 (s547.1 + 1)), m593.1, m593.2))) (fun j594 =>
 (if m588.1 = true then
 (exchangepointmake_Deck_Next m588.2 (r585.length : Int)).bind fun r596 =>
 (idx r585 r596.1).bind fun x597 =>
 j594 ((api_Object.mk x597 x597.fLen s547.2.1.fASN), r596.2)
 else
 j594 (s547.2.1, m588.2)))) (fun j589 =>
 (if ((x584.fKey == m422.1) && (decide (0 < (r585.length : Int)))) = true then
 (exchangepointmake_Deck_Next s547.2.2 2).bind fun r599 =>
 j589 ((r599.1 == 0), r599.2)
 else
 j589 (false, s547.2.2)))
 else
 some (.inl (s547.2.1, s547.2.2)))
noncomputable def exchangepointmake_Deck_Signed_L1 (a1 : (List api_Cert)) (r412 : Int × exchangepointmake_Deck) (m422 : Int × exchangepointmake_Deck) (s425 : Int × (List api_Object) × exchangepointmake_Deck) : Option ((((List api_Object) × exchangepointmake_Deck)) ⊕ (Int × (List api_Object) × exchangepointmake_Deck)) :=
 (if (decide (0 < s425.1)) = true then
 (exchangepointmake_Deck_Object s425.2.2).bind fun r546 =>
 (loop (exchangepointmake_Deck_Signed_L2 a1 m422) (0, r546.1, r546.2)).bind fun p582 =>
 chk (decide ((s425.2.1 ++ [(api_Object.mk p582.1.fPrefix p582.1.fMax r412.1)]).length ≤ LIM)) <|
 some (.inr ((w64 (s425.1 - 1)), (s425.2.1 ++ [(api_Object.mk p582.1.fPrefix p582.1.fMax r412.1)]), p582.2))
 else
 some (.inl (s425.2.1, s425.2.2)))
noncomputable def exchangepointmake_Deck_Signed_L0 (a1 : (List api_Cert)) (s2 : Int × (List api_Signed) × exchangepointmake_Deck) : Option (((exchangepointmake_Deck × (List api_Signed))) ⊕ (Int × (List api_Signed) × exchangepointmake_Deck)) :=
 (if (decide (0 < s2.1)) = true then
 (exchangepointmake_Deck_Next s2.2.2 7).bind fun r411 =>
 (exchangepointmake_Deck_Next r411.2 5).bind fun r412 =>
 (exchangepointmake_Deck_Next r412.2 3).bind fun r413 =>
 (exchangepointmake_Deck_Next r413.2 9).bind fun r414 =>
 jn (fun m417 : Bool × exchangepointmake_Deck =>
 jn (fun m422 : Int × exchangepointmake_Deck =>
 (exchangepointmake_Deck_Next m422.2 4).bind fun r424 =>
 (loop (exchangepointmake_Deck_Signed_L1 a1 r412 m422) (r424.1, ([] : List api_Object), r424.2)).bind fun p544 =>
 chk (decide ((s2.2.1 ++ [(api_Signed.mk m422.1 r412.1 r413.1 (w64 (9 + r414.1)) p544.1)]).length ≤ LIM)) <|
 some (.inr ((w64 (s2.1 - 1)), (s2.2.1 ++ [(api_Signed.mk m422.1 r412.1 r413.1 (w64 (9 + r414.1)) p544.1)]), p544.2))) (fun j423 =>
 (if m417.1 = true then
 (exchangepointmake_Deck_Next m417.2 (a1.length : Int)).bind fun r607 =>
 (idx a1 r607.1).bind fun x608 =>
 j423 (x608.fKey, r607.2)
 else
 j423 ((w64 (1 + r411.1)), m417.2)))) (fun j418 =>
 (if (decide (0 < (a1.length : Int))) = true then
 (exchangepointmake_Deck_Next r414.2 4).bind fun r610 =>
 j418 ((decide (0 < r610.1)), r610.2)
 else
 j418 (false, r414.2)))
 else
 some (.inl (s2.2.2, s2.2.1)))
noncomputable def exchangepointmake_Deck_Signed (a0 : exchangepointmake_Deck) (a1 : (List api_Cert)) : Option ((List api_Signed) × exchangepointmake_Deck) :=
 (exchangepointmake_Deck_Next a0 6).bind fun r1 =>
 (loop (exchangepointmake_Deck_Signed_L0 a1) (r1.1, ([] : List api_Signed), r1.2)).bind fun p409 =>
 some (p409.2, p409.1)
theorem exchangepointmake_Deck_Signed_ac (a0 : exchangepointmake_Deck) (a1 : (List api_Cert)) (r : (List api_Signed) × exchangepointmake_Deck) (h : exchangepointmake_Deck_Signed a0 a1 = some r) : AC Tryz.prog 29 [(pt 0), (.d (.list 6 (a1.map e_api_Cert)))] [(0, (.box 80 (.d (e_exchangepointmake_Deck a0))))] (.d (.list 5 (r.1.map e_api_Signed))) [(0, bd 80 (e_exchangepointmake_Deck r.2))] := by
 refine AC.of_code2 Tryz.func29 rfl rfl (Nat.le_of_ble_eq_true (by rfl)) fun B hB hN => ?_
 have L {d : Nat} (h : Nat.blt d Tryz.f29.ntmps = true) : d < B.N := ltN hN h
 delta exchangepointmake_Deck_Signed at h
 apply sr (c (OpJ.assign (L rfl) Opd.nils) rfl cn)
 apply sr (c (OpJ.assign (L rfl) Opd.nils) rfl cn)
 apply AWp.seq
 apply AWp.seq
 obtain ⟨r1, hr1, h⟩ := bindS h
 refine AWp.region (oc (mv hN (ot 0 (pt 0)))
 (oc (OpJ.callFn hB fnOk30 (exchangepointmake_Deck_Next_ac a0 6 r1 hr1) [(0, 0)] (by kernel_rfl) (L rfl) (by kernel_rfl) (OpdL.cons (ot 13 (pt 0)) (OpdL.cons (Opd.int .i64 (6)) OpdL.nil)))
 (oc (OpJ.assign (L rfl) (ot 14 (i6 r1.1)))
 (OpJs.nil)))) (by rfl) (by rfl) ?_
 apply seqQ_n
 refine AWp.ghost (mp [] [(0, (pt 0)), (1, (qe_api_Cert_6 a1)), (5, .nils), (6, (i6 r1.1))] [(0, bd 80 (e_exchangepointmake_Deck r1.2))] hB) ?_
 apply AWp.block
 obtain ⟨p409, hx612, h⟩ := bindS h
 refine lg (exchangepointmake_Deck_Signed_L0 a1) (fun s2 : Int × (List api_Signed) × exchangepointmake_Deck => ([(0, (pt 0)), (1, (qe_api_Cert_6 a1)), (5, (.sref 3005 5 0 s2.2.1.length)), (6, (i6 s2.1))] : EL)) (fun s2 : Int × (List api_Signed) × exchangepointmake_Deck => ([(0, bd 80 (e_exchangepointmake_Deck s2.2.2)), (3005, some (we_api_Signed_66_5 s2.2.1))] : OL)) (fun (p409 : (exchangepointmake_Deck × (List api_Signed))) e E' O' => e = .exit 0 ∧ Mat B E' O' ([(5, (.sref 3005 5 0 p409.2.length))] : EL) ([(0, bd 80 (e_exchangepointmake_Deck p409.1)), (3005, some (we_api_Signed_66_5 p409.2))] : OL)) hx612 (Mat.trans (Mat.beginP (n := 3005) (e := 66) (sz := 5) (Ts := [(5, (.sref 3005 5 0 0))]) (Bs := []) hB (by decide) (by rfl) (by decide) (TwT.cons (x := .nils) (by rfl) (Tw.leaf ⟨rfl, rfl⟩) TwT.nil) TwB.nil) (mp [] _ _ hB)) (fun s2 y h => ?_) (fun e E' O' hR => ?_)
 ·unfold exchangepointmake_Deck_Signed_L0 at h
  apply AWp.seq
  apply sr (c (mv hN (q 6)) rfl (c (OpJ.gtr (L rfl) (q 15) (Opd.int .i64 (0))) rfl cn))
  refine AWp.cond rfl (fun hg410 => ?_) (fun hg410 => ?_)
  ·replace h := ite_t hg410 h
   apply AWp.skip
   apply seqQ_n
   apply AWp.seq
   apply AWp.block
   apply AWp.seq
   obtain ⟨r411, hr411, h⟩ := bindS h
   obtain ⟨r412, hr412, h⟩ := bindS h
   obtain ⟨r413, hr413, h⟩ := bindS h
   obtain ⟨r414, hr414, h⟩ := bindS h
   refine AWp.region (oc (mv hN (ot 0 (pt 0)))
    (oc (OpJ.callFn hB fnOk30 (exchangepointmake_Deck_Next_ac s2.2.2 7 r411 hr411) [(0, 0)] (by kernel_rfl) (L rfl) (by kernel_rfl) (OpdL.cons (ot 19 (pt 0)) (OpdL.cons (Opd.int .i64 (7)) OpdL.nil)))
    (oc (add6 (L rfl) (Opd.int .i64 (1)) (ot 20 (i6 r411.1)))
    (oc (mv hN (ot 0 (pt 0)))
    (oc (OpJ.callFn hB fnOk30 (exchangepointmake_Deck_Next_ac r411.2 5 r412 hr412) [(0, 0)] (by kernel_rfl) (L rfl) (by kernel_rfl) (OpdL.cons (ot 22 (pt 0)) (OpdL.cons (Opd.int .i64 (5)) OpdL.nil)))
    (oc (mv hN (ot 0 (pt 0)))
    (oc (OpJ.callFn hB fnOk30 (exchangepointmake_Deck_Next_ac r412.2 3 r413 hr413) [(0, 0)] (by kernel_rfl) (L rfl) (by kernel_rfl) (OpdL.cons (ot 24 (pt 0)) (OpdL.cons (Opd.int .i64 (3)) OpdL.nil)))
    (oc (mv hN (ot 0 (pt 0)))
    (oc (OpJ.callFn hB fnOk30 (exchangepointmake_Deck_Next_ac r413.2 9 r414 hr414) [(0, 0)] (by kernel_rfl) (L rfl) (by kernel_rfl) (OpdL.cons (ot 26 (pt 0)) (OpdL.cons (Opd.int .i64 (9)) OpdL.nil)))
    (oc (add6 (L rfl) (Opd.int .i64 (9)) (ot 27 (i6 r414.1)))
    (oc (OpJ.build (places := [(0, 1), (1, 1), (2, 1), (3, 1), (4, 1)]) ⟨underlying66, fun w => by kernel_rfl⟩ tyZS66 (Opds.cons (ot 21 (i6 (w64 (1 + r411.1)))) (Opds.cons (ot 23 (i6 r412.1)) (Opds.cons (ot 25 (i6 r413.1)) (Opds.cons (ot 28 (i6 (w64 (9 + r414.1)))) Opds.nil)))) (by kernel_rfl) (r := (.st [(i6 (w64 (1 + r411.1))), (i6 r412.1), (i6 r413.1), (i6 (w64 (9 + r414.1))), .nils])) (by rfl) (L rfl))
    (oc (OpJ.alloc hB tyZ66 (nm := 1007) (by decide) (L rfl))
    (oc (OpJ.storeB (bt := 66) (c := (.st [(i6 0), (i6 0), (i6 0), (i6 0), .nils])) (v := (.st [(i6 (w64 (1 + r411.1))), (i6 r412.1), (i6 r413.1), (i6 (w64 (9 + r414.1))), .nils])) (c' := (.st [(i6 (w64 (1 + r411.1))), (i6 r412.1), (i6 r413.1), (i6 (w64 (9 + r414.1))), .nils])) tyS66 (SetAt.here _ _) (by rfl) (by rfl) (by simp) rfl (ot 7 (pt 1007)) (ot 29 (.st [(i6 (w64 (1 + r411.1))), (i6 r412.1), (i6 r413.1), (i6 (w64 (9 + r414.1))), .nils])))
    (OpJs.nil)))))))))))))) (by rfl) (by rfl) ?_
   apply seqQ_n
   refine AWp.ghost (mp [] [(0, (pt 0)), (1, (qe_api_Cert_6 a1)), (5, (.sref 3005 5 0 s2.2.1.length)), (6, (i6 s2.1)), (7, (pt 1007))] [(0, bd 80 (e_exchangepointmake_Deck r414.2)), (1007, some (.box 66 (.st [(i6 (w64 (1 + r411.1))), (i6 r412.1), (i6 r413.1), (i6 (w64 (9 + r414.1))), .nils]))), (3005, some (we_api_Signed_66_5 s2.2.1))] hB) ?_
   apply AWp.seq
   apply AWp.seq
   refine AWp.cut h (fun m417 : Bool × exchangepointmake_Deck => ([(0, (pt 0)), (1, (qe_api_Cert_6 a1)), (5, (.sref 3005 5 0 s2.2.1.length)), (6, (i6 s2.1)), (7, (pt 1007)), (37, (bo m417.1))] : EL)) (fun m417 : Bool × exchangepointmake_Deck => ([(0, bd 80 (e_exchangepointmake_Deck m417.2)), (1007, some (.box 66 (.st [(i6 (w64 (1 + r411.1))), (i6 r412.1), (i6 r413.1), (i6 (w64 (9 + r414.1))), .nils]))), (3005, some (we_api_Signed_66_5 s2.2.1))] : OL)) (fun m417 h E' O' hmat => ?_) (fun j418 hjj418 h => ?_)
   ·apply seqQ_n
    refine AWp.ghost hmat ?_
    refine AWp.cut h (fun m422 : Int × exchangepointmake_Deck => ([(0, (pt 0)), (1, (qe_api_Cert_6 a1)), (5, (.sref 3005 5 0 s2.2.1.length)), (6, (i6 s2.1)), (7, (pt 1007))] : EL)) (fun m422 : Int × exchangepointmake_Deck => ([(0, bd 80 (e_exchangepointmake_Deck m422.2)), (1007, some (.box 66 (.st [(i6 m422.1), (i6 r412.1), (i6 r413.1), (i6 (w64 (9 + r414.1))), .nils]))), (3005, some (we_api_Signed_66_5 s2.2.1))] : OL)) (fun m422 h E' O' hmat => ?_) (fun j423 hjj423 h => ?_)
    ·apply seqQ_n
     refine AWp.ghost hmat ?_
     apply AWp.seq
     apply AWp.seq
     obtain ⟨r424, hr424, h⟩ := bindS h
     refine AWp.region (oc (mv hN (ot 0 (pt 0)))
      (oc (OpJ.callFn hB fnOk30 (exchangepointmake_Deck_Next_ac m422.2 4 r424 hr424) [(0, 0)] (by kernel_rfl) (L rfl) (by kernel_rfl) (OpdL.cons (ot 47 (pt 0)) (OpdL.cons (Opd.int .i64 (4)) OpdL.nil)))
      (oc (OpJ.assign (L rfl) (ot 48 (i6 r424.1)))
      (OpJs.nil)))) (by rfl) (by rfl) ?_
     apply seqQ_n
     refine AWp.ghost (mp [] [(0, (pt 0)), (1, (qe_api_Cert_6 a1)), (5, (.sref 3005 5 0 s2.2.1.length)), (6, (i6 s2.1)), (7, (pt 1007)), (8, (i6 r424.1))] [(0, bd 80 (e_exchangepointmake_Deck r424.2)), (1007, some (.box 66 (.st [(i6 m422.1), (i6 r412.1), (i6 r413.1), (i6 (w64 (9 + r414.1))), .nils]))), (3005, some (we_api_Signed_66_5 s2.2.1))] hB) ?_
     apply AWp.block
     obtain ⟨p544, hx604, h⟩ := bindS h
     refine lg (exchangepointmake_Deck_Signed_L1 a1 r412 m422) (fun s425 : Int × (List api_Object) × exchangepointmake_Deck => ([(0, (pt 0)), (1, (qe_api_Cert_6 a1)), (5, (.sref 3005 5 0 s2.2.1.length)), (6, (i6 s2.1)), (7, (pt 1007)), (8, (i6 s425.1))] : EL)) (fun s425 : Int × (List api_Object) × exchangepointmake_Deck => ([(0, bd 80 (e_exchangepointmake_Deck s425.2.2)), (1007, some (.box 66 (.st [(i6 m422.1), (i6 r412.1), (i6 r413.1), (i6 (w64 (9 + r414.1))), (.sref 13074 6 0 s425.2.1.length)]))), (3005, some (we_api_Signed_66_5 s2.2.1)), (13074, some (we_api_Object_48_6 s425.2.1))] : OL)) (fun (p544 : ((List api_Object) × exchangepointmake_Deck)) e E' O' => e = .exit 2 ∧ Mat B E' O' ([(0, (pt 0)), (1, (qe_api_Cert_6 a1)), (5, (.sref 3005 5 0 s2.2.1.length)), (6, (i6 s2.1)), (7, (pt 1007))] : EL) ([(0, bd 80 (e_exchangepointmake_Deck p544.2)), (1007, some (.box 66 (.st [(i6 m422.1), (i6 r412.1), (i6 r413.1), (i6 (w64 (9 + r414.1))), (.sref 13074 6 0 p544.1.length)]))), (3005, some (we_api_Signed_66_5 s2.2.1)), (13074, some (we_api_Object_48_6 p544.1))] : OL)) hx604 (Mat.trans (Mat.beginP (n := 13074) (e := 48) (sz := 6) (Ts := []) (Bs := [(1007, some (.box 66 (.st [(i6 m422.1), (i6 r412.1), (i6 r413.1), (i6 (w64 (9 + r414.1))), (.sref 13074 6 0 0)])))]) hB (by decide) (by rfl) (by decide) TwT.nil (TwB.cons (x := (.st [(i6 m422.1), (i6 r412.1), (i6 r413.1), (i6 (w64 (9 + r414.1))), .nils])) (by rfl) (Tw.st (TwL.cons (Tw.same _) (TwL.cons (Tw.same _) (TwL.cons (Tw.same _) (TwL.cons (Tw.same _) (TwL.cons (Tw.leaf ⟨rfl, rfl⟩) TwL.nil)))))) TwB.nil)) (mp [] _ _ hB)) (fun s425 y h => ?_) (fun e E' O' hR => ?_)
     ·unfold exchangepointmake_Deck_Signed_L1 at h
      apply AWp.seq
      apply sr (c (mv hN (q 8)) rfl (c (OpJ.gtr (L rfl) (q 49) (Opd.int .i64 (0))) rfl cn))
      refine AWp.cond rfl (fun hg545 => ?_) (fun hg545 => ?_)
      ·replace h := ite_t hg545 h
       apply AWp.skip
       apply seqQ_n
       apply AWp.seq
       apply AWp.block
       apply AWp.seq
       obtain ⟨r546, hr546, h⟩ := bindS h
       refine AWp.region (oc (mv hN (ot 0 (pt 0)))
        (oc (OpJ.callFn hB fnOk57 (exchangepointmake_Deck_Object_ac s425.2.2 r546 hr546) [(0, 0)] (by kernel_rfl) (L rfl) (by kernel_rfl) (OpdL.cons (ot 53 (pt 0)) OpdL.nil))
        (oc (OpJ.alloc hB tyZ48 (nm := 1009) (by decide) (L rfl))
        (oc (OpJ.storeB (bt := 48) (c := (.d (.st [(.st [(.st [(.bool false), (.int .u64 0), (.int .u64 0)]), (.int .i64 0)]), (.int .i64 0), (.int .i64 0)]))) (v := (.d (e_api_Object r546.1))) (c' := (.d (e_api_Object r546.1))) tyS48 (SetAt.here _ _) (by rfl) (by rfl) (by simp) rfl (ot 9 (pt 1009)) (ot 54 (.d (e_api_Object r546.1))))
        (OpJs.nil))))) (by rfl) (by rfl) ?_
       apply seqQ_n
       refine AWp.ghost (mp [] [(0, (pt 0)), (1, (qe_api_Cert_6 a1)), (5, (.sref 3005 5 0 s2.2.1.length)), (6, (i6 s2.1)), (7, (pt 1007)), (8, (i6 s425.1)), (9, (pt 1009))] [(0, bd 80 (e_exchangepointmake_Deck r546.2)), (1007, some (.box 66 (.st [(i6 m422.1), (i6 r412.1), (i6 r413.1), (i6 (w64 (9 + r414.1))), (.sref 13074 6 0 s425.2.1.length)]))), (1009, bd 48 (e_api_Object r546.1)), (3005, some (we_api_Signed_66_5 s2.2.1)), (13074, some (we_api_Object_48_6 s425.2.1))] hB) ?_
       apply AWp.seq
       apply sr (c (mv hN (q 1)) rfl (c (OpJ.val (v' := (i6 (a1.length : Int))) (by simp) (OpJ.lenD underlying22 (L rfl) (q 55))) rfl (c (mv hN (Opd.int .i64 (0))) rfl cn)))
       apply AWp.block
       obtain ⟨p582, hx601, h⟩ := bindS h
       refine lg (exchangepointmake_Deck_Signed_L2 a1 m422) (fun s547 : Int × api_Object × exchangepointmake_Deck => ([(0, (pt 0)), (1, (qe_api_Cert_6 a1)), (5, (.sref 3005 5 0 s2.2.1.length)), (6, (i6 s2.1)), (7, (pt 1007)), (8, (i6 s425.1)), (9, (pt 1009)), (55, (qe_api_Cert_6 a1)), (56, (i6 (a1.length : Int))), (57, (i6 s547.1))] : EL)) (fun s547 : Int × api_Object × exchangepointmake_Deck => ([(0, bd 80 (e_exchangepointmake_Deck s547.2.2)), (1007, some (.box 66 (.st [(i6 m422.1), (i6 r412.1), (i6 r413.1), (i6 (w64 (9 + r414.1))), (.sref 13074 6 0 s425.2.1.length)]))), (1009, bd 48 (e_api_Object s547.2.1)), (3005, some (we_api_Signed_66_5 s2.2.1)), (13074, some (we_api_Object_48_6 s425.2.1))] : OL)) (fun (p582 : (api_Object × exchangepointmake_Deck)) e E' O' => e = .exit 4 ∧ Mat B E' O' ([(0, (pt 0)), (1, (qe_api_Cert_6 a1)), (5, (.sref 3005 5 0 s2.2.1.length)), (6, (i6 s2.1)), (7, (pt 1007)), (8, (i6 s425.1)), (9, (pt 1009))] : EL) ([(0, bd 80 (e_exchangepointmake_Deck p582.2)), (1007, some (.box 66 (.st [(i6 m422.1), (i6 r412.1), (i6 r413.1), (i6 (w64 (9 + r414.1))), (.sref 13074 6 0 s425.2.1.length)]))), (1009, bd 48 (e_api_Object p582.1)), (3005, some (we_api_Signed_66_5 s2.2.1)), (13074, some (we_api_Object_48_6 s425.2.1))] : OL)) hx601 (mp [] _ _ hB) (fun s547 y h => ?_) (fun e E' O' hR => ?_)
       ·unfold exchangepointmake_Deck_Signed_L2 at h
        apply sr (c (OpJ.lss (L rfl) (q 57) (q 56)) rfl cn)
        apply AWp.seq
        refine AWp.cond rfl (fun hg583 => ?_) (fun hg583 => ?_)
        ·replace h := ite_t hg583 h
         apply AWp.skip
         apply seqQ_n
         apply AWp.seq
         apply AWp.block
         obtain ⟨x584, hx584, h⟩ := bindS h
         apply sr (c (OpJ.indexD underlying22 tyS59 (idx_some hx584).1 (get_map e_api_Cert (idx_some hx584).2) (L rfl) (q 55) (q 57)) rfl (c (OpJ.loadD tyS59 (by rfl) (by rfl) (L rfl) (q 59)) rfl (cg (OpJ.alloc hB tyZ59 (nm := 1011) (by decide) (L rfl)) rfl (cg (sB tyS59 (q 11) (q 60)) rfl cn))))
         obtain ⟨r585, hr585, h⟩ := bindS h
         apply sr (c (fo 1011 4 [4] hN underlying59 4 tyS57 (q 11)) rfl (c (la hN 59 tyS57 (q 61)) rfl (cg (cf hB fnOk58 (exchangepointref21_Prefixes_ac x584.fResources r585 hr585) (L rfl) (OpdL.cons (q 62) OpdL.nil)) rfl (c (OpJ.assign (L rfl) (q 63)) rfl cn))))
         apply AWp.seq
         refine AWp.cut h (fun m588 : Bool × exchangepointmake_Deck => ([(0, (pt 0)), (1, (qe_api_Cert_6 a1)), (5, (.sref 3005 5 0 s2.2.1.length)), (6, (i6 s2.1)), (7, (pt 1007)), (8, (i6 s425.1)), (9, (pt 1009)), (12, (qe_api_Prefix_4 r585)), (55, (qe_api_Cert_6 a1)), (56, (i6 (a1.length : Int))), (57, (i6 s547.1)), (78, (bo m588.1))] : EL)) (fun m588 : Bool × exchangepointmake_Deck => ([(0, bd 80 (e_exchangepointmake_Deck m588.2)), (1007, some (.box 66 (.st [(i6 m422.1), (i6 r412.1), (i6 r413.1), (i6 (w64 (9 + r414.1))), (.sref 13074 6 0 s425.2.1.length)]))), (1009, bd 48 (e_api_Object s547.2.1)), (3005, some (we_api_Signed_66_5 s2.2.1)), (13074, some (we_api_Object_48_6 s425.2.1))] : OL)) (fun m588 h E' O' hmat => ?_) (fun j589 hjj589 h => ?_)
         ·apply seqQ_n
          refine AWp.ghost hmat ?_
          refine AWp.cut h (fun m593 : api_Object × exchangepointmake_Deck => ([(0, (pt 0)), (1, (qe_api_Cert_6 a1)), (5, (.sref 3005 5 0 s2.2.1.length)), (6, (i6 s2.1)), (7, (pt 1007)), (8, (i6 s425.1)), (9, (pt 1009)), (55, (qe_api_Cert_6 a1)), (56, (i6 (a1.length : Int))), (57, (i6 s547.1))] : EL)) (fun m593 : api_Object × exchangepointmake_Deck => ([(0, bd 80 (e_exchangepointmake_Deck m593.2)), (1007, some (.box 66 (.st [(i6 m422.1), (i6 r412.1), (i6 r413.1), (i6 (w64 (9 + r414.1))), (.sref 13074 6 0 s425.2.1.length)]))), (1009, bd 48 (e_api_Object m593.1)), (3005, some (we_api_Signed_66_5 s2.2.1)), (13074, some (we_api_Object_48_6 s425.2.1))] : OL)) (fun m593 h E' O' hmat => ?_) (fun j594 hjj594 h => ?_)
          ·apply blkQ_n
           apply seqQ_n
           refine AWp.ghost hmat ?_
           apply rg (c (add6 (L rfl) (q 57) (Opd.int .i64 (1))) rfl (c (mv hN (q 91)) rfl cn))
           obtain rfl := oi h
           exact ⟨rfl, (mp [] _ _ hB)⟩
          ·refine AWp.cond rfl (fun hg595 => ?_) (fun hg595 => ?_)
           ·replace h := ite_t hg595 h
            apply AWp.seq
            obtain ⟨r596, hr596, h⟩ := bindS h
            obtain ⟨x597, hx597, h⟩ := bindS h
            refine AWp.region (oc (mv hN (ot 12 (qe_api_Prefix_4 r585)))
             (oc (mv hN (ot 0 (pt 0)))
             (oc (mv hN (ot 12 (qe_api_Prefix_4 r585)))
             (oc (OpJ.val (v' := (i6 (r585.length : Int))) (by simp) (OpJ.lenD underlying50 (L rfl) (ot 81 (qe_api_Prefix_4 r585))))
             (oc (OpJ.callFn hB fnOk30 (exchangepointmake_Deck_Next_ac m588.2 (r585.length : Int) r596 hr596) [(0, 0)] (by kernel_rfl) (L rfl) (by kernel_rfl) (OpdL.cons (ot 80 (pt 0)) (OpdL.cons (ot 82 (i6 (r585.length : Int))) OpdL.nil)))
             (oc (OpJ.indexD (el := (e_api_Prefix x597)) underlying50 tyS46 (idx_some hx597).1 (get_map e_api_Prefix (idx_some hx597).2) (L rfl) (ot 79 (qe_api_Prefix_4 r585)) (ot 83 (i6 r596.1)))
             (oc (OpJ.loadD tyS46 (by rfl) (by rfl) (L rfl) (ot 84 (.dptr (e_api_Prefix x597))))
             (oc (ov (.ptr 1009 0 [0]) (fp hN underlying48 0 tyS46 (.box 48 (.d (e_api_Object s547.2.1))) (ot 9 (pt 1009))))
             (oc (OpJ.storeB (bt := 48) (c := (.d (e_api_Object s547.2.1))) (v := (.d (e_api_Prefix x597))) (c' := (.d (.st [(e_api_Prefix x597), (.int .i64 s547.2.1.fMax), (.int .i64 s547.2.1.fASN)]))) tyS46 (SetAt.dst1 (f := (e_api_Prefix s547.2.1.fPrefix)) (f' := (e_api_Prefix x597)) (by rfl) (by rfl) (SetAt.here _ _) (by rfl) (by rfl) (by first | rfl | omega)) (by rfl) (by rfl) (by simp) rfl (ot 86 (.ptr 1009 0 [0])) (ot 85 (.d (e_api_Prefix x597))))
             (OpJs.nil)))))))))) (by rfl) (by rfl) ?_
            apply seqQ_n
            refine AWp.ghost (mp [] [(0, (pt 0)), (1, (qe_api_Cert_6 a1)), (5, (.sref 3005 5 0 s2.2.1.length)), (6, (i6 s2.1)), (7, (pt 1007)), (8, (i6 s425.1)), (9, (pt 1009)), (55, (qe_api_Cert_6 a1)), (56, (i6 (a1.length : Int))), (57, (i6 s547.1))] [(0, bd 80 (e_exchangepointmake_Deck r596.2)), (1007, some (.box 66 (.st [(i6 m422.1), (i6 r412.1), (i6 r413.1), (i6 (w64 (9 + r414.1))), (.sref 13074 6 0 s425.2.1.length)]))), (1009, bd 48 (.st [(e_api_Prefix x597), (.int .i64 s547.2.1.fMax), (.int .i64 s547.2.1.fASN)])), (3005, some (we_api_Signed_66_5 s2.2.1)), (13074, some (we_api_Object_48_6 s425.2.1))] hB) ?_
            apply rg (c (fo 1009 0 [0] hN underlying48 0 tyS46 (q 9)) rfl (c (fo 1009 3 [0, 1] hN underlying46 3 tyS3 (q 87)) rfl (c (lb hN 48 _ _ tyS3 (At.dst1 (by rfl) (by rfl) (ad _) (by first | rfl | omega)) (q 88)) rfl (c (fo 1009 4 [1] hN underlying48 4 tyS3 (q 9)) rfl (cg (OpJ.storeB tyS3 (SetAt.dst1 (by rfl) (by rfl) (SetAt.here _ _) (by rfl) (by rfl) (by first | rfl | omega)) (by rfl) (by rfl) (by simp) rfl (q 90) (q 89)) rfl cn)))))
            exact hjj594 _ h _ _ (mp [] _ _ hB)
           ·replace h := ite_f hg595 h
            apply AWp.skip
            exact hjj594 _ h _ _ (mp [] _ _ hB)
         ·rcases bft ((x584.fKey == m422.1) && (decide (0 < (r585.length : Int)))) with hg598 | hg598
          ·replace h := ite_t hg598 h
           obtain ⟨r599, hr599, h⟩ := bindS h
           refine AWp.region (oc (ov (.ptr 1011 0 [0]) (fp hN underlying59 0 tyS3 (.box 59 (.d (e_api_Cert x584))) (ot 11 (pt 1011))))
            (oc (lb hN 59 (.d (e_api_Cert x584)) (i6 x584.fKey) tyS3 (ad (.int .i64 x584.fKey)) (ot 64 (.ptr 1011 0 [0])))
            (oc (ov (.ptr 1007 0 [0]) (fp hN underlying66 0 tyS3 (.box 66 (.st [(i6 m422.1), (i6 r412.1), (i6 r413.1), (i6 (w64 (9 + r414.1))), (.sref 13074 6 0 s425.2.1.length)])) (ot 7 (pt 1007))))
            (oc (lb hN 66 (.st [(i6 m422.1), (i6 r412.1), (i6 r413.1), (i6 (w64 (9 + r414.1))), (.sref 13074 6 0 s425.2.1.length)]) (i6 m422.1) tyS3 (At.st1 (f := (i6 m422.1)) (by rfl) (by rfl) (At.here _) (by first | rfl | omega)) (ot 66 (.ptr 1007 0 [0])))
            (oc (OpJ.eqlI (L rfl) (ot 65 (i6 x584.fKey)) (ot 67 (i6 m422.1)))
            (oc (mv hN (ot 68 (bo (x584.fKey == m422.1))))
            (oc (op hN 69 (qe_api_Prefix_4 r585) (mv hN (ot 12 (qe_api_Prefix_4 r585))) (OptL.keep rfl OptL.nil) (GuardV.plain _))
            (oc (op hN 69 (i6 (r585.length : Int)) (OpJ.val (v' := (i6 (r585.length : Int))) (by simp) (OpJ.lenD underlying50 (L rfl) (ot 70 (qe_api_Prefix_4 r585)))) (OptL.opt OptL.nil) (GuardV.plain _))
            (oc (op hN 69 (bo (decide (0 < (r585.length : Int)))) (OpJ.gtr (L rfl) (ot 71 (i6 (r585.length : Int))) (Opd.int .i64 (0))) (OptL.opt OptL.nil) (GuardV.plain _))
            (oc (OpJ.pickAnd rfl (L rfl) (ot 69 (bo (x584.fKey == m422.1))) (ot 72 (.opt ((x584.fKey == m422.1) == true) (bo (decide (0 < (r585.length : Int)))))))
            (oc (OpJ.val (v' := .d (.bool true)) (by rw [hg598] <;> rfl) (mv hN (ot 73 (bo ((x584.fKey == m422.1) && (decide (0 < (r585.length : Int))))))))
            (oc (gd 74 (mv hN (ot 0 (pt 0))))
            (oc (gd 74 (OpJ.callFn hB fnOk30 (exchangepointmake_Deck_Next_ac s547.2.2 2 r599 hr599) [(0, 0)] (by kernel_rfl) (L rfl) (by kernel_rfl) (OpdL.cons (ot 75 (pt 0)) (OpdL.cons (Opd.int .i64 (2)) OpdL.nil))))
            (oc (gd 74 (OpJ.eqlI (L rfl) (ot 76 (i6 r599.1)) (Opd.int .i64 (0))))
            (oc (OpJ.pickT (L rfl) (ot 74 (bo true)) (ot 77 (bo (r599.1 == 0))))
            (OpJs.nil)))))))))))))))) (by rfl) (by rfl) ?_
           exact hjj589 _ h _ _ (mp [] _ _ hB)
          ·replace h := ite_f hg598 h
           apply rg (c (fo 1011 0 [0] hN underlying59 0 tyS3 (q 11)) rfl (c (la hN 59 tyS3 (q 64)) rfl (c (fo 1007 0 [0] hN underlying66 0 tyS3 (q 7)) rfl (c (lb hN 66 _ (i6 m422.1) tyS3 (At.st1 (f := (i6 m422.1)) (by rfl) (by rfl) (At.here _) (by first | rfl | omega)) (q 66)) rfl (c (OpJ.eqlI (L rfl) (q 65) (q 67)) rfl (c (mv hN (q 68)) rfl (c (oq hN 69 (mv hN (q 12)) (OptL.keep (by rfl) OptL.nil) (GuardV.plain _)) rfl (c (oq hN 69 (OpJ.val (v' := (i6 (r585.length : Int))) (by simp) (OpJ.lenD underlying50 (L rfl) (q 70))) (OptL.opt OptL.nil) (GuardV.plain _)) rfl (c (oq hN 69 (OpJ.gtr (L rfl) (q 71) (Opd.int .i64 (0))) (OptL.opt OptL.nil) (GuardV.plain _)) rfl (c (OpJ.pickAnd rfl (L rfl) (q 69) (q 72)) rfl (c (OpJ.val (v' := .d (.bool false)) (by rw [hg598] <;> rfl) (mv hN (q 73))) rfl (cg (sU 74 (L rfl)) rfl (cg (sU 74 (L rfl)) rfl (cg (sU 74 (L rfl)) rfl (c (OpJ.pickF (L rfl) (q 74) (Opd.bool false)) rfl cn)))))))))))))))
           exact hjj589 _ h _ _ (mp [] _ _ hB)
        ·replace h := ite_f hg583 h
         apply AWp.exit
         apply seqQ_e
         obtain rfl := oi h
         exact ⟨(fun hc => by cases hc), rfl, (mp [] _ _ hB)⟩
       ·obtain ⟨rfl, hmat⟩ := hR
        apply blkQ_hit
        apply seqQ_n
        refine AWp.ghost hmat ?_
        apply sr (c (fo 1007 1 [1] hN underlying66 1 tyS3 (q 7)) rfl (c (lb hN 66 _ (i6 r412.1) tyS3 (At.st1 (f := (i6 r412.1)) (by rfl) (by rfl) (At.here _) (by first | rfl | omega)) (q 92)) rfl (c (fo 1009 5 [2] hN underlying48 5 tyS3 (q 9)) rfl (cg (OpJ.storeB tyS3 (SetAt.dst1 (by rfl) (by rfl) (SetAt.here _ _) (by rfl) (by rfl) (by first | rfl | omega)) (by rfl) (by rfl) (by simp) rfl (q 94) (q 93)) rfl cn))))
        obtain ⟨hc602, h⟩ := chk_some h
        apply rg (c (fo 1007 4 [4] hN underlying66 4 tyS38 (q 7)) rfl (c (lb hN 66 _ (.sref 13074 6 0 s425.2.1.length) tyS38 (At.st1 (f := (.sref 13074 6 0 s425.2.1.length)) (by rfl) (by rfl) (At.here _) (by first | rfl | omega)) (q 95)) rfl (c (lb hN 48 _ _ tyS48 (At.here _) (q 9)) rfl (c (OpJ.buildSlice underlying38 tyS48 tyZD48 (by rfl) (by decide) (by decide) (Opds.cons (q 97) Opds.nil) (by kernel_rfl) (es := ([(.st [(e_api_Prefix p582.1.fPrefix), (.int .i64 p582.1.fMax), (.int .i64 r412.1)])] : List D)) (by rfl) (by rfl) (by kernel_rfl) (by simp) (L rfl)) rfl (cg (apd hB underlying38 tyE48 1099 e_api_Object s425.2.1 [(api_Object.mk p582.1.fPrefix p582.1.fMax r412.1)] hc602 (L rfl) (q 96) (q 98)) rfl (c (fo 1007 4 [4] hN underlying66 4 tyS38 (q 7)) rfl (cg (OpJ.storeB (c' := (.st [(i6 m422.1), (i6 r412.1), (i6 r413.1), (i6 (w64 (9 + r414.1))), (.sref 1099 6 0 ((s425.2.1 ++ [(api_Object.mk p582.1.fPrefix p582.1.fMax r412.1)]).length))])) tyS38 (SetAt.st1 (f := (.sref 13074 6 0 s425.2.1.length)) (by rfl) (by rfl) (SetAt.here _ _) (by rfl) (by rfl) (by first | rfl | omega)) (by rfl) (by rfl) (by simp) rfl (q 100) (q 99)) rfl cn)))))))
        apply blkQ_n
        apply seqQ_n
        apply rg (c (mv hN (q 8)) rfl (c (sub6 (L rfl) (q 51) (Opd.int .i64 (1))) rfl (c (OpJ.assign (L rfl) (q 52)) rfl cn)))
        obtain rfl := oi h
        exact ⟨rfl, (mp [(13074, 1099)] _ _ hB)⟩
      ·replace h := ite_f hg545 h
       apply AWp.exit
       apply seqQ_e
       obtain rfl := oi h
       exact ⟨(fun hc => by cases hc), rfl, (mp [] _ _ hB)⟩
     ·obtain ⟨rfl, hmat⟩ := hR
      apply blkQ_hit
      apply seqQ_n
      refine AWp.ghost hmat ?_
      refine AWp.ghost (Mat.freezeP (n := 13074) (e := 48) (sz := 6) (es := p544.1.map e_api_Object) (Ts := []) (Bs := [(1007, some (.box 66 (.st [(i6 m422.1), (i6 r412.1), (i6 r413.1), (i6 (w64 (9 + r414.1))), (qe_api_Object_6 p544.1)])))]) (by rfl) TwT.nil (TwB.cons (x := (.st [(i6 m422.1), (i6 r412.1), (i6 r413.1), (i6 (w64 (9 + r414.1))), (.sref 13074 6 0 p544.1.length)])) (by rfl) (Tw.st (TwL.cons (Tw.same _) (TwL.cons (Tw.same _) (TwL.cons (Tw.same _) (TwL.cons (Tw.same _) (TwL.cons (FrzL.all (by first | rfl | (simp; done) | (simp; omega) | omega)) TwL.nil)))))) TwB.nil)) ?_
      obtain ⟨hc605, h⟩ := chk_some h
      apply rg (c (mv hN (q 5)) rfl (c (lb hN 66 _ _ tyS66 (At.here _) (q 7)) rfl (c (OpJ.buildSlice underlying26 tyS66 tyZD66 (by rfl) (by decide) (by decide) (Opds.cons (Opd.co (Co.st (CoL.cons (Co.d _) (CoL.cons (Co.d _) (CoL.cons (Co.d _) (CoL.cons (Co.d _) (CoL.cons (Co.d _) CoL.nil)))))) (q 102)) Opds.nil) (by kernel_rfl) (es := ([(.st [(.int .i64 m422.1), (.int .i64 r412.1), (.int .i64 r413.1), (.int .i64 (w64 (9 + r414.1))), (.list 6 (p544.1.map e_api_Object))])] : List D)) (by rfl) (by rfl) (by kernel_rfl) (by simp) (L rfl)) rfl (cg (apd hB underlying26 tyE66 1104 e_api_Signed s2.2.1 [(api_Signed.mk m422.1 r412.1 r413.1 (w64 (9 + r414.1)) p544.1)] hc605 (L rfl) (q 101) (q 103)) rfl (c (OpJ.assign (L rfl) (q 104)) rfl cn)))))
      apply blkQ_n
      apply seqQ_n
      apply rg (c (mv hN (q 6)) rfl (c (sub6 (L rfl) (q 17) (Opd.int .i64 (1))) rfl (c (OpJ.assign (L rfl) (q 18)) rfl cn)))
      obtain rfl := oi h
      exact ⟨rfl, (mp [(3005, 1104)] _ _ hB)⟩
    ·refine AWp.cond rfl (fun hg606 => ?_) (fun hg606 => ?_)
     ·replace h := ite_t hg606 h
      obtain ⟨r607, hr607, h⟩ := bindS h
      obtain ⟨x608, hx608, h⟩ := bindS h
      refine AWp.region (oc (mv hN (ot 1 (qe_api_Cert_6 a1)))
       (oc (mv hN (ot 0 (pt 0)))
       (oc (mv hN (ot 1 (qe_api_Cert_6 a1)))
       (oc (OpJ.val (v' := (i6 (a1.length : Int))) (by simp) (OpJ.lenD underlying22 (L rfl) (ot 40 (qe_api_Cert_6 a1))))
       (oc (OpJ.callFn hB fnOk30 (exchangepointmake_Deck_Next_ac m417.2 (a1.length : Int) r607 hr607) [(0, 0)] (by kernel_rfl) (L rfl) (by kernel_rfl) (OpdL.cons (ot 39 (pt 0)) (OpdL.cons (ot 41 (i6 (a1.length : Int))) OpdL.nil)))
       (oc (OpJ.indexD (el := (e_api_Cert x608)) underlying22 tyS59 (idx_some hx608).1 (get_map e_api_Cert (idx_some hx608).2) (L rfl) (ot 38 (qe_api_Cert_6 a1)) (ot 42 (i6 r607.1)))
       (oc (OpJ.fieldD underlying59 (by rfl) (o := 0) (by rfl) tyS3 (by decide) (ds := [(.int .i64 x608.fKey), (.int .i64 x608.fIssuer), (.int .i64 x608.fFrom), (.int .i64 x608.fUntil), (e_api_Resources x608.fResources)]) (e := (.int .i64 x608.fKey)) (by rfl) (by rfl) (L rfl) (ot 43 (.dptr (e_api_Cert x608))))
       (oc (OpJ.loadD tyS3 (by rfl) (by rfl) (L rfl) (ot 44 (.dptr (.int .i64 x608.fKey))))
       (oc (ov (.ptr 1007 0 [0]) (fp hN underlying66 0 tyS3 (.box 66 (.st [(i6 (w64 (1 + r411.1))), (i6 r412.1), (i6 r413.1), (i6 (w64 (9 + r414.1))), .nils])) (ot 7 (pt 1007))))
       (oc (OpJ.storeB (bt := 66) (c := (.st [(i6 (w64 (1 + r411.1))), (i6 r412.1), (i6 r413.1), (i6 (w64 (9 + r414.1))), .nils])) (v := (i6 x608.fKey)) (c' := (.st [(i6 x608.fKey), (i6 r412.1), (i6 r413.1), (i6 (w64 (9 + r414.1))), .nils])) tyS3 (SetAt.st1 (f := (i6 (w64 (1 + r411.1)))) (by rfl) (by rfl) (SetAt.here _ _) (by rfl) (by rfl) (by first | rfl | omega)) (by rfl) (by rfl) (by simp) rfl (ot 46 (.ptr 1007 0 [0])) (ot 45 (i6 x608.fKey)))
       (OpJs.nil))))))))))) (by rfl) (by rfl) ?_
      exact hjj423 _ h _ _ (mp [] _ _ hB)
     ·replace h := ite_f hg606 h
      apply AWp.skip
      exact hjj423 _ h _ _ (mp [] _ _ hB)
   ·rcases bft (decide (0 < (a1.length : Int))) with hg609 | hg609
    ·replace h := ite_t hg609 h
     obtain ⟨r610, hr610, h⟩ := bindS h
     refine AWp.region (oc (mv hN (ot 1 (qe_api_Cert_6 a1)))
      (oc (OpJ.val (v' := (i6 (a1.length : Int))) (by simp) (OpJ.lenD underlying22 (L rfl) (ot 30 (qe_api_Cert_6 a1))))
      (oc (OpJ.gtr (L rfl) (ot 31 (i6 (a1.length : Int))) (Opd.int .i64 (0)))
      (oc (OpJ.val (v' := .d (.bool true)) (by rw [hg609] <;> rfl) (mv hN (ot 32 (bo (decide (0 < (a1.length : Int)))))))
      (oc (gd 33 (mv hN (ot 0 (pt 0))))
      (oc (gd 33 (OpJ.callFn hB fnOk30 (exchangepointmake_Deck_Next_ac r414.2 4 r610 hr610) [(0, 0)] (by kernel_rfl) (L rfl) (by kernel_rfl) (OpdL.cons (ot 34 (pt 0)) (OpdL.cons (Opd.int .i64 (4)) OpdL.nil))))
      (oc (gd 33 (OpJ.gtr (L rfl) (ot 35 (i6 r610.1)) (Opd.int .i64 (0))))
      (oc (OpJ.pickT (L rfl) (ot 33 (bo true)) (ot 36 (bo (decide (0 < r610.1)))))
      (OpJs.nil))))))))) (by rfl) (by rfl) ?_
     exact hjj418 _ h _ _ (mp [] _ _ hB)
    ·replace h := ite_f hg609 h
     apply rg (c (mv hN (q 1)) rfl (c (OpJ.val (v' := (i6 (a1.length : Int))) (by simp) (OpJ.lenD underlying22 (L rfl) (q 30))) rfl (c (OpJ.gtr (L rfl) (q 31) (Opd.int .i64 (0))) rfl (c (OpJ.val (v' := .d (.bool false)) (by rw [hg609] <;> rfl) (mv hN (q 32))) rfl (cg (sU 33 (L rfl)) rfl (cg (sU 33 (L rfl)) rfl (cg (sU 33 (L rfl)) rfl (c (OpJ.pickF (L rfl) (q 33) (Opd.bool false)) rfl cn))))))))
     exact hjj418 _ h _ _ (mp [] _ _ hB)
  ·replace h := ite_f hg410 h
   apply AWp.exit
   apply seqQ_e
   obtain rfl := oi h
   exact ⟨(fun hc => by cases hc), rfl, (mp [] _ _ hB)⟩
 ·obtain ⟨rfl, hmat⟩ := hR
  apply blkQ_hit
  apply seqQ_n
  refine AWp.ghost hmat ?_
  apply sr (c (mv hN (q 5)) rfl (c (OpJ.assign (L rfl) (q 105)) rfl cn))
  apply AWp.ret
  obtain rfl := oi h
  exact ⟨.inl rfl, _, _, (Mat.trans (Mat.freezeP (n := 3005) (e := 66) (sz := 5) (es := p409.2.map e_api_Signed) (Ts := [(4, (qe_api_Signed_5 p409.2))]) (Bs := []) (by rfl) (TwT.cons (x := (.sref 3005 5 0 p409.2.length)) (by rfl) (FrzL.all (by first | rfl | (simp; done) | (simp; omega) | omega)) TwT.nil) TwB.nil) (mp [] [(4, (qe_api_Signed_5 p409.2))] [(0, bd 80 (e_exchangepointmake_Deck p409.1))] hB)), [(qe_api_Signed_5 p409.2)], (Res.tmp (by rfl) (by rfl) Res.nil), rfl, by rfl, by rfl, by rfl⟩
noncomputable def exchangepointlaw22_setting (a0 : exchangepointmake_Deck) : Option ((List api_Cert) × (List api_Signed) × Int × exchangepointmake_Deck) :=
 (exchangepointmake_Deck_Certs a0).bind fun r1 =>
 (exchangepointmake_Deck_Signed r1.2 r1.1).bind fun r2 =>
 (exchangepointmake_Deck_Next r2.2 14).bind fun r3 =>
 some (r1.1, r2.1, r3.1, r3.2)
theorem exchangepointlaw22_setting_ac (a0 : exchangepointmake_Deck) (r : (List api_Cert) × (List api_Signed) × Int × exchangepointmake_Deck) (h : exchangepointlaw22_setting a0 = some r) : AC Tryz.prog 10 [(pt 0)] [(0, (.box 80 (.d (e_exchangepointmake_Deck a0))))] (.tup [(.d (.list 6 (r.1.map e_api_Cert))), (.d (.list 5 (r.2.1.map e_api_Signed))), (.d (.int .i64 r.2.2.1))]) [(0, bd 80 (e_exchangepointmake_Deck r.2.2.2))] := by
 refine AC.of_code2 Tryz.func10 rfl rfl (Nat.le_of_ble_eq_true (by rfl)) fun B hB hN => ?_
 delta exchangepointlaw22_setting at h
 apply sr (c (OpJ.assign (ltN hN rfl) Opd.nils) rfl (c (OpJ.assign (ltN hN rfl) Opd.nils) rfl (c (OpJ.assign (ltN hN rfl) (Opd.int .i64 (0))) rfl cn)))
 apply AWp.seq
 obtain ⟨r1, hr1, h⟩ := bindS h
 refine AWp.region (oc (mv hN (ot 0 (pt 0)))
 (oc (OpJ.callFn hB fnOk22 (exchangepointmake_Deck_Certs_ac a0 r1 hr1) [(0, 0)] (by kernel_rfl) (ltN hN rfl) (by kernel_rfl) (OpdL.cons (ot 6 (pt 0)) OpdL.nil))
 (oc (OpJ.assign (ltN hN rfl) (ot 7 (qe_api_Cert_6 r1.1)))
 (OpJs.nil)))) (by rfl) (by rfl) ?_
 apply seqQ_n
 refine AWp.ghost (mp [] [(0, (pt 0)), (5, (qe_api_Cert_6 r1.1))] [(0, bd 80 (e_exchangepointmake_Deck r1.2))] hB) ?_
 apply AWp.seq
 obtain ⟨r2, hr2, h⟩ := bindS h
 obtain ⟨r3, hr3, h⟩ := bindS h
 refine AWp.region (oc (mv hN (ot 5 (qe_api_Cert_6 r1.1)))
 (oc (mv hN (ot 0 (pt 0)))
 (oc (mv hN (ot 5 (qe_api_Cert_6 r1.1)))
 (oc (OpJ.callFn hB fnOk29 (exchangepointmake_Deck_Signed_ac r1.2 r1.1 r2 hr2) [(0, 0)] (by kernel_rfl) (ltN hN rfl) (by kernel_rfl) (OpdL.cons (ot 9 (pt 0)) (OpdL.cons (ot 10 (qe_api_Cert_6 r1.1)) OpdL.nil)))
 (oc (mv hN (ot 0 (pt 0)))
 (oc (OpJ.callFn hB fnOk30 (exchangepointmake_Deck_Next_ac r2.2 14 r3 hr3) [(0, 0)] (by kernel_rfl) (ltN hN rfl) (by kernel_rfl) (OpdL.cons (ot 12 (pt 0)) (OpdL.cons (Opd.int .i64 (14)) OpdL.nil)))
 (oc (OpJ.assign (ltN hN rfl) (ot 8 (qe_api_Cert_6 r1.1)))
 (oc (OpJ.assign (ltN hN rfl) (ot 11 (qe_api_Signed_5 r2.1)))
 (oc (OpJ.assign (ltN hN rfl) (ot 13 (i6 r3.1)))
 (OpJs.nil)))))))))) (by rfl) (by rfl) ?_
 apply seqQ_n
 refine AWp.ghost (mp [] [(2, (qe_api_Cert_6 r1.1)), (3, (qe_api_Signed_5 r2.1)), (4, (i6 r3.1))] [(0, bd 80 (e_exchangepointmake_Deck r3.2))] hB) ?_
 apply AWp.ret
 obtain rfl := oi h
 exact ⟨.inl rfl, _, _, (kp [(2, _), (3, _), (4, _)] [(0, some _)] hB rfl rfl (by rfl)), [(qe_api_Cert_6 r1.1), (qe_api_Signed_5 r2.1), (i6 r3.1)], (Res.tmp (by rfl) (by rfl) (Res.tmp (by rfl) (by rfl) (Res.tmp (by rfl) (by rfl) Res.nil))), rfl, by rfl, by rfl, by rfl⟩
noncomputable def exchangepointlaw22_anchors (a0 : Int) : Option ((List Int)) :=
 (exchangepointmake_Mod a0 4).bind fun r1 =>
 (idx ([([1] : List Int), ([1, 2, 3] : List Int), ([] : List Int), ([1, 2, 3, 4, 5, 6, 7] : List Int)] : List (List Int)) r1).bind fun x2 =>
 some x2
theorem exchangepointlaw22_anchors_ac (a0 : Int) (r : (List Int)) (h : exchangepointlaw22_anchors a0 = some r) : AC Tryz.prog 12 [(.d (.int .i64 a0))] [] (.d (.list 1 (r.map (eI .i64)))) [] := by
 refine AC.of_code2 Tryz.func12 rfl rfl (Nat.le_of_ble_eq_true (by rfl)) fun B hB hN => ?_
 delta exchangepointlaw22_anchors at h
 apply sr (c (OpJ.assign (ltN hN rfl) Opd.nils) rfl cn)
 obtain ⟨r1, hr1, h⟩ := bindS h
 obtain ⟨x2, hx2, h⟩ := bindS h
 apply sr (c (OpJ.buildSlice underlying23 tyS3 tyZD3 (by rfl) (by decide) (by decide) (Opds.cons (Opd.int .i64 (1)) Opds.nil) (by kernel_rfl) (es := ([(.int .i64 1)] : List D)) (by rfl) (by rfl) (by kernel_rfl) (by simp) (ltN hN rfl)) rfl (c (OpJ.buildSlice underlying23 tyS3 tyZD3 (by rfl) (by decide) (by decide) (Opds.cons (Opd.int .i64 (1)) (Opds.cons (Opd.int .i64 (2)) (Opds.cons (Opd.int .i64 (3)) Opds.nil))) (by kernel_rfl) (es := ([(.int .i64 1), (.int .i64 2), (.int .i64 3)] : List D)) (by rfl) (by rfl) (by kernel_rfl) (by simp) (ltN hN rfl)) rfl (c (OpJ.buildSlice underlying23 tyS3 tyZD3 (by rfl) (by decide) (by decide) (Opds.cons (Opd.int .i64 (1)) (Opds.cons (Opd.int .i64 (2)) (Opds.cons (Opd.int .i64 (3)) (Opds.cons (Opd.int .i64 (4)) (Opds.cons (Opd.int .i64 (5)) (Opds.cons (Opd.int .i64 (6)) (Opds.cons (Opd.int .i64 (7)) Opds.nil))))))) (by kernel_rfl) (es := ([(.int .i64 1), (.int .i64 2), (.int .i64 3), (.int .i64 4), (.int .i64 5), (.int .i64 6), (.int .i64 7)] : List D)) (by rfl) (by rfl) (by kernel_rfl) (by simp) (ltN hN rfl)) rfl (c (OpJ.buildSlice underlying33 tyS23 tyZD23 (by rfl) (by decide) (by decide) (Opds.cons (q 3) (Opds.cons (q 4) (Opds.cons (Opd.co (Co.nils 1) Opd.nils) (Opds.cons (q 5) Opds.nil)))) (by kernel_rfl) (es := ([(.list 1 (([1] : List Int).map (eI .i64))), (.list 1 (([1, 2, 3] : List Int).map (eI .i64))), (.list 1 (([] : List Int).map (eI .i64))), (.list 1 (([1, 2, 3, 4, 5, 6, 7] : List Int).map (eI .i64)))] : List D)) (by rfl) (by rfl) (by kernel_rfl) (by simp) (ltN hN rfl)) rfl (c (mv hN (q 0)) rfl (cg (OpJ.callFn hB fnOk19 (exchangepointmake_Mod_ac a0 4 r1 hr1) [] (by kernel_rfl) (ltN hN rfl) (by kernel_rfl) (OpdL.cons (q 7) (OpdL.cons (Opd.int .i64 (4)) OpdL.nil))) rfl (c (OpJ.indexD underlying33 tyS23 (idx_some hx2).1 (get_map e_LeIi64 (idx_some hx2).2) (ltN hN rfl) (q 6) (q 8)) rfl (c (OpJ.loadD tyS23 (by rfl) (by rfl) (ltN hN rfl) (q 9)) rfl (c (OpJ.assign (ltN hN rfl) (q 10)) rfl cn)))))))))
 apply AWp.ret
 obtain rfl := oi h
 exact ⟨.inl rfl, _, _, (kp [(2, _)] [] hB rfl rfl (by rfl)), [(qI_1 x2)], (Res.tmp (by rfl) (by rfl) Res.nil), rfl, by rfl, by rfl, by rfl⟩
noncomputable def exchangepointlaw22_OriginMore_L0 (a3 : Int) (r2 : (List api_Cert) × (List api_Signed) × Int × exchangepointmake_Deck) (r5 : (List api_Cert) × exchangepointmake_Deck) (s7 : Int × (List api_Cert)) : Option ((((List api_Cert))) ⊕ (Int × (List api_Cert))) :=
 (if (decide (s7.1 < ((r2.1 ++ r5.1).length : Int))) = true then
 (idx s7.2 s7.1).bind fun x22 =>
 (idx s7.2 s7.1).bind fun x23 =>
 (exchangepointmake_Mod a3 5).bind fun r24 =>
 (idx s7.2 s7.1).bind fun x25 =>
 (idx s7.2 s7.1).bind fun x26 =>
 some (.inr ((w64 (s7.1 + 1)), (s7.2.set s7.1.toNat (api_Cert.mk x26.fKey x26.fIssuer x26.fFrom (w64 (x23.fUntil + r24)) x26.fResources))))
 else
 some (.inl s7.2))
noncomputable def exchangepointlaw22_OriginMore_L1 (r2 : (List api_Cert) × (List api_Signed) × Int × exchangepointmake_Deck) (r36 : (List Bool)) (r39 : (List Bool)) (s41 : Int × (List api_Cert)) : Option (((Unit) ⊕ ((List api_Cert))) ⊕ (Int × (List api_Cert))) :=
 (if (decide (s41.1 < (r36.length : Int))) = true then
 (idx r36 s41.1).bind fun x79 =>
 jn (fun m82 : Bool =>
 (if m82 = true then
 some (.inl (.inl ()))
 else
 jn (fun m88 : (List api_Cert) =>
 some (.inr ((w64 (s41.1 + 1)), m88))) (fun j89 =>
 (if x79 = true then
 (idx r2.1 s41.1).bind fun x91 =>
 chk (decide ((s41.2 ++ [x91]).length ≤ LIM)) <|
 j89 (s41.2 ++ [x91])
 else
 j89 s41.2)))) (fun j83 =>
 (if x79 = true then
 (idx r39 s41.1).bind fun x94 =>
 j83 (!x94)
 else
 j83 false))
 else
 some (.inl (.inr s41.2)))
noncomputable def exchangepointlaw22_OriginMore_L2 (r97 : (List Bool)) (s98 : Int) : Option (((Unit) ⊕ (Unit)) ⊕ (Int)) :=
 (if (decide (s98 < (r97.length : Int))) = true then
 (idx r97 s98).bind fun x108 =>
 (if (!x108) = true then
 some (.inl (.inl ()))
 else
 some (.inr (w64 (s98 + 1))))
 else
 some (.inl (.inr ())))
noncomputable def exchangepointlaw22_OriginMore (a0 : (List Int)) (a1 : (List Int)) (a2 : Int) (a3 : Int) : Option (Bool) :=
 (exchangepointmake_New a0).bind fun r1 =>
 (exchangepointlaw22_setting r1).bind fun r2 =>
 chk (decide (r2.1.length ≤ LIM)) <|
 (exchangepointmake_New a1).bind fun r4 =>
 (exchangepointmake_Deck_Certs r4).bind fun r5 =>
 chk (decide ((r2.1 ++ r5.1).length ≤ LIM)) <|
 (loop (exchangepointlaw22_OriginMore_L0 a3 r2 r5) (0, (r2.1 ++ r5.1))).bind fun p20 =>
 (exchangepointlaw22_anchors a2).bind fun r29 =>
 (origin_Trusted r2.1 r29 r2.2.2.1).bind fun r36 =>
 chk (decide (r29.length ≤ LIM)) <|
 chk (decide ((r29 ++ ([5] : List Int)).length ≤ LIM)) <|
 (origin_Trusted p20 (r29 ++ ([5] : List Int)) r2.2.2.1).bind fun r39 =>
 (if (((r36.length : Int) != (r2.1.length : Int)) || ((r39.length : Int) != (p20.length : Int))) = true then
 some false
 else
 (loop (exchangepointlaw22_OriginMore_L1 r2 r36 r39) (0, ([] : List api_Cert))).bind fun x95 => match x95 with
 | (.inl _) =>
  some false
 | (.inr p77) =>
  (origin_Trusted p77 r29 r2.2.2.1).bind fun r97 =>
  (loop (exchangepointlaw22_OriginMore_L2 r97) 0).bind fun x110 => match x110 with
  | (.inl _) =>
   some false
  | (.inr _) =>
   (exchangepointlaw22_awake).bind fun r112 =>
   some r112)
theorem exchangepointlaw22_OriginMore_ac (a0 : (List Int)) (a1 : (List Int)) (a2 : Int) (a3 : Int) (r : Bool) (h : exchangepointlaw22_OriginMore a0 a1 a2 a3 = some r) : AC Tryz.prog 5 [(.d (.list 1 (a0.map (eI .i64)))), (.d (.list 1 (a1.map (eI .i64)))), (.d (.int .i64 a2)), (.d (.int .i64 a3))] [(500, (.know (globF 0 [109, 150, 151]))), (501, (.know (globF 1 [98, 152, 153])))] (.d (.bool r)) [(500, some (.know (globF 0 [109, 150, 151]))), (501, some (.know (globF 1 [98, 152, 153])))] := by
 refine AC.of_code2 Tryz.func5 rfl rfl (Nat.le_of_ble_eq_true (by rfl)) fun B hB hN => ?_
 have L {d : Nat} (h : Nat.blt d Tryz.f5.ntmps = true) : d < B.N := ltN hN h
 delta exchangepointlaw22_OriginMore at h
 apply sr (c (OpJ.assign (L rfl) (Opd.bool false)) rfl cn)
 apply AWp.seq
 obtain ⟨r1, hr1, h⟩ := bindS h
 obtain ⟨r2, hr2, h⟩ := bindS h
 refine AWp.region (oc (mv hN (ot 0 (qI_1 a0)))
 (oc (OpJ.callFn hB fnOk11 (exchangepointmake_New_ac a0 r1 hr1) [(1005, 100000)] (by kernel_rfl) (L rfl) (by kernel_rfl) (OpdL.cons (ot 23 (qI_1 a0)) OpdL.nil))
 (oc (OpJ.callFn hB fnOk10 (exchangepointlaw22_setting_ac r1 r2 hr2) [(0, 100000)] (by kernel_rfl) (L rfl) (by kernel_rfl) (OpdL.cons (ot 24 (pt 100000)) OpdL.nil))
 (oc (mv hN (ot 25 (.tup [(qe_api_Cert_6 r2.1), (qe_api_Signed_5 r2.2.1), (i6 r2.2.2.1)])))
 (oc (OpJ.extract (v := (qe_api_Cert_6 r2.1)) (by rfl) rfl (L rfl) (ot 22 (.tup [(qe_api_Cert_6 r2.1), (qe_api_Signed_5 r2.2.1), (i6 r2.2.2.1)])))
 (oc (OpJ.extract (v := (qe_api_Signed_5 r2.2.1)) (by rfl) rfl (L rfl) (ot 22 (.tup [(qe_api_Cert_6 r2.1), (qe_api_Signed_5 r2.2.1), (i6 r2.2.2.1)])))
 (oc (OpJ.extract (v := (i6 r2.2.2.1)) (by rfl) rfl (L rfl) (ot 22 (.tup [(qe_api_Cert_6 r2.1), (qe_api_Signed_5 r2.2.1), (i6 r2.2.2.1)])))
 (oc (OpJ.assign (L rfl) (ot 26 (qe_api_Cert_6 r2.1)))
 (oc (OpJ.assign (L rfl) (ot 27 (qe_api_Signed_5 r2.2.1)))
 (oc (OpJ.assign (L rfl) (ot 28 (i6 r2.2.2.1)))
 (OpJs.nil))))))))))) (by rfl) (by rfl) ?_
 apply seqQ_n
 refine AWp.ghost (mp [] [(1, (qI_1 a1)), (2, (i6 a2)), (3, (i6 a3)), (9, (qe_api_Cert_6 r2.1)), (11, (i6 r2.2.2.1))] [(500, some (.know (globF 0 [109, 150, 151]))), (501, some (.know (globF 1 [98, 152, 153])))] hB) ?_
 apply AWp.seq
 obtain ⟨hc3, h⟩ := chk_some h
 obtain ⟨r4, hr4, h⟩ := bindS h
 obtain ⟨r5, hr5, h⟩ := bindS h
 obtain ⟨hc6, h⟩ := chk_some h
 refine AWp.region (oc (mv hN (ot 9 (qe_api_Cert_6 r2.1)))
 (oc (OpJ.appendN hB underlying22 tyE59 (nm := 1030) (by decide) (ys := r2.1.map e_api_Cert) (len := r2.1.length) (by simp) (map_sz (f := e_api_Cert) (fun _ => rfl)) (by rw [List.length_map]; exact lim_mulN hc3 (by decide)) (by rw [List.length_map]; exact lim_leN hc3) (L rfl) Opd.nils (ot 29 (qe_api_Cert_6 r2.1)))
 (oc (mv hN (ot 1 (qI_1 a1)))
 (oc (OpJ.callFn hB fnOk11 (exchangepointmake_New_ac a1 r4 hr4) [(1005, 100200)] (by kernel_rfl) (L rfl) (by kernel_rfl) (OpdL.cons (ot 31 (qI_1 a1)) OpdL.nil))
 (oc (OpJ.callFn hB fnOk22 (exchangepointmake_Deck_Certs_ac r4 r5 hr5) [(0, 100200)] (by kernel_rfl) (L rfl) (by kernel_rfl) (OpdL.cons (ot 32 (pt 100200)) OpdL.nil))
 (oc (apd hB underlying22 tyE59 1034 e_api_Cert r2.1 r5.1 hc6 (L rfl) (ot 30 (.sref 1030 6 0 r2.1.length)) (ot 33 (qe_api_Cert_6 r5.1)))
 (oc (OpJ.assign (L rfl) (ot 34 (.sref 1034 6 0 ((r2.1 ++ r5.1).length))))
 (OpJs.nil)))))))) (by rfl) (by rfl) ?_
 apply seqQ_n
 refine AWp.ghost (mp [] [(2, (i6 a2)), (3, (i6 a3)), (9, (qe_api_Cert_6 r2.1)), (11, (i6 r2.2.2.1)), (12, (.sref 1034 6 0 ((r2.1 ++ r5.1).length)))] [(500, some (.know (globF 0 [109, 150, 151]))), (501, some (.know (globF 1 [98, 152, 153]))), (1034, some (we_api_Cert_59_6 (r2.1 ++ r5.1)))] hB) ?_
 apply AWp.seq
 apply sr (c (mv hN (q 12)) rfl (c (OpJ.lenS underlying22 (L rfl) (q 35)) rfl (c (mv hN (Opd.int .i64 (0))) rfl cn)))
 apply AWp.block
 obtain ⟨p20, hx28, h⟩ := bindS h
 refine lg (exchangepointlaw22_OriginMore_L0 a3 r2 r5) (fun s7 : Int × (List api_Cert) => ([(2, (i6 a2)), (3, (i6 a3)), (9, (qe_api_Cert_6 r2.1)), (11, (i6 r2.2.2.1)), (12, (.sref 1034 6 0 s7.2.length)), (36, (i6 ((r2.1 ++ r5.1).length : Int))), (37, (i6 s7.1))] : EL)) (fun s7 : Int × (List api_Cert) => ([(500, some (.know (globF 0 [109, 150, 151]))), (501, some (.know (globF 1 [98, 152, 153]))), (1034, some (we_api_Cert_59_6 s7.2))] : OL)) (fun (p20 : ((List api_Cert))) e E' O' => e = .exit 0 ∧ Mat B E' O' ([(2, (i6 a2)), (9, (qe_api_Cert_6 r2.1)), (11, (i6 r2.2.2.1)), (12, (.sref 1034 6 0 p20.length))] : EL) ([(500, some (.know (globF 0 [109, 150, 151]))), (501, some (.know (globF 1 [98, 152, 153]))), (1034, some (we_api_Cert_59_6 p20))] : OL)) hx28 (mp [] _ _ hB) (fun s7 y h => ?_) (fun e E' O' hR => ?_)
 ·unfold exchangepointlaw22_OriginMore_L0 at h
  apply sr (c (OpJ.lss (L rfl) (q 37) (q 36)) rfl cn)
  apply AWp.seq
  refine AWp.cond rfl (fun hg21 => ?_) (fun hg21 => ?_)
  ·replace h := ite_t hg21 h
   apply AWp.skip
   apply seqQ_n
   apply AWp.seq
   apply AWp.block
   apply sr (c (mv hN (q 37)) rfl (c (OpJ.assign (L rfl) (q 39)) rfl cn))
   obtain ⟨x22, hx22, h⟩ := bindS h
   obtain ⟨x23, hx23, h⟩ := bindS h
   obtain ⟨r24, hr24, h⟩ := bindS h
   obtain ⟨x25, hx25, h⟩ := bindS h
   obtain ⟨x26, hx26, h⟩ := bindS h
   apply dr (c (mv hN (q 12)) rfl (c (mv hN (q 13)) rfl (c (OpJ.val (v' := (.ptr 1034 (s7.1.toNat * 6) [s7.1.toNat])) (by simp) (OpJ.indexS underlying22 tyS59 (idx_some hx22).1 (by have := idx_lt hx22; first | (simpa using this) | ((try simp only [List.length_map] at this); (try simp only [List.length_map]); omega)) (L rfl) (q 40) (q 41))) rfl (c (ov (.ptr 1034 ((s7.1.toNat * 6) + 3) [s7.1.toNat, 3]) (fp hN underlying59 3 tyS3 _ (q 42))) rfl (c (OpJ.loadR (e := 59) (sz := 6) tyS3 (get_map e_api_Cert (idx_some hx23).2) (o := 3) (ad _) (by rfl) (by rfl) (by rfl) (L rfl) (q 43)) rfl (c (mv hN (q 3)) rfl (cg (cf hB fnOk19 (exchangepointmake_Mod_ac a3 5 r24 hr24) (L rfl) (OpdL.cons (q 45) (OpdL.cons (Opd.int .i64 (5)) OpdL.nil))) rfl (c (add6 (L rfl) (q 44) (q 46)) rfl (c (OpJ.val (v' := (.ptr 1034 (s7.1.toNat * 6) [s7.1.toNat])) (by simp) (OpJ.indexS underlying22 tyS59 (idx_some hx25).1 (by have := idx_lt hx25; first | (simpa using this) | ((try simp only [List.length_map] at this); (try simp only [List.length_map]); omega)) (L rfl) (q 40) (q 41))) rfl (c (ov (.ptr 1034 ((s7.1.toNat * 6) + 3) [s7.1.toNat, 3]) (fp hN underlying59 3 tyS3 _ (q 48))) rfl (cg (OpJ.storeR (e := 59) (sz := 6) (es' := (s7.2.set s7.1.toNat (api_Cert.mk x26.fKey x26.fIssuer x26.fFrom (w64 (x23.fUntil + r24)) x26.fResources)).map e_api_Cert) tyS3 (get_map e_api_Cert (idx_some hx26).2) (o := 3) (SetAt.dst1 (by rfl) (by rfl) (SetAt.here _ _) (by rfl) (by rfl) (by first | rfl | omega)) (by rfl) (map_set _ _ _ _) (by rfl) (by rfl) (q 49) (q 47)) rfl cn))))))))))) (by kernel_rfl) (by kernel_rfl)
   apply blkQ_n
   apply seqQ_n
   apply rg (c (add6 (L rfl) (q 37) (Opd.int .i64 (1))) rfl (c (mv hN (q 50)) rfl cn))
   obtain rfl := oi h
   exact ⟨rfl, (Mat.trans (mp [] [(2, (i6 a2)), (3, (i6 a3)), (9, (qe_api_Cert_6 r2.1)), (11, (i6 r2.2.2.1)), (12, (.sref 1034 6 0 s7.2.length)), (36, (i6 ((r2.1 ++ r5.1).length : Int))), (37, (i6 (w64 (s7.1 + 1))))] [(500, some (.know (globF 0 [109, 150, 151]))), (501, some (.know (globF 1 [98, 152, 153]))), (1034, some (we_api_Cert_59_6 (s7.2.set s7.1.toNat (api_Cert.mk x26.fKey x26.fIssuer x26.fFrom (w64 (x23.fUntil + r24)) x26.fResources))))] hB) (Mat.trans (Mat.lenP (Ts := [(12, (.sref 1034 6 0 ((s7.2.set s7.1.toNat (api_Cert.mk x26.fKey x26.fIssuer x26.fFrom (w64 (x23.fUntil + r24)) x26.fResources)).length)))]) (Bs := []) (TwT.cons (x := (.sref 1034 6 0 s7.2.length)) (by rfl) (Tw.leaf ⟨_, _, _, _, _, rfl, rfl, (by first | rfl | (simp; done) | (simp; omega) | omega)⟩) TwT.nil) TwB.nil) (mp [] _ _ hB)))⟩
  ·replace h := ite_f hg21 h
   apply AWp.exit
   apply seqQ_e
   obtain rfl := oi h
   exact ⟨(fun hc => by cases hc), rfl, (mp [] _ _ hB)⟩
 ·obtain ⟨rfl, hmat⟩ := hR
  apply blkQ_hit
  apply seqQ_n
  refine AWp.ghost hmat ?_
  obtain ⟨r29, hr29, h⟩ := bindS h
  apply sr (c (mv hN (q 2)) rfl (cg (cf hB fnOk12 (exchangepointlaw22_anchors_ac a2 r29 hr29) (L rfl) (OpdL.cons (q 51) OpdL.nil)) rfl (c (OpJ.assign (L rfl) (q 52)) rfl cn)))
  apply AWp.seq
  refine AWp.ghost (Mat.freezeP (n := 1034) (e := 59) (sz := 6) (es := p20.map e_api_Cert) (Ts := [(12, (qe_api_Cert_6 p20))]) (Bs := []) (by rfl) (TwT.cons (x := (.sref 1034 6 0 p20.length)) (by rfl) (FrzL.all (by first | rfl | (simp; done) | (simp; omega) | omega)) TwT.nil) TwB.nil) ?_
  obtain ⟨r36, hr36, h⟩ := bindS h
  obtain ⟨hc37, h⟩ := chk_some h
  obtain ⟨hc38, h⟩ := chk_some h
  obtain ⟨r39, hr39, h⟩ := bindS h
  refine AWp.region (oc (mv hN (ot 9 (qe_api_Cert_6 r2.1)))
   (oc (mv hN (ot 14 (qI_1 r29)))
   (oc (mv hN (ot 11 (i6 r2.2.2.1)))
   (oc (OpJ.callFn hB fnOk14 (origin_Trusted_ac r2.1 r29 r2.2.2.1 r36 hr36) [(500, 500), (501, 501)] (by kernel_rfl) (L rfl) (by kernel_rfl) (OpdL.cons (ot 53 (qe_api_Cert_6 r2.1)) (OpdL.cons (ot 54 (qI_1 r29)) (OpdL.cons (ot 55 (i6 r2.2.2.1)) OpdL.nil))))
   (oc (mv hN (ot 12 (qe_api_Cert_6 p20)))
   (oc (mv hN (ot 14 (qI_1 r29)))
   (oc (OpJ.appendN hB underlying23 tyE3 (nm := 1059) (by decide) (ys := r29.map (eI .i64)) (len := r29.length) (by simp) (map_sz (f := (eI .i64)) (fun _ => rfl)) (by rw [List.length_map]; exact lim_mulN hc37 (by decide)) (by rw [List.length_map]; exact lim_leN hc37) (L rfl) Opd.nils (ot 58 (qI_1 r29)))
   (oc (OpJ.buildSlice underlying23 tyS3 tyZD3 (by rfl) (by decide) (by decide) (Opds.cons (Opd.int .i64 (5)) Opds.nil) (by kernel_rfl) (es := ([(.int .i64 5)] : List D)) (by rfl) (by rfl) (by kernel_rfl) (by simp) (L rfl))
   (oc (OpJ.frz (apd hB underlying23 tyE3 1061 (eI .i64) r29 ([5] : List Int) hc38 (L rfl) (ot 59 (.sref 1059 1 0 r29.length)) (ot 60 (qI_1 ([5] : List Int)))) (by simp))
   (oc (mv hN (ot 11 (i6 r2.2.2.1)))
   (oc (OpJ.callFn hB fnOk14 (origin_Trusted_ac p20 (r29 ++ ([5] : List Int)) r2.2.2.1 r39 hr39) [(500, 500), (501, 501)] (by kernel_rfl) (L rfl) (by kernel_rfl) (OpdL.cons (ot 57 (qe_api_Cert_6 p20)) (OpdL.cons (ot 61 (qI_1 (r29 ++ ([5] : List Int)))) (OpdL.cons (ot 62 (i6 r2.2.2.1)) OpdL.nil))))
   (oc (OpJ.assign (L rfl) (ot 56 (.d (.list 1 (r36.map eB)))))
   (oc (OpJ.assign (L rfl) (ot 63 (.d (.list 1 (r39.map eB)))))
   (OpJs.nil)))))))))))))) (by rfl) (by rfl) ?_
  apply seqQ_n
  refine AWp.ghost (mp [] [(9, (qe_api_Cert_6 r2.1)), (11, (i6 r2.2.2.1)), (12, (qe_api_Cert_6 p20)), (14, (qI_1 r29)), (15, (.d (.list 1 (r36.map eB)))), (16, (.d (.list 1 (r39.map eB))))] [(500, some (.know (globF 0 [109, 150, 151]))), (501, some (.know (globF 1 [98, 152, 153])))] hB) ?_
  apply AWp.seq
  apply sr (c (mv hN (q 15)) rfl (c (OpJ.val (v' := (i6 (r36.length : Int))) (by simp) (OpJ.lenD underlying35 (L rfl) (q 64))) rfl (c (mv hN (q 9)) rfl (c (OpJ.val (v' := (i6 (r2.1.length : Int))) (by simp) (OpJ.lenD underlying22 (L rfl) (q 66))) rfl (c (OpJ.neqI (L rfl) (q 65) (q 67)) rfl (c (mv hN (q 68)) rfl (c (oq hN 69 (mv hN (q 16)) (OptL.keep (by rfl) OptL.nil) (GuardV.plain _)) rfl (c (oq hN 69 (OpJ.val (v' := (i6 (r39.length : Int))) (by simp) (OpJ.lenD underlying35 (L rfl) (q 70))) (OptL.opt OptL.nil) (GuardV.plain _)) rfl (c (oq hN 69 (mv hN (q 12)) (OptL.keep (by rfl) OptL.nil) (GuardV.plain _)) rfl (c (oq hN 69 (OpJ.val (v' := (i6 (p20.length : Int))) (by simp) (OpJ.lenD underlying22 (L rfl) (q 72))) (OptL.opt OptL.nil) (GuardV.plain _)) rfl (c (oq hN 69 (OpJ.neqI (L rfl) (q 71) (q 73)) (OptL.opt (OptL.opt OptL.nil)) (GuardV.plain _)) rfl (c (OpJ.pickOr rfl (L rfl) (q 69) (q 74)) rfl cn))))))))))))
  refine AWp.cond rfl (fun hg40 => ?_) (fun hg40 => ?_)
  ·replace h := ite_t hg40 h
   apply sr (c (OpJ.assign (L rfl) (Opd.bool false)) rfl cn)
   apply AWp.ret
   apply seqQ_r
   obtain rfl := oi h
   exact ⟨.inl rfl, _, _, (kp [(8, _)] [(500, some _), (501, some _)] hB rfl rfl (by rfl)), [(bo false)], (Res.tmp (by rfl) (by rfl) Res.nil), rfl, by rfl, by rfl, by rfl⟩
  ·replace h := ite_f hg40 h
   apply AWp.skip
   apply seqQ_n
   apply sr (c (OpJ.assign (L rfl) Opd.nils) rfl cn)
   apply AWp.seq
   apply sr (c (mv hN (q 15)) rfl (c (OpJ.val (v' := (i6 (r36.length : Int))) (by simp) (OpJ.lenD underlying35 (L rfl) (q 76))) rfl (c (mv hN (Opd.int .i64 (0))) rfl cn)))
   apply AWp.block
   obtain ⟨x95, hx96, h⟩ := bindS h
   refine lg (exchangepointlaw22_OriginMore_L1 r2 r36 r39) (fun s41 : Int × (List api_Cert) => ([(9, (qe_api_Cert_6 r2.1)), (11, (i6 r2.2.2.1)), (14, (qI_1 r29)), (16, (.d (.list 1 (r39.map eB)))), (17, (.sref 3017 6 0 s41.2.length)), (76, (.d (.list 1 (r36.map eB)))), (77, (i6 (r36.length : Int))), (78, (i6 s41.1))] : EL)) (fun s41 : Int × (List api_Cert) => ([(500, some (.know (globF 0 [109, 150, 151]))), (501, some (.know (globF 1 [98, 152, 153]))), (3017, some (we_api_Cert_59_6 s41.2))] : OL)) (fun (x : (Unit) ⊕ ((List api_Cert))) e E' O' => match x with | (.inl _p) => e = .ret ∧ Mat B E' O' ([(8, (bo false))] : EL) ([(500, some (.know (globF 0 [109, 150, 151]))), (501, some (.know (globF 1 [98, 152, 153])))] : OL) | (.inr p77) => e = .exit 2 ∧ Mat B E' O' ([(11, (i6 r2.2.2.1)), (14, (qI_1 r29)), (17, (.sref 3017 6 0 p77.length))] : EL) ([(500, some (.know (globF 0 [109, 150, 151]))), (501, some (.know (globF 1 [98, 152, 153]))), (3017, some (we_api_Cert_59_6 p77))] : OL)) hx96 (Mat.trans (Mat.beginP (n := 3017) (e := 59) (sz := 6) (Ts := [(17, (.sref 3017 6 0 0))]) (Bs := []) hB (by decide) (by rfl) (by decide) (TwT.cons (x := .nils) (by rfl) (Tw.leaf ⟨rfl, rfl⟩) TwT.nil) TwB.nil) (mp [] _ _ hB)) (fun s41 y h => ?_) (fun e E' O' hR => ?_)
   ·unfold exchangepointlaw22_OriginMore_L1 at h
    apply sr (c (OpJ.lss (L rfl) (q 78) (q 77)) rfl cn)
    apply AWp.seq
    refine AWp.cond rfl (fun hg78 => ?_) (fun hg78 => ?_)
    ·replace h := ite_t hg78 h
     apply AWp.skip
     apply seqQ_n
     apply AWp.seq
     apply AWp.block
     obtain ⟨x79, hx79, h⟩ := bindS h
     apply sr (c (mv hN (q 78)) rfl (c (OpJ.indexD underlying35 tyS4 (idx_some hx79).1 (get_map eB (idx_some hx79).2) (L rfl) (q 76) (q 78)) rfl (c (OpJ.loadD tyS4 (by rfl) (by rfl) (L rfl) (q 81)) rfl (c (OpJ.assign (L rfl) (q 80)) rfl (c (OpJ.assign (L rfl) (q 82)) rfl cn)))))
     apply AWp.seq
     apply AWp.seq
     refine AWp.cut h (fun m82 : Bool => ([(9, (qe_api_Cert_6 r2.1)), (11, (i6 r2.2.2.1)), (14, (qI_1 r29)), (16, (.d (.list 1 (r39.map eB)))), (17, (.sref 3017 6 0 s41.2.length)), (18, (i6 s41.1)), (19, (bo x79)), (76, (.d (.list 1 (r36.map eB)))), (77, (i6 (r36.length : Int))), (78, (i6 s41.1)), (90, (bo m82))] : EL)) (fun m82 : Bool => ([(500, some (.know (globF 0 [109, 150, 151]))), (501, some (.know (globF 1 [98, 152, 153]))), (3017, some (we_api_Cert_59_6 s41.2))] : OL)) (fun m82 h E' O' hmat => ?_) (fun j83 hjj83 h => ?_)
     ·apply seqQ_n
      refine AWp.ghost hmat ?_
      refine AWp.cond rfl (fun hg84 => ?_) (fun hg84 => ?_)
      ·replace h := ite_t hg84 h
       apply sr (c (OpJ.assign (L rfl) (Opd.bool false)) rfl cn)
       apply AWp.ret
       apply seqQ_r
       apply blkQ_r
       apply seqQ_r
       obtain rfl := oi h
       exact ⟨(fun hc => by cases hc), rfl, (mp [] _ _ hB)⟩
      ·replace h := ite_f hg84 h
       apply AWp.skip
       apply seqQ_n
       apply sr (c (mv hN (q 19)) rfl cn)
       refine gh [(9, _), (11, _), (14, _), (16, _), (17, _), (18, _), (76, _), (77, _), (78, _), (91, _)] [(500, some _), (501, some _), (3017, some _)] hB rfl rfl (by rfl) ?_
       refine AWp.cut h (fun m88 : (List api_Cert) => ([(9, (qe_api_Cert_6 r2.1)), (11, (i6 r2.2.2.1)), (14, (qI_1 r29)), (16, (.d (.list 1 (r39.map eB)))), (17, (.sref 3017 6 0 m88.length)), (76, (.d (.list 1 (r36.map eB)))), (77, (i6 (r36.length : Int))), (78, (i6 s41.1))] : EL)) (fun m88 : (List api_Cert) => ([(500, some (.know (globF 0 [109, 150, 151]))), (501, some (.know (globF 1 [98, 152, 153]))), (3017, some (we_api_Cert_59_6 m88))] : OL)) (fun m88 h E' O' hmat => ?_) (fun j89 hjj89 h => ?_)
       ·apply blkQ_n
        apply seqQ_n
        refine AWp.ghost hmat ?_
        apply rg (c (add6 (L rfl) (q 78) (Opd.int .i64 (1))) rfl (c (mv hN (q 99)) rfl cn))
        obtain rfl := oi h
        exact ⟨rfl, (mp [] _ _ hB)⟩
       ·refine AWp.cond rfl (fun hg90 => ?_) (fun hg90 => ?_)
        ·replace h := ite_t hg90 h
         obtain ⟨x91, hx91, h⟩ := bindS h
         obtain ⟨hc92, h⟩ := chk_some h
         apply rg (c (mv hN (q 17)) rfl (c (mv hN (q 9)) rfl (c (mv hN (q 18)) rfl (c (OpJ.indexD underlying22 tyS59 (idx_some hx91).1 (get_map e_api_Cert (idx_some hx91).2) (L rfl) (q 93) (q 94)) rfl (c (OpJ.loadD tyS59 (by rfl) (by rfl) (L rfl) (q 95)) rfl (c (OpJ.buildSlice underlying22 tyS59 tyZD59 (by rfl) (by decide) (by decide) (Opds.cons (q 96) Opds.nil) (by kernel_rfl) (es := ([(e_api_Cert x91)] : List D)) (by rfl) (by rfl) (by kernel_rfl) (by simp) (L rfl)) rfl (cg (apd hB underlying22 tyE59 1098 e_api_Cert s41.2 [x91] hc92 (L rfl) (q 92) (q 97)) rfl (c (OpJ.assign (L rfl) (q 98)) rfl cn))))))))
         exact hjj89 _ h _ _ (mp [(3017, 1098)] _ _ hB)
        ·replace h := ite_f hg90 h
         apply AWp.skip
         exact hjj89 _ h _ _ (mp [] _ _ hB)
     ·rcases bft x79 with hg93 | hg93
      ·replace h := ite_t hg93 h
       obtain ⟨x94, hx94, h⟩ := bindS h
       apply rg (c (mv hN (q 19)) rfl (c (OpJ.val (v' := .d (.bool true)) (by rw [hg93] <;> rfl) (mv hN (q 83))) rfl (c (gd 84 (mv hN (q 16))) rfl (c (gd 84 (mv hN (q 18))) rfl (c (gd 84 (OpJ.indexD underlying35 tyS4 (idx_some hx94).1 (get_map eB (idx_some hx94).2) (L rfl) (q 85) (q 86))) rfl (c (gd 84 (OpJ.loadD tyS4 (by rfl) (by rfl) (L rfl) (q 87))) rfl (c (gd 84 (OpJ.not (L rfl) (q 88))) rfl (c (OpJ.pickT (L rfl) (q 84) (q 89)) rfl cn))))))))
       exact hjj83 _ h _ _ (mp [] _ _ hB)
      ·replace h := ite_f hg93 h
       apply rg (c (mv hN (q 19)) rfl (c (OpJ.val (v' := .d (.bool false)) (by rw [hg93] <;> rfl) (mv hN (q 83))) rfl (cg (sU 84 (L rfl)) rfl (cg (sU 84 (L rfl)) rfl (cg (sU 84 (L rfl)) rfl (cg (sU 84 (L rfl)) rfl (cg (sU 84 (L rfl)) rfl (c (OpJ.pickF (L rfl) (q 84) (Opd.bool false)) rfl cn))))))))
       exact hjj83 _ h _ _ (mp [] _ _ hB)
    ·replace h := ite_f hg78 h
     apply AWp.exit
     apply seqQ_e
     obtain rfl := oi h
     exact ⟨(fun hc => by cases hc), rfl, (mp [] _ _ hB)⟩
   ·rcases x95 with _ | p77
    ·obtain ⟨rfl, hmat⟩ := hR
     apply blkQ_r
     apply seqQ_r
     obtain rfl := oi h
     exact ⟨.inl rfl, _, _, (Mat.trans hmat (mp [] [(8, (bo false))] [(500, some (.know (globF 0 [109, 150, 151]))), (501, some (.know (globF 1 [98, 152, 153])))] hB)), [(bo false)], (Res.tmp (by rfl) (by rfl) Res.nil), rfl, by rfl, by rfl, by rfl⟩
    ·obtain ⟨rfl, hmat⟩ := hR
     apply blkQ_hit
     apply seqQ_n
     refine AWp.ghost hmat ?_
     apply AWp.seq
     apply AWp.seq
     refine AWp.ghost (Mat.freezeP (n := 3017) (e := 59) (sz := 6) (es := p77.map e_api_Cert) (Ts := [(17, (qe_api_Cert_6 p77))]) (Bs := []) (by rfl) (TwT.cons (x := (.sref 3017 6 0 p77.length)) (by rfl) (FrzL.all (by first | rfl | (simp; done) | (simp; omega) | omega)) TwT.nil) TwB.nil) ?_
     obtain ⟨r97, hr97, h⟩ := bindS h
     refine AWp.region (oc (mv hN (ot 17 (qe_api_Cert_6 p77)))
      (oc (mv hN (ot 14 (qI_1 r29)))
      (oc (mv hN (ot 11 (i6 r2.2.2.1)))
      (oc (OpJ.callFn hB fnOk14 (origin_Trusted_ac p77 r29 r2.2.2.1 r97 hr97) [(500, 500), (501, 501)] (by kernel_rfl) (L rfl) (by kernel_rfl) (OpdL.cons (ot 100 (qe_api_Cert_6 p77)) (OpdL.cons (ot 101 (qI_1 r29)) (OpdL.cons (ot 102 (i6 r2.2.2.1)) OpdL.nil))))
      (oc (OpJ.val (v' := (i6 (r97.length : Int))) (by simp) (OpJ.lenD underlying35 (L rfl) (ot 103 (.d (.list 1 (r97.map eB))))))
      (oc (mv hN (Opd.int .i64 (0)))
      (OpJs.nil))))))) (by rfl) (by rfl) ?_
     apply seqQ_n
     refine AWp.ghost (mp [] [(103, (.d (.list 1 (r97.map eB)))), (104, (i6 (r97.length : Int))), (105, (i6 0))] [(500, some (.know (globF 0 [109, 150, 151]))), (501, some (.know (globF 1 [98, 152, 153])))] hB) ?_
     apply AWp.block
     obtain ⟨x110, hx111, h⟩ := bindS h
     refine lg (exchangepointlaw22_OriginMore_L2 r97) (fun s98 : Int => ([(103, (.d (.list 1 (r97.map eB)))), (104, (i6 (r97.length : Int))), (105, (i6 s98))] : EL)) (fun s98 : Int => ([(500, some (.know (globF 0 [109, 150, 151]))), (501, some (.know (globF 1 [98, 152, 153])))] : OL)) (fun (x : (Unit) ⊕ (Unit)) e E' O' => match x with | (.inl _p) => e = .ret ∧ Mat B E' O' ([(8, (bo false))] : EL) ([(500, some (.know (globF 0 [109, 150, 151]))), (501, some (.know (globF 1 [98, 152, 153])))] : OL) | (.inr _p) => e = .exit 4 ∧ Mat B E' O' ([] : EL) ([(500, some (.know (globF 0 [109, 150, 151]))), (501, some (.know (globF 1 [98, 152, 153])))] : OL)) hx111 (mp [] _ _ hB) (fun s98 y h => ?_) (fun e E' O' hR => ?_)
     ·unfold exchangepointlaw22_OriginMore_L2 at h
      apply sr (c (OpJ.lss (L rfl) (q 105) (q 104)) rfl cn)
      apply AWp.seq
      refine AWp.cond rfl (fun hg107 => ?_) (fun hg107 => ?_)
      ·replace h := ite_t hg107 h
       apply AWp.skip
       apply seqQ_n
       apply AWp.seq
       apply AWp.block
       obtain ⟨x108, hx108, h⟩ := bindS h
       apply sr (c (OpJ.indexD underlying35 tyS4 (idx_some hx108).1 (get_map eB (idx_some hx108).2) (L rfl) (q 103) (q 105)) rfl (c (OpJ.loadD tyS4 (by rfl) (by rfl) (L rfl) (q 107)) rfl (c (OpJ.assign (L rfl) (q 108)) rfl cn)))
       apply sr (c (mv hN (q 21)) rfl (c (OpJ.not (L rfl) (q 109)) rfl cn))
       refine AWp.cond rfl (fun hg109 => ?_) (fun hg109 => ?_)
       ·replace h := ite_t hg109 h
        apply sr (c (OpJ.assign (L rfl) (Opd.bool false)) rfl cn)
        apply AWp.ret
        apply blkQ_r
        apply seqQ_r
        obtain rfl := oi h
        exact ⟨(fun hc => by cases hc), rfl, (mp [] _ _ hB)⟩
       ·replace h := ite_f hg109 h
        apply AWp.skip
        apply blkQ_n
        apply seqQ_n
        apply rg (c (add6 (L rfl) (q 105) (Opd.int .i64 (1))) rfl (c (mv hN (q 111)) rfl cn))
        obtain rfl := oi h
        exact ⟨rfl, (mp [] _ _ hB)⟩
      ·replace h := ite_f hg107 h
       apply AWp.exit
       apply seqQ_e
       obtain rfl := oi h
       exact ⟨(fun hc => by cases hc), rfl, (mp [] _ _ hB)⟩
     ·rcases x110 with _ | _
      ·obtain ⟨rfl, hmat⟩ := hR
       apply blkQ_r
       apply seqQ_r
       obtain rfl := oi h
       exact ⟨.inl rfl, _, _, (Mat.trans hmat (mp [] [(8, (bo false))] [(500, some (.know (globF 0 [109, 150, 151]))), (501, some (.know (globF 1 [98, 152, 153])))] hB)), [(bo false)], (Res.tmp (by rfl) (by rfl) Res.nil), rfl, by rfl, by rfl, by rfl⟩
      ·obtain ⟨rfl, hmat⟩ := hR
       apply blkQ_hit
       apply seqQ_n
       refine AWp.ghost hmat ?_
       apply AWp.seq
       obtain ⟨r112, hr112, h⟩ := bindS h
       refine AWp.region (oc (OpJ.callFn hB fnOk9 (exchangepointlaw22_awake_ac  r112 hr112) [(500, 500), (501, 501)] (by kernel_rfl) (L rfl) (by kernel_rfl) OpdL.nil)
        (oc (OpJ.assign (L rfl) (ot 112 (bo r112)))
        (OpJs.nil))) (by rfl) (by rfl) ?_
       apply seqQ_n
       refine AWp.ghost (mp [] [(8, (bo r112))] [(500, some (.know (globF 0 [109, 150, 151]))), (501, some (.know (globF 1 [98, 152, 153])))] hB) ?_
       apply AWp.ret
       obtain rfl := oi h
       exact ⟨.inl rfl, _, _, (kp [(8, _)] [(500, some _), (501, some _)] hB rfl rfl (by rfl)), [(bo r112)], (Res.tmp (by rfl) (by rfl) Res.nil), rfl, by rfl, by rfl, by rfl⟩
end Go.Proofs.YtgfoabcickjphaaGreatDoor
