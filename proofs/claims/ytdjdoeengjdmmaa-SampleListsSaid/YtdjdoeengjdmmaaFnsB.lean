/- Printed by gen.py: the Go functions as plain functions, and that the code does what they say. -/
import Derived.Test.YtdjdoeengjdmmaaChecked
import Derived.Test.YtdjdoeengjdmmaaVcR
import Derived.KernelRfl
import Derived.Test.YtdjdoeengjdmmaaFnsA
namespace Go.Proofs.Ytdjdoeengjdmmaa
open Go Go.Vc
noncomputable def exchangepointmill_Deck_Next (a0 : exchangepointmill_Deck) (a1 : Int) : Option (Int × exchangepointmill_Deck) :=
  (if (decide ((a0.fL.length : Int) ≤ a0.fAt)) = true then
  some ((0 : Int), a0)
  else
  (idx a0.fL (w64 ((w64 (a0.fAt + (1 : Int))) - (1 : Int)))).bind fun x2 =>
  (exchangepointmill_Mod x2 a1).bind fun r3 =>
  some (r3, (exchangepointmill_Deck.mk a0.fL (w64 (a0.fAt + (1 : Int))))))
set_option maxHeartbeats 4000000 in
set_option maxRecDepth 100000 in
theorem exchangepointmill_Deck_Next_ac (a0 : exchangepointmill_Deck) (a1 : Int) (r : Int × exchangepointmill_Deck) (h : exchangepointmill_Deck_Next a0 a1 = some r) : AC Try.prog 25 [(.ptr 0 0 []), (.d (.int .i64 a1))] [(0, (.box 49 (.d (e_exchangepointmill_Deck a0))))] (.d (.int .i64 r.1)) [(0, some (.box 49 (.d (e_exchangepointmill_Deck r.2))))] := by
  refine AC.of_code2 Try.func25 rfl rfl (Nat.le_of_ble_eq_true (by rfl)) fun B hB hN => ?_
  delta exchangepointmill_Deck_Next at h
  refine AWp.seq ?_
  refine AWp.region (OpJs.cons (OpJ.assign (ltN hN rfl) (Opd.int .i64 (0)))
  (OpJs.nil)) (by rfl) (by rfl) ?_
  refine seqQ_n ?_
  refine AWp.ghost (Mat.pat [] [(0, (.ptr 0 0 [])), (1, (.d (.int .i64 a1)))] [(0, some (.box 49 (.d (e_exchangepointmill_Deck a0))))] hB (by rfl) (by rfl) (by rfl)) ?_
  refine AWp.seq ?_
  refine AWp.seq ?_
  refine AWp.draws (by kernel_rfl) (OpJs.cons (OpJ.move (ltN hN rfl) (Opd.tmp 0 (.ptr 0 0 [])))
  (OpJs.cons (OpJ.nilP (obj := (.box 49 (.d (e_exchangepointmill_Deck a0)))) (ltN hN rfl) (Opd.tmp 5 (.ptr 0 0 [])))
  (OpJs.cons (OpJ.val (v' := (.ptr 0 1 [1])) (by rfl) (OpJ.fieldP Try.underlying49 (by rfl) (o := 1) (by rfl) tyS3 (by decide) (obj := (.box 49 (.d (e_exchangepointmill_Deck a0)))) (ltN hN rfl) (Opd.tmp 6 (.ptr 0 0 []))))
  (OpJs.cons (OpJ.loadB (bt := 49) (c := (.d (e_exchangepointmill_Deck a0))) (v := (.d (.int .i64 a0.fAt))) tyS3 (At.dst1 (f := (.int .i64 a0.fAt)) (by rfl) (by rfl) (At.here _) (by first | rfl | omega)) (by rfl) (by rfl) rfl (ltN hN rfl) (Opd.tmp 7 (.ptr 0 1 [1])))
  (OpJs.cons (OpJ.move (ltN hN rfl) (Opd.tmp 0 (.ptr 0 0 [])))
  (OpJs.cons (OpJ.nilP (obj := (.box 49 (.d (e_exchangepointmill_Deck a0)))) (ltN hN rfl) (Opd.tmp 9 (.ptr 0 0 [])))
  (OpJs.cons (OpJ.val (v' := (.ptr 0 0 [0])) (by rfl) (OpJ.fieldP Try.underlying49 (by rfl) (o := 0) (by rfl) tyS23 (by decide) (obj := (.box 49 (.d (e_exchangepointmill_Deck a0)))) (ltN hN rfl) (Opd.tmp 10 (.ptr 0 0 []))))
  (OpJs.cons (OpJ.loadB (bt := 49) (c := (.d (e_exchangepointmill_Deck a0))) (v := (.d (.list 1 (a0.fL.map (eI .i64))))) tyS23 (At.dst1 (f := (.list 1 (a0.fL.map (eI .i64)))) (by rfl) (by rfl) (At.here _) (by first | rfl | omega)) (by rfl) (by rfl) rfl (ltN hN rfl) (Opd.tmp 11 (.ptr 0 0 [0])))
  (OpJs.cons (OpJ.val (v' := (.d (.int .i64 (a0.fL.length : Int)))) (by simp) (OpJ.lenD Try.underlying23 (ltN hN rfl) (Opd.tmp 12 (.d (.list 1 (a0.fL.map (eI .i64)))))))
  (OpJs.cons (OpJ.geq (ltN hN rfl) (Opd.tmp 8 (.d (.int .i64 a0.fAt))) (Opd.tmp 13 (.d (.int .i64 (a0.fL.length : Int)))))
  (OpJs.nil))))))))))) (by kernel_rfl) (by rfl) (by rfl) ?_
  refine seqQ_n ?_
  refine AWp.ghost (Mat.pat [] [(0, (.ptr 0 0 [])), (1, (.d (.int .i64 a1))), (14, (.d (.bool (decide ((a0.fL.length : Int) ≤ a0.fAt)))))] [(0, some (.box 49 (.d (e_exchangepointmill_Deck a0))))] hB (by rfl) (by rfl) (by rfl)) ?_
  refine AWp.cond (b := (decide ((a0.fL.length : Int) ≤ a0.fAt))) (by rfl) (fun hg1 => ?_) (fun hg1 => ?_)
  · replace h := ite_t hg1 h
    refine AWp.seq ?_
    refine AWp.region (OpJs.cons (OpJ.assign (ltN hN rfl) (Opd.int .i64 (0)))
      (OpJs.nil)) (by rfl) (by rfl) ?_
    refine seqQ_n ?_
    refine AWp.ghost (Mat.pat [] [(4, (.d (.int .i64 (0 : Int))))] [(0, some (.box 49 (.d (e_exchangepointmill_Deck a0))))] hB (by rfl) (by rfl) (by rfl)) ?_
    refine AWp.ret ?_
    refine seqQ_r ?_
    obtain rfl := Option.some.inj h
    exact ⟨.inl rfl, _, _, (Mat.pat [] [(4, (.d (.int .i64 (0 : Int))))] [(0, some (.box 49 (.d (e_exchangepointmill_Deck a0))))] hB (by rfl) (by rfl) (by rfl)), [(.d (.int .i64 (0 : Int)))], (Res.tmp (by rfl) (by rfl) Res.nil), rfl, by rfl, by rfl, by rfl⟩
  · replace h := ite_f hg1 h
    refine AWp.skip ?_
    refine seqQ_n ?_
    refine AWp.seq ?_
    refine AWp.region (OpJs.cons (OpJ.move (ltN hN rfl) (Opd.tmp 0 (.ptr 0 0 [])))
      (OpJs.cons (OpJ.nilP (obj := (.box 49 (.d (e_exchangepointmill_Deck a0)))) (ltN hN rfl) (Opd.tmp 15 (.ptr 0 0 [])))
      (OpJs.cons (OpJ.val (v' := (.ptr 0 1 [1])) (by rfl) (OpJ.fieldP Try.underlying49 (by rfl) (o := 1) (by rfl) tyS3 (by decide) (obj := (.box 49 (.d (e_exchangepointmill_Deck a0)))) (ltN hN rfl) (Opd.tmp 16 (.ptr 0 0 []))))
      (OpJs.cons (OpJ.loadB (bt := 49) (c := (.d (e_exchangepointmill_Deck a0))) (v := (.d (.int .i64 a0.fAt))) tyS3 (At.dst1 (f := (.int .i64 a0.fAt)) (by rfl) (by rfl) (At.here _) (by first | rfl | omega)) (by rfl) (by rfl) rfl (ltN hN rfl) (Opd.tmp 17 (.ptr 0 1 [1])))
      (OpJs.cons (OpJ.add (ltN hN rfl) (Opd.tmp 18 (.d (.int .i64 a0.fAt))) (Opd.int .i64 (1)))
      (OpJs.cons (OpJ.nilP (obj := (.box 49 (.d (e_exchangepointmill_Deck a0)))) (ltN hN rfl) (Opd.tmp 15 (.ptr 0 0 [])))
      (OpJs.cons (OpJ.val (v' := (.ptr 0 1 [1])) (by rfl) (OpJ.fieldP Try.underlying49 (by rfl) (o := 1) (by rfl) tyS3 (by decide) (obj := (.box 49 (.d (e_exchangepointmill_Deck a0)))) (ltN hN rfl) (Opd.tmp 20 (.ptr 0 0 []))))
      (OpJs.cons (OpJ.storeB (bt := 49) (c := (.d (e_exchangepointmill_Deck a0))) (v := (.d (.int .i64 (w64 (a0.fAt + (1 : Int)))))) (c' := (.d (.st [(.list 1 (a0.fL.map (eI .i64))), (.int .i64 (w64 (a0.fAt + (1 : Int))))]))) tyS3 (SetAt.dst1 (f := (.int .i64 a0.fAt)) (f' := (.int .i64 (w64 (a0.fAt + (1 : Int))))) (by rfl) (by rfl) (SetAt.here _ _) (by rfl) (by rfl) (by first | rfl | omega)) (by rfl) (by rfl) (by simp) rfl (Opd.tmp 21 (.ptr 0 1 [1])) (Opd.tmp 19 (.d (.int .i64 (w64 (a0.fAt + (1 : Int)))))))
      (OpJs.nil))))))))) (by rfl) (by rfl) ?_
    refine seqQ_n ?_
    refine AWp.ghost (Mat.pat [] [(0, (.ptr 0 0 [])), (1, (.d (.int .i64 a1)))] [(0, some (.box 49 (.d (.st [(.list 1 (a0.fL.map (eI .i64))), (.int .i64 (w64 (a0.fAt + (1 : Int))))]))))] hB (by rfl) (by rfl) (by rfl)) ?_
    refine AWp.seq ?_
    obtain ⟨x2, hx2, h⟩ := bindS h
    obtain ⟨r3, hr3, h⟩ := bindS h
    refine AWp.draws (by kernel_rfl) (OpJs.cons (OpJ.move (ltN hN rfl) (Opd.tmp 0 (.ptr 0 0 [])))
      (OpJs.cons (OpJ.nilP (obj := (.box 49 (.d (.st [(.list 1 (a0.fL.map (eI .i64))), (.int .i64 (w64 (a0.fAt + (1 : Int))))])))) (ltN hN rfl) (Opd.tmp 22 (.ptr 0 0 [])))
      (OpJs.cons (OpJ.val (v' := (.ptr 0 0 [0])) (by rfl) (OpJ.fieldP Try.underlying49 (by rfl) (o := 0) (by rfl) tyS23 (by decide) (obj := (.box 49 (.d (.st [(.list 1 (a0.fL.map (eI .i64))), (.int .i64 (w64 (a0.fAt + (1 : Int))))])))) (ltN hN rfl) (Opd.tmp 23 (.ptr 0 0 []))))
      (OpJs.cons (OpJ.loadB (bt := 49) (c := (.d (.st [(.list 1 (a0.fL.map (eI .i64))), (.int .i64 (w64 (a0.fAt + (1 : Int))))]))) (v := (.d (.list 1 (a0.fL.map (eI .i64))))) tyS23 (At.dst1 (f := (.list 1 (a0.fL.map (eI .i64)))) (by rfl) (by rfl) (At.here _) (by first | rfl | omega)) (by rfl) (by rfl) rfl (ltN hN rfl) (Opd.tmp 24 (.ptr 0 0 [0])))
      (OpJs.cons (OpJ.move (ltN hN rfl) (Opd.tmp 0 (.ptr 0 0 [])))
      (OpJs.cons (OpJ.nilP (obj := (.box 49 (.d (.st [(.list 1 (a0.fL.map (eI .i64))), (.int .i64 (w64 (a0.fAt + (1 : Int))))])))) (ltN hN rfl) (Opd.tmp 26 (.ptr 0 0 [])))
      (OpJs.cons (OpJ.val (v' := (.ptr 0 1 [1])) (by rfl) (OpJ.fieldP Try.underlying49 (by rfl) (o := 1) (by rfl) tyS3 (by decide) (obj := (.box 49 (.d (.st [(.list 1 (a0.fL.map (eI .i64))), (.int .i64 (w64 (a0.fAt + (1 : Int))))])))) (ltN hN rfl) (Opd.tmp 27 (.ptr 0 0 []))))
      (OpJs.cons (OpJ.loadB (bt := 49) (c := (.d (.st [(.list 1 (a0.fL.map (eI .i64))), (.int .i64 (w64 (a0.fAt + (1 : Int))))]))) (v := (.d (.int .i64 (w64 (a0.fAt + (1 : Int)))))) tyS3 (At.dst1 (f := (.int .i64 (w64 (a0.fAt + (1 : Int))))) (by rfl) (by rfl) (At.here _) (by first | rfl | omega)) (by rfl) (by rfl) rfl (ltN hN rfl) (Opd.tmp 28 (.ptr 0 1 [1])))
      (OpJs.cons (OpJ.sub (ltN hN rfl) (Opd.tmp 29 (.d (.int .i64 (w64 (a0.fAt + (1 : Int)))))) (Opd.int .i64 (1)))
      (OpJs.cons (OpJ.indexD (el := (.int .i64 x2)) Try.underlying23 tyS3 (idx_some hx2).1 (get_map (eI .i64) (idx_some hx2).2) (ltN hN rfl) (Opd.tmp 25 (.d (.list 1 (a0.fL.map (eI .i64))))) (Opd.tmp 30 (.d (.int .i64 (w64 ((w64 (a0.fAt + (1 : Int))) - (1 : Int)))))))
      (OpJs.cons (OpJ.loadD tyS3 (by rfl) (by rfl) (ltN hN rfl) (Opd.tmp 31 (.dptr (.int .i64 x2))))
      (OpJs.cons (OpJ.move (ltN hN rfl) (Opd.tmp 1 (.d (.int .i64 a1))))
      (OpJs.cons (OpJ.callFn hB fnOk7 (exchangepointmill_Mod_ac x2 a1 r3 hr3) [] (by kernel_rfl) (ltN hN rfl) (by kernel_rfl) (OpdL.cons (Opd.tmp 32 (.d (.int .i64 x2))) (OpdL.cons (Opd.tmp 33 (.d (.int .i64 a1))) OpdL.nil)))
      (OpJs.cons (OpJ.assign (ltN hN rfl) (Opd.tmp 34 (.d (.int .i64 r3))))
      (OpJs.nil))))))))))))))) (by kernel_rfl) (by rfl) (by rfl) ?_
    refine seqQ_n ?_
    refine AWp.ghost (Mat.pat [] [(4, (.d (.int .i64 r3)))] [(0, some (.box 49 (.d (.st [(.list 1 (a0.fL.map (eI .i64))), (.int .i64 (w64 (a0.fAt + (1 : Int))))]))))] hB (by rfl) (by rfl) (by rfl)) ?_
    refine AWp.ret ?_
    obtain rfl := Option.some.inj h
    exact ⟨.inl rfl, _, _, (Mat.pat [] [(4, (.d (.int .i64 r3)))] [(0, some (.box 49 (.d (.st [(.list 1 (a0.fL.map (eI .i64))), (.int .i64 (w64 (a0.fAt + (1 : Int))))]))))] hB (by rfl) (by rfl) (by rfl)), [(.d (.int .i64 r3))], (Res.tmp (by rfl) (by rfl) Res.nil), rfl, by rfl, by rfl, by rfl⟩

noncomputable def exchangepointmill_Deck_Samples_L0 (s5 : Int × Int × Int × Int × Int × Int × Int × (List api_Sample) × exchangepointmill_Deck) : Option (((exchangepointmill_Deck × (List api_Sample))) ⊕ (Int × Int × Int × Int × Int × Int × Int × (List api_Sample) × exchangepointmill_Deck)) :=
  (if (decide ((0 : Int) < s5.1)) = true then
  (exchangepointmill_Deck_Next s5.2.2.2.2.2.2.2.2 (3 : Int)).bind fun r24 =>
  (exchangepointmill_Deck_Next r24.2 (5 : Int)).bind fun r25 =>
  (exchangepointmill_Deck_Next r25.2 (50 : Int)).bind fun r26 =>
  (exchangepointmill_Deck_Next r26.2 (6 : Int)).bind fun r27 =>
  (exchangepointmill_Deck_Next r27.2 (6 : Int)).bind fun r28 =>
  (exchangepointmill_Deck_Next r28.2 (1500 : Int)).bind fun r29 =>
  chk (decide ((s5.2.2.2.2.2.2.2.1 ++ ([(api_Sample.mk (w64 (s5.2.1 + r25.1)) (w64 (s5.2.2.1 + (w64 ((1 : Int) + r24.1)))) (w64 (s5.2.2.2.1 + (w64 ((w64 ((1 : Int) + r24.1)) + r26.1)))) (w64 ((1 : Int) + r27.1)) (w64 ((1 : Int) + r28.1)) (w64 ((60 : Int) + r29.1)))] : List api_Sample)).length ≤ LIM)) <|
  some (.inr ((w64 (s5.1 - (1 : Int))), (w64 (s5.2.1 + r25.1)), (w64 (s5.2.2.1 + (w64 ((1 : Int) + r24.1)))), (w64 (s5.2.2.2.1 + (w64 ((w64 ((1 : Int) + r24.1)) + r26.1)))), (w64 ((1 : Int) + r27.1)), (w64 ((1 : Int) + r28.1)), (w64 ((60 : Int) + r29.1)), (s5.2.2.2.2.2.2.2.1 ++ ([(api_Sample.mk (w64 (s5.2.1 + r25.1)) (w64 (s5.2.2.1 + (w64 ((1 : Int) + r24.1)))) (w64 (s5.2.2.2.1 + (w64 ((w64 ((1 : Int) + r24.1)) + r26.1)))) (w64 ((1 : Int) + r27.1)) (w64 ((1 : Int) + r28.1)) (w64 ((60 : Int) + r29.1)))] : List api_Sample)), r29.2))
  else
  some (.inl (s5.2.2.2.2.2.2.2.2, s5.2.2.2.2.2.2.2.1)))
noncomputable def exchangepointmill_Deck_Samples (a0 : exchangepointmill_Deck) : Option ((List api_Sample) × exchangepointmill_Deck) :=
  (exchangepointmill_Deck_Next a0 (100 : Int)).bind fun r1 =>
  (exchangepointmill_Deck_Next r1.2 (9 : Int)).bind fun r2 =>
  (exchangepointmill_Deck_Next r2.2 (1000 : Int)).bind fun r3 =>
  (exchangepointmill_Deck_Next r3.2 (16 : Int)).bind fun r4 =>
  (loop (exchangepointmill_Deck_Samples_L0) (r4.1, r1.1, r2.1, r3.1, (0 : Int), (0 : Int), (0 : Int), ([] : List api_Sample), r4.2)).bind fun p22 =>
  some (p22.2, p22.1)
set_option maxHeartbeats 4000000 in
set_option maxRecDepth 100000 in
theorem exchangepointmill_Deck_Samples_ac (a0 : exchangepointmill_Deck) (r : (List api_Sample) × exchangepointmill_Deck) (h : exchangepointmill_Deck_Samples a0 = some r) : AC Try.prog 13 [(.ptr 0 0 [])] [(0, (.box 49 (.d (e_exchangepointmill_Deck a0))))] (.d (.list 6 (r.1.map e_api_Sample))) [(0, some (.box 49 (.d (e_exchangepointmill_Deck r.2))))] := by
  refine AC.of_code2 Try.func13 rfl rfl (Nat.le_of_ble_eq_true (by rfl)) fun B hB hN => ?_
  delta exchangepointmill_Deck_Samples at h
  refine AWp.seq ?_
  refine AWp.region (OpJs.cons (OpJ.assign (ltN hN rfl) Opd.nils)
  (OpJs.nil)) (by rfl) (by rfl) ?_
  refine seqQ_n ?_
  refine AWp.ghost (Mat.pat [] [(0, (.ptr 0 0 []))] [(0, some (.box 49 (.d (e_exchangepointmill_Deck a0))))] hB (by rfl) (by rfl) (by rfl)) ?_
  refine AWp.seq ?_
  refine AWp.region (OpJs.cons (OpJ.assign (ltN hN rfl) Opd.nils)
  (OpJs.nil)) (by rfl) (by rfl) ?_
  refine seqQ_n ?_
  refine AWp.ghost (Mat.pat [] [(0, (.ptr 0 0 [])), (3, .nils)] [(0, some (.box 49 (.d (e_exchangepointmill_Deck a0))))] hB (by rfl) (by rfl) (by rfl)) ?_
  refine AWp.seq ?_
  obtain ⟨r1, hr1, h⟩ := bindS h
  obtain ⟨r2, hr2, h⟩ := bindS h
  obtain ⟨r3, hr3, h⟩ := bindS h
  refine AWp.region (OpJs.cons (OpJ.move (ltN hN rfl) (Opd.tmp 0 (.ptr 0 0 [])))
  (OpJs.cons (OpJ.callFn hB fnOk25 (exchangepointmill_Deck_Next_ac a0 (100 : Int) r1 hr1) [(0, 0)] (by kernel_rfl) (ltN hN rfl) (by kernel_rfl) (OpdL.cons (Opd.tmp 7 (.ptr 0 0 [])) (OpdL.cons (Opd.int .i64 (100)) OpdL.nil)))
  (OpJs.cons (OpJ.move (ltN hN rfl) (Opd.tmp 0 (.ptr 0 0 [])))
  (OpJs.cons (OpJ.callFn hB fnOk25 (exchangepointmill_Deck_Next_ac r1.2 (9 : Int) r2 hr2) [(0, 0)] (by kernel_rfl) (ltN hN rfl) (by kernel_rfl) (OpdL.cons (Opd.tmp 9 (.ptr 0 0 [])) (OpdL.cons (Opd.int .i64 (9)) OpdL.nil)))
  (OpJs.cons (OpJ.move (ltN hN rfl) (Opd.tmp 0 (.ptr 0 0 [])))
  (OpJs.cons (OpJ.callFn hB fnOk25 (exchangepointmill_Deck_Next_ac r2.2 (1000 : Int) r3 hr3) [(0, 0)] (by kernel_rfl) (ltN hN rfl) (by kernel_rfl) (OpdL.cons (Opd.tmp 11 (.ptr 0 0 [])) (OpdL.cons (Opd.int .i64 (1000)) OpdL.nil)))
  (OpJs.cons (OpJ.coe (v := (.st [(.d (.int .i64 r1.1)), (.d (.int .i64 r2.1)), (.d (.int .i64 r3.1)), (.d (.int .i64 (0 : Int))), (.d (.int .i64 (0 : Int))), (.d (.int .i64 (0 : Int)))])) (y := (.st [(.int .i64 r1.1), (.int .i64 r2.1), (.int .i64 r3.1), (.int .i64 (0 : Int)), (.int .i64 (0 : Int)), (.int .i64 (0 : Int))])) (Co.st (CoL.cons (Co.d _) (CoL.cons (Co.d _) (CoL.cons (Co.d _) (CoL.cons (Co.d _) (CoL.cons (Co.d _) (CoL.cons (Co.d _) CoL.nil))))))) rfl (OpJ.build (places := [(0, 1), (1, 1), (2, 1), (3, 1), (4, 1), (5, 1)]) ⟨Try.underlying36, fun w => by kernel_rfl⟩ tyZS36 (Opds.cons (Opd.tmp 8 (.d (.int .i64 r1.1))) (Opds.cons (Opd.tmp 10 (.d (.int .i64 r2.1))) (Opds.cons (Opd.tmp 12 (.d (.int .i64 r3.1))) Opds.nil))) (by kernel_rfl) (r := (.st [(.d (.int .i64 r1.1)), (.d (.int .i64 r2.1)), (.d (.int .i64 r3.1)), (.d (.int .i64 (0 : Int))), (.d (.int .i64 (0 : Int))), (.d (.int .i64 (0 : Int)))])) (by rfl) (ltN hN rfl)))
  (OpJs.cons (OpJ.alloc hB tyZ36 (nm := 1004) (by decide) (ltN hN rfl))
  (OpJs.cons (OpJ.storeB (bt := 36) (c := (.d (.st [(.int .i64 (0 : Int)), (.int .i64 (0 : Int)), (.int .i64 (0 : Int)), (.int .i64 (0 : Int)), (.int .i64 (0 : Int)), (.int .i64 (0 : Int))]))) (v := (.d (.st [(.int .i64 r1.1), (.int .i64 r2.1), (.int .i64 r3.1), (.int .i64 (0 : Int)), (.int .i64 (0 : Int)), (.int .i64 (0 : Int))]))) (c' := (.d (.st [(.int .i64 r1.1), (.int .i64 r2.1), (.int .i64 r3.1), (.int .i64 (0 : Int)), (.int .i64 (0 : Int)), (.int .i64 (0 : Int))]))) tyS36 (SetAt.here _ _) (by rfl) (by rfl) (by simp) rfl (Opd.tmp 4 (.ptr 1004 0 [])) (Opd.tmp 13 (.d (.st [(.int .i64 r1.1), (.int .i64 r2.1), (.int .i64 r3.1), (.int .i64 (0 : Int)), (.int .i64 (0 : Int)), (.int .i64 (0 : Int))]))))
  (OpJs.nil)))))))))) (by rfl) (by rfl) ?_
  refine seqQ_n ?_
  refine AWp.ghost (Mat.pat [] [(0, (.ptr 0 0 [])), (3, .nils), (4, (.ptr 1004 0 []))] [(0, some (.box 49 (.d (e_exchangepointmill_Deck r3.2)))), (1004, some (.box 36 (.d (.st [(.int .i64 r1.1), (.int .i64 r2.1), (.int .i64 r3.1), (.int .i64 (0 : Int)), (.int .i64 (0 : Int)), (.int .i64 (0 : Int))]))))] hB (by rfl) (by rfl) (by rfl)) ?_
  refine AWp.seq ?_
  refine AWp.seq ?_
  obtain ⟨r4, hr4, h⟩ := bindS h
  refine AWp.region (OpJs.cons (OpJ.move (ltN hN rfl) (Opd.tmp 0 (.ptr 0 0 [])))
  (OpJs.cons (OpJ.callFn hB fnOk25 (exchangepointmill_Deck_Next_ac r3.2 (16 : Int) r4 hr4) [(0, 0)] (by kernel_rfl) (ltN hN rfl) (by kernel_rfl) (OpdL.cons (Opd.tmp 14 (.ptr 0 0 [])) (OpdL.cons (Opd.int .i64 (16)) OpdL.nil)))
  (OpJs.cons (OpJ.assign (ltN hN rfl) (Opd.tmp 15 (.d (.int .i64 r4.1))))
  (OpJs.nil)))) (by rfl) (by rfl) ?_
  refine seqQ_n ?_
  refine AWp.ghost (Mat.pat [] [(0, (.ptr 0 0 [])), (3, .nils), (4, (.ptr 1004 0 [])), (5, (.d (.int .i64 r4.1)))] [(0, some (.box 49 (.d (e_exchangepointmill_Deck r4.2)))), (1004, some (.box 36 (.d (.st [(.int .i64 r1.1), (.int .i64 r2.1), (.int .i64 r3.1), (.int .i64 (0 : Int)), (.int .i64 (0 : Int)), (.int .i64 (0 : Int))]))))] hB (by rfl) (by rfl) (by rfl)) ?_
  refine AWp.block ?_
  obtain ⟨p22, hx32, h⟩ := bindS h
  refine AWp.ghost (Mat.trans (Mat.begin (n := 3003) (e := 36) (sz := 6) (k := 3) hB (by decide) (by rfl) (by decide) (by rfl)) (Mat.pat [] ((fun s5 : Int × Int × Int × Int × Int × Int × Int × (List api_Sample) × exchangepointmill_Deck => ([(0, (.ptr 0 0 [])), (3, (.sref 3003 6 0 s5.2.2.2.2.2.2.2.1.length)), (4, (.ptr 1004 0 [])), (5, (.d (.int .i64 s5.1)))] : EL)) (r4.1, r1.1, r2.1, r3.1, (0 : Int), (0 : Int), (0 : Int), ([] : List api_Sample), r4.2)) ((fun s5 : Int × Int × Int × Int × Int × Int × Int × (List api_Sample) × exchangepointmill_Deck => ([(0, some (.box 49 (.d (e_exchangepointmill_Deck s5.2.2.2.2.2.2.2.2)))), (1004, some (.box 36 (.d (.st [(.int .i64 s5.2.1), (.int .i64 s5.2.2.1), (.int .i64 s5.2.2.2.1), (.int .i64 s5.2.2.2.2.1), (.int .i64 s5.2.2.2.2.2.1), (.int .i64 s5.2.2.2.2.2.2.1)])))), (3003, some (.row 36 6 (s5.2.2.2.2.2.2.2.1.map e_api_Sample)))] : OL)) (r4.1, r1.1, r2.1, r3.1, (0 : Int), (0 : Int), (0 : Int), ([] : List api_Sample), r4.2)) hB (by rfl) (by rfl) (by rfl))) ?_
  refine AWp.loopS (exchangepointmill_Deck_Samples_L0) (fun s5 : Int × Int × Int × Int × Int × Int × Int × (List api_Sample) × exchangepointmill_Deck => ([(0, (.ptr 0 0 [])), (3, (.sref 3003 6 0 s5.2.2.2.2.2.2.2.1.length)), (4, (.ptr 1004 0 [])), (5, (.d (.int .i64 s5.1)))] : EL)) (fun s5 : Int × Int × Int × Int × Int × Int × Int × (List api_Sample) × exchangepointmill_Deck => ([(0, some (.box 49 (.d (e_exchangepointmill_Deck s5.2.2.2.2.2.2.2.2)))), (1004, some (.box 36 (.d (.st [(.int .i64 s5.2.1), (.int .i64 s5.2.2.1), (.int .i64 s5.2.2.2.1), (.int .i64 s5.2.2.2.2.1), (.int .i64 s5.2.2.2.2.2.1), (.int .i64 s5.2.2.2.2.2.2.1)])))), (3003, some (.row 36 6 (s5.2.2.2.2.2.2.2.1.map e_api_Sample)))] : OL)) (fun (p22 : (exchangepointmill_Deck × (List api_Sample))) e E' O' => e = .exit 0 ∧ Mat B E' O' ([(3, (.sref 3003 6 0 p22.2.length))] : EL) ([(0, some (.box 49 (.d (e_exchangepointmill_Deck p22.1)))), (3003, some (.row 36 6 (p22.2.map e_api_Sample)))] : OL)) hx32 (fun s5 y h => ?_) (fun e E' O' hR => ?_)
  · unfold exchangepointmill_Deck_Samples_L0 at h
    show AWp _ _ _ _ ([(0, (.ptr 0 0 [])), (3, (.sref 3003 6 0 s5.2.2.2.2.2.2.2.1.length)), (4, (.ptr 1004 0 [])), (5, (.d (.int .i64 s5.1)))] : EL) ([(0, some (.box 49 (.d (e_exchangepointmill_Deck s5.2.2.2.2.2.2.2.2)))), (1004, some (.box 36 (.d (.st [(.int .i64 s5.2.1), (.int .i64 s5.2.2.1), (.int .i64 s5.2.2.2.1), (.int .i64 s5.2.2.2.2.1), (.int .i64 s5.2.2.2.2.2.1), (.int .i64 s5.2.2.2.2.2.2.1)])))), (3003, some (.row 36 6 (s5.2.2.2.2.2.2.2.1.map e_api_Sample)))] : OL)
    refine AWp.seq ?_
    refine AWp.seq ?_
    refine AWp.region (OpJs.cons (OpJ.move (ltN hN rfl) (Opd.tmp 5 (.d (.int .i64 s5.1))))
      (OpJs.cons (OpJ.gtr (ltN hN rfl) (Opd.tmp 16 (.d (.int .i64 s5.1))) (Opd.int .i64 (0)))
      (OpJs.nil))) (by rfl) (by rfl) ?_
    refine seqQ_n ?_
    refine AWp.ghost (Mat.pat [] [(0, (.ptr 0 0 [])), (3, (.sref 3003 6 0 s5.2.2.2.2.2.2.2.1.length)), (4, (.ptr 1004 0 [])), (5, (.d (.int .i64 s5.1))), (17, (.d (.bool (decide ((0 : Int) < s5.1)))))] [(0, some (.box 49 (.d (e_exchangepointmill_Deck s5.2.2.2.2.2.2.2.2)))), (1004, some (.box 36 (.d (.st [(.int .i64 s5.2.1), (.int .i64 s5.2.2.1), (.int .i64 s5.2.2.2.1), (.int .i64 s5.2.2.2.2.1), (.int .i64 s5.2.2.2.2.2.1), (.int .i64 s5.2.2.2.2.2.2.1)])))), (3003, some (.row 36 6 (s5.2.2.2.2.2.2.2.1.map e_api_Sample)))] hB (by rfl) (by rfl) (by rfl)) ?_
    refine AWp.cond (b := (decide ((0 : Int) < s5.1))) (by rfl) (fun hg23 => ?_) (fun hg23 => ?_)
    · replace h := ite_t hg23 h
      refine AWp.skip ?_
      refine seqQ_n ?_
      refine AWp.seq ?_
      refine AWp.block ?_
      refine AWp.seq ?_
      obtain ⟨r24, hr24, h⟩ := bindS h
      refine AWp.region (OpJs.cons (OpJ.move (ltN hN rfl) (Opd.tmp 0 (.ptr 0 0 [])))
        (OpJs.cons (OpJ.callFn hB fnOk25 (exchangepointmill_Deck_Next_ac s5.2.2.2.2.2.2.2.2 (3 : Int) r24 hr24) [(0, 0)] (by kernel_rfl) (ltN hN rfl) (by kernel_rfl) (OpdL.cons (Opd.tmp 20 (.ptr 0 0 [])) (OpdL.cons (Opd.int .i64 (3)) OpdL.nil)))
        (OpJs.cons (OpJ.add (ltN hN rfl) (Opd.int .i64 (1)) (Opd.tmp 21 (.d (.int .i64 r24.1))))
        (OpJs.cons (OpJ.assign (ltN hN rfl) (Opd.tmp 22 (.d (.int .i64 (w64 ((1 : Int) + r24.1))))))
        (OpJs.nil))))) (by rfl) (by rfl) ?_
      refine seqQ_n ?_
      refine AWp.ghost (Mat.pat [] [(0, (.ptr 0 0 [])), (3, (.sref 3003 6 0 s5.2.2.2.2.2.2.2.1.length)), (4, (.ptr 1004 0 [])), (5, (.d (.int .i64 s5.1))), (6, (.d (.int .i64 (w64 ((1 : Int) + r24.1)))))] [(0, some (.box 49 (.d (e_exchangepointmill_Deck r24.2)))), (1004, some (.box 36 (.d (.st [(.int .i64 s5.2.1), (.int .i64 s5.2.2.1), (.int .i64 s5.2.2.2.1), (.int .i64 s5.2.2.2.2.1), (.int .i64 s5.2.2.2.2.2.1), (.int .i64 s5.2.2.2.2.2.2.1)])))), (3003, some (.row 36 6 (s5.2.2.2.2.2.2.2.1.map e_api_Sample)))] hB (by rfl) (by rfl) (by rfl)) ?_
      refine AWp.seq ?_
      obtain ⟨r25, hr25, h⟩ := bindS h
      refine AWp.draws (by kernel_rfl) (OpJs.cons (OpJ.val (v' := (.ptr 1004 0 [0])) (by rfl) (OpJ.fieldP Try.underlying36 (by rfl) (o := 0) (by rfl) tyS3 (by decide) (obj := (.box 36 (.d (.st [(.int .i64 s5.2.1), (.int .i64 s5.2.2.1), (.int .i64 s5.2.2.2.1), (.int .i64 s5.2.2.2.2.1), (.int .i64 s5.2.2.2.2.2.1), (.int .i64 s5.2.2.2.2.2.2.1)])))) (ltN hN rfl) (Opd.tmp 4 (.ptr 1004 0 []))))
        (OpJs.cons (OpJ.loadB (bt := 36) (c := (.d (.st [(.int .i64 s5.2.1), (.int .i64 s5.2.2.1), (.int .i64 s5.2.2.2.1), (.int .i64 s5.2.2.2.2.1), (.int .i64 s5.2.2.2.2.2.1), (.int .i64 s5.2.2.2.2.2.2.1)]))) (v := (.d (.int .i64 s5.2.1))) tyS3 (At.dst1 (f := (.int .i64 s5.2.1)) (by rfl) (by rfl) (At.here _) (by first | rfl | omega)) (by rfl) (by rfl) rfl (ltN hN rfl) (Opd.tmp 23 (.ptr 1004 0 [0])))
        (OpJs.cons (OpJ.move (ltN hN rfl) (Opd.tmp 0 (.ptr 0 0 [])))
        (OpJs.cons (OpJ.callFn hB fnOk25 (exchangepointmill_Deck_Next_ac r24.2 (5 : Int) r25 hr25) [(0, 0)] (by kernel_rfl) (ltN hN rfl) (by kernel_rfl) (OpdL.cons (Opd.tmp 25 (.ptr 0 0 [])) (OpdL.cons (Opd.int .i64 (5)) OpdL.nil)))
        (OpJs.cons (OpJ.add (ltN hN rfl) (Opd.tmp 24 (.d (.int .i64 s5.2.1))) (Opd.tmp 26 (.d (.int .i64 r25.1))))
        (OpJs.cons (OpJ.val (v' := (.ptr 1004 0 [0])) (by rfl) (OpJ.fieldP Try.underlying36 (by rfl) (o := 0) (by rfl) tyS3 (by decide) (obj := (.box 36 (.d (.st [(.int .i64 s5.2.1), (.int .i64 s5.2.2.1), (.int .i64 s5.2.2.2.1), (.int .i64 s5.2.2.2.2.1), (.int .i64 s5.2.2.2.2.2.1), (.int .i64 s5.2.2.2.2.2.2.1)])))) (ltN hN rfl) (Opd.tmp 4 (.ptr 1004 0 []))))
        (OpJs.cons (OpJ.storeB (bt := 36) (c := (.d (.st [(.int .i64 s5.2.1), (.int .i64 s5.2.2.1), (.int .i64 s5.2.2.2.1), (.int .i64 s5.2.2.2.2.1), (.int .i64 s5.2.2.2.2.2.1), (.int .i64 s5.2.2.2.2.2.2.1)]))) (v := (.d (.int .i64 (w64 (s5.2.1 + r25.1))))) (c' := (.d (.st [(.int .i64 (w64 (s5.2.1 + r25.1))), (.int .i64 s5.2.2.1), (.int .i64 s5.2.2.2.1), (.int .i64 s5.2.2.2.2.1), (.int .i64 s5.2.2.2.2.2.1), (.int .i64 s5.2.2.2.2.2.2.1)]))) tyS3 (SetAt.dst1 (f := (.int .i64 s5.2.1)) (f' := (.int .i64 (w64 (s5.2.1 + r25.1)))) (by rfl) (by rfl) (SetAt.here _ _) (by rfl) (by rfl) (by first | rfl | omega)) (by rfl) (by rfl) (by simp) rfl (Opd.tmp 28 (.ptr 1004 0 [0])) (Opd.tmp 27 (.d (.int .i64 (w64 (s5.2.1 + r25.1))))))
        (OpJs.nil)))))))) (by kernel_rfl) (by rfl) (by rfl) ?_
      refine seqQ_n ?_
      refine AWp.ghost (Mat.pat [] [(0, (.ptr 0 0 [])), (3, (.sref 3003 6 0 s5.2.2.2.2.2.2.2.1.length)), (4, (.ptr 1004 0 [])), (5, (.d (.int .i64 s5.1))), (6, (.d (.int .i64 (w64 ((1 : Int) + r24.1)))))] [(0, some (.box 49 (.d (e_exchangepointmill_Deck r25.2)))), (1004, some (.box 36 (.d (.st [(.int .i64 (w64 (s5.2.1 + r25.1))), (.int .i64 s5.2.2.1), (.int .i64 s5.2.2.2.1), (.int .i64 s5.2.2.2.2.1), (.int .i64 s5.2.2.2.2.2.1), (.int .i64 s5.2.2.2.2.2.2.1)])))), (3003, some (.row 36 6 (s5.2.2.2.2.2.2.2.1.map e_api_Sample)))] hB (by rfl) (by rfl) (by rfl)) ?_
      refine AWp.seq ?_
      refine AWp.region (OpJs.cons (OpJ.val (v' := (.ptr 1004 1 [1])) (by rfl) (OpJ.fieldP Try.underlying36 (by rfl) (o := 1) (by rfl) tyS3 (by decide) (obj := (.box 36 (.d (.st [(.int .i64 (w64 (s5.2.1 + r25.1))), (.int .i64 s5.2.2.1), (.int .i64 s5.2.2.2.1), (.int .i64 s5.2.2.2.2.1), (.int .i64 s5.2.2.2.2.2.1), (.int .i64 s5.2.2.2.2.2.2.1)])))) (ltN hN rfl) (Opd.tmp 4 (.ptr 1004 0 []))))
        (OpJs.cons (OpJ.loadB (bt := 36) (c := (.d (.st [(.int .i64 (w64 (s5.2.1 + r25.1))), (.int .i64 s5.2.2.1), (.int .i64 s5.2.2.2.1), (.int .i64 s5.2.2.2.2.1), (.int .i64 s5.2.2.2.2.2.1), (.int .i64 s5.2.2.2.2.2.2.1)]))) (v := (.d (.int .i64 s5.2.2.1))) tyS3 (At.dst1 (f := (.int .i64 s5.2.2.1)) (by rfl) (by rfl) (At.here _) (by first | rfl | omega)) (by rfl) (by rfl) rfl (ltN hN rfl) (Opd.tmp 29 (.ptr 1004 1 [1])))
        (OpJs.cons (OpJ.move (ltN hN rfl) (Opd.tmp 6 (.d (.int .i64 (w64 ((1 : Int) + r24.1))))))
        (OpJs.cons (OpJ.add (ltN hN rfl) (Opd.tmp 30 (.d (.int .i64 s5.2.2.1))) (Opd.tmp 31 (.d (.int .i64 (w64 ((1 : Int) + r24.1))))))
        (OpJs.cons (OpJ.val (v' := (.ptr 1004 1 [1])) (by rfl) (OpJ.fieldP Try.underlying36 (by rfl) (o := 1) (by rfl) tyS3 (by decide) (obj := (.box 36 (.d (.st [(.int .i64 (w64 (s5.2.1 + r25.1))), (.int .i64 s5.2.2.1), (.int .i64 s5.2.2.2.1), (.int .i64 s5.2.2.2.2.1), (.int .i64 s5.2.2.2.2.2.1), (.int .i64 s5.2.2.2.2.2.2.1)])))) (ltN hN rfl) (Opd.tmp 4 (.ptr 1004 0 []))))
        (OpJs.cons (OpJ.storeB (bt := 36) (c := (.d (.st [(.int .i64 (w64 (s5.2.1 + r25.1))), (.int .i64 s5.2.2.1), (.int .i64 s5.2.2.2.1), (.int .i64 s5.2.2.2.2.1), (.int .i64 s5.2.2.2.2.2.1), (.int .i64 s5.2.2.2.2.2.2.1)]))) (v := (.d (.int .i64 (w64 (s5.2.2.1 + (w64 ((1 : Int) + r24.1))))))) (c' := (.d (.st [(.int .i64 (w64 (s5.2.1 + r25.1))), (.int .i64 (w64 (s5.2.2.1 + (w64 ((1 : Int) + r24.1))))), (.int .i64 s5.2.2.2.1), (.int .i64 s5.2.2.2.2.1), (.int .i64 s5.2.2.2.2.2.1), (.int .i64 s5.2.2.2.2.2.2.1)]))) tyS3 (SetAt.dst1 (f := (.int .i64 s5.2.2.1)) (f' := (.int .i64 (w64 (s5.2.2.1 + (w64 ((1 : Int) + r24.1)))))) (by rfl) (by rfl) (SetAt.here _ _) (by rfl) (by rfl) (by first | rfl | omega)) (by rfl) (by rfl) (by simp) rfl (Opd.tmp 33 (.ptr 1004 1 [1])) (Opd.tmp 32 (.d (.int .i64 (w64 (s5.2.2.1 + (w64 ((1 : Int) + r24.1))))))))
        (OpJs.nil))))))) (by rfl) (by rfl) ?_
      refine seqQ_n ?_
      refine AWp.ghost (Mat.pat [] [(0, (.ptr 0 0 [])), (3, (.sref 3003 6 0 s5.2.2.2.2.2.2.2.1.length)), (4, (.ptr 1004 0 [])), (5, (.d (.int .i64 s5.1))), (6, (.d (.int .i64 (w64 ((1 : Int) + r24.1)))))] [(0, some (.box 49 (.d (e_exchangepointmill_Deck r25.2)))), (1004, some (.box 36 (.d (.st [(.int .i64 (w64 (s5.2.1 + r25.1))), (.int .i64 (w64 (s5.2.2.1 + (w64 ((1 : Int) + r24.1))))), (.int .i64 s5.2.2.2.1), (.int .i64 s5.2.2.2.2.1), (.int .i64 s5.2.2.2.2.2.1), (.int .i64 s5.2.2.2.2.2.2.1)])))), (3003, some (.row 36 6 (s5.2.2.2.2.2.2.2.1.map e_api_Sample)))] hB (by rfl) (by rfl) (by rfl)) ?_
      refine AWp.seq ?_
      obtain ⟨r26, hr26, h⟩ := bindS h
      refine AWp.draws (by kernel_rfl) (OpJs.cons (OpJ.val (v' := (.ptr 1004 2 [2])) (by rfl) (OpJ.fieldP Try.underlying36 (by rfl) (o := 2) (by rfl) tyS3 (by decide) (obj := (.box 36 (.d (.st [(.int .i64 (w64 (s5.2.1 + r25.1))), (.int .i64 (w64 (s5.2.2.1 + (w64 ((1 : Int) + r24.1))))), (.int .i64 s5.2.2.2.1), (.int .i64 s5.2.2.2.2.1), (.int .i64 s5.2.2.2.2.2.1), (.int .i64 s5.2.2.2.2.2.2.1)])))) (ltN hN rfl) (Opd.tmp 4 (.ptr 1004 0 []))))
        (OpJs.cons (OpJ.loadB (bt := 36) (c := (.d (.st [(.int .i64 (w64 (s5.2.1 + r25.1))), (.int .i64 (w64 (s5.2.2.1 + (w64 ((1 : Int) + r24.1))))), (.int .i64 s5.2.2.2.1), (.int .i64 s5.2.2.2.2.1), (.int .i64 s5.2.2.2.2.2.1), (.int .i64 s5.2.2.2.2.2.2.1)]))) (v := (.d (.int .i64 s5.2.2.2.1))) tyS3 (At.dst1 (f := (.int .i64 s5.2.2.2.1)) (by rfl) (by rfl) (At.here _) (by first | rfl | omega)) (by rfl) (by rfl) rfl (ltN hN rfl) (Opd.tmp 34 (.ptr 1004 2 [2])))
        (OpJs.cons (OpJ.move (ltN hN rfl) (Opd.tmp 6 (.d (.int .i64 (w64 ((1 : Int) + r24.1))))))
        (OpJs.cons (OpJ.move (ltN hN rfl) (Opd.tmp 0 (.ptr 0 0 [])))
        (OpJs.cons (OpJ.callFn hB fnOk25 (exchangepointmill_Deck_Next_ac r25.2 (50 : Int) r26 hr26) [(0, 0)] (by kernel_rfl) (ltN hN rfl) (by kernel_rfl) (OpdL.cons (Opd.tmp 37 (.ptr 0 0 [])) (OpdL.cons (Opd.int .i64 (50)) OpdL.nil)))
        (OpJs.cons (OpJ.add (ltN hN rfl) (Opd.tmp 36 (.d (.int .i64 (w64 ((1 : Int) + r24.1))))) (Opd.tmp 38 (.d (.int .i64 r26.1))))
        (OpJs.cons (OpJ.add (ltN hN rfl) (Opd.tmp 35 (.d (.int .i64 s5.2.2.2.1))) (Opd.tmp 39 (.d (.int .i64 (w64 ((w64 ((1 : Int) + r24.1)) + r26.1))))))
        (OpJs.cons (OpJ.val (v' := (.ptr 1004 2 [2])) (by rfl) (OpJ.fieldP Try.underlying36 (by rfl) (o := 2) (by rfl) tyS3 (by decide) (obj := (.box 36 (.d (.st [(.int .i64 (w64 (s5.2.1 + r25.1))), (.int .i64 (w64 (s5.2.2.1 + (w64 ((1 : Int) + r24.1))))), (.int .i64 s5.2.2.2.1), (.int .i64 s5.2.2.2.2.1), (.int .i64 s5.2.2.2.2.2.1), (.int .i64 s5.2.2.2.2.2.2.1)])))) (ltN hN rfl) (Opd.tmp 4 (.ptr 1004 0 []))))
        (OpJs.cons (OpJ.storeB (bt := 36) (c := (.d (.st [(.int .i64 (w64 (s5.2.1 + r25.1))), (.int .i64 (w64 (s5.2.2.1 + (w64 ((1 : Int) + r24.1))))), (.int .i64 s5.2.2.2.1), (.int .i64 s5.2.2.2.2.1), (.int .i64 s5.2.2.2.2.2.1), (.int .i64 s5.2.2.2.2.2.2.1)]))) (v := (.d (.int .i64 (w64 (s5.2.2.2.1 + (w64 ((w64 ((1 : Int) + r24.1)) + r26.1))))))) (c' := (.d (.st [(.int .i64 (w64 (s5.2.1 + r25.1))), (.int .i64 (w64 (s5.2.2.1 + (w64 ((1 : Int) + r24.1))))), (.int .i64 (w64 (s5.2.2.2.1 + (w64 ((w64 ((1 : Int) + r24.1)) + r26.1))))), (.int .i64 s5.2.2.2.2.1), (.int .i64 s5.2.2.2.2.2.1), (.int .i64 s5.2.2.2.2.2.2.1)]))) tyS3 (SetAt.dst1 (f := (.int .i64 s5.2.2.2.1)) (f' := (.int .i64 (w64 (s5.2.2.2.1 + (w64 ((w64 ((1 : Int) + r24.1)) + r26.1)))))) (by rfl) (by rfl) (SetAt.here _ _) (by rfl) (by rfl) (by first | rfl | omega)) (by rfl) (by rfl) (by simp) rfl (Opd.tmp 41 (.ptr 1004 2 [2])) (Opd.tmp 40 (.d (.int .i64 (w64 (s5.2.2.2.1 + (w64 ((w64 ((1 : Int) + r24.1)) + r26.1))))))))
        (OpJs.nil)))))))))) (by kernel_rfl) (by rfl) (by rfl) ?_
      refine seqQ_n ?_
      refine AWp.ghost (Mat.pat [] [(0, (.ptr 0 0 [])), (3, (.sref 3003 6 0 s5.2.2.2.2.2.2.2.1.length)), (4, (.ptr 1004 0 [])), (5, (.d (.int .i64 s5.1)))] [(0, some (.box 49 (.d (e_exchangepointmill_Deck r26.2)))), (1004, some (.box 36 (.d (.st [(.int .i64 (w64 (s5.2.1 + r25.1))), (.int .i64 (w64 (s5.2.2.1 + (w64 ((1 : Int) + r24.1))))), (.int .i64 (w64 (s5.2.2.2.1 + (w64 ((w64 ((1 : Int) + r24.1)) + r26.1))))), (.int .i64 s5.2.2.2.2.1), (.int .i64 s5.2.2.2.2.2.1), (.int .i64 s5.2.2.2.2.2.2.1)])))), (3003, some (.row 36 6 (s5.2.2.2.2.2.2.2.1.map e_api_Sample)))] hB (by rfl) (by rfl) (by rfl)) ?_
      refine AWp.seq ?_
      obtain ⟨r27, hr27, h⟩ := bindS h
      obtain ⟨r28, hr28, h⟩ := bindS h
      obtain ⟨r29, hr29, h⟩ := bindS h
      refine AWp.region (OpJs.cons (OpJ.move (ltN hN rfl) (Opd.tmp 0 (.ptr 0 0 [])))
        (OpJs.cons (OpJ.callFn hB fnOk25 (exchangepointmill_Deck_Next_ac r26.2 (6 : Int) r27 hr27) [(0, 0)] (by kernel_rfl) (ltN hN rfl) (by kernel_rfl) (OpdL.cons (Opd.tmp 42 (.ptr 0 0 [])) (OpdL.cons (Opd.int .i64 (6)) OpdL.nil)))
        (OpJs.cons (OpJ.add (ltN hN rfl) (Opd.int .i64 (1)) (Opd.tmp 43 (.d (.int .i64 r27.1))))
        (OpJs.cons (OpJ.move (ltN hN rfl) (Opd.tmp 0 (.ptr 0 0 [])))
        (OpJs.cons (OpJ.callFn hB fnOk25 (exchangepointmill_Deck_Next_ac r27.2 (6 : Int) r28 hr28) [(0, 0)] (by kernel_rfl) (ltN hN rfl) (by kernel_rfl) (OpdL.cons (Opd.tmp 45 (.ptr 0 0 [])) (OpdL.cons (Opd.int .i64 (6)) OpdL.nil)))
        (OpJs.cons (OpJ.add (ltN hN rfl) (Opd.int .i64 (1)) (Opd.tmp 46 (.d (.int .i64 r28.1))))
        (OpJs.cons (OpJ.move (ltN hN rfl) (Opd.tmp 0 (.ptr 0 0 [])))
        (OpJs.cons (OpJ.callFn hB fnOk25 (exchangepointmill_Deck_Next_ac r28.2 (1500 : Int) r29 hr29) [(0, 0)] (by kernel_rfl) (ltN hN rfl) (by kernel_rfl) (OpdL.cons (Opd.tmp 48 (.ptr 0 0 [])) (OpdL.cons (Opd.int .i64 (1500)) OpdL.nil)))
        (OpJs.cons (OpJ.add (ltN hN rfl) (Opd.int .i64 (60)) (Opd.tmp 49 (.d (.int .i64 r29.1))))
        (OpJs.cons (OpJ.val (v' := (.ptr 1004 3 [3])) (by rfl) (OpJ.fieldP Try.underlying36 (by rfl) (o := 3) (by rfl) tyS3 (by decide) (obj := (.box 36 (.d (.st [(.int .i64 (w64 (s5.2.1 + r25.1))), (.int .i64 (w64 (s5.2.2.1 + (w64 ((1 : Int) + r24.1))))), (.int .i64 (w64 (s5.2.2.2.1 + (w64 ((w64 ((1 : Int) + r24.1)) + r26.1))))), (.int .i64 s5.2.2.2.2.1), (.int .i64 s5.2.2.2.2.2.1), (.int .i64 s5.2.2.2.2.2.2.1)])))) (ltN hN rfl) (Opd.tmp 4 (.ptr 1004 0 []))))
        (OpJs.cons (OpJ.storeB (bt := 36) (c := (.d (.st [(.int .i64 (w64 (s5.2.1 + r25.1))), (.int .i64 (w64 (s5.2.2.1 + (w64 ((1 : Int) + r24.1))))), (.int .i64 (w64 (s5.2.2.2.1 + (w64 ((w64 ((1 : Int) + r24.1)) + r26.1))))), (.int .i64 s5.2.2.2.2.1), (.int .i64 s5.2.2.2.2.2.1), (.int .i64 s5.2.2.2.2.2.2.1)]))) (v := (.d (.int .i64 (w64 ((1 : Int) + r27.1))))) (c' := (.d (.st [(.int .i64 (w64 (s5.2.1 + r25.1))), (.int .i64 (w64 (s5.2.2.1 + (w64 ((1 : Int) + r24.1))))), (.int .i64 (w64 (s5.2.2.2.1 + (w64 ((w64 ((1 : Int) + r24.1)) + r26.1))))), (.int .i64 (w64 ((1 : Int) + r27.1))), (.int .i64 s5.2.2.2.2.2.1), (.int .i64 s5.2.2.2.2.2.2.1)]))) tyS3 (SetAt.dst1 (f := (.int .i64 s5.2.2.2.2.1)) (f' := (.int .i64 (w64 ((1 : Int) + r27.1)))) (by rfl) (by rfl) (SetAt.here _ _) (by rfl) (by rfl) (by first | rfl | omega)) (by rfl) (by rfl) (by simp) rfl (Opd.tmp 51 (.ptr 1004 3 [3])) (Opd.tmp 44 (.d (.int .i64 (w64 ((1 : Int) + r27.1))))))
        (OpJs.cons (OpJ.val (v' := (.ptr 1004 4 [4])) (by rfl) (OpJ.fieldP Try.underlying36 (by rfl) (o := 4) (by rfl) tyS3 (by decide) (obj := (.box 36 (.d (.st [(.int .i64 (w64 (s5.2.1 + r25.1))), (.int .i64 (w64 (s5.2.2.1 + (w64 ((1 : Int) + r24.1))))), (.int .i64 (w64 (s5.2.2.2.1 + (w64 ((w64 ((1 : Int) + r24.1)) + r26.1))))), (.int .i64 (w64 ((1 : Int) + r27.1))), (.int .i64 s5.2.2.2.2.2.1), (.int .i64 s5.2.2.2.2.2.2.1)])))) (ltN hN rfl) (Opd.tmp 4 (.ptr 1004 0 []))))
        (OpJs.cons (OpJ.storeB (bt := 36) (c := (.d (.st [(.int .i64 (w64 (s5.2.1 + r25.1))), (.int .i64 (w64 (s5.2.2.1 + (w64 ((1 : Int) + r24.1))))), (.int .i64 (w64 (s5.2.2.2.1 + (w64 ((w64 ((1 : Int) + r24.1)) + r26.1))))), (.int .i64 (w64 ((1 : Int) + r27.1))), (.int .i64 s5.2.2.2.2.2.1), (.int .i64 s5.2.2.2.2.2.2.1)]))) (v := (.d (.int .i64 (w64 ((1 : Int) + r28.1))))) (c' := (.d (.st [(.int .i64 (w64 (s5.2.1 + r25.1))), (.int .i64 (w64 (s5.2.2.1 + (w64 ((1 : Int) + r24.1))))), (.int .i64 (w64 (s5.2.2.2.1 + (w64 ((w64 ((1 : Int) + r24.1)) + r26.1))))), (.int .i64 (w64 ((1 : Int) + r27.1))), (.int .i64 (w64 ((1 : Int) + r28.1))), (.int .i64 s5.2.2.2.2.2.2.1)]))) tyS3 (SetAt.dst1 (f := (.int .i64 s5.2.2.2.2.2.1)) (f' := (.int .i64 (w64 ((1 : Int) + r28.1)))) (by rfl) (by rfl) (SetAt.here _ _) (by rfl) (by rfl) (by first | rfl | omega)) (by rfl) (by rfl) (by simp) rfl (Opd.tmp 52 (.ptr 1004 4 [4])) (Opd.tmp 47 (.d (.int .i64 (w64 ((1 : Int) + r28.1))))))
        (OpJs.cons (OpJ.val (v' := (.ptr 1004 5 [5])) (by rfl) (OpJ.fieldP Try.underlying36 (by rfl) (o := 5) (by rfl) tyS3 (by decide) (obj := (.box 36 (.d (.st [(.int .i64 (w64 (s5.2.1 + r25.1))), (.int .i64 (w64 (s5.2.2.1 + (w64 ((1 : Int) + r24.1))))), (.int .i64 (w64 (s5.2.2.2.1 + (w64 ((w64 ((1 : Int) + r24.1)) + r26.1))))), (.int .i64 (w64 ((1 : Int) + r27.1))), (.int .i64 (w64 ((1 : Int) + r28.1))), (.int .i64 s5.2.2.2.2.2.2.1)])))) (ltN hN rfl) (Opd.tmp 4 (.ptr 1004 0 []))))
        (OpJs.cons (OpJ.storeB (bt := 36) (c := (.d (.st [(.int .i64 (w64 (s5.2.1 + r25.1))), (.int .i64 (w64 (s5.2.2.1 + (w64 ((1 : Int) + r24.1))))), (.int .i64 (w64 (s5.2.2.2.1 + (w64 ((w64 ((1 : Int) + r24.1)) + r26.1))))), (.int .i64 (w64 ((1 : Int) + r27.1))), (.int .i64 (w64 ((1 : Int) + r28.1))), (.int .i64 s5.2.2.2.2.2.2.1)]))) (v := (.d (.int .i64 (w64 ((60 : Int) + r29.1))))) (c' := (.d (.st [(.int .i64 (w64 (s5.2.1 + r25.1))), (.int .i64 (w64 (s5.2.2.1 + (w64 ((1 : Int) + r24.1))))), (.int .i64 (w64 (s5.2.2.2.1 + (w64 ((w64 ((1 : Int) + r24.1)) + r26.1))))), (.int .i64 (w64 ((1 : Int) + r27.1))), (.int .i64 (w64 ((1 : Int) + r28.1))), (.int .i64 (w64 ((60 : Int) + r29.1)))]))) tyS3 (SetAt.dst1 (f := (.int .i64 s5.2.2.2.2.2.2.1)) (f' := (.int .i64 (w64 ((60 : Int) + r29.1)))) (by rfl) (by rfl) (SetAt.here _ _) (by rfl) (by rfl) (by first | rfl | omega)) (by rfl) (by rfl) (by simp) rfl (Opd.tmp 53 (.ptr 1004 5 [5])) (Opd.tmp 50 (.d (.int .i64 (w64 ((60 : Int) + r29.1))))))
        (OpJs.nil)))))))))))))))) (by rfl) (by rfl) ?_
      refine seqQ_n ?_
      refine AWp.ghost (Mat.pat [] [(0, (.ptr 0 0 [])), (3, (.sref 3003 6 0 s5.2.2.2.2.2.2.2.1.length)), (4, (.ptr 1004 0 [])), (5, (.d (.int .i64 s5.1)))] [(0, some (.box 49 (.d (e_exchangepointmill_Deck r29.2)))), (1004, some (.box 36 (.d (.st [(.int .i64 (w64 (s5.2.1 + r25.1))), (.int .i64 (w64 (s5.2.2.1 + (w64 ((1 : Int) + r24.1))))), (.int .i64 (w64 (s5.2.2.2.1 + (w64 ((w64 ((1 : Int) + r24.1)) + r26.1))))), (.int .i64 (w64 ((1 : Int) + r27.1))), (.int .i64 (w64 ((1 : Int) + r28.1))), (.int .i64 (w64 ((60 : Int) + r29.1)))])))), (3003, some (.row 36 6 (s5.2.2.2.2.2.2.2.1.map e_api_Sample)))] hB (by rfl) (by rfl) (by rfl)) ?_
      obtain ⟨hc30, h⟩ := chk_some h
      refine AWp.region (OpJs.cons (OpJ.move (ltN hN rfl) (Opd.tmp 3 (.sref 3003 6 0 s5.2.2.2.2.2.2.2.1.length)))
        (OpJs.cons (OpJ.loadB (bt := 36) (c := (.d (.st [(.int .i64 (w64 (s5.2.1 + r25.1))), (.int .i64 (w64 (s5.2.2.1 + (w64 ((1 : Int) + r24.1))))), (.int .i64 (w64 (s5.2.2.2.1 + (w64 ((w64 ((1 : Int) + r24.1)) + r26.1))))), (.int .i64 (w64 ((1 : Int) + r27.1))), (.int .i64 (w64 ((1 : Int) + r28.1))), (.int .i64 (w64 ((60 : Int) + r29.1)))]))) (v := (.d (.st [(.int .i64 (w64 (s5.2.1 + r25.1))), (.int .i64 (w64 (s5.2.2.1 + (w64 ((1 : Int) + r24.1))))), (.int .i64 (w64 (s5.2.2.2.1 + (w64 ((w64 ((1 : Int) + r24.1)) + r26.1))))), (.int .i64 (w64 ((1 : Int) + r27.1))), (.int .i64 (w64 ((1 : Int) + r28.1))), (.int .i64 (w64 ((60 : Int) + r29.1)))]))) tyS36 (At.here _) (by rfl) (by rfl) rfl (ltN hN rfl) (Opd.tmp 4 (.ptr 1004 0 [])))
        (OpJs.cons (OpJ.buildSlice Try.underlying31 tyS36 tyZD36 (by rfl) (by decide) (by decide) (Opds.cons (Opd.tmp 55 (.d (.st [(.int .i64 (w64 (s5.2.1 + r25.1))), (.int .i64 (w64 (s5.2.2.1 + (w64 ((1 : Int) + r24.1))))), (.int .i64 (w64 (s5.2.2.2.1 + (w64 ((w64 ((1 : Int) + r24.1)) + r26.1))))), (.int .i64 (w64 ((1 : Int) + r27.1))), (.int .i64 (w64 ((1 : Int) + r28.1))), (.int .i64 (w64 ((60 : Int) + r29.1)))]))) Opds.nil) (by kernel_rfl) (es := ([(.st [(.int .i64 (w64 (s5.2.1 + r25.1))), (.int .i64 (w64 (s5.2.2.1 + (w64 ((1 : Int) + r24.1))))), (.int .i64 (w64 (s5.2.2.2.1 + (w64 ((w64 ((1 : Int) + r24.1)) + r26.1))))), (.int .i64 (w64 ((1 : Int) + r27.1))), (.int .i64 (w64 ((1 : Int) + r28.1))), (.int .i64 (w64 ((60 : Int) + r29.1)))])] : List D)) (by rfl) (by rfl) (by kernel_rfl) (by simp) (ltN hN rfl))
        (OpJs.cons (OpJ.append hB Try.underlying31 tyE36 (nm := 1057) (by decide) (es := s5.2.2.2.2.2.2.2.1.map e_api_Sample) (ys := ([(api_Sample.mk (w64 (s5.2.1 + r25.1)) (w64 (s5.2.2.1 + (w64 ((1 : Int) + r24.1)))) (w64 (s5.2.2.2.1 + (w64 ((w64 ((1 : Int) + r24.1)) + r26.1)))) (w64 ((1 : Int) + r27.1)) (w64 ((1 : Int) + r28.1)) (w64 ((60 : Int) + r29.1)))] : List api_Sample).map e_api_Sample) (es' := (s5.2.2.2.2.2.2.2.1 ++ ([(api_Sample.mk (w64 (s5.2.1 + r25.1)) (w64 (s5.2.2.1 + (w64 ((1 : Int) + r24.1)))) (w64 (s5.2.2.2.1 + (w64 ((w64 ((1 : Int) + r24.1)) + r26.1)))) (w64 ((1 : Int) + r27.1)) (w64 ((1 : Int) + r28.1)) (w64 ((60 : Int) + r29.1)))] : List api_Sample)).map e_api_Sample) (len := (s5.2.2.2.2.2.2.2.1 ++ ([(api_Sample.mk (w64 (s5.2.1 + r25.1)) (w64 (s5.2.2.1 + (w64 ((1 : Int) + r24.1)))) (w64 (s5.2.2.2.1 + (w64 ((w64 ((1 : Int) + r24.1)) + r26.1)))) (w64 ((1 : Int) + r27.1)) (w64 ((1 : Int) + r28.1)) (w64 ((60 : Int) + r29.1)))] : List api_Sample)).length) (by simp) (by simp) (map_sz (f := e_api_Sample) (fun _ => rfl)) (by rw [List.length_map]; exact lim_mulN hc30 (by decide)) (by rw [List.length_map]; exact lim_leN hc30) (ltN hN rfl) (by simp) (Opd.tmp 54 (.sref 3003 6 0 s5.2.2.2.2.2.2.2.1.length)) (Opd.tmp 56 (.d (.list 6 (([(api_Sample.mk (w64 (s5.2.1 + r25.1)) (w64 (s5.2.2.1 + (w64 ((1 : Int) + r24.1)))) (w64 (s5.2.2.2.1 + (w64 ((w64 ((1 : Int) + r24.1)) + r26.1)))) (w64 ((1 : Int) + r27.1)) (w64 ((1 : Int) + r28.1)) (w64 ((60 : Int) + r29.1)))] : List api_Sample).map e_api_Sample)))))
        (OpJs.cons (OpJ.assign (ltN hN rfl) (Opd.tmp 57 (.sref 1057 6 0 ((s5.2.2.2.2.2.2.2.1 ++ ([(api_Sample.mk (w64 (s5.2.1 + r25.1)) (w64 (s5.2.2.1 + (w64 ((1 : Int) + r24.1)))) (w64 (s5.2.2.2.1 + (w64 ((w64 ((1 : Int) + r24.1)) + r26.1)))) (w64 ((1 : Int) + r27.1)) (w64 ((1 : Int) + r28.1)) (w64 ((60 : Int) + r29.1)))] : List api_Sample)).length))))
        (OpJs.nil)))))) (by rfl) (by rfl) ?_
      refine blkQ_n ?_
      refine seqQ_n ?_
      refine AWp.ghost (Mat.pat [] [(0, (.ptr 0 0 [])), (3, (.sref 1057 6 0 ((s5.2.2.2.2.2.2.2.1 ++ ([(api_Sample.mk (w64 (s5.2.1 + r25.1)) (w64 (s5.2.2.1 + (w64 ((1 : Int) + r24.1)))) (w64 (s5.2.2.2.1 + (w64 ((w64 ((1 : Int) + r24.1)) + r26.1)))) (w64 ((1 : Int) + r27.1)) (w64 ((1 : Int) + r28.1)) (w64 ((60 : Int) + r29.1)))] : List api_Sample)).length))), (4, (.ptr 1004 0 [])), (5, (.d (.int .i64 s5.1)))] [(0, some (.box 49 (.d (e_exchangepointmill_Deck r29.2)))), (1004, some (.box 36 (.d (.st [(.int .i64 (w64 (s5.2.1 + r25.1))), (.int .i64 (w64 (s5.2.2.1 + (w64 ((1 : Int) + r24.1))))), (.int .i64 (w64 (s5.2.2.2.1 + (w64 ((w64 ((1 : Int) + r24.1)) + r26.1))))), (.int .i64 (w64 ((1 : Int) + r27.1))), (.int .i64 (w64 ((1 : Int) + r28.1))), (.int .i64 (w64 ((60 : Int) + r29.1)))])))), (1057, some (.row 36 6 ((s5.2.2.2.2.2.2.2.1 ++ ([(api_Sample.mk (w64 (s5.2.1 + r25.1)) (w64 (s5.2.2.1 + (w64 ((1 : Int) + r24.1)))) (w64 (s5.2.2.2.1 + (w64 ((w64 ((1 : Int) + r24.1)) + r26.1)))) (w64 ((1 : Int) + r27.1)) (w64 ((1 : Int) + r28.1)) (w64 ((60 : Int) + r29.1)))] : List api_Sample)).map e_api_Sample)))] hB (by rfl) (by rfl) (by rfl)) ?_
      refine AWp.region (OpJs.cons (OpJ.move (ltN hN rfl) (Opd.tmp 5 (.d (.int .i64 s5.1))))
        (OpJs.cons (OpJ.sub (ltN hN rfl) (Opd.tmp 18 (.d (.int .i64 s5.1))) (Opd.int .i64 (1)))
        (OpJs.cons (OpJ.assign (ltN hN rfl) (Opd.tmp 19 (.d (.int .i64 (w64 (s5.1 - (1 : Int)))))))
        (OpJs.nil)))) (by rfl) (by rfl) ?_
      obtain rfl := Option.some.inj h
      exact ⟨rfl, (Mat.trans (Mat.pat [] [(0, (.ptr 0 0 [])), (3, (.sref 1057 6 0 ((s5.2.2.2.2.2.2.2.1 ++ ([(api_Sample.mk (w64 (s5.2.1 + r25.1)) (w64 (s5.2.2.1 + (w64 ((1 : Int) + r24.1)))) (w64 (s5.2.2.2.1 + (w64 ((w64 ((1 : Int) + r24.1)) + r26.1)))) (w64 ((1 : Int) + r27.1)) (w64 ((1 : Int) + r28.1)) (w64 ((60 : Int) + r29.1)))] : List api_Sample)).length))), (4, (.ptr 1004 0 [])), (5, (.d (.int .i64 (w64 (s5.1 - (1 : Int))))))] [(0, some (.box 49 (.d (e_exchangepointmill_Deck r29.2)))), (1004, some (.box 36 (.d (.st [(.int .i64 (w64 (s5.2.1 + r25.1))), (.int .i64 (w64 (s5.2.2.1 + (w64 ((1 : Int) + r24.1))))), (.int .i64 (w64 (s5.2.2.2.1 + (w64 ((w64 ((1 : Int) + r24.1)) + r26.1))))), (.int .i64 (w64 ((1 : Int) + r27.1))), (.int .i64 (w64 ((1 : Int) + r28.1))), (.int .i64 (w64 ((60 : Int) + r29.1)))])))), (1057, some (.row 36 6 ((s5.2.2.2.2.2.2.2.1 ++ ([(api_Sample.mk (w64 (s5.2.1 + r25.1)) (w64 (s5.2.2.1 + (w64 ((1 : Int) + r24.1)))) (w64 (s5.2.2.2.1 + (w64 ((w64 ((1 : Int) + r24.1)) + r26.1)))) (w64 ((1 : Int) + r27.1)) (w64 ((1 : Int) + r28.1)) (w64 ((60 : Int) + r29.1)))] : List api_Sample)).map e_api_Sample)))] hB (by rfl) (by rfl) (by rfl)) (Mat.pat [(3003, 1057)] ((fun s5 : Int × Int × Int × Int × Int × Int × Int × (List api_Sample) × exchangepointmill_Deck => ([(0, (.ptr 0 0 [])), (3, (.sref 3003 6 0 s5.2.2.2.2.2.2.2.1.length)), (4, (.ptr 1004 0 [])), (5, (.d (.int .i64 s5.1)))] : EL)) ((w64 (s5.1 - (1 : Int))), (w64 (s5.2.1 + r25.1)), (w64 (s5.2.2.1 + (w64 ((1 : Int) + r24.1)))), (w64 (s5.2.2.2.1 + (w64 ((w64 ((1 : Int) + r24.1)) + r26.1)))), (w64 ((1 : Int) + r27.1)), (w64 ((1 : Int) + r28.1)), (w64 ((60 : Int) + r29.1)), (s5.2.2.2.2.2.2.2.1 ++ ([(api_Sample.mk (w64 (s5.2.1 + r25.1)) (w64 (s5.2.2.1 + (w64 ((1 : Int) + r24.1)))) (w64 (s5.2.2.2.1 + (w64 ((w64 ((1 : Int) + r24.1)) + r26.1)))) (w64 ((1 : Int) + r27.1)) (w64 ((1 : Int) + r28.1)) (w64 ((60 : Int) + r29.1)))] : List api_Sample)), r29.2)) ((fun s5 : Int × Int × Int × Int × Int × Int × Int × (List api_Sample) × exchangepointmill_Deck => ([(0, some (.box 49 (.d (e_exchangepointmill_Deck s5.2.2.2.2.2.2.2.2)))), (1004, some (.box 36 (.d (.st [(.int .i64 s5.2.1), (.int .i64 s5.2.2.1), (.int .i64 s5.2.2.2.1), (.int .i64 s5.2.2.2.2.1), (.int .i64 s5.2.2.2.2.2.1), (.int .i64 s5.2.2.2.2.2.2.1)])))), (3003, some (.row 36 6 (s5.2.2.2.2.2.2.2.1.map e_api_Sample)))] : OL)) ((w64 (s5.1 - (1 : Int))), (w64 (s5.2.1 + r25.1)), (w64 (s5.2.2.1 + (w64 ((1 : Int) + r24.1)))), (w64 (s5.2.2.2.1 + (w64 ((w64 ((1 : Int) + r24.1)) + r26.1)))), (w64 ((1 : Int) + r27.1)), (w64 ((1 : Int) + r28.1)), (w64 ((60 : Int) + r29.1)), (s5.2.2.2.2.2.2.2.1 ++ ([(api_Sample.mk (w64 (s5.2.1 + r25.1)) (w64 (s5.2.2.1 + (w64 ((1 : Int) + r24.1)))) (w64 (s5.2.2.2.1 + (w64 ((w64 ((1 : Int) + r24.1)) + r26.1)))) (w64 ((1 : Int) + r27.1)) (w64 ((1 : Int) + r28.1)) (w64 ((60 : Int) + r29.1)))] : List api_Sample)), r29.2)) hB (by rfl) (by rfl) (by rfl)))⟩
    · replace h := ite_f hg23 h
      refine AWp.exit ?_
      refine seqQ_e ?_
      obtain rfl := Option.some.inj h
      exact ⟨(fun hc => by cases hc), rfl, (Mat.pat [] ((fun p22 : exchangepointmill_Deck × (List api_Sample) => ([(3, (.sref 3003 6 0 p22.2.length))] : EL)) (s5.2.2.2.2.2.2.2.2, s5.2.2.2.2.2.2.2.1)) ((fun p22 : exchangepointmill_Deck × (List api_Sample) => ([(0, some (.box 49 (.d (e_exchangepointmill_Deck p22.1)))), (3003, some (.row 36 6 (p22.2.map e_api_Sample)))] : OL)) (s5.2.2.2.2.2.2.2.2, s5.2.2.2.2.2.2.2.1)) hB (by rfl) (by rfl) (by rfl))⟩
  · obtain ⟨rfl, hmat⟩ := hR
    refine blkQ_hit ?_
    refine seqQ_n ?_
    refine AWp.ghost hmat ?_
    refine AWp.seq ?_
    refine AWp.region (OpJs.cons (OpJ.move (ltN hN rfl) (Opd.tmp 3 (.sref 3003 6 0 p22.2.length)))
      (OpJs.cons (OpJ.assign (ltN hN rfl) (Opd.tmp 58 (.sref 3003 6 0 p22.2.length)))
      (OpJs.nil))) (by rfl) (by rfl) ?_
    refine seqQ_n ?_
    refine AWp.ghost (Mat.pat [] [(2, (.sref 3003 6 0 p22.2.length))] [(0, some (.box 49 (.d (e_exchangepointmill_Deck p22.1)))), (3003, some (.row 36 6 (p22.2.map e_api_Sample)))] hB (by rfl) (by rfl) (by rfl)) ?_
    refine AWp.ret ?_
    obtain rfl := Option.some.inj h
    exact ⟨.inl rfl, _, _, (Mat.trans (Mat.freezeAll (n := 3003) (k := 2) (by rfl) (by rfl) (by first | (simp; done) | (simp; omega))) (Mat.pat [] [(2, (.d (.list 6 (p22.2.map e_api_Sample))))] [(0, some (.box 49 (.d (e_exchangepointmill_Deck p22.1))))] hB (by rfl) (by rfl) (by rfl))), [(.d (.list 6 (p22.2.map e_api_Sample)))], (Res.tmp (by rfl) (by rfl) Res.nil), rfl, by rfl, by rfl, by rfl⟩

noncomputable def slices_Reverse_L0 (s1 : Int × Int × (List api_Sample)) : Option ((((List api_Sample))) ⊕ (Int × Int × (List api_Sample))) :=
  (if (decide (s1.1 < s1.2.1)) = true then
  (idx s1.2.2 s1.2.1).bind fun x22 =>
  (idx s1.2.2 s1.2.1).bind fun x23 =>
  (idx s1.2.2 s1.1).bind fun x24 =>
  (idx s1.2.2 s1.1).bind fun x25 =>
  (idx s1.2.2 s1.1).bind fun x26 =>
  (idx s1.2.2 s1.1).bind fun x27 =>
  (idx (s1.2.2.set s1.1.toNat x23) s1.2.1).bind fun x28 =>
  (idx (s1.2.2.set s1.1.toNat x23) s1.2.1).bind fun x29 =>
  some (.inr ((w64 (s1.1 + (1 : Int))), (w64 (s1.2.1 - (1 : Int))), ((s1.2.2.set s1.1.toNat x23).set s1.2.1.toNat x25)))
  else
  some (.inl s1.2.2))
noncomputable def slices_Reverse (a0 : (List api_Sample)) : Option ((List api_Sample)) :=
  (loop (slices_Reverse_L0) ((0 : Int), (w64 ((a0.length : Int) - (1 : Int))), a0)).bind fun p20 =>
  some p20
set_option maxHeartbeats 4000000 in
set_option maxRecDepth 100000 in
theorem slices_Reverse_ac (a0 : (List api_Sample)) (r : (List api_Sample)) (h : slices_Reverse a0 = some r) : AC Try.prog 26 [(.sref 0 6 0 a0.length)] [(0, (.row 36 6 (a0.map e_api_Sample)))] (.tup []) [(0, some (.row 36 6 (r.map e_api_Sample)))] := by
  refine AC.of_code2 Try.func26 rfl rfl (Nat.le_of_ble_eq_true (by rfl)) fun B hB hN => ?_
  delta slices_Reverse at h
  refine AWp.seq ?_
  refine AWp.region (OpJs.cons (OpJ.move (ltN hN rfl) (Opd.tmp 0 (.sref 0 6 0 a0.length)))
  (OpJs.cons (OpJ.lenS (obj := (.row 36 6 (a0.map e_api_Sample))) Try.underlying31 (ltN hN rfl) (Opd.tmp 4 (.sref 0 6 0 a0.length)))
  (OpJs.cons (OpJ.sub (ltN hN rfl) (Opd.tmp 5 (.d (.int .i64 (a0.length : Int)))) (Opd.int .i64 (1)))
  (OpJs.cons (OpJ.assign (ltN hN rfl) (Opd.int .i64 (0)))
  (OpJs.cons (OpJ.assign (ltN hN rfl) (Opd.tmp 6 (.d (.int .i64 (w64 ((a0.length : Int) - (1 : Int)))))))
  (OpJs.nil)))))) (by rfl) (by rfl) ?_
  refine seqQ_n ?_
  refine AWp.ghost (Mat.pat [] [(0, (.sref 0 6 0 a0.length)), (2, (.d (.int .i64 (0 : Int)))), (3, (.d (.int .i64 (w64 ((a0.length : Int) - (1 : Int))))))] [(0, some (.row 36 6 (a0.map e_api_Sample)))] hB (by rfl) (by rfl) (by rfl)) ?_
  refine AWp.block ?_
  obtain ⟨p20, hx31, h⟩ := bindS h
  refine AWp.ghost (Mat.pat [] ((fun s1 : Int × Int × (List api_Sample) => ([(0, (.sref 0 6 0 s1.2.2.length)), (2, (.d (.int .i64 s1.1))), (3, (.d (.int .i64 s1.2.1)))] : EL)) ((0 : Int), (w64 ((a0.length : Int) - (1 : Int))), a0)) ((fun s1 : Int × Int × (List api_Sample) => ([(0, some (.row 36 6 (s1.2.2.map e_api_Sample)))] : OL)) ((0 : Int), (w64 ((a0.length : Int) - (1 : Int))), a0)) hB (by rfl) (by rfl) (by rfl)) ?_
  refine AWp.loopS (slices_Reverse_L0) (fun s1 : Int × Int × (List api_Sample) => ([(0, (.sref 0 6 0 s1.2.2.length)), (2, (.d (.int .i64 s1.1))), (3, (.d (.int .i64 s1.2.1)))] : EL)) (fun s1 : Int × Int × (List api_Sample) => ([(0, some (.row 36 6 (s1.2.2.map e_api_Sample)))] : OL)) (fun (p20 : ((List api_Sample))) e E' O' => e = .exit 0 ∧ Mat B E' O' ([] : EL) ([(0, some (.row 36 6 (p20.map e_api_Sample)))] : OL)) hx31 (fun s1 y h => ?_) (fun e E' O' hR => ?_)
  · unfold slices_Reverse_L0 at h
    show AWp _ _ _ _ ([(0, (.sref 0 6 0 s1.2.2.length)), (2, (.d (.int .i64 s1.1))), (3, (.d (.int .i64 s1.2.1)))] : EL) ([(0, some (.row 36 6 (s1.2.2.map e_api_Sample)))] : OL)
    refine AWp.seq ?_
    refine AWp.seq ?_
    refine AWp.region (OpJs.cons (OpJ.move (ltN hN rfl) (Opd.tmp 2 (.d (.int .i64 s1.1))))
      (OpJs.cons (OpJ.move (ltN hN rfl) (Opd.tmp 3 (.d (.int .i64 s1.2.1))))
      (OpJs.cons (OpJ.lss (ltN hN rfl) (Opd.tmp 7 (.d (.int .i64 s1.1))) (Opd.tmp 8 (.d (.int .i64 s1.2.1))))
      (OpJs.nil)))) (by rfl) (by rfl) ?_
    refine seqQ_n ?_
    refine AWp.ghost (Mat.pat [] [(0, (.sref 0 6 0 s1.2.2.length)), (2, (.d (.int .i64 s1.1))), (3, (.d (.int .i64 s1.2.1))), (9, (.d (.bool (decide (s1.1 < s1.2.1)))))] [(0, some (.row 36 6 (s1.2.2.map e_api_Sample)))] hB (by rfl) (by rfl) (by rfl)) ?_
    refine AWp.cond (b := (decide (s1.1 < s1.2.1))) (by rfl) (fun hg21 => ?_) (fun hg21 => ?_)
    · replace h := ite_t hg21 h
      refine AWp.skip ?_
      refine seqQ_n ?_
      refine AWp.seq ?_
      refine AWp.block ?_
      obtain ⟨x22, hx22, h⟩ := bindS h
      obtain ⟨x23, hx23, h⟩ := bindS h
      obtain ⟨x24, hx24, h⟩ := bindS h
      obtain ⟨x25, hx25, h⟩ := bindS h
      obtain ⟨x26, hx26, h⟩ := bindS h
      obtain ⟨x27, hx27, h⟩ := bindS h
      obtain ⟨x28, hx28, h⟩ := bindS h
      obtain ⟨x29, hx29, h⟩ := bindS h
      refine AWp.draws (by kernel_rfl) (OpJs.cons (OpJ.move (ltN hN rfl) (Opd.tmp 0 (.sref 0 6 0 s1.2.2.length)))
        (OpJs.cons (OpJ.move (ltN hN rfl) (Opd.tmp 2 (.d (.int .i64 s1.1))))
        (OpJs.cons (OpJ.move (ltN hN rfl) (Opd.tmp 0 (.sref 0 6 0 s1.2.2.length)))
        (OpJs.cons (OpJ.move (ltN hN rfl) (Opd.tmp 3 (.d (.int .i64 s1.2.1))))
        (OpJs.cons (OpJ.move (ltN hN rfl) (Opd.tmp 0 (.sref 0 6 0 s1.2.2.length)))
        (OpJs.cons (OpJ.move (ltN hN rfl) (Opd.tmp 3 (.d (.int .i64 s1.2.1))))
        (OpJs.cons (OpJ.val (v' := (.ptr 0 (s1.2.1.toNat * 6) [s1.2.1.toNat])) (by simp) (OpJ.indexS Try.underlying31 tyS36 (obj := (.row 36 6 (s1.2.2.map e_api_Sample))) (idx_some hx22).1 (by have := idx_lt hx22; simpa using this) (ltN hN rfl) (Opd.tmp 18 (.sref 0 6 0 s1.2.2.length)) (Opd.tmp 19 (.d (.int .i64 s1.2.1)))))
        (OpJs.cons (OpJ.loadR (e := 36) (sz := 6) (es := s1.2.2.map e_api_Sample) tyS36 (get_map e_api_Sample (idx_some hx23).2) (o := 0) (v := (e_api_Sample x23)) (At.here _) (by rfl) (by rfl) (by rfl) (ltN hN rfl) (Opd.tmp 20 (.ptr 0 (s1.2.1.toNat * 6) [s1.2.1.toNat])))
        (OpJs.cons (OpJ.move (ltN hN rfl) (Opd.tmp 0 (.sref 0 6 0 s1.2.2.length)))
        (OpJs.cons (OpJ.move (ltN hN rfl) (Opd.tmp 2 (.d (.int .i64 s1.1))))
        (OpJs.cons (OpJ.val (v' := (.ptr 0 (s1.1.toNat * 6) [s1.1.toNat])) (by simp) (OpJ.indexS Try.underlying31 tyS36 (obj := (.row 36 6 (s1.2.2.map e_api_Sample))) (idx_some hx24).1 (by have := idx_lt hx24; simpa using this) (ltN hN rfl) (Opd.tmp 22 (.sref 0 6 0 s1.2.2.length)) (Opd.tmp 23 (.d (.int .i64 s1.1)))))
        (OpJs.cons (OpJ.loadR (e := 36) (sz := 6) (es := s1.2.2.map e_api_Sample) tyS36 (get_map e_api_Sample (idx_some hx25).2) (o := 0) (v := (e_api_Sample x25)) (At.here _) (by rfl) (by rfl) (by rfl) (ltN hN rfl) (Opd.tmp 24 (.ptr 0 (s1.1.toNat * 6) [s1.1.toNat])))
        (OpJs.cons (OpJ.val (v' := (.ptr 0 (s1.1.toNat * 6) [s1.1.toNat])) (by simp) (OpJ.indexS Try.underlying31 tyS36 (obj := (.row 36 6 (s1.2.2.map e_api_Sample))) (idx_some hx26).1 (by have := idx_lt hx26; simpa using this) (ltN hN rfl) (Opd.tmp 14 (.sref 0 6 0 s1.2.2.length)) (Opd.tmp 15 (.d (.int .i64 s1.1)))))
        (OpJs.cons (OpJ.storeR (e := 36) (sz := 6) (es := s1.2.2.map e_api_Sample) (es' := (s1.2.2.set s1.1.toNat x23).map e_api_Sample) tyS36 (get_map e_api_Sample (idx_some hx27).2) (o := 0) (v := (e_api_Sample x23)) (el' := (e_api_Sample x23)) (SetAt.here _ _) (by rfl) (map_set _ _ _ _) (by rfl) (by rfl) (Opd.tmp 26 (.ptr 0 (s1.1.toNat * 6) [s1.1.toNat])) (Opd.tmp 21 (.d (e_api_Sample x23))))
        (OpJs.cons (OpJ.val (v' := (.ptr 0 (s1.2.1.toNat * 6) [s1.2.1.toNat])) (by simp) (OpJ.indexS Try.underlying31 tyS36 (obj := (.row 36 6 ((s1.2.2.set s1.1.toNat x23).map e_api_Sample))) (idx_some hx28).1 (by have := idx_lt hx28; simpa using this) (ltN hN rfl) (Opd.tmp 16 (.sref 0 6 0 s1.2.2.length)) (Opd.tmp 17 (.d (.int .i64 s1.2.1)))))
        (OpJs.cons (OpJ.storeR (e := 36) (sz := 6) (es := (s1.2.2.set s1.1.toNat x23).map e_api_Sample) (es' := ((s1.2.2.set s1.1.toNat x23).set s1.2.1.toNat x25).map e_api_Sample) tyS36 (get_map e_api_Sample (idx_some hx29).2) (o := 0) (v := (e_api_Sample x25)) (el' := (e_api_Sample x25)) (SetAt.here _ _) (by rfl) (map_set _ _ _ _) (by rfl) (by rfl) (Opd.tmp 27 (.ptr 0 (s1.2.1.toNat * 6) [s1.2.1.toNat])) (Opd.tmp 25 (.d (e_api_Sample x25))))
        (OpJs.nil))))))))))))))))) (by kernel_rfl) (by rfl) (by rfl) ?_
      refine blkQ_n ?_
      refine seqQ_n ?_
      refine AWp.ghost (Mat.pat [] [(0, (.sref 0 6 0 s1.2.2.length)), (2, (.d (.int .i64 s1.1))), (3, (.d (.int .i64 s1.2.1)))] [(0, some (.row 36 6 (((s1.2.2.set s1.1.toNat x23).set s1.2.1.toNat x25).map e_api_Sample)))] hB (by rfl) (by rfl) (by rfl)) ?_
      refine AWp.region (OpJs.cons (OpJ.move (ltN hN rfl) (Opd.tmp 2 (.d (.int .i64 s1.1))))
        (OpJs.cons (OpJ.add (ltN hN rfl) (Opd.tmp 10 (.d (.int .i64 s1.1))) (Opd.int .i64 (1)))
        (OpJs.cons (OpJ.move (ltN hN rfl) (Opd.tmp 3 (.d (.int .i64 s1.2.1))))
        (OpJs.cons (OpJ.sub (ltN hN rfl) (Opd.tmp 12 (.d (.int .i64 s1.2.1))) (Opd.int .i64 (1)))
        (OpJs.cons (OpJ.assign (ltN hN rfl) (Opd.tmp 11 (.d (.int .i64 (w64 (s1.1 + (1 : Int)))))))
        (OpJs.cons (OpJ.assign (ltN hN rfl) (Opd.tmp 13 (.d (.int .i64 (w64 (s1.2.1 - (1 : Int)))))))
        (OpJs.nil))))))) (by rfl) (by rfl) ?_
      obtain rfl := Option.some.inj h
      exact ⟨rfl, (Mat.trans (Mat.pat [] [(0, (.sref 0 6 0 s1.2.2.length)), (2, (.d (.int .i64 (w64 (s1.1 + (1 : Int)))))), (3, (.d (.int .i64 (w64 (s1.2.1 - (1 : Int))))))] [(0, some (.row 36 6 (((s1.2.2.set s1.1.toNat x23).set s1.2.1.toNat x25).map e_api_Sample)))] hB (by rfl) (by rfl) (by rfl)) (Mat.trans (Mat.val (k := 0) (v := (.sref 0 6 0 s1.2.2.length)) (v' := (.sref 0 6 0 (((s1.2.2.set s1.1.toNat x23).set s1.2.1.toNat x25).length))) (by rfl) (by first | (simp; done) | (simp; omega))) (Mat.pat [] ((fun s1 : Int × Int × (List api_Sample) => ([(0, (.sref 0 6 0 s1.2.2.length)), (2, (.d (.int .i64 s1.1))), (3, (.d (.int .i64 s1.2.1)))] : EL)) ((w64 (s1.1 + (1 : Int))), (w64 (s1.2.1 - (1 : Int))), ((s1.2.2.set s1.1.toNat x23).set s1.2.1.toNat x25))) ((fun s1 : Int × Int × (List api_Sample) => ([(0, some (.row 36 6 (s1.2.2.map e_api_Sample)))] : OL)) ((w64 (s1.1 + (1 : Int))), (w64 (s1.2.1 - (1 : Int))), ((s1.2.2.set s1.1.toNat x23).set s1.2.1.toNat x25))) hB (by rfl) (by rfl) (by rfl))))⟩
    · replace h := ite_f hg21 h
      refine AWp.exit ?_
      refine seqQ_e ?_
      obtain rfl := Option.some.inj h
      exact ⟨(fun hc => by cases hc), rfl, (Mat.pat [] ((fun p20 : (List api_Sample) => ([] : EL)) s1.2.2) ((fun p20 : (List api_Sample) => ([(0, some (.row 36 6 (p20.map e_api_Sample)))] : OL)) s1.2.2) hB (by rfl) (by rfl) (by rfl))⟩
  · obtain ⟨rfl, hmat⟩ := hR
    refine blkQ_hit ?_
    obtain rfl := Option.some.inj h
    exact ⟨.inr rfl, _, _, (Mat.trans hmat (Mat.pat [] [] [(0, some (.row 36 6 (p20.map e_api_Sample)))] hB (by rfl) (by rfl) (by rfl))), [], Res.nil, rfl, by rfl, by rfl, by rfl⟩

noncomputable def sample_Merge_L0 (a0 : (List api_Sample)) (a1 : (List api_Sample)) (s8 : Bool × Int × Int × (List api_Sample)) : Option (((Bool × (List api_Sample))) ⊕ (Bool × Int × Int × (List api_Sample))) :=
  (if ((decide ((0 : Int) ≤ s8.2.1)) || (decide ((0 : Int) ≤ s8.2.2.1))) = true then
  jn (fun m79 : Bool =>
  (if m79 = true then
  (idx a0 s8.2.1).bind fun x82 =>
  chk (decide ((s8.2.2.2 ++ ([x82] : List api_Sample)).length ≤ LIM)) <|
  some (.inr (s8.1, (w64 (s8.2.1 - (1 : Int))), s8.2.2.1, (s8.2.2.2 ++ ([x82] : List api_Sample))))
  else
  jn (fun m87 : Bool =>
  (if m87 = true then
  (idx a1 s8.2.2.1).bind fun x90 =>
  chk (decide ((s8.2.2.2 ++ ([x90] : List api_Sample)).length ≤ LIM)) <|
  some (.inr (s8.1, s8.2.1, (w64 (s8.2.2.1 - (1 : Int))), (s8.2.2.2 ++ ([x90] : List api_Sample))))
  else
  jn (fun m95 : Bool =>
  (idx a0 s8.2.1).bind fun x97 =>
  chk (decide ((s8.2.2.2 ++ ([x97] : List api_Sample)).length ≤ LIM)) <|
  some (.inr (m95, (w64 (s8.2.1 - (1 : Int))), (w64 (s8.2.2.1 - (1 : Int))), (s8.2.2.2 ++ ([x97] : List api_Sample))))) (fun j96 =>
  (if s8.1 = true then
  j96 true
  else
  (idx a0 s8.2.1).bind fun x100 =>
  (idx a1 s8.2.2.1).bind fun x101 =>
  j96 (!((x100.fTick == x101.fTick) && ((x100.fSeq == x101.fSeq) && ((x100.fPool == x101.fPool) && ((x100.fIn == x101.fIn) && ((x100.fOut == x101.fOut) && ((x100.fBytes == x101.fBytes) && true))))))))))) (fun j88 =>
  (if (decide (s8.2.1 < (0 : Int))) = true then
  j88 true
  else
  (idx a1 s8.2.2.1).bind fun x103 =>
  (idx a0 s8.2.1).bind fun x104 =>
  j88 (decide (x104.fSeq < x103.fSeq)))))) (fun j80 =>
  (if (decide (s8.2.2.1 < (0 : Int))) = true then
  j80 true
  else
  (if (decide ((0 : Int) ≤ s8.2.1)) = true then
  (idx a0 s8.2.1).bind fun x107 =>
  (idx a1 s8.2.2.1).bind fun x108 =>
  j80 (decide (x108.fSeq < x107.fSeq))
  else
  j80 false)))
  else
  some (.inl (s8.1, s8.2.2.2)))
noncomputable def sample_Merge (a0 : (List api_Sample)) (a1 : (List api_Sample)) : Option ((List api_Sample) × Int) :=
  jn (fun m5 : Bool =>
  (if m5 = true then
  some (([] : List api_Sample), (1 : Int))
  else
  (loop (sample_Merge_L0 a0 a1) (false, (w64 ((a0.length : Int) - (1 : Int))), (w64 ((a1.length : Int) - (1 : Int))), ([] : List api_Sample))).bind fun p73 =>
  (slices_Reverse p73.2).bind fun r111 =>
  chk (decide (r111.length = p73.2.length)) <|
  (if p73.1 = true then
  some (([] : List api_Sample), (8 : Int))
  else
  (if (decide ((1000 : Int) < (p73.2.length : Int))) = true then
  some (([] : List api_Sample), (3 : Int))
  else
  (sample_Valid r111).bind fun r115 =>
  (if (!r115) = true then
  some (([] : List api_Sample), (35 : Int))
  else
  some (r111, (0 : Int))))))) (fun j6 =>
  (sample_Valid a0).bind fun r117 =>
  (if (!r117) = true then
  j6 true
  else
  (sample_Valid a1).bind fun r119 =>
  j6 (!r119)))
set_option maxHeartbeats 4000000 in
set_option maxRecDepth 100000 in
theorem sample_Merge_ac (a0 : (List api_Sample)) (a1 : (List api_Sample)) (r : (List api_Sample) × Int) (h : sample_Merge a0 a1 = some r) : AC Try.prog 14 [(.d (.list 6 (a0.map e_api_Sample))), (.d (.list 6 (a1.map e_api_Sample)))] [] (.tup [(.d (.list 6 (r.1.map e_api_Sample))), (.d (.int .i64 r.2))]) [] := by
  refine AC.of_code2 Try.func14 rfl rfl (Nat.le_of_ble_eq_true (by rfl)) fun B hB hN => ?_
  delta sample_Merge at h
  refine AWp.seq ?_
  refine AWp.region (OpJs.cons (OpJ.assign (ltN hN rfl) Opd.nils)
  (OpJs.cons (OpJ.assign (ltN hN rfl) (Opd.int .i64 (0)))
  (OpJs.nil))) (by rfl) (by rfl) ?_
  refine seqQ_n ?_
  refine AWp.ghost (Mat.pat [] [(0, (.d (.list 6 (a0.map e_api_Sample)))), (1, (.d (.list 6 (a1.map e_api_Sample))))] [] hB (by rfl) (by rfl) (by rfl)) ?_
  refine AWp.seq ?_
  refine AWp.seq ?_
  refine AWp.cut h (fun m5 : Bool => ([(0, (.d (.list 6 (a0.map e_api_Sample)))), (1, (.d (.list 6 (a1.map e_api_Sample)))), (17, (.d (.bool m5)))] : EL)) (fun m5 : Bool => ([] : OL)) (fun m5 h E' O' hmat => ?_) (fun j6 hjj6 h => ?_)
  · refine seqQ_n ?_
    refine AWp.ghost hmat ?_
    refine AWp.cond (b := m5) (by rfl) (fun hg7 => ?_) (fun hg7 => ?_)
    · replace h := ite_t hg7 h
      refine AWp.seq ?_
      refine AWp.region (OpJs.cons (OpJ.assign (ltN hN rfl) Opd.nils)
        (OpJs.cons (OpJ.assign (ltN hN rfl) (Opd.int .i64 (1)))
        (OpJs.nil))) (by rfl) (by rfl) ?_
      refine seqQ_n ?_
      refine AWp.ghost (Mat.pat [] [(4, .nils), (5, (.d (.int .i64 (1 : Int))))] [] hB (by rfl) (by rfl) (by rfl)) ?_
      refine AWp.ret ?_
      refine seqQ_r ?_
      obtain rfl := Option.some.inj h
      exact ⟨.inl rfl, _, _, (Mat.pat [] [(4, .nils), (5, (.d (.int .i64 (1 : Int))))] [] hB (by rfl) (by rfl) (by rfl)), [(.d (.list 6 (([] : List api_Sample).map e_api_Sample))), (.d (.int .i64 (1 : Int)))], (Res.tmpC (by rfl) (Co.nils 6) (Res.tmp (by rfl) (by rfl) Res.nil)), rfl, by rfl, by rfl, by rfl⟩
    · replace h := ite_f hg7 h
      refine AWp.skip ?_
      refine seqQ_n ?_
      refine AWp.seq ?_
      refine AWp.region (OpJs.cons (OpJ.assign (ltN hN rfl) Opd.nils)
        (OpJs.nil)) (by rfl) (by rfl) ?_
      refine seqQ_n ?_
      refine AWp.ghost (Mat.pat [] [(0, (.d (.list 6 (a0.map e_api_Sample)))), (1, (.d (.list 6 (a1.map e_api_Sample)))), (6, .nils)] [] hB (by rfl) (by rfl) (by rfl)) ?_
      refine AWp.seq ?_
      refine AWp.region (OpJs.cons (OpJ.assign (ltN hN rfl) (Opd.bool false))
        (OpJs.nil)) (by rfl) (by rfl) ?_
      refine seqQ_n ?_
      refine AWp.ghost (Mat.pat [] [(0, (.d (.list 6 (a0.map e_api_Sample)))), (1, (.d (.list 6 (a1.map e_api_Sample)))), (6, .nils), (7, (.d (.bool false)))] [] hB (by rfl) (by rfl) (by rfl)) ?_
      refine AWp.seq ?_
      refine AWp.region (OpJs.cons (OpJ.move (ltN hN rfl) (Opd.tmp 0 (.d (.list 6 (a0.map e_api_Sample)))))
        (OpJs.cons (OpJ.val (v' := (.d (.int .i64 (a0.length : Int)))) (by simp) (OpJ.lenD Try.underlying31 (ltN hN rfl) (Opd.tmp 18 (.d (.list 6 (a0.map e_api_Sample))))))
        (OpJs.cons (OpJ.sub (ltN hN rfl) (Opd.tmp 19 (.d (.int .i64 (a0.length : Int)))) (Opd.int .i64 (1)))
        (OpJs.cons (OpJ.move (ltN hN rfl) (Opd.tmp 1 (.d (.list 6 (a1.map e_api_Sample)))))
        (OpJs.cons (OpJ.val (v' := (.d (.int .i64 (a1.length : Int)))) (by simp) (OpJ.lenD Try.underlying31 (ltN hN rfl) (Opd.tmp 21 (.d (.list 6 (a1.map e_api_Sample))))))
        (OpJs.cons (OpJ.sub (ltN hN rfl) (Opd.tmp 22 (.d (.int .i64 (a1.length : Int)))) (Opd.int .i64 (1)))
        (OpJs.cons (OpJ.assign (ltN hN rfl) (Opd.tmp 20 (.d (.int .i64 (w64 ((a0.length : Int) - (1 : Int)))))))
        (OpJs.cons (OpJ.assign (ltN hN rfl) (Opd.tmp 23 (.d (.int .i64 (w64 ((a1.length : Int) - (1 : Int)))))))
        (OpJs.nil))))))))) (by rfl) (by rfl) ?_
      refine seqQ_n ?_
      refine AWp.ghost (Mat.pat [] [(0, (.d (.list 6 (a0.map e_api_Sample)))), (1, (.d (.list 6 (a1.map e_api_Sample)))), (6, .nils), (7, (.d (.bool false))), (8, (.d (.int .i64 (w64 ((a0.length : Int) - (1 : Int)))))), (9, (.d (.int .i64 (w64 ((a1.length : Int) - (1 : Int))))))] [] hB (by rfl) (by rfl) (by rfl)) ?_
      refine AWp.seq ?_
      refine AWp.block ?_
      obtain ⟨p73, hx110, h⟩ := bindS h
      refine AWp.ghost (Mat.trans (Mat.begin (n := 3006) (e := 36) (sz := 6) (k := 6) hB (by decide) (by rfl) (by decide) (by rfl)) (Mat.pat [] ((fun s8 : Bool × Int × Int × (List api_Sample) => ([(0, (.d (.list 6 (a0.map e_api_Sample)))), (1, (.d (.list 6 (a1.map e_api_Sample)))), (6, (.sref 3006 6 0 s8.2.2.2.length)), (7, (.d (.bool s8.1))), (8, (.d (.int .i64 s8.2.1))), (9, (.d (.int .i64 s8.2.2.1)))] : EL)) (false, (w64 ((a0.length : Int) - (1 : Int))), (w64 ((a1.length : Int) - (1 : Int))), ([] : List api_Sample))) ((fun s8 : Bool × Int × Int × (List api_Sample) => ([(3006, some (.row 36 6 (s8.2.2.2.map e_api_Sample)))] : OL)) (false, (w64 ((a0.length : Int) - (1 : Int))), (w64 ((a1.length : Int) - (1 : Int))), ([] : List api_Sample))) hB (by rfl) (by rfl) (by rfl))) ?_
      refine AWp.loopS (sample_Merge_L0 a0 a1) (fun s8 : Bool × Int × Int × (List api_Sample) => ([(0, (.d (.list 6 (a0.map e_api_Sample)))), (1, (.d (.list 6 (a1.map e_api_Sample)))), (6, (.sref 3006 6 0 s8.2.2.2.length)), (7, (.d (.bool s8.1))), (8, (.d (.int .i64 s8.2.1))), (9, (.d (.int .i64 s8.2.2.1)))] : EL)) (fun s8 : Bool × Int × Int × (List api_Sample) => ([(3006, some (.row 36 6 (s8.2.2.2.map e_api_Sample)))] : OL)) (fun (p73 : (Bool × (List api_Sample))) e E' O' => e = .exit 0 ∧ Mat B E' O' ([(6, (.sref 3006 6 0 p73.2.length)), (7, (.d (.bool p73.1)))] : EL) ([(3006, some (.row 36 6 (p73.2.map e_api_Sample)))] : OL)) hx110 (fun s8 y h => ?_) (fun e E' O' hR => ?_)
      · unfold sample_Merge_L0 at h
        show AWp _ _ _ _ ([(0, (.d (.list 6 (a0.map e_api_Sample)))), (1, (.d (.list 6 (a1.map e_api_Sample)))), (6, (.sref 3006 6 0 s8.2.2.2.length)), (7, (.d (.bool s8.1))), (8, (.d (.int .i64 s8.2.1))), (9, (.d (.int .i64 s8.2.2.1)))] : EL) ([(3006, some (.row 36 6 (s8.2.2.2.map e_api_Sample)))] : OL)
        refine AWp.seq ?_
        refine AWp.seq ?_
        refine AWp.region (OpJs.cons (OpJ.move (ltN hN rfl) (Opd.tmp 8 (.d (.int .i64 s8.2.1))))
          (OpJs.cons (OpJ.geq (ltN hN rfl) (Opd.tmp 24 (.d (.int .i64 s8.2.1))) (Opd.int .i64 (0)))
          (OpJs.cons (OpJ.move (ltN hN rfl) (Opd.tmp 25 (.d (.bool (decide ((0 : Int) ≤ s8.2.1))))))
          (OpJs.cons (OpJ.opt' (v := (.d (.int .i64 s8.2.2.1))) (OpJ.move (ltN hN rfl) (Opd.tmp 9 (.d (.int .i64 s8.2.2.1)))) (by rfl) (GuardV.plain _) (ltN hN rfl) (by rfl) (by rfl) (by rfl) (by rfl) (OptL.keep rfl OptL.nil))
          (OpJs.cons (OpJ.opt' (v := (.d (.bool (decide ((0 : Int) ≤ s8.2.2.1))))) (OpJ.geq (ltN hN rfl) (Opd.tmp 27 (.d (.int .i64 s8.2.2.1))) (Opd.int .i64 (0))) (by rfl) (GuardV.plain _) (ltN hN rfl) (by rfl) (by rfl) (by rfl) (by rfl) (OptL.opt OptL.nil))
          (OpJs.cons (OpJ.pickOr rfl (ltN hN rfl) (Opd.tmp 26 (.d (.bool (decide ((0 : Int) ≤ s8.2.1))))) (Opd.tmp 28 (.opt ((decide ((0 : Int) ≤ s8.2.1)) == false) (.d (.bool (decide ((0 : Int) ≤ s8.2.2.1)))))))
          (OpJs.nil))))))) (by rfl) (by rfl) ?_
        refine seqQ_n ?_
        refine AWp.ghost (Mat.pat [] [(0, (.d (.list 6 (a0.map e_api_Sample)))), (1, (.d (.list 6 (a1.map e_api_Sample)))), (6, (.sref 3006 6 0 s8.2.2.2.length)), (7, (.d (.bool s8.1))), (8, (.d (.int .i64 s8.2.1))), (9, (.d (.int .i64 s8.2.2.1))), (29, (.d (.bool ((decide ((0 : Int) ≤ s8.2.1)) || (decide ((0 : Int) ≤ s8.2.2.1))))))] [(3006, some (.row 36 6 (s8.2.2.2.map e_api_Sample)))] hB (by rfl) (by rfl) (by rfl)) ?_
        refine AWp.cond (b := ((decide ((0 : Int) ≤ s8.2.1)) || (decide ((0 : Int) ≤ s8.2.2.1)))) (by rfl) (fun hg74 => ?_) (fun hg74 => ?_)
        · replace h := ite_t hg74 h
          refine AWp.skip ?_
          refine seqQ_n ?_
          refine AWp.block ?_
          refine AWp.block ?_
          refine AWp.seq ?_
          refine AWp.cut h (fun m79 : Bool => ([(0, (.d (.list 6 (a0.map e_api_Sample)))), (1, (.d (.list 6 (a1.map e_api_Sample)))), (6, (.sref 3006 6 0 s8.2.2.2.length)), (7, (.d (.bool s8.1))), (8, (.d (.int .i64 s8.2.1))), (9, (.d (.int .i64 s8.2.2.1))), (53, (.d (.bool m79)))] : EL)) (fun m79 : Bool => ([(3006, some (.row 36 6 (s8.2.2.2.map e_api_Sample)))] : OL)) (fun m79 h E' O' hmat => ?_) (fun j80 hjj80 h => ?_)
          · refine seqQ_n ?_
            refine AWp.ghost hmat ?_
            refine AWp.cond (b := m79) (by rfl) (fun hg81 => ?_) (fun hg81 => ?_)
            · replace h := ite_t hg81 h
              refine AWp.seq ?_
              obtain ⟨x82, hx82, h⟩ := bindS h
              obtain ⟨hc83, h⟩ := chk_some h
              refine AWp.region (OpJs.cons (OpJ.move (ltN hN rfl) (Opd.tmp 6 (.sref 3006 6 0 s8.2.2.2.length)))
                (OpJs.cons (OpJ.move (ltN hN rfl) (Opd.tmp 0 (.d (.list 6 (a0.map e_api_Sample)))))
                (OpJs.cons (OpJ.move (ltN hN rfl) (Opd.tmp 8 (.d (.int .i64 s8.2.1))))
                (OpJs.cons (OpJ.indexD (el := (e_api_Sample x82)) Try.underlying31 tyS36 (idx_some hx82).1 (get_map e_api_Sample (idx_some hx82).2) (ltN hN rfl) (Opd.tmp 74 (.d (.list 6 (a0.map e_api_Sample)))) (Opd.tmp 75 (.d (.int .i64 s8.2.1))))
                (OpJs.cons (OpJ.loadD tyS36 (by rfl) (by rfl) (ltN hN rfl) (Opd.tmp 76 (.dptr (e_api_Sample x82))))
                (OpJs.cons (OpJ.buildSlice Try.underlying31 tyS36 tyZD36 (by rfl) (by decide) (by decide) (Opds.cons (Opd.tmp 77 (.d (e_api_Sample x82))) Opds.nil) (by kernel_rfl) (es := ([(e_api_Sample x82)] : List D)) (by rfl) (by rfl) (by kernel_rfl) (by simp) (ltN hN rfl))
                (OpJs.cons (OpJ.append hB Try.underlying31 tyE36 (nm := 1079) (by decide) (es := s8.2.2.2.map e_api_Sample) (ys := ([x82] : List api_Sample).map e_api_Sample) (es' := (s8.2.2.2 ++ ([x82] : List api_Sample)).map e_api_Sample) (len := (s8.2.2.2 ++ ([x82] : List api_Sample)).length) (by simp) (by simp) (map_sz (f := e_api_Sample) (fun _ => rfl)) (by rw [List.length_map]; exact lim_mulN hc83 (by decide)) (by rw [List.length_map]; exact lim_leN hc83) (ltN hN rfl) (by simp) (Opd.tmp 73 (.sref 3006 6 0 s8.2.2.2.length)) (Opd.tmp 78 (.d (.list 6 (([x82] : List api_Sample).map e_api_Sample)))))
                (OpJs.cons (OpJ.assign (ltN hN rfl) (Opd.tmp 79 (.sref 1079 6 0 ((s8.2.2.2 ++ ([x82] : List api_Sample)).length))))
                (OpJs.nil))))))))) (by rfl) (by rfl) ?_
              refine seqQ_n ?_
              refine AWp.ghost (Mat.pat [] [(0, (.d (.list 6 (a0.map e_api_Sample)))), (1, (.d (.list 6 (a1.map e_api_Sample)))), (6, (.sref 1079 6 0 ((s8.2.2.2 ++ ([x82] : List api_Sample)).length))), (7, (.d (.bool s8.1))), (8, (.d (.int .i64 s8.2.1))), (9, (.d (.int .i64 s8.2.2.1)))] [(1079, some (.row 36 6 ((s8.2.2.2 ++ ([x82] : List api_Sample)).map e_api_Sample)))] hB (by rfl) (by rfl) (by rfl)) ?_
              refine AWp.region (OpJs.cons (OpJ.move (ltN hN rfl) (Opd.tmp 8 (.d (.int .i64 s8.2.1))))
                (OpJs.cons (OpJ.sub (ltN hN rfl) (Opd.tmp 80 (.d (.int .i64 s8.2.1))) (Opd.int .i64 (1)))
                (OpJs.cons (OpJ.assign (ltN hN rfl) (Opd.tmp 81 (.d (.int .i64 (w64 (s8.2.1 - (1 : Int)))))))
                (OpJs.nil)))) (by rfl) (by rfl) ?_
              refine blkQ_n ?_
              refine blkQ_n ?_
              obtain rfl := Option.some.inj h
              exact ⟨rfl, (Mat.trans (Mat.pat [] [(0, (.d (.list 6 (a0.map e_api_Sample)))), (1, (.d (.list 6 (a1.map e_api_Sample)))), (6, (.sref 1079 6 0 ((s8.2.2.2 ++ ([x82] : List api_Sample)).length))), (7, (.d (.bool s8.1))), (8, (.d (.int .i64 (w64 (s8.2.1 - (1 : Int)))))), (9, (.d (.int .i64 s8.2.2.1)))] [(1079, some (.row 36 6 ((s8.2.2.2 ++ ([x82] : List api_Sample)).map e_api_Sample)))] hB (by rfl) (by rfl) (by rfl)) (Mat.pat [(3006, 1079)] ((fun s8 : Bool × Int × Int × (List api_Sample) => ([(0, (.d (.list 6 (a0.map e_api_Sample)))), (1, (.d (.list 6 (a1.map e_api_Sample)))), (6, (.sref 3006 6 0 s8.2.2.2.length)), (7, (.d (.bool s8.1))), (8, (.d (.int .i64 s8.2.1))), (9, (.d (.int .i64 s8.2.2.1)))] : EL)) (s8.1, (w64 (s8.2.1 - (1 : Int))), s8.2.2.1, (s8.2.2.2 ++ ([x82] : List api_Sample)))) ((fun s8 : Bool × Int × Int × (List api_Sample) => ([(3006, some (.row 36 6 (s8.2.2.2.map e_api_Sample)))] : OL)) (s8.1, (w64 (s8.2.1 - (1 : Int))), s8.2.2.1, (s8.2.2.2 ++ ([x82] : List api_Sample)))) hB (by rfl) (by rfl) (by rfl)))⟩
            · replace h := ite_f hg81 h
              refine AWp.seq ?_
              refine AWp.cut h (fun m87 : Bool => ([(0, (.d (.list 6 (a0.map e_api_Sample)))), (1, (.d (.list 6 (a1.map e_api_Sample)))), (6, (.sref 3006 6 0 s8.2.2.2.length)), (7, (.d (.bool s8.1))), (8, (.d (.int .i64 s8.2.1))), (9, (.d (.int .i64 s8.2.2.1))), (82, (.d (.bool m87)))] : EL)) (fun m87 : Bool => ([(3006, some (.row 36 6 (s8.2.2.2.map e_api_Sample)))] : OL)) (fun m87 h E' O' hmat => ?_) (fun j88 hjj88 h => ?_)
              · refine seqQ_n ?_
                refine AWp.ghost hmat ?_
                refine AWp.cond (b := m87) (by rfl) (fun hg89 => ?_) (fun hg89 => ?_)
                · replace h := ite_t hg89 h
                  refine AWp.seq ?_
                  obtain ⟨x90, hx90, h⟩ := bindS h
                  obtain ⟨hc91, h⟩ := chk_some h
                  refine AWp.region (OpJs.cons (OpJ.move (ltN hN rfl) (Opd.tmp 6 (.sref 3006 6 0 s8.2.2.2.length)))
                    (OpJs.cons (OpJ.move (ltN hN rfl) (Opd.tmp 1 (.d (.list 6 (a1.map e_api_Sample)))))
                    (OpJs.cons (OpJ.move (ltN hN rfl) (Opd.tmp 9 (.d (.int .i64 s8.2.2.1))))
                    (OpJs.cons (OpJ.indexD (el := (e_api_Sample x90)) Try.underlying31 tyS36 (idx_some hx90).1 (get_map e_api_Sample (idx_some hx90).2) (ltN hN rfl) (Opd.tmp 99 (.d (.list 6 (a1.map e_api_Sample)))) (Opd.tmp 100 (.d (.int .i64 s8.2.2.1))))
                    (OpJs.cons (OpJ.loadD tyS36 (by rfl) (by rfl) (ltN hN rfl) (Opd.tmp 101 (.dptr (e_api_Sample x90))))
                    (OpJs.cons (OpJ.buildSlice Try.underlying31 tyS36 tyZD36 (by rfl) (by decide) (by decide) (Opds.cons (Opd.tmp 102 (.d (e_api_Sample x90))) Opds.nil) (by kernel_rfl) (es := ([(e_api_Sample x90)] : List D)) (by rfl) (by rfl) (by kernel_rfl) (by simp) (ltN hN rfl))
                    (OpJs.cons (OpJ.append hB Try.underlying31 tyE36 (nm := 1104) (by decide) (es := s8.2.2.2.map e_api_Sample) (ys := ([x90] : List api_Sample).map e_api_Sample) (es' := (s8.2.2.2 ++ ([x90] : List api_Sample)).map e_api_Sample) (len := (s8.2.2.2 ++ ([x90] : List api_Sample)).length) (by simp) (by simp) (map_sz (f := e_api_Sample) (fun _ => rfl)) (by rw [List.length_map]; exact lim_mulN hc91 (by decide)) (by rw [List.length_map]; exact lim_leN hc91) (ltN hN rfl) (by simp) (Opd.tmp 98 (.sref 3006 6 0 s8.2.2.2.length)) (Opd.tmp 103 (.d (.list 6 (([x90] : List api_Sample).map e_api_Sample)))))
                    (OpJs.cons (OpJ.assign (ltN hN rfl) (Opd.tmp 104 (.sref 1104 6 0 ((s8.2.2.2 ++ ([x90] : List api_Sample)).length))))
                    (OpJs.nil))))))))) (by rfl) (by rfl) ?_
                  refine seqQ_n ?_
                  refine AWp.ghost (Mat.pat [] [(0, (.d (.list 6 (a0.map e_api_Sample)))), (1, (.d (.list 6 (a1.map e_api_Sample)))), (6, (.sref 1104 6 0 ((s8.2.2.2 ++ ([x90] : List api_Sample)).length))), (7, (.d (.bool s8.1))), (8, (.d (.int .i64 s8.2.1))), (9, (.d (.int .i64 s8.2.2.1)))] [(1104, some (.row 36 6 ((s8.2.2.2 ++ ([x90] : List api_Sample)).map e_api_Sample)))] hB (by rfl) (by rfl) (by rfl)) ?_
                  refine AWp.region (OpJs.cons (OpJ.move (ltN hN rfl) (Opd.tmp 9 (.d (.int .i64 s8.2.2.1))))
                    (OpJs.cons (OpJ.sub (ltN hN rfl) (Opd.tmp 105 (.d (.int .i64 s8.2.2.1))) (Opd.int .i64 (1)))
                    (OpJs.cons (OpJ.assign (ltN hN rfl) (Opd.tmp 106 (.d (.int .i64 (w64 (s8.2.2.1 - (1 : Int)))))))
                    (OpJs.nil)))) (by rfl) (by rfl) ?_
                  refine blkQ_n ?_
                  refine blkQ_n ?_
                  obtain rfl := Option.some.inj h
                  exact ⟨rfl, (Mat.trans (Mat.pat [] [(0, (.d (.list 6 (a0.map e_api_Sample)))), (1, (.d (.list 6 (a1.map e_api_Sample)))), (6, (.sref 1104 6 0 ((s8.2.2.2 ++ ([x90] : List api_Sample)).length))), (7, (.d (.bool s8.1))), (8, (.d (.int .i64 s8.2.1))), (9, (.d (.int .i64 (w64 (s8.2.2.1 - (1 : Int))))))] [(1104, some (.row 36 6 ((s8.2.2.2 ++ ([x90] : List api_Sample)).map e_api_Sample)))] hB (by rfl) (by rfl) (by rfl)) (Mat.pat [(3006, 1104)] ((fun s8 : Bool × Int × Int × (List api_Sample) => ([(0, (.d (.list 6 (a0.map e_api_Sample)))), (1, (.d (.list 6 (a1.map e_api_Sample)))), (6, (.sref 3006 6 0 s8.2.2.2.length)), (7, (.d (.bool s8.1))), (8, (.d (.int .i64 s8.2.1))), (9, (.d (.int .i64 s8.2.2.1)))] : EL)) (s8.1, s8.2.1, (w64 (s8.2.2.1 - (1 : Int))), (s8.2.2.2 ++ ([x90] : List api_Sample)))) ((fun s8 : Bool × Int × Int × (List api_Sample) => ([(3006, some (.row 36 6 (s8.2.2.2.map e_api_Sample)))] : OL)) (s8.1, s8.2.1, (w64 (s8.2.2.1 - (1 : Int))), (s8.2.2.2 ++ ([x90] : List api_Sample)))) hB (by rfl) (by rfl) (by rfl)))⟩
                · replace h := ite_f hg89 h
                  refine AWp.seq ?_
                  refine AWp.cut h (fun m95 : Bool => ([(0, (.d (.list 6 (a0.map e_api_Sample)))), (1, (.d (.list 6 (a1.map e_api_Sample)))), (6, (.sref 3006 6 0 s8.2.2.2.length)), (7, (.d (.bool m95))), (8, (.d (.int .i64 s8.2.1))), (9, (.d (.int .i64 s8.2.2.1)))] : EL)) (fun m95 : Bool => ([(3006, some (.row 36 6 (s8.2.2.2.map e_api_Sample)))] : OL)) (fun m95 h E' O' hmat => ?_) (fun j96 hjj96 h => ?_)
                  · refine seqQ_n ?_
                    refine AWp.ghost hmat ?_
                    refine AWp.seq ?_
                    obtain ⟨x97, hx97, h⟩ := bindS h
                    obtain ⟨hc98, h⟩ := chk_some h
                    refine AWp.region (OpJs.cons (OpJ.move (ltN hN rfl) (Opd.tmp 6 (.sref 3006 6 0 s8.2.2.2.length)))
                      (OpJs.cons (OpJ.move (ltN hN rfl) (Opd.tmp 0 (.d (.list 6 (a0.map e_api_Sample)))))
                      (OpJs.cons (OpJ.move (ltN hN rfl) (Opd.tmp 8 (.d (.int .i64 s8.2.1))))
                      (OpJs.cons (OpJ.indexD (el := (e_api_Sample x97)) Try.underlying31 tyS36 (idx_some hx97).1 (get_map e_api_Sample (idx_some hx97).2) (ltN hN rfl) (Opd.tmp 43 (.d (.list 6 (a0.map e_api_Sample)))) (Opd.tmp 44 (.d (.int .i64 s8.2.1))))
                      (OpJs.cons (OpJ.loadD tyS36 (by rfl) (by rfl) (ltN hN rfl) (Opd.tmp 45 (.dptr (e_api_Sample x97))))
                      (OpJs.cons (OpJ.buildSlice Try.underlying31 tyS36 tyZD36 (by rfl) (by decide) (by decide) (Opds.cons (Opd.tmp 46 (.d (e_api_Sample x97))) Opds.nil) (by kernel_rfl) (es := ([(e_api_Sample x97)] : List D)) (by rfl) (by rfl) (by kernel_rfl) (by simp) (ltN hN rfl))
                      (OpJs.cons (OpJ.append hB Try.underlying31 tyE36 (nm := 1048) (by decide) (es := s8.2.2.2.map e_api_Sample) (ys := ([x97] : List api_Sample).map e_api_Sample) (es' := (s8.2.2.2 ++ ([x97] : List api_Sample)).map e_api_Sample) (len := (s8.2.2.2 ++ ([x97] : List api_Sample)).length) (by simp) (by simp) (map_sz (f := e_api_Sample) (fun _ => rfl)) (by rw [List.length_map]; exact lim_mulN hc98 (by decide)) (by rw [List.length_map]; exact lim_leN hc98) (ltN hN rfl) (by simp) (Opd.tmp 42 (.sref 3006 6 0 s8.2.2.2.length)) (Opd.tmp 47 (.d (.list 6 (([x97] : List api_Sample).map e_api_Sample)))))
                      (OpJs.cons (OpJ.assign (ltN hN rfl) (Opd.tmp 48 (.sref 1048 6 0 ((s8.2.2.2 ++ ([x97] : List api_Sample)).length))))
                      (OpJs.nil))))))))) (by rfl) (by rfl) ?_
                    refine seqQ_n ?_
                    refine AWp.ghost (Mat.pat [] [(0, (.d (.list 6 (a0.map e_api_Sample)))), (1, (.d (.list 6 (a1.map e_api_Sample)))), (6, (.sref 1048 6 0 ((s8.2.2.2 ++ ([x97] : List api_Sample)).length))), (7, (.d (.bool m95))), (8, (.d (.int .i64 s8.2.1))), (9, (.d (.int .i64 s8.2.2.1)))] [(1048, some (.row 36 6 ((s8.2.2.2 ++ ([x97] : List api_Sample)).map e_api_Sample)))] hB (by rfl) (by rfl) (by rfl)) ?_
                    refine AWp.seq ?_
                    refine AWp.region (OpJs.cons (OpJ.move (ltN hN rfl) (Opd.tmp 8 (.d (.int .i64 s8.2.1))))
                      (OpJs.cons (OpJ.sub (ltN hN rfl) (Opd.tmp 49 (.d (.int .i64 s8.2.1))) (Opd.int .i64 (1)))
                      (OpJs.cons (OpJ.assign (ltN hN rfl) (Opd.tmp 50 (.d (.int .i64 (w64 (s8.2.1 - (1 : Int)))))))
                      (OpJs.nil)))) (by rfl) (by rfl) ?_
                    refine seqQ_n ?_
                    refine AWp.ghost (Mat.pat [] [(0, (.d (.list 6 (a0.map e_api_Sample)))), (1, (.d (.list 6 (a1.map e_api_Sample)))), (6, (.sref 1048 6 0 ((s8.2.2.2 ++ ([x97] : List api_Sample)).length))), (7, (.d (.bool m95))), (8, (.d (.int .i64 (w64 (s8.2.1 - (1 : Int)))))), (9, (.d (.int .i64 s8.2.2.1)))] [(1048, some (.row 36 6 ((s8.2.2.2 ++ ([x97] : List api_Sample)).map e_api_Sample)))] hB (by rfl) (by rfl) (by rfl)) ?_
                    refine AWp.region (OpJs.cons (OpJ.move (ltN hN rfl) (Opd.tmp 9 (.d (.int .i64 s8.2.2.1))))
                      (OpJs.cons (OpJ.sub (ltN hN rfl) (Opd.tmp 51 (.d (.int .i64 s8.2.2.1))) (Opd.int .i64 (1)))
                      (OpJs.cons (OpJ.assign (ltN hN rfl) (Opd.tmp 52 (.d (.int .i64 (w64 (s8.2.2.1 - (1 : Int)))))))
                      (OpJs.nil)))) (by rfl) (by rfl) ?_
                    refine blkQ_n ?_
                    refine blkQ_n ?_
                    obtain rfl := Option.some.inj h
                    exact ⟨rfl, (Mat.trans (Mat.pat [] [(0, (.d (.list 6 (a0.map e_api_Sample)))), (1, (.d (.list 6 (a1.map e_api_Sample)))), (6, (.sref 1048 6 0 ((s8.2.2.2 ++ ([x97] : List api_Sample)).length))), (7, (.d (.bool m95))), (8, (.d (.int .i64 (w64 (s8.2.1 - (1 : Int)))))), (9, (.d (.int .i64 (w64 (s8.2.2.1 - (1 : Int))))))] [(1048, some (.row 36 6 ((s8.2.2.2 ++ ([x97] : List api_Sample)).map e_api_Sample)))] hB (by rfl) (by rfl) (by rfl)) (Mat.pat [(3006, 1048)] ((fun s8 : Bool × Int × Int × (List api_Sample) => ([(0, (.d (.list 6 (a0.map e_api_Sample)))), (1, (.d (.list 6 (a1.map e_api_Sample)))), (6, (.sref 3006 6 0 s8.2.2.2.length)), (7, (.d (.bool s8.1))), (8, (.d (.int .i64 s8.2.1))), (9, (.d (.int .i64 s8.2.2.1)))] : EL)) (m95, (w64 (s8.2.1 - (1 : Int))), (w64 (s8.2.2.1 - (1 : Int))), (s8.2.2.2 ++ ([x97] : List api_Sample)))) ((fun s8 : Bool × Int × Int × (List api_Sample) => ([(3006, some (.row 36 6 (s8.2.2.2.map e_api_Sample)))] : OL)) (m95, (w64 (s8.2.1 - (1 : Int))), (w64 (s8.2.2.1 - (1 : Int))), (s8.2.2.2 ++ ([x97] : List api_Sample)))) hB (by rfl) (by rfl) (by rfl)))⟩
                  · rcases Bool.eq_false_or_eq_true s8.1 with hg99 | hg99
                    · replace h := ite_t hg99 h
                      refine AWp.draws (by kernel_rfl) (OpJs.cons (OpJ.move (ltN hN rfl) (Opd.tmp 7 (.d (.bool s8.1))))
                        (OpJs.cons (OpJ.val (v' := .d (.bool true)) (by rw [hg99]) (OpJ.move (ltN hN rfl) (Opd.tmp 30 (.d (.bool s8.1)))))
                        (OpJs.cons (OpJ.skipU (ltN hN rfl) (by rfl))
                        (OpJs.cons (OpJ.skipU (ltN hN rfl) (by rfl))
                        (OpJs.cons (OpJ.skipU (ltN hN rfl) (by rfl))
                        (OpJs.cons (OpJ.skipU (ltN hN rfl) (by rfl))
                        (OpJs.cons (OpJ.skipU (ltN hN rfl) (by rfl))
                        (OpJs.cons (OpJ.skipU (ltN hN rfl) (by rfl))
                        (OpJs.cons (OpJ.skipU (ltN hN rfl) (by rfl))
                        (OpJs.cons (OpJ.skipU (ltN hN rfl) (by rfl))
                        (OpJs.cons (OpJ.skipU (ltN hN rfl) (by rfl))
                        (OpJs.cons (OpJ.pickT (ltN hN rfl) (Opd.tmp 31 (.d (.bool true))) (Opd.bool true))
                        (OpJs.cons (OpJ.assign (ltN hN rfl) (Opd.tmp 41 (.d (.bool true))))
                        (OpJs.nil)))))))))))))) (by kernel_rfl) (by rfl) (by rfl) ?_
                      exact hjj96 _ h _ _ (Mat.trans (Mat.pat [] [(0, (.d (.list 6 (a0.map e_api_Sample)))), (1, (.d (.list 6 (a1.map e_api_Sample)))), (6, (.sref 3006 6 0 s8.2.2.2.length)), (7, (.d (.bool true))), (8, (.d (.int .i64 s8.2.1))), (9, (.d (.int .i64 s8.2.2.1)))] [(3006, some (.row 36 6 (s8.2.2.2.map e_api_Sample)))] hB (by rfl) (by rfl) (by rfl)) (Mat.pat [] ((fun m95 : Bool => ([(0, (.d (.list 6 (a0.map e_api_Sample)))), (1, (.d (.list 6 (a1.map e_api_Sample)))), (6, (.sref 3006 6 0 s8.2.2.2.length)), (7, (.d (.bool m95))), (8, (.d (.int .i64 s8.2.1))), (9, (.d (.int .i64 s8.2.2.1)))] : EL)) true) ((fun m95 : Bool => ([(3006, some (.row 36 6 (s8.2.2.2.map e_api_Sample)))] : OL)) true) hB (by rfl) (by rfl) (by rfl)))
                    · replace h := ite_f hg99 h
                      obtain ⟨x100, hx100, h⟩ := bindS h
                      obtain ⟨x101, hx101, h⟩ := bindS h
                      refine AWp.draws (by kernel_rfl) (OpJs.cons (OpJ.move (ltN hN rfl) (Opd.tmp 7 (.d (.bool s8.1))))
                        (OpJs.cons (OpJ.val (v' := .d (.bool false)) (by rw [hg99]) (OpJ.move (ltN hN rfl) (Opd.tmp 30 (.d (.bool s8.1)))))
                        (OpJs.cons (OpJ.guarded (by rfl) (OpJ.move (ltN hN rfl) (Opd.tmp 0 (.d (.list 6 (a0.map e_api_Sample))))))
                        (OpJs.cons (OpJ.guarded (by rfl) (OpJ.move (ltN hN rfl) (Opd.tmp 8 (.d (.int .i64 s8.2.1)))))
                        (OpJs.cons (OpJ.guarded (by rfl) (OpJ.indexD (el := (e_api_Sample x100)) Try.underlying31 tyS36 (idx_some hx100).1 (get_map e_api_Sample (idx_some hx100).2) (ltN hN rfl) (Opd.tmp 32 (.d (.list 6 (a0.map e_api_Sample)))) (Opd.tmp 33 (.d (.int .i64 s8.2.1)))))
                        (OpJs.cons (OpJ.guarded (by rfl) (OpJ.loadD tyS36 (by rfl) (by rfl) (ltN hN rfl) (Opd.tmp 34 (.dptr (e_api_Sample x100)))))
                        (OpJs.cons (OpJ.guarded (by rfl) (OpJ.move (ltN hN rfl) (Opd.tmp 1 (.d (.list 6 (a1.map e_api_Sample))))))
                        (OpJs.cons (OpJ.guarded (by rfl) (OpJ.move (ltN hN rfl) (Opd.tmp 9 (.d (.int .i64 s8.2.2.1)))))
                        (OpJs.cons (OpJ.guarded (by rfl) (OpJ.indexD (el := (e_api_Sample x101)) Try.underlying31 tyS36 (idx_some hx101).1 (get_map e_api_Sample (idx_some hx101).2) (ltN hN rfl) (Opd.tmp 36 (.d (.list 6 (a1.map e_api_Sample)))) (Opd.tmp 37 (.d (.int .i64 s8.2.2.1)))))
                        (OpJs.cons (OpJ.guarded (by rfl) (OpJ.loadD tyS36 (by rfl) (by rfl) (ltN hN rfl) (Opd.tmp 38 (.dptr (e_api_Sample x101)))))
                        (OpJs.cons (OpJ.guarded (by rfl) (OpJ.neqD (h := 2) (FitE.st Try.underlying36 rfl held36 (FitF.cons (x := (.int .i64 x100.fTick)) (y := (.int .i64 x101.fTick)) (by decide) rfl tyS3 ⟨rfl, rfl⟩ ⟨rfl, rfl⟩ (FitE.int (h := 0) x100.fTick x101.fTick Try.underlying3) (FitF.cons (x := (.int .i64 x100.fSeq)) (y := (.int .i64 x101.fSeq)) (by decide) rfl tyS3 ⟨rfl, rfl⟩ ⟨rfl, rfl⟩ (FitE.int (h := 0) x100.fSeq x101.fSeq Try.underlying3) (FitF.cons (x := (.int .i64 x100.fPool)) (y := (.int .i64 x101.fPool)) (by decide) rfl tyS3 ⟨rfl, rfl⟩ ⟨rfl, rfl⟩ (FitE.int (h := 0) x100.fPool x101.fPool Try.underlying3) (FitF.cons (x := (.int .i64 x100.fIn)) (y := (.int .i64 x101.fIn)) (by decide) rfl tyS3 ⟨rfl, rfl⟩ ⟨rfl, rfl⟩ (FitE.int (h := 0) x100.fIn x101.fIn Try.underlying3) (FitF.cons (x := (.int .i64 x100.fOut)) (y := (.int .i64 x101.fOut)) (by decide) rfl tyS3 ⟨rfl, rfl⟩ ⟨rfl, rfl⟩ (FitE.int (h := 0) x100.fOut x101.fOut Try.underlying3) (FitF.cons (x := (.int .i64 x100.fBytes)) (y := (.int .i64 x101.fBytes)) (by decide) rfl tyS3 ⟨rfl, rfl⟩ ⟨rfl, rfl⟩ (FitE.int (h := 0) x100.fBytes x101.fBytes Try.underlying3) FitF.nil))))))) eqg36 ⟨rfl, rfl⟩ (by rfl) (ltN hN rfl) (Opd.tmp 35 (.d (e_api_Sample x100))) (Opd.tmp 39 (.d (e_api_Sample x101)))))
                        (OpJs.cons (OpJ.pickF (ltN hN rfl) (Opd.tmp 31 (.d (.bool false))) (Opd.tmp 40 (.d (.bool (!((x100.fTick == x101.fTick) && ((x100.fSeq == x101.fSeq) && ((x100.fPool == x101.fPool) && ((x100.fIn == x101.fIn) && ((x100.fOut == x101.fOut) && ((x100.fBytes == x101.fBytes) && true)))))))))))
                        (OpJs.cons (OpJ.assign (ltN hN rfl) (Opd.tmp 41 (.d (.bool (!((x100.fTick == x101.fTick) && ((x100.fSeq == x101.fSeq) && ((x100.fPool == x101.fPool) && ((x100.fIn == x101.fIn) && ((x100.fOut == x101.fOut) && ((x100.fBytes == x101.fBytes) && true)))))))))))
                        (OpJs.nil)))))))))))))) (by kernel_rfl) (by rfl) (by rfl) ?_
                      exact hjj96 _ h _ _ (Mat.trans (Mat.pat [] [(0, (.d (.list 6 (a0.map e_api_Sample)))), (1, (.d (.list 6 (a1.map e_api_Sample)))), (6, (.sref 3006 6 0 s8.2.2.2.length)), (7, (.d (.bool (!((x100.fTick == x101.fTick) && ((x100.fSeq == x101.fSeq) && ((x100.fPool == x101.fPool) && ((x100.fIn == x101.fIn) && ((x100.fOut == x101.fOut) && ((x100.fBytes == x101.fBytes) && true)))))))))), (8, (.d (.int .i64 s8.2.1))), (9, (.d (.int .i64 s8.2.2.1)))] [(3006, some (.row 36 6 (s8.2.2.2.map e_api_Sample)))] hB (by rfl) (by rfl) (by rfl)) (Mat.pat [] ((fun m95 : Bool => ([(0, (.d (.list 6 (a0.map e_api_Sample)))), (1, (.d (.list 6 (a1.map e_api_Sample)))), (6, (.sref 3006 6 0 s8.2.2.2.length)), (7, (.d (.bool m95))), (8, (.d (.int .i64 s8.2.1))), (9, (.d (.int .i64 s8.2.2.1)))] : EL)) (!((x100.fTick == x101.fTick) && ((x100.fSeq == x101.fSeq) && ((x100.fPool == x101.fPool) && ((x100.fIn == x101.fIn) && ((x100.fOut == x101.fOut) && ((x100.fBytes == x101.fBytes) && true)))))))) ((fun m95 : Bool => ([(3006, some (.row 36 6 (s8.2.2.2.map e_api_Sample)))] : OL)) (!((x100.fTick == x101.fTick) && ((x100.fSeq == x101.fSeq) && ((x100.fPool == x101.fPool) && ((x100.fIn == x101.fIn) && ((x100.fOut == x101.fOut) && ((x100.fBytes == x101.fBytes) && true)))))))) hB (by rfl) (by rfl) (by rfl)))
              · rcases Bool.eq_false_or_eq_true (decide (s8.2.1 < (0 : Int))) with hg102 | hg102
                · replace h := ite_t hg102 h
                  refine AWp.draws (by kernel_rfl) (OpJs.cons (OpJ.move (ltN hN rfl) (Opd.tmp 8 (.d (.int .i64 s8.2.1))))
                    (OpJs.cons (OpJ.lss (ltN hN rfl) (Opd.tmp 83 (.d (.int .i64 s8.2.1))) (Opd.int .i64 (0)))
                    (OpJs.cons (OpJ.val (v' := .d (.bool true)) (by rw [hg102]) (OpJ.move (ltN hN rfl) (Opd.tmp 84 (.d (.bool (decide (s8.2.1 < (0 : Int))))))))
                    (OpJs.cons (OpJ.skipU (ltN hN rfl) (by rfl))
                    (OpJs.cons (OpJ.skipU (ltN hN rfl) (by rfl))
                    (OpJs.cons (OpJ.skipU (ltN hN rfl) (by rfl))
                    (OpJs.cons (OpJ.skipU (ltN hN rfl) (by rfl))
                    (OpJs.cons (OpJ.skipU (ltN hN rfl) (by rfl))
                    (OpJs.cons (OpJ.skipU (ltN hN rfl) (by rfl))
                    (OpJs.cons (OpJ.skipU (ltN hN rfl) (by rfl))
                    (OpJs.cons (OpJ.skipU (ltN hN rfl) (by rfl))
                    (OpJs.cons (OpJ.skipU (ltN hN rfl) (by rfl))
                    (OpJs.cons (OpJ.skipU (ltN hN rfl) (by rfl))
                    (OpJs.cons (OpJ.skipU (ltN hN rfl) (by rfl))
                    (OpJs.cons (OpJ.pickT (ltN hN rfl) (Opd.tmp 85 (.d (.bool true))) (Opd.bool true))
                    (OpJs.cons (OpJ.assign (ltN hN rfl) (Opd.tmp 97 (.d (.bool true))))
                    (OpJs.nil))))))))))))))))) (by kernel_rfl) (by rfl) (by rfl) ?_
                  exact hjj88 _ h _ _ (Mat.trans (Mat.pat [] [(0, (.d (.list 6 (a0.map e_api_Sample)))), (1, (.d (.list 6 (a1.map e_api_Sample)))), (6, (.sref 3006 6 0 s8.2.2.2.length)), (7, (.d (.bool s8.1))), (8, (.d (.int .i64 s8.2.1))), (9, (.d (.int .i64 s8.2.2.1))), (82, (.d (.bool true)))] [(3006, some (.row 36 6 (s8.2.2.2.map e_api_Sample)))] hB (by rfl) (by rfl) (by rfl)) (Mat.pat [] ((fun m87 : Bool => ([(0, (.d (.list 6 (a0.map e_api_Sample)))), (1, (.d (.list 6 (a1.map e_api_Sample)))), (6, (.sref 3006 6 0 s8.2.2.2.length)), (7, (.d (.bool s8.1))), (8, (.d (.int .i64 s8.2.1))), (9, (.d (.int .i64 s8.2.2.1))), (82, (.d (.bool m87)))] : EL)) true) ((fun m87 : Bool => ([(3006, some (.row 36 6 (s8.2.2.2.map e_api_Sample)))] : OL)) true) hB (by rfl) (by rfl) (by rfl)))
                · replace h := ite_f hg102 h
                  obtain ⟨x103, hx103, h⟩ := bindS h
                  obtain ⟨x104, hx104, h⟩ := bindS h
                  refine AWp.draws (by kernel_rfl) (OpJs.cons (OpJ.move (ltN hN rfl) (Opd.tmp 8 (.d (.int .i64 s8.2.1))))
                    (OpJs.cons (OpJ.lss (ltN hN rfl) (Opd.tmp 83 (.d (.int .i64 s8.2.1))) (Opd.int .i64 (0)))
                    (OpJs.cons (OpJ.val (v' := .d (.bool false)) (by rw [hg102]) (OpJ.move (ltN hN rfl) (Opd.tmp 84 (.d (.bool (decide (s8.2.1 < (0 : Int))))))))
                    (OpJs.cons (OpJ.guarded (by rfl) (OpJ.move (ltN hN rfl) (Opd.tmp 1 (.d (.list 6 (a1.map e_api_Sample))))))
                    (OpJs.cons (OpJ.guarded (by rfl) (OpJ.move (ltN hN rfl) (Opd.tmp 9 (.d (.int .i64 s8.2.2.1)))))
                    (OpJs.cons (OpJ.guarded (by rfl) (OpJ.indexD (el := (e_api_Sample x103)) Try.underlying31 tyS36 (idx_some hx103).1 (get_map e_api_Sample (idx_some hx103).2) (ltN hN rfl) (Opd.tmp 86 (.d (.list 6 (a1.map e_api_Sample)))) (Opd.tmp 87 (.d (.int .i64 s8.2.2.1)))))
                    (OpJs.cons (OpJ.guarded (by rfl) (OpJ.fieldD Try.underlying36 (by rfl) (o := 1) (by rfl) tyS3 (by decide) (ds := [(.int .i64 x103.fTick), (.int .i64 x103.fSeq), (.int .i64 x103.fPool), (.int .i64 x103.fIn), (.int .i64 x103.fOut), (.int .i64 x103.fBytes)]) (e := (.int .i64 x103.fSeq)) (by rfl) (by rfl) (ltN hN rfl) (Opd.tmp 88 (.dptr (e_api_Sample x103)))))
                    (OpJs.cons (OpJ.guarded (by rfl) (OpJ.loadD tyS3 (by rfl) (by rfl) (ltN hN rfl) (Opd.tmp 89 (.dptr (.int .i64 x103.fSeq)))))
                    (OpJs.cons (OpJ.guarded (by rfl) (OpJ.move (ltN hN rfl) (Opd.tmp 0 (.d (.list 6 (a0.map e_api_Sample))))))
                    (OpJs.cons (OpJ.guarded (by rfl) (OpJ.move (ltN hN rfl) (Opd.tmp 8 (.d (.int .i64 s8.2.1)))))
                    (OpJs.cons (OpJ.guarded (by rfl) (OpJ.indexD (el := (e_api_Sample x104)) Try.underlying31 tyS36 (idx_some hx104).1 (get_map e_api_Sample (idx_some hx104).2) (ltN hN rfl) (Opd.tmp 91 (.d (.list 6 (a0.map e_api_Sample)))) (Opd.tmp 92 (.d (.int .i64 s8.2.1)))))
                    (OpJs.cons (OpJ.guarded (by rfl) (OpJ.fieldD Try.underlying36 (by rfl) (o := 1) (by rfl) tyS3 (by decide) (ds := [(.int .i64 x104.fTick), (.int .i64 x104.fSeq), (.int .i64 x104.fPool), (.int .i64 x104.fIn), (.int .i64 x104.fOut), (.int .i64 x104.fBytes)]) (e := (.int .i64 x104.fSeq)) (by rfl) (by rfl) (ltN hN rfl) (Opd.tmp 93 (.dptr (e_api_Sample x104)))))
                    (OpJs.cons (OpJ.guarded (by rfl) (OpJ.loadD tyS3 (by rfl) (by rfl) (ltN hN rfl) (Opd.tmp 94 (.dptr (.int .i64 x104.fSeq)))))
                    (OpJs.cons (OpJ.guarded (by rfl) (OpJ.gtr (ltN hN rfl) (Opd.tmp 90 (.d (.int .i64 x103.fSeq))) (Opd.tmp 95 (.d (.int .i64 x104.fSeq)))))
                    (OpJs.cons (OpJ.pickF (ltN hN rfl) (Opd.tmp 85 (.d (.bool false))) (Opd.tmp 96 (.d (.bool (decide (x104.fSeq < x103.fSeq))))))
                    (OpJs.cons (OpJ.assign (ltN hN rfl) (Opd.tmp 97 (.d (.bool (decide (x104.fSeq < x103.fSeq))))))
                    (OpJs.nil))))))))))))))))) (by kernel_rfl) (by rfl) (by rfl) ?_
                  exact hjj88 _ h _ _ (Mat.trans (Mat.pat [] [(0, (.d (.list 6 (a0.map e_api_Sample)))), (1, (.d (.list 6 (a1.map e_api_Sample)))), (6, (.sref 3006 6 0 s8.2.2.2.length)), (7, (.d (.bool s8.1))), (8, (.d (.int .i64 s8.2.1))), (9, (.d (.int .i64 s8.2.2.1))), (82, (.d (.bool (decide (x104.fSeq < x103.fSeq)))))] [(3006, some (.row 36 6 (s8.2.2.2.map e_api_Sample)))] hB (by rfl) (by rfl) (by rfl)) (Mat.pat [] ((fun m87 : Bool => ([(0, (.d (.list 6 (a0.map e_api_Sample)))), (1, (.d (.list 6 (a1.map e_api_Sample)))), (6, (.sref 3006 6 0 s8.2.2.2.length)), (7, (.d (.bool s8.1))), (8, (.d (.int .i64 s8.2.1))), (9, (.d (.int .i64 s8.2.2.1))), (82, (.d (.bool m87)))] : EL)) (decide (x104.fSeq < x103.fSeq))) ((fun m87 : Bool => ([(3006, some (.row 36 6 (s8.2.2.2.map e_api_Sample)))] : OL)) (decide (x104.fSeq < x103.fSeq))) hB (by rfl) (by rfl) (by rfl)))
          · rcases Bool.eq_false_or_eq_true (decide (s8.2.2.1 < (0 : Int))) with hg105 | hg105
            · replace h := ite_t hg105 h
              refine AWp.draws (by kernel_rfl) (OpJs.cons (OpJ.move (ltN hN rfl) (Opd.tmp 9 (.d (.int .i64 s8.2.2.1))))
                (OpJs.cons (OpJ.lss (ltN hN rfl) (Opd.tmp 54 (.d (.int .i64 s8.2.2.1))) (Opd.int .i64 (0)))
                (OpJs.cons (OpJ.val (v' := .d (.bool true)) (by rw [hg105]) (OpJ.move (ltN hN rfl) (Opd.tmp 55 (.d (.bool (decide (s8.2.2.1 < (0 : Int))))))))
                (OpJs.cons (OpJ.skipU (ltN hN rfl) (by rfl))
                (OpJs.cons (OpJ.skipU (ltN hN rfl) (by rfl))
                (OpJs.cons (OpJ.skipU (ltN hN rfl) (by rfl))
                (OpJs.cons (OpJ.skipV (ltN hN rfl) (by rfl))
                (OpJs.cons (OpJ.skipV (ltN hN rfl) (by rfl))
                (OpJs.cons (OpJ.skipV (ltN hN rfl) (by rfl))
                (OpJs.cons (OpJ.skipV (ltN hN rfl) (by rfl))
                (OpJs.cons (OpJ.skipV (ltN hN rfl) (by rfl))
                (OpJs.cons (OpJ.skipV (ltN hN rfl) (by rfl))
                (OpJs.cons (OpJ.skipV (ltN hN rfl) (by rfl))
                (OpJs.cons (OpJ.skipV (ltN hN rfl) (by rfl))
                (OpJs.cons (OpJ.skipV (ltN hN rfl) (by rfl))
                (OpJs.cons (OpJ.skipV (ltN hN rfl) (by rfl))
                (OpJs.cons (OpJ.skipV (ltN hN rfl) (by rfl))
                (OpJs.cons (OpJ.skipU (ltN hN rfl) (by rfl))
                (OpJs.cons (OpJ.pickT (ltN hN rfl) (Opd.tmp 56 (.d (.bool true))) (Opd.bool true))
                (OpJs.cons (OpJ.assign (ltN hN rfl) (Opd.tmp 72 (.d (.bool true))))
                (OpJs.nil))))))))))))))))))))) (by kernel_rfl) (by rfl) (by rfl) ?_
              exact hjj80 _ h _ _ (Mat.trans (Mat.pat [] [(0, (.d (.list 6 (a0.map e_api_Sample)))), (1, (.d (.list 6 (a1.map e_api_Sample)))), (6, (.sref 3006 6 0 s8.2.2.2.length)), (7, (.d (.bool s8.1))), (8, (.d (.int .i64 s8.2.1))), (9, (.d (.int .i64 s8.2.2.1))), (53, (.d (.bool true)))] [(3006, some (.row 36 6 (s8.2.2.2.map e_api_Sample)))] hB (by rfl) (by rfl) (by rfl)) (Mat.pat [] ((fun m79 : Bool => ([(0, (.d (.list 6 (a0.map e_api_Sample)))), (1, (.d (.list 6 (a1.map e_api_Sample)))), (6, (.sref 3006 6 0 s8.2.2.2.length)), (7, (.d (.bool s8.1))), (8, (.d (.int .i64 s8.2.1))), (9, (.d (.int .i64 s8.2.2.1))), (53, (.d (.bool m79)))] : EL)) true) ((fun m79 : Bool => ([(3006, some (.row 36 6 (s8.2.2.2.map e_api_Sample)))] : OL)) true) hB (by rfl) (by rfl) (by rfl)))
            · replace h := ite_f hg105 h
              rcases Bool.eq_false_or_eq_true (decide ((0 : Int) ≤ s8.2.1)) with hg106 | hg106
              · replace h := ite_t hg106 h
                obtain ⟨x107, hx107, h⟩ := bindS h
                obtain ⟨x108, hx108, h⟩ := bindS h
                refine AWp.draws (by kernel_rfl) (OpJs.cons (OpJ.move (ltN hN rfl) (Opd.tmp 9 (.d (.int .i64 s8.2.2.1))))
                  (OpJs.cons (OpJ.lss (ltN hN rfl) (Opd.tmp 54 (.d (.int .i64 s8.2.2.1))) (Opd.int .i64 (0)))
                  (OpJs.cons (OpJ.val (v' := .d (.bool false)) (by rw [hg105]) (OpJ.move (ltN hN rfl) (Opd.tmp 55 (.d (.bool (decide (s8.2.2.1 < (0 : Int))))))))
                  (OpJs.cons (OpJ.guarded (by rfl) (OpJ.move (ltN hN rfl) (Opd.tmp 8 (.d (.int .i64 s8.2.1)))))
                  (OpJs.cons (OpJ.guarded (by rfl) (OpJ.geq (ltN hN rfl) (Opd.tmp 57 (.d (.int .i64 s8.2.1))) (Opd.int .i64 (0))))
                  (OpJs.cons (OpJ.guarded (by rfl) (OpJ.val (v' := .d (.bool true)) (by rw [hg106]) (OpJ.move (ltN hN rfl) (Opd.tmp 58 (.d (.bool (decide ((0 : Int) ≤ s8.2.1))))))))
                  (OpJs.cons (OpJ.guarded (by rfl) (OpJ.move (ltN hN rfl) (Opd.tmp 0 (.d (.list 6 (a0.map e_api_Sample))))))
                  (OpJs.cons (OpJ.guarded (by rfl) (OpJ.move (ltN hN rfl) (Opd.tmp 8 (.d (.int .i64 s8.2.1)))))
                  (OpJs.cons (OpJ.guarded (by rfl) (OpJ.indexD (el := (e_api_Sample x107)) Try.underlying31 tyS36 (idx_some hx107).1 (get_map e_api_Sample (idx_some hx107).2) (ltN hN rfl) (Opd.tmp 60 (.d (.list 6 (a0.map e_api_Sample)))) (Opd.tmp 61 (.d (.int .i64 s8.2.1)))))
                  (OpJs.cons (OpJ.guarded (by rfl) (OpJ.fieldD Try.underlying36 (by rfl) (o := 1) (by rfl) tyS3 (by decide) (ds := [(.int .i64 x107.fTick), (.int .i64 x107.fSeq), (.int .i64 x107.fPool), (.int .i64 x107.fIn), (.int .i64 x107.fOut), (.int .i64 x107.fBytes)]) (e := (.int .i64 x107.fSeq)) (by rfl) (by rfl) (ltN hN rfl) (Opd.tmp 62 (.dptr (e_api_Sample x107)))))
                  (OpJs.cons (OpJ.guarded (by rfl) (OpJ.loadD tyS3 (by rfl) (by rfl) (ltN hN rfl) (Opd.tmp 63 (.dptr (.int .i64 x107.fSeq)))))
                  (OpJs.cons (OpJ.guarded (by rfl) (OpJ.move (ltN hN rfl) (Opd.tmp 1 (.d (.list 6 (a1.map e_api_Sample))))))
                  (OpJs.cons (OpJ.guarded (by rfl) (OpJ.move (ltN hN rfl) (Opd.tmp 9 (.d (.int .i64 s8.2.2.1)))))
                  (OpJs.cons (OpJ.guarded (by rfl) (OpJ.indexD (el := (e_api_Sample x108)) Try.underlying31 tyS36 (idx_some hx108).1 (get_map e_api_Sample (idx_some hx108).2) (ltN hN rfl) (Opd.tmp 65 (.d (.list 6 (a1.map e_api_Sample)))) (Opd.tmp 66 (.d (.int .i64 s8.2.2.1)))))
                  (OpJs.cons (OpJ.guarded (by rfl) (OpJ.fieldD Try.underlying36 (by rfl) (o := 1) (by rfl) tyS3 (by decide) (ds := [(.int .i64 x108.fTick), (.int .i64 x108.fSeq), (.int .i64 x108.fPool), (.int .i64 x108.fIn), (.int .i64 x108.fOut), (.int .i64 x108.fBytes)]) (e := (.int .i64 x108.fSeq)) (by rfl) (by rfl) (ltN hN rfl) (Opd.tmp 67 (.dptr (e_api_Sample x108)))))
                  (OpJs.cons (OpJ.guarded (by rfl) (OpJ.loadD tyS3 (by rfl) (by rfl) (ltN hN rfl) (Opd.tmp 68 (.dptr (.int .i64 x108.fSeq)))))
                  (OpJs.cons (OpJ.guarded (by rfl) (OpJ.gtr (ltN hN rfl) (Opd.tmp 64 (.d (.int .i64 x107.fSeq))) (Opd.tmp 69 (.d (.int .i64 x108.fSeq)))))
                  (OpJs.cons (OpJ.guarded (by rfl) (OpJ.pickT (ltN hN rfl) (Opd.tmp 59 (.d (.bool true))) (Opd.tmp 70 (.d (.bool (decide (x108.fSeq < x107.fSeq)))))))
                  (OpJs.cons (OpJ.pickF (ltN hN rfl) (Opd.tmp 56 (.d (.bool false))) (Opd.tmp 71 (.d (.bool (decide (x108.fSeq < x107.fSeq))))))
                  (OpJs.cons (OpJ.assign (ltN hN rfl) (Opd.tmp 72 (.d (.bool (decide (x108.fSeq < x107.fSeq))))))
                  (OpJs.nil))))))))))))))))))))) (by kernel_rfl) (by rfl) (by rfl) ?_
                exact hjj80 _ h _ _ (Mat.trans (Mat.pat [] [(0, (.d (.list 6 (a0.map e_api_Sample)))), (1, (.d (.list 6 (a1.map e_api_Sample)))), (6, (.sref 3006 6 0 s8.2.2.2.length)), (7, (.d (.bool s8.1))), (8, (.d (.int .i64 s8.2.1))), (9, (.d (.int .i64 s8.2.2.1))), (53, (.d (.bool (decide (x108.fSeq < x107.fSeq)))))] [(3006, some (.row 36 6 (s8.2.2.2.map e_api_Sample)))] hB (by rfl) (by rfl) (by rfl)) (Mat.pat [] ((fun m79 : Bool => ([(0, (.d (.list 6 (a0.map e_api_Sample)))), (1, (.d (.list 6 (a1.map e_api_Sample)))), (6, (.sref 3006 6 0 s8.2.2.2.length)), (7, (.d (.bool s8.1))), (8, (.d (.int .i64 s8.2.1))), (9, (.d (.int .i64 s8.2.2.1))), (53, (.d (.bool m79)))] : EL)) (decide (x108.fSeq < x107.fSeq))) ((fun m79 : Bool => ([(3006, some (.row 36 6 (s8.2.2.2.map e_api_Sample)))] : OL)) (decide (x108.fSeq < x107.fSeq))) hB (by rfl) (by rfl) (by rfl)))
              · replace h := ite_f hg106 h
                refine AWp.draws (by kernel_rfl) (OpJs.cons (OpJ.move (ltN hN rfl) (Opd.tmp 9 (.d (.int .i64 s8.2.2.1))))
                  (OpJs.cons (OpJ.lss (ltN hN rfl) (Opd.tmp 54 (.d (.int .i64 s8.2.2.1))) (Opd.int .i64 (0)))
                  (OpJs.cons (OpJ.val (v' := .d (.bool false)) (by rw [hg105]) (OpJ.move (ltN hN rfl) (Opd.tmp 55 (.d (.bool (decide (s8.2.2.1 < (0 : Int))))))))
                  (OpJs.cons (OpJ.guarded (by rfl) (OpJ.move (ltN hN rfl) (Opd.tmp 8 (.d (.int .i64 s8.2.1)))))
                  (OpJs.cons (OpJ.guarded (by rfl) (OpJ.geq (ltN hN rfl) (Opd.tmp 57 (.d (.int .i64 s8.2.1))) (Opd.int .i64 (0))))
                  (OpJs.cons (OpJ.guarded (by rfl) (OpJ.val (v' := .d (.bool false)) (by rw [hg106]) (OpJ.move (ltN hN rfl) (Opd.tmp 58 (.d (.bool (decide ((0 : Int) ≤ s8.2.1))))))))
                  (OpJs.cons (OpJ.skipU (ltN hN rfl) (by rfl))
                  (OpJs.cons (OpJ.skipU (ltN hN rfl) (by rfl))
                  (OpJs.cons (OpJ.skipU (ltN hN rfl) (by rfl))
                  (OpJs.cons (OpJ.skipU (ltN hN rfl) (by rfl))
                  (OpJs.cons (OpJ.skipU (ltN hN rfl) (by rfl))
                  (OpJs.cons (OpJ.skipU (ltN hN rfl) (by rfl))
                  (OpJs.cons (OpJ.skipU (ltN hN rfl) (by rfl))
                  (OpJs.cons (OpJ.skipU (ltN hN rfl) (by rfl))
                  (OpJs.cons (OpJ.skipU (ltN hN rfl) (by rfl))
                  (OpJs.cons (OpJ.skipU (ltN hN rfl) (by rfl))
                  (OpJs.cons (OpJ.skipU (ltN hN rfl) (by rfl))
                  (OpJs.cons (OpJ.guarded (by rfl) (OpJ.pickF (ltN hN rfl) (Opd.tmp 59 (.d (.bool false))) (Opd.bool false)))
                  (OpJs.cons (OpJ.pickF (ltN hN rfl) (Opd.tmp 56 (.d (.bool false))) (Opd.tmp 71 (.d (.bool false))))
                  (OpJs.cons (OpJ.assign (ltN hN rfl) (Opd.tmp 72 (.d (.bool false))))
                  (OpJs.nil))))))))))))))))))))) (by kernel_rfl) (by rfl) (by rfl) ?_
                exact hjj80 _ h _ _ (Mat.trans (Mat.pat [] [(0, (.d (.list 6 (a0.map e_api_Sample)))), (1, (.d (.list 6 (a1.map e_api_Sample)))), (6, (.sref 3006 6 0 s8.2.2.2.length)), (7, (.d (.bool s8.1))), (8, (.d (.int .i64 s8.2.1))), (9, (.d (.int .i64 s8.2.2.1))), (53, (.d (.bool false)))] [(3006, some (.row 36 6 (s8.2.2.2.map e_api_Sample)))] hB (by rfl) (by rfl) (by rfl)) (Mat.pat [] ((fun m79 : Bool => ([(0, (.d (.list 6 (a0.map e_api_Sample)))), (1, (.d (.list 6 (a1.map e_api_Sample)))), (6, (.sref 3006 6 0 s8.2.2.2.length)), (7, (.d (.bool s8.1))), (8, (.d (.int .i64 s8.2.1))), (9, (.d (.int .i64 s8.2.2.1))), (53, (.d (.bool m79)))] : EL)) false) ((fun m79 : Bool => ([(3006, some (.row 36 6 (s8.2.2.2.map e_api_Sample)))] : OL)) false) hB (by rfl) (by rfl) (by rfl)))
        · replace h := ite_f hg74 h
          refine AWp.exit ?_
          refine seqQ_e ?_
          obtain rfl := Option.some.inj h
          exact ⟨(fun hc => by cases hc), rfl, (Mat.pat [] ((fun p73 : Bool × (List api_Sample) => ([(6, (.sref 3006 6 0 p73.2.length)), (7, (.d (.bool p73.1)))] : EL)) (s8.1, s8.2.2.2)) ((fun p73 : Bool × (List api_Sample) => ([(3006, some (.row 36 6 (p73.2.map e_api_Sample)))] : OL)) (s8.1, s8.2.2.2)) hB (by rfl) (by rfl) (by rfl))⟩
      · obtain ⟨rfl, hmat⟩ := hR
        refine blkQ_hit ?_
        refine seqQ_n ?_
        refine AWp.ghost hmat ?_
        refine AWp.seq ?_
        obtain ⟨r111, hr111, h⟩ := bindS h
        obtain ⟨hc112, h⟩ := chk_some h
        have hc112_o := of_decide_eq_true hc112
        refine AWp.region (OpJs.cons (OpJ.move (ltN hN rfl) (Opd.tmp 6 (.sref 3006 6 0 p73.2.length)))
          (OpJs.cons (OpJ.callFn hB fnOk26 (slices_Reverse_ac p73.2 r111 hr111) [(0, 3006)] (by kernel_rfl) (ltN hN rfl) (by kernel_rfl) (OpdL.cons (Opd.tmp 107 (.sref 3006 6 0 p73.2.length)) OpdL.nil))
          (OpJs.nil))) (by rfl) (by rfl) ?_
        refine seqQ_n ?_
        refine AWp.ghost (Mat.pat [] [(6, (.sref 3006 6 0 p73.2.length)), (7, (.d (.bool p73.1)))] [(3006, some (.row 36 6 (r111.map e_api_Sample)))] hB (by rfl) (by rfl) (by rfl)) ?_
        refine AWp.seq ?_
        refine AWp.block ?_
        refine AWp.seq ?_
        refine AWp.region (OpJs.cons (OpJ.move (ltN hN rfl) (Opd.tmp 7 (.d (.bool p73.1))))
          (OpJs.cons (OpJ.assign (ltN hN rfl) (Opd.tmp 110 (.d (.bool p73.1))))
          (OpJs.nil))) (by rfl) (by rfl) ?_
        refine seqQ_n ?_
        refine AWp.ghost (Mat.pat [] [(6, (.sref 3006 6 0 p73.2.length)), (109, (.d (.bool p73.1)))] [(3006, some (.row 36 6 (r111.map e_api_Sample)))] hB (by rfl) (by rfl) (by rfl)) ?_
        refine AWp.cond (b := p73.1) (by rfl) (fun hg113 => ?_) (fun hg113 => ?_)
        · replace h := ite_t hg113 h
          refine AWp.seq ?_
          refine AWp.region (OpJs.cons (OpJ.assign (ltN hN rfl) Opd.nils)
            (OpJs.cons (OpJ.assign (ltN hN rfl) (Opd.int .i64 (8)))
            (OpJs.nil))) (by rfl) (by rfl) ?_
          refine seqQ_n ?_
          refine AWp.ghost (Mat.pat [] [(4, .nils), (5, (.d (.int .i64 (8 : Int))))] [] hB (by rfl) (by rfl) (by rfl)) ?_
          refine AWp.ret ?_
          refine blkQ_r ?_
          refine seqQ_r ?_
          obtain rfl := Option.some.inj h
          exact ⟨.inl rfl, _, _, (Mat.pat [] [(4, .nils), (5, (.d (.int .i64 (8 : Int))))] [] hB (by rfl) (by rfl) (by rfl)), [(.d (.list 6 (([] : List api_Sample).map e_api_Sample))), (.d (.int .i64 (8 : Int)))], (Res.tmpC (by rfl) (Co.nils 6) (Res.tmp (by rfl) (by rfl) Res.nil)), rfl, by rfl, by rfl, by rfl⟩
        · replace h := ite_f hg113 h
          refine AWp.seq ?_
          refine AWp.region (OpJs.cons (OpJ.move (ltN hN rfl) (Opd.tmp 6 (.sref 3006 6 0 p73.2.length)))
            (OpJs.cons (OpJ.lenS (obj := (.row 36 6 (r111.map e_api_Sample))) Try.underlying31 (ltN hN rfl) (Opd.tmp 112 (.sref 3006 6 0 p73.2.length)))
            (OpJs.cons (OpJ.gtr (ltN hN rfl) (Opd.tmp 113 (.d (.int .i64 (p73.2.length : Int)))) (Opd.int .i64 (1000)))
            (OpJs.cons (OpJ.assign (ltN hN rfl) (Opd.tmp 114 (.d (.bool (decide ((1000 : Int) < (p73.2.length : Int)))))))
            (OpJs.nil))))) (by rfl) (by rfl) ?_
          refine seqQ_n ?_
          refine AWp.ghost (Mat.pat [] [(6, (.sref 3006 6 0 p73.2.length)), (111, (.d (.bool (decide ((1000 : Int) < (p73.2.length : Int))))))] [(3006, some (.row 36 6 (r111.map e_api_Sample)))] hB (by rfl) (by rfl) (by rfl)) ?_
          refine AWp.cond (b := (decide ((1000 : Int) < (p73.2.length : Int)))) (by rfl) (fun hg114 => ?_) (fun hg114 => ?_)
          · replace h := ite_t hg114 h
            refine AWp.seq ?_
            refine AWp.region (OpJs.cons (OpJ.assign (ltN hN rfl) Opd.nils)
              (OpJs.cons (OpJ.assign (ltN hN rfl) (Opd.int .i64 (3)))
              (OpJs.nil))) (by rfl) (by rfl) ?_
            refine seqQ_n ?_
            refine AWp.ghost (Mat.pat [] [(4, .nils), (5, (.d (.int .i64 (3 : Int))))] [] hB (by rfl) (by rfl) (by rfl)) ?_
            refine AWp.ret ?_
            refine blkQ_r ?_
            refine seqQ_r ?_
            obtain rfl := Option.some.inj h
            exact ⟨.inl rfl, _, _, (Mat.pat [] [(4, .nils), (5, (.d (.int .i64 (3 : Int))))] [] hB (by rfl) (by rfl) (by rfl)), [(.d (.list 6 (([] : List api_Sample).map e_api_Sample))), (.d (.int .i64 (3 : Int)))], (Res.tmpC (by rfl) (Co.nils 6) (Res.tmp (by rfl) (by rfl) Res.nil)), rfl, by rfl, by rfl, by rfl⟩
          · replace h := ite_f hg114 h
            refine AWp.seq ?_
            refine AWp.ghost (Mat.freezeAll (n := 3006) (k := 6) (by rfl) (by rfl) (by first | (simp; done) | (simp; omega))) ?_
            obtain ⟨r115, hr115, h⟩ := bindS h
            refine AWp.region (OpJs.cons (OpJ.move (ltN hN rfl) (Opd.tmp 6 (.d (.list 6 (r111.map e_api_Sample)))))
              (OpJs.cons (OpJ.callFn hB fnOk16 (sample_Valid_ac r111 r115 hr115) [] (by kernel_rfl) (ltN hN rfl) (by kernel_rfl) (OpdL.cons (Opd.tmp 116 (.d (.list 6 (r111.map e_api_Sample)))) OpdL.nil))
              (OpJs.cons (OpJ.not (ltN hN rfl) (Opd.tmp 117 (.d (.bool r115))))
              (OpJs.cons (OpJ.assign (ltN hN rfl) (Opd.tmp 118 (.d (.bool (!r115)))))
              (OpJs.nil))))) (by rfl) (by rfl) ?_
            refine seqQ_n ?_
            refine AWp.ghost (Mat.pat [] [(6, (.d (.list 6 (r111.map e_api_Sample)))), (115, (.d (.bool (!r115))))] [] hB (by rfl) (by rfl) (by rfl)) ?_
            refine AWp.cond (b := (!r115)) (by rfl) (fun hg116 => ?_) (fun hg116 => ?_)
            · replace h := ite_t hg116 h
              refine AWp.seq ?_
              refine AWp.region (OpJs.cons (OpJ.assign (ltN hN rfl) Opd.nils)
                (OpJs.cons (OpJ.assign (ltN hN rfl) (Opd.int .i64 (35)))
                (OpJs.nil))) (by rfl) (by rfl) ?_
              refine seqQ_n ?_
              refine AWp.ghost (Mat.pat [] [(4, .nils), (5, (.d (.int .i64 (35 : Int))))] [] hB (by rfl) (by rfl) (by rfl)) ?_
              refine AWp.ret ?_
              refine blkQ_r ?_
              refine seqQ_r ?_
              obtain rfl := Option.some.inj h
              exact ⟨.inl rfl, _, _, (Mat.pat [] [(4, .nils), (5, (.d (.int .i64 (35 : Int))))] [] hB (by rfl) (by rfl) (by rfl)), [(.d (.list 6 (([] : List api_Sample).map e_api_Sample))), (.d (.int .i64 (35 : Int)))], (Res.tmpC (by rfl) (Co.nils 6) (Res.tmp (by rfl) (by rfl) Res.nil)), rfl, by rfl, by rfl, by rfl⟩
            · replace h := ite_f hg116 h
              refine AWp.skip ?_
              refine blkQ_n ?_
              refine seqQ_n ?_
              refine AWp.seq ?_
              refine AWp.region (OpJs.cons (OpJ.move (ltN hN rfl) (Opd.tmp 6 (.d (.list 6 (r111.map e_api_Sample)))))
                (OpJs.cons (OpJ.assign (ltN hN rfl) (Opd.tmp 119 (.d (.list 6 (r111.map e_api_Sample)))))
                (OpJs.cons (OpJ.assign (ltN hN rfl) (Opd.int .i64 (0)))
                (OpJs.nil)))) (by rfl) (by rfl) ?_
              refine seqQ_n ?_
              refine AWp.ghost (Mat.pat [] [(4, (.d (.list 6 (r111.map e_api_Sample)))), (5, (.d (.int .i64 (0 : Int))))] [] hB (by rfl) (by rfl) (by rfl)) ?_
              refine AWp.ret ?_
              obtain rfl := Option.some.inj h
              exact ⟨.inl rfl, _, _, (Mat.pat [] [(4, (.d (.list 6 (r111.map e_api_Sample)))), (5, (.d (.int .i64 (0 : Int))))] [] hB (by rfl) (by rfl) (by rfl)), [(.d (.list 6 (r111.map e_api_Sample))), (.d (.int .i64 (0 : Int)))], (Res.tmp (by rfl) (by rfl) (Res.tmp (by rfl) (by rfl) Res.nil)), rfl, by rfl, by rfl, by rfl⟩
  · obtain ⟨r117, hr117, h⟩ := bindS h
    rcases Bool.eq_false_or_eq_true (!r117) with hg118 | hg118
    · replace h := ite_t hg118 h
      refine AWp.region (OpJs.cons (OpJ.move (ltN hN rfl) (Opd.tmp 0 (.d (.list 6 (a0.map e_api_Sample)))))
        (OpJs.cons (OpJ.callFn hB fnOk16 (sample_Valid_ac a0 r117 hr117) [] (by kernel_rfl) (ltN hN rfl) (by kernel_rfl) (OpdL.cons (Opd.tmp 10 (.d (.list 6 (a0.map e_api_Sample)))) OpdL.nil))
        (OpJs.cons (OpJ.not (ltN hN rfl) (Opd.tmp 11 (.d (.bool r117))))
        (OpJs.cons (OpJ.val (v' := .d (.bool true)) (by rw [hg118]) (OpJ.move (ltN hN rfl) (Opd.tmp 12 (.d (.bool (!r117))))))
        (OpJs.cons (OpJ.skipU (ltN hN rfl) (by rfl))
        (OpJs.cons (OpJ.skipU (ltN hN rfl) (by rfl))
        (OpJs.cons (OpJ.skipU (ltN hN rfl) (by rfl))
        (OpJs.cons (OpJ.pickT (ltN hN rfl) (Opd.tmp 13 (.d (.bool true))) (Opd.bool true))
        (OpJs.nil))))))))) (by rfl) (by rfl) ?_
      exact hjj6 _ h _ _ (Mat.trans (Mat.pat [] [(0, (.d (.list 6 (a0.map e_api_Sample)))), (1, (.d (.list 6 (a1.map e_api_Sample)))), (17, (.d (.bool true)))] [] hB (by rfl) (by rfl) (by rfl)) (Mat.pat [] ((fun m5 : Bool => ([(0, (.d (.list 6 (a0.map e_api_Sample)))), (1, (.d (.list 6 (a1.map e_api_Sample)))), (17, (.d (.bool m5)))] : EL)) true) ((fun m5 : Bool => ([] : OL)) true) hB (by rfl) (by rfl) (by rfl)))
    · replace h := ite_f hg118 h
      obtain ⟨r119, hr119, h⟩ := bindS h
      refine AWp.region (OpJs.cons (OpJ.move (ltN hN rfl) (Opd.tmp 0 (.d (.list 6 (a0.map e_api_Sample)))))
        (OpJs.cons (OpJ.callFn hB fnOk16 (sample_Valid_ac a0 r117 hr117) [] (by kernel_rfl) (ltN hN rfl) (by kernel_rfl) (OpdL.cons (Opd.tmp 10 (.d (.list 6 (a0.map e_api_Sample)))) OpdL.nil))
        (OpJs.cons (OpJ.not (ltN hN rfl) (Opd.tmp 11 (.d (.bool r117))))
        (OpJs.cons (OpJ.val (v' := .d (.bool false)) (by rw [hg118]) (OpJ.move (ltN hN rfl) (Opd.tmp 12 (.d (.bool (!r117))))))
        (OpJs.cons (OpJ.guarded (by rfl) (OpJ.move (ltN hN rfl) (Opd.tmp 1 (.d (.list 6 (a1.map e_api_Sample))))))
        (OpJs.cons (OpJ.guarded (by rfl) (OpJ.callFn hB fnOk16 (sample_Valid_ac a1 r119 hr119) [] (by kernel_rfl) (ltN hN rfl) (by kernel_rfl) (OpdL.cons (Opd.tmp 14 (.d (.list 6 (a1.map e_api_Sample)))) OpdL.nil)))
        (OpJs.cons (OpJ.guarded (by rfl) (OpJ.not (ltN hN rfl) (Opd.tmp 15 (.d (.bool r119)))))
        (OpJs.cons (OpJ.pickF (ltN hN rfl) (Opd.tmp 13 (.d (.bool false))) (Opd.tmp 16 (.d (.bool (!r119)))))
        (OpJs.nil))))))))) (by rfl) (by rfl) ?_
      exact hjj6 _ h _ _ (Mat.trans (Mat.pat [] [(0, (.d (.list 6 (a0.map e_api_Sample)))), (1, (.d (.list 6 (a1.map e_api_Sample)))), (17, (.d (.bool (!r119))))] [] hB (by rfl) (by rfl) (by rfl)) (Mat.pat [] ((fun m5 : Bool => ([(0, (.d (.list 6 (a0.map e_api_Sample)))), (1, (.d (.list 6 (a1.map e_api_Sample)))), (17, (.d (.bool m5)))] : EL)) (!r119)) ((fun m5 : Bool => ([] : OL)) (!r119)) hB (by rfl) (by rfl) (by rfl)))

noncomputable def exchangepointref37_Same_L0 (a0 : (List api_Sample)) (a1 : (List api_Sample)) (s2 : Int) : Option (((Unit) ⊕ (Unit)) ⊕ (Int)) :=
  (if (decide (s2 < (a0.length : Int))) = true then
  (idx a0 s2).bind fun x14 =>
  (idx a1 s2).bind fun x15 =>
  (if (!((x14.fTick == x15.fTick) && ((x14.fSeq == x15.fSeq) && ((x14.fPool == x15.fPool) && ((x14.fIn == x15.fIn) && ((x14.fOut == x15.fOut) && ((x14.fBytes == x15.fBytes) && true))))))) = true then
  some (.inl (.inl ()))
  else
  some (.inr (w64 (s2 + (1 : Int)))))
  else
  some (.inl (.inr ())))
noncomputable def exchangepointref37_Same (a0 : (List api_Sample)) (a1 : (List api_Sample)) : Option (Bool) :=
  (if ((a0.length : Int) != (a1.length : Int)) = true then
  some false
  else
  (loop (exchangepointref37_Same_L0 a0 a1) (0 : Int)).bind fun x17 => match x17 with
  | (.inl _) =>
    some false
  | (.inr _) =>
    some true)
set_option maxHeartbeats 4000000 in
set_option maxRecDepth 100000 in
theorem exchangepointref37_Same_ac (a0 : (List api_Sample)) (a1 : (List api_Sample)) (r : Bool) (h : exchangepointref37_Same a0 a1 = some r) : AC Try.prog 15 [(.d (.list 6 (a0.map e_api_Sample))), (.d (.list 6 (a1.map e_api_Sample)))] [] (.d (.bool r)) [] := by
  refine AC.of_code2 Try.func15 rfl rfl (Nat.le_of_ble_eq_true (by rfl)) fun B hB hN => ?_
  delta exchangepointref37_Same at h
  refine AWp.seq ?_
  refine AWp.region (OpJs.cons (OpJ.assign (ltN hN rfl) (Opd.bool false))
  (OpJs.nil)) (by rfl) (by rfl) ?_
  refine seqQ_n ?_
  refine AWp.ghost (Mat.pat [] [(0, (.d (.list 6 (a0.map e_api_Sample)))), (1, (.d (.list 6 (a1.map e_api_Sample))))] [] hB (by rfl) (by rfl) (by rfl)) ?_
  refine AWp.seq ?_
  refine AWp.seq ?_
  refine AWp.region (OpJs.cons (OpJ.move (ltN hN rfl) (Opd.tmp 0 (.d (.list 6 (a0.map e_api_Sample)))))
  (OpJs.cons (OpJ.val (v' := (.d (.int .i64 (a0.length : Int)))) (by simp) (OpJ.lenD Try.underlying31 (ltN hN rfl) (Opd.tmp 6 (.d (.list 6 (a0.map e_api_Sample))))))
  (OpJs.cons (OpJ.move (ltN hN rfl) (Opd.tmp 1 (.d (.list 6 (a1.map e_api_Sample)))))
  (OpJs.cons (OpJ.val (v' := (.d (.int .i64 (a1.length : Int)))) (by simp) (OpJ.lenD Try.underlying31 (ltN hN rfl) (Opd.tmp 8 (.d (.list 6 (a1.map e_api_Sample))))))
  (OpJs.cons (OpJ.neqI (ltN hN rfl) (Opd.tmp 7 (.d (.int .i64 (a0.length : Int)))) (Opd.tmp 9 (.d (.int .i64 (a1.length : Int)))))
  (OpJs.nil)))))) (by rfl) (by rfl) ?_
  refine seqQ_n ?_
  refine AWp.ghost (Mat.pat [] [(0, (.d (.list 6 (a0.map e_api_Sample)))), (1, (.d (.list 6 (a1.map e_api_Sample)))), (10, (.d (.bool ((a0.length : Int) != (a1.length : Int)))))] [] hB (by rfl) (by rfl) (by rfl)) ?_
  refine AWp.cond (b := ((a0.length : Int) != (a1.length : Int))) (by rfl) (fun hg1 => ?_) (fun hg1 => ?_)
  · replace h := ite_t hg1 h
    refine AWp.seq ?_
    refine AWp.region (OpJs.cons (OpJ.assign (ltN hN rfl) (Opd.bool false))
      (OpJs.nil)) (by rfl) (by rfl) ?_
    refine seqQ_n ?_
    refine AWp.ghost (Mat.pat [] [(4, (.d (.bool false)))] [] hB (by rfl) (by rfl) (by rfl)) ?_
    refine AWp.ret ?_
    refine seqQ_r ?_
    obtain rfl := Option.some.inj h
    exact ⟨.inl rfl, _, _, (Mat.pat [] [(4, (.d (.bool false)))] [] hB (by rfl) (by rfl) (by rfl)), [(.d (.bool false))], (Res.tmp (by rfl) (by rfl) Res.nil), rfl, by rfl, by rfl, by rfl⟩
  · replace h := ite_f hg1 h
    refine AWp.skip ?_
    refine seqQ_n ?_
    refine AWp.seq ?_
    refine AWp.seq ?_
    refine AWp.region (OpJs.cons (OpJ.move (ltN hN rfl) (Opd.tmp 0 (.d (.list 6 (a0.map e_api_Sample)))))
      (OpJs.cons (OpJ.val (v' := (.d (.int .i64 (a0.length : Int)))) (by simp) (OpJ.lenD Try.underlying31 (ltN hN rfl) (Opd.tmp 11 (.d (.list 6 (a0.map e_api_Sample))))))
      (OpJs.cons (OpJ.move (ltN hN rfl) (Opd.int .i64 (0)))
      (OpJs.nil)))) (by rfl) (by rfl) ?_
    refine seqQ_n ?_
    refine AWp.ghost (Mat.pat [] [(0, (.d (.list 6 (a0.map e_api_Sample)))), (1, (.d (.list 6 (a1.map e_api_Sample)))), (12, (.d (.int .i64 (a0.length : Int)))), (13, (.d (.int .i64 (0 : Int))))] [] hB (by rfl) (by rfl) (by rfl)) ?_
    refine AWp.block ?_
    obtain ⟨x17, hx18, h⟩ := bindS h
    refine AWp.ghost (Mat.pat [] ((fun s2 : Int => ([(0, (.d (.list 6 (a0.map e_api_Sample)))), (1, (.d (.list 6 (a1.map e_api_Sample)))), (12, (.d (.int .i64 (a0.length : Int)))), (13, (.d (.int .i64 s2)))] : EL)) (0 : Int)) ((fun s2 : Int => ([] : OL)) (0 : Int)) hB (by rfl) (by rfl) (by rfl)) ?_
    refine AWp.loopS (exchangepointref37_Same_L0 a0 a1) (fun s2 : Int => ([(0, (.d (.list 6 (a0.map e_api_Sample)))), (1, (.d (.list 6 (a1.map e_api_Sample)))), (12, (.d (.int .i64 (a0.length : Int)))), (13, (.d (.int .i64 s2)))] : EL)) (fun s2 : Int => ([] : OL)) (fun (x : (Unit) ⊕ (Unit)) e E' O' => match x with | (.inl _p) => e = .ret ∧ Mat B E' O' ([(4, (.d (.bool false)))] : EL) ([] : OL) | (.inr _p) => e = .exit 0 ∧ Mat B E' O' ([] : EL) ([] : OL)) hx18 (fun s2 y h => ?_) (fun e E' O' hR => ?_)
    · unfold exchangepointref37_Same_L0 at h
      show AWp _ _ _ _ ([(0, (.d (.list 6 (a0.map e_api_Sample)))), (1, (.d (.list 6 (a1.map e_api_Sample)))), (12, (.d (.int .i64 (a0.length : Int)))), (13, (.d (.int .i64 s2)))] : EL) ([] : OL)
      refine AWp.seq ?_
      refine AWp.region (OpJs.cons (OpJ.lss (ltN hN rfl) (Opd.tmp 13 (.d (.int .i64 s2))) (Opd.tmp 12 (.d (.int .i64 (a0.length : Int)))))
        (OpJs.nil)) (by rfl) (by rfl) ?_
      refine seqQ_n ?_
      refine AWp.ghost (Mat.pat [] [(0, (.d (.list 6 (a0.map e_api_Sample)))), (1, (.d (.list 6 (a1.map e_api_Sample)))), (12, (.d (.int .i64 (a0.length : Int)))), (13, (.d (.int .i64 s2))), (14, (.d (.bool (decide (s2 < (a0.length : Int))))))] [] hB (by rfl) (by rfl) (by rfl)) ?_
      refine AWp.seq ?_
      refine AWp.cond (b := (decide (s2 < (a0.length : Int)))) (by rfl) (fun hg13 => ?_) (fun hg13 => ?_)
      · replace h := ite_t hg13 h
        refine AWp.skip ?_
        refine seqQ_n ?_
        refine AWp.seq ?_
        refine AWp.block ?_
        refine AWp.seq ?_
        refine AWp.region (OpJs.cons (OpJ.move (ltN hN rfl) (Opd.tmp 13 (.d (.int .i64 s2))))
          (OpJs.cons (OpJ.assign (ltN hN rfl) (Opd.tmp 15 (.d (.int .i64 s2))))
          (OpJs.nil))) (by rfl) (by rfl) ?_
        refine seqQ_n ?_
        refine AWp.ghost (Mat.pat [] [(0, (.d (.list 6 (a0.map e_api_Sample)))), (1, (.d (.list 6 (a1.map e_api_Sample)))), (5, (.d (.int .i64 s2))), (12, (.d (.int .i64 (a0.length : Int)))), (13, (.d (.int .i64 s2)))] [] hB (by rfl) (by rfl) (by rfl)) ?_
        refine AWp.seq ?_
        obtain ⟨x14, hx14, h⟩ := bindS h
        obtain ⟨x15, hx15, h⟩ := bindS h
        refine AWp.draws (by kernel_rfl) (OpJs.cons (OpJ.move (ltN hN rfl) (Opd.tmp 0 (.d (.list 6 (a0.map e_api_Sample)))))
          (OpJs.cons (OpJ.move (ltN hN rfl) (Opd.tmp 5 (.d (.int .i64 s2))))
          (OpJs.cons (OpJ.indexD (el := (e_api_Sample x14)) Try.underlying31 tyS36 (idx_some hx14).1 (get_map e_api_Sample (idx_some hx14).2) (ltN hN rfl) (Opd.tmp 16 (.d (.list 6 (a0.map e_api_Sample)))) (Opd.tmp 17 (.d (.int .i64 s2))))
          (OpJs.cons (OpJ.loadD tyS36 (by rfl) (by rfl) (ltN hN rfl) (Opd.tmp 18 (.dptr (e_api_Sample x14))))
          (OpJs.cons (OpJ.move (ltN hN rfl) (Opd.tmp 1 (.d (.list 6 (a1.map e_api_Sample)))))
          (OpJs.cons (OpJ.move (ltN hN rfl) (Opd.tmp 5 (.d (.int .i64 s2))))
          (OpJs.cons (OpJ.indexD (el := (e_api_Sample x15)) Try.underlying31 tyS36 (idx_some hx15).1 (get_map e_api_Sample (idx_some hx15).2) (ltN hN rfl) (Opd.tmp 20 (.d (.list 6 (a1.map e_api_Sample)))) (Opd.tmp 21 (.d (.int .i64 s2))))
          (OpJs.cons (OpJ.loadD tyS36 (by rfl) (by rfl) (ltN hN rfl) (Opd.tmp 22 (.dptr (e_api_Sample x15))))
          (OpJs.cons (OpJ.neqD (h := 2) (FitE.st Try.underlying36 rfl held36 (FitF.cons (x := (.int .i64 x14.fTick)) (y := (.int .i64 x15.fTick)) (by decide) rfl tyS3 ⟨rfl, rfl⟩ ⟨rfl, rfl⟩ (FitE.int (h := 0) x14.fTick x15.fTick Try.underlying3) (FitF.cons (x := (.int .i64 x14.fSeq)) (y := (.int .i64 x15.fSeq)) (by decide) rfl tyS3 ⟨rfl, rfl⟩ ⟨rfl, rfl⟩ (FitE.int (h := 0) x14.fSeq x15.fSeq Try.underlying3) (FitF.cons (x := (.int .i64 x14.fPool)) (y := (.int .i64 x15.fPool)) (by decide) rfl tyS3 ⟨rfl, rfl⟩ ⟨rfl, rfl⟩ (FitE.int (h := 0) x14.fPool x15.fPool Try.underlying3) (FitF.cons (x := (.int .i64 x14.fIn)) (y := (.int .i64 x15.fIn)) (by decide) rfl tyS3 ⟨rfl, rfl⟩ ⟨rfl, rfl⟩ (FitE.int (h := 0) x14.fIn x15.fIn Try.underlying3) (FitF.cons (x := (.int .i64 x14.fOut)) (y := (.int .i64 x15.fOut)) (by decide) rfl tyS3 ⟨rfl, rfl⟩ ⟨rfl, rfl⟩ (FitE.int (h := 0) x14.fOut x15.fOut Try.underlying3) (FitF.cons (x := (.int .i64 x14.fBytes)) (y := (.int .i64 x15.fBytes)) (by decide) rfl tyS3 ⟨rfl, rfl⟩ ⟨rfl, rfl⟩ (FitE.int (h := 0) x14.fBytes x15.fBytes Try.underlying3) FitF.nil))))))) eqg36 ⟨rfl, rfl⟩ (by rfl) (ltN hN rfl) (Opd.tmp 19 (.d (e_api_Sample x14))) (Opd.tmp 23 (.d (e_api_Sample x15))))
          (OpJs.nil)))))))))) (by kernel_rfl) (by rfl) (by rfl) ?_
        refine seqQ_n ?_
        refine AWp.ghost (Mat.pat [] [(0, (.d (.list 6 (a0.map e_api_Sample)))), (1, (.d (.list 6 (a1.map e_api_Sample)))), (12, (.d (.int .i64 (a0.length : Int)))), (13, (.d (.int .i64 s2))), (24, (.d (.bool (!((x14.fTick == x15.fTick) && ((x14.fSeq == x15.fSeq) && ((x14.fPool == x15.fPool) && ((x14.fIn == x15.fIn) && ((x14.fOut == x15.fOut) && ((x14.fBytes == x15.fBytes) && true))))))))))] [] hB (by rfl) (by rfl) (by rfl)) ?_
        refine AWp.cond (b := (!((x14.fTick == x15.fTick) && ((x14.fSeq == x15.fSeq) && ((x14.fPool == x15.fPool) && ((x14.fIn == x15.fIn) && ((x14.fOut == x15.fOut) && ((x14.fBytes == x15.fBytes) && true)))))))) (by rfl) (fun hg16 => ?_) (fun hg16 => ?_)
        · replace h := ite_t hg16 h
          refine AWp.seq ?_
          refine AWp.region (OpJs.cons (OpJ.assign (ltN hN rfl) (Opd.bool false))
            (OpJs.nil)) (by rfl) (by rfl) ?_
          refine seqQ_n ?_
          refine AWp.ghost (Mat.pat [] [(4, (.d (.bool false)))] [] hB (by rfl) (by rfl) (by rfl)) ?_
          refine AWp.ret ?_
          refine blkQ_r ?_
          refine seqQ_r ?_
          obtain rfl := Option.some.inj h
          exact ⟨(fun hc => by cases hc), rfl, (Mat.pat [] ((fun _ : Unit => ([(4, (.d (.bool false)))] : EL)) ()) ((fun _ : Unit => ([] : OL)) ()) hB (by rfl) (by rfl) (by rfl))⟩
        · replace h := ite_f hg16 h
          refine AWp.skip ?_
          refine blkQ_n ?_
          refine seqQ_n ?_
          refine AWp.region (OpJs.cons (OpJ.add (ltN hN rfl) (Opd.tmp 13 (.d (.int .i64 s2))) (Opd.int .i64 (1)))
            (OpJs.cons (OpJ.move (ltN hN rfl) (Opd.tmp 25 (.d (.int .i64 (w64 (s2 + (1 : Int)))))))
            (OpJs.nil))) (by rfl) (by rfl) ?_
          obtain rfl := Option.some.inj h
          exact ⟨rfl, (Mat.trans (Mat.pat [] [(0, (.d (.list 6 (a0.map e_api_Sample)))), (1, (.d (.list 6 (a1.map e_api_Sample)))), (12, (.d (.int .i64 (a0.length : Int)))), (13, (.d (.int .i64 (w64 (s2 + (1 : Int))))))] [] hB (by rfl) (by rfl) (by rfl)) (Mat.pat [] ((fun s2 : Int => ([(0, (.d (.list 6 (a0.map e_api_Sample)))), (1, (.d (.list 6 (a1.map e_api_Sample)))), (12, (.d (.int .i64 (a0.length : Int)))), (13, (.d (.int .i64 s2)))] : EL)) (w64 (s2 + (1 : Int)))) ((fun s2 : Int => ([] : OL)) (w64 (s2 + (1 : Int)))) hB (by rfl) (by rfl) (by rfl)))⟩
      · replace h := ite_f hg13 h
        refine AWp.exit ?_
        refine seqQ_e ?_
        obtain rfl := Option.some.inj h
        exact ⟨(fun hc => by cases hc), rfl, (Mat.pat [] ((fun _ : Unit => ([] : EL)) ()) ((fun _ : Unit => ([] : OL)) ()) hB (by rfl) (by rfl) (by rfl))⟩
    · rcases x17 with _ | _
      · obtain ⟨rfl, hmat⟩ := hR
        refine blkQ_r ?_
        refine seqQ_r ?_
        obtain rfl := Option.some.inj h
        exact ⟨.inl rfl, _, _, (Mat.trans hmat (Mat.pat [] [(4, (.d (.bool false)))] [] hB (by rfl) (by rfl) (by rfl))), [(.d (.bool false))], (Res.tmp (by rfl) (by rfl) Res.nil), rfl, by rfl, by rfl, by rfl⟩
      · obtain ⟨rfl, hmat⟩ := hR
        refine blkQ_hit ?_
        refine seqQ_n ?_
        refine AWp.ghost hmat ?_
        refine AWp.seq ?_
        refine AWp.region (OpJs.cons (OpJ.assign (ltN hN rfl) (Opd.bool true))
          (OpJs.nil)) (by rfl) (by rfl) ?_
        refine seqQ_n ?_
        refine AWp.ghost (Mat.pat [] [(4, (.d (.bool true)))] [] hB (by rfl) (by rfl) (by rfl)) ?_
        refine AWp.ret ?_
        obtain rfl := Option.some.inj h
        exact ⟨.inl rfl, _, _, (Mat.pat [] [(4, (.d (.bool true)))] [] hB (by rfl) (by rfl) (by rfl)), [(.d (.bool true))], (Res.tmp (by rfl) (by rfl) Res.nil), rfl, by rfl, by rfl, by rfl⟩

noncomputable def exchangepointlaw37_SampleMerges_L0 (a1 : Int) (r2 : (List api_Sample) × exchangepointmill_Deck) (s3 : Int × (List api_Sample) × (List api_Sample)) : Option ((((List api_Sample) × (List api_Sample))) ⊕ (Int × (List api_Sample) × (List api_Sample))) :=
  (if (decide (s3.1 < (r2.1.length : Int))) = true then
  (idx r2.1 s3.1).bind fun x26 =>
  jn (fun m30 : (List api_Sample) × (List api_Sample) =>
  some (.inr ((w64 (s3.1 + (1 : Int))), m30.1, m30.2))) (fun j31 =>
  (if ((bitI .and .i64 (shrI .i64 a1 (IntKind.u64.wrap (Int.tmod s3.1 (60 : Int)))) (1 : Int)) == (1 : Int)) = true then
  chk (decide ((s3.2.2 ++ ([x26] : List api_Sample)).length ≤ LIM)) <|
  j31 (s3.2.1, (s3.2.2 ++ ([x26] : List api_Sample)))
  else
  chk (decide ((s3.2.1 ++ ([x26] : List api_Sample)).length ≤ LIM)) <|
  j31 ((s3.2.1 ++ ([x26] : List api_Sample)), s3.2.2)))
  else
  some (.inl (s3.2.1, s3.2.2)))
noncomputable def exchangepointlaw37_SampleMerges (a0 : (List Int)) (a1 : Int) : Option (Bool) :=
  (exchangepointmill_New a0).bind fun r1 =>
  (exchangepointmill_Deck_Samples r1).bind fun r2 =>
  (loop (exchangepointlaw37_SampleMerges_L0 a1 r2) ((0 : Int), ([] : List api_Sample), ([] : List api_Sample))).bind fun p24 =>
  (sample_Merge p24.2 p24.1).bind fun r37 =>
  (sample_Merge p24.1 p24.2).bind fun r38 =>
  (sample_Merge r2.1 r2.1).bind fun r39 =>
  (sample_Merge r2.1 p24.2).bind fun r40 =>
  jn (fun m51 : Bool =>
  some m51) (fun j52 =>
  (if ((((r37.2 == (0 : Int)) && (r38.2 == (0 : Int))) && (r39.2 == (0 : Int))) && (r40.2 == (0 : Int))) = true then
  (exchangepointref37_Same r37.1 r2.1).bind fun r54 =>
  (if r54 = true then
  (exchangepointref37_Same r38.1 r2.1).bind fun r56 =>
  (if r56 = true then
  (exchangepointref37_Same r39.1 r2.1).bind fun r58 =>
  (if r58 = true then
  (exchangepointref37_Same r40.1 r2.1).bind fun r60 =>
  (if r60 = true then
  (exchangepointlaw37_awake).bind fun r62 =>
  j52 r62
  else
  j52 false)
  else
  j52 false)
  else
  j52 false)
  else
  j52 false)
  else
  j52 false))
set_option maxHeartbeats 4000000 in
set_option maxRecDepth 100000 in
theorem exchangepointlaw37_SampleMerges_ac (a0 : (List Int)) (a1 : Int) (r : Bool) (h : exchangepointlaw37_SampleMerges a0 a1 = some r) : AC Try.prog 5 [(.d (.list 1 (a0.map (eI .i64)))), (.d (.int .i64 a1))] [] (.d (.bool r)) [] := by
  refine AC.of_code2 Try.func5 rfl rfl (Nat.le_of_ble_eq_true (by rfl)) fun B hB hN => ?_
  delta exchangepointlaw37_SampleMerges at h
  refine AWp.seq ?_
  refine AWp.region (OpJs.cons (OpJ.assign (ltN hN rfl) (Opd.bool false))
  (OpJs.nil)) (by rfl) (by rfl) ?_
  refine seqQ_n ?_
  refine AWp.ghost (Mat.pat [] [(0, (.d (.list 1 (a0.map (eI .i64))))), (1, (.d (.int .i64 a1)))] [] hB (by rfl) (by rfl) (by rfl)) ?_
  refine AWp.seq ?_
  obtain ⟨r1, hr1, h⟩ := bindS h
  obtain ⟨r2, hr2, h⟩ := bindS h
  refine AWp.region (OpJs.cons (OpJ.move (ltN hN rfl) (Opd.tmp 0 (.d (.list 1 (a0.map (eI .i64))))))
  (OpJs.cons (OpJ.callFn hB fnOk12 (exchangepointmill_New_ac a0 r1 hr1) [(1005, 100190)] (by kernel_rfl) (ltN hN rfl) (by kernel_rfl) (OpdL.cons (Opd.tmp 18 (.d (.list 1 (a0.map (eI .i64))))) OpdL.nil))
  (OpJs.cons (OpJ.callFn hB fnOk13 (exchangepointmill_Deck_Samples_ac r1 r2 hr2) [(0, 100190)] (by kernel_rfl) (ltN hN rfl) (by kernel_rfl) (OpdL.cons (Opd.tmp 19 (.ptr 100190 0 [])) OpdL.nil))
  (OpJs.cons (OpJ.assign (ltN hN rfl) (Opd.tmp 20 (.d (.list 6 (r2.1.map e_api_Sample)))))
  (OpJs.nil))))) (by rfl) (by rfl) ?_
  refine seqQ_n ?_
  refine AWp.ghost (Mat.pat [] [(1, (.d (.int .i64 a1))), (5, (.d (.list 6 (r2.1.map e_api_Sample))))] [] hB (by rfl) (by rfl) (by rfl)) ?_
  refine AWp.seq ?_
  refine AWp.region (OpJs.cons (OpJ.assign (ltN hN rfl) Opd.nils)
  (OpJs.cons (OpJ.assign (ltN hN rfl) Opd.nils)
  (OpJs.nil))) (by rfl) (by rfl) ?_
  refine seqQ_n ?_
  refine AWp.ghost (Mat.pat [] [(1, (.d (.int .i64 a1))), (5, (.d (.list 6 (r2.1.map e_api_Sample)))), (6, .nils), (7, .nils)] [] hB (by rfl) (by rfl) (by rfl)) ?_
  refine AWp.seq ?_
  refine AWp.seq ?_
  refine AWp.region (OpJs.cons (OpJ.move (ltN hN rfl) (Opd.tmp 5 (.d (.list 6 (r2.1.map e_api_Sample)))))
  (OpJs.cons (OpJ.val (v' := (.d (.int .i64 (r2.1.length : Int)))) (by simp) (OpJ.lenD Try.underlying31 (ltN hN rfl) (Opd.tmp 21 (.d (.list 6 (r2.1.map e_api_Sample))))))
  (OpJs.cons (OpJ.move (ltN hN rfl) (Opd.int .i64 (0)))
  (OpJs.nil)))) (by rfl) (by rfl) ?_
  refine seqQ_n ?_
  refine AWp.ghost (Mat.pat [] [(1, (.d (.int .i64 a1))), (5, (.d (.list 6 (r2.1.map e_api_Sample)))), (6, .nils), (7, .nils), (21, (.d (.list 6 (r2.1.map e_api_Sample)))), (22, (.d (.int .i64 (r2.1.length : Int)))), (23, (.d (.int .i64 (0 : Int))))] [] hB (by rfl) (by rfl) (by rfl)) ?_
  refine AWp.block ?_
  obtain ⟨p24, hx36, h⟩ := bindS h
  refine AWp.ghost (Mat.trans (Mat.begin (n := 3006) (e := 36) (sz := 6) (k := 6) hB (by decide) (by rfl) (by decide) (by rfl)) (Mat.trans (Mat.begin (n := 3007) (e := 36) (sz := 6) (k := 7) hB (by decide) (by rfl) (by decide) (by rfl)) (Mat.pat [] ((fun s3 : Int × (List api_Sample) × (List api_Sample) => ([(1, (.d (.int .i64 a1))), (5, (.d (.list 6 (r2.1.map e_api_Sample)))), (6, (.sref 3006 6 0 s3.2.2.length)), (7, (.sref 3007 6 0 s3.2.1.length)), (21, (.d (.list 6 (r2.1.map e_api_Sample)))), (22, (.d (.int .i64 (r2.1.length : Int)))), (23, (.d (.int .i64 s3.1)))] : EL)) ((0 : Int), ([] : List api_Sample), ([] : List api_Sample))) ((fun s3 : Int × (List api_Sample) × (List api_Sample) => ([(3006, some (.row 36 6 (s3.2.2.map e_api_Sample))), (3007, some (.row 36 6 (s3.2.1.map e_api_Sample)))] : OL)) ((0 : Int), ([] : List api_Sample), ([] : List api_Sample))) hB (by rfl) (by rfl) (by rfl)))) ?_
  refine AWp.loopS (exchangepointlaw37_SampleMerges_L0 a1 r2) (fun s3 : Int × (List api_Sample) × (List api_Sample) => ([(1, (.d (.int .i64 a1))), (5, (.d (.list 6 (r2.1.map e_api_Sample)))), (6, (.sref 3006 6 0 s3.2.2.length)), (7, (.sref 3007 6 0 s3.2.1.length)), (21, (.d (.list 6 (r2.1.map e_api_Sample)))), (22, (.d (.int .i64 (r2.1.length : Int)))), (23, (.d (.int .i64 s3.1)))] : EL)) (fun s3 : Int × (List api_Sample) × (List api_Sample) => ([(3006, some (.row 36 6 (s3.2.2.map e_api_Sample))), (3007, some (.row 36 6 (s3.2.1.map e_api_Sample)))] : OL)) (fun (p24 : ((List api_Sample) × (List api_Sample))) e E' O' => e = .exit 0 ∧ Mat B E' O' ([(5, (.d (.list 6 (r2.1.map e_api_Sample)))), (6, (.sref 3006 6 0 p24.2.length)), (7, (.sref 3007 6 0 p24.1.length))] : EL) ([(3006, some (.row 36 6 (p24.2.map e_api_Sample))), (3007, some (.row 36 6 (p24.1.map e_api_Sample)))] : OL)) hx36 (fun s3 y h => ?_) (fun e E' O' hR => ?_)
  · unfold exchangepointlaw37_SampleMerges_L0 at h
    show AWp _ _ _ _ ([(1, (.d (.int .i64 a1))), (5, (.d (.list 6 (r2.1.map e_api_Sample)))), (6, (.sref 3006 6 0 s3.2.2.length)), (7, (.sref 3007 6 0 s3.2.1.length)), (21, (.d (.list 6 (r2.1.map e_api_Sample)))), (22, (.d (.int .i64 (r2.1.length : Int)))), (23, (.d (.int .i64 s3.1)))] : EL) ([(3006, some (.row 36 6 (s3.2.2.map e_api_Sample))), (3007, some (.row 36 6 (s3.2.1.map e_api_Sample)))] : OL)
    refine AWp.seq ?_
    refine AWp.region (OpJs.cons (OpJ.lss (ltN hN rfl) (Opd.tmp 23 (.d (.int .i64 s3.1))) (Opd.tmp 22 (.d (.int .i64 (r2.1.length : Int)))))
      (OpJs.nil)) (by rfl) (by rfl) ?_
    refine seqQ_n ?_
    refine AWp.ghost (Mat.pat [] [(1, (.d (.int .i64 a1))), (5, (.d (.list 6 (r2.1.map e_api_Sample)))), (6, (.sref 3006 6 0 s3.2.2.length)), (7, (.sref 3007 6 0 s3.2.1.length)), (21, (.d (.list 6 (r2.1.map e_api_Sample)))), (22, (.d (.int .i64 (r2.1.length : Int)))), (23, (.d (.int .i64 s3.1))), (24, (.d (.bool (decide (s3.1 < (r2.1.length : Int))))))] [(3006, some (.row 36 6 (s3.2.2.map e_api_Sample))), (3007, some (.row 36 6 (s3.2.1.map e_api_Sample)))] hB (by rfl) (by rfl) (by rfl)) ?_
    refine AWp.seq ?_
    refine AWp.cond (b := (decide (s3.1 < (r2.1.length : Int)))) (by rfl) (fun hg25 => ?_) (fun hg25 => ?_)
    · replace h := ite_t hg25 h
      refine AWp.skip ?_
      refine seqQ_n ?_
      refine AWp.seq ?_
      refine AWp.block ?_
      refine AWp.seq ?_
      obtain ⟨x26, hx26, h⟩ := bindS h
      refine AWp.region (OpJs.cons (OpJ.move (ltN hN rfl) (Opd.tmp 23 (.d (.int .i64 s3.1))))
        (OpJs.cons (OpJ.indexD (el := (e_api_Sample x26)) Try.underlying31 tyS36 (idx_some hx26).1 (get_map e_api_Sample (idx_some hx26).2) (ltN hN rfl) (Opd.tmp 21 (.d (.list 6 (r2.1.map e_api_Sample)))) (Opd.tmp 23 (.d (.int .i64 s3.1))))
        (OpJs.cons (OpJ.loadD tyS36 (by rfl) (by rfl) (ltN hN rfl) (Opd.tmp 26 (.dptr (e_api_Sample x26))))
        (OpJs.cons (OpJ.alloc hB tyZ36 (nm := 1009) (by decide) (ltN hN rfl))
        (OpJs.cons (OpJ.assign (ltN hN rfl) (Opd.tmp 25 (.d (.int .i64 s3.1))))
        (OpJs.cons (OpJ.storeB (bt := 36) (c := (.d (.st [(.int .i64 (0 : Int)), (.int .i64 (0 : Int)), (.int .i64 (0 : Int)), (.int .i64 (0 : Int)), (.int .i64 (0 : Int)), (.int .i64 (0 : Int))]))) (v := (.d (e_api_Sample x26))) (c' := (.d (e_api_Sample x26))) tyS36 (SetAt.here _ _) (by rfl) (by rfl) (by simp) rfl (Opd.tmp 9 (.ptr 1009 0 [])) (Opd.tmp 27 (.d (e_api_Sample x26))))
        (OpJs.nil))))))) (by rfl) (by rfl) ?_
      refine seqQ_n ?_
      refine AWp.ghost (Mat.pat [] [(1, (.d (.int .i64 a1))), (5, (.d (.list 6 (r2.1.map e_api_Sample)))), (6, (.sref 3006 6 0 s3.2.2.length)), (7, (.sref 3007 6 0 s3.2.1.length)), (8, (.d (.int .i64 s3.1))), (9, (.ptr 1009 0 [])), (21, (.d (.list 6 (r2.1.map e_api_Sample)))), (22, (.d (.int .i64 (r2.1.length : Int)))), (23, (.d (.int .i64 s3.1)))] [(1009, some (.box 36 (.d (e_api_Sample x26)))), (3006, some (.row 36 6 (s3.2.2.map e_api_Sample))), (3007, some (.row 36 6 (s3.2.1.map e_api_Sample)))] hB (by rfl) (by rfl) (by rfl)) ?_
      refine AWp.seq ?_
      refine AWp.region (OpJs.cons (OpJ.move (ltN hN rfl) (Opd.tmp 1 (.d (.int .i64 a1))))
        (OpJs.cons (OpJ.move (ltN hN rfl) (Opd.tmp 8 (.d (.int .i64 s3.1))))
        (OpJs.cons (OpJ.rem (ltN hN rfl) (Opd.tmp 29 (.d (.int .i64 s3.1))) (Opd.int .i64 (60)) (by decide))
        (OpJs.cons (OpJ.conv Try.underlying3 Try.underlying37 (ltN hN rfl) (Opd.tmp 30 (.d (.int .i64 (Int.tmod s3.1 (60 : Int))))))
        (OpJs.cons (OpJ.shr (ltN hN rfl) (Opd.tmp 28 (.d (.int .i64 a1))) (Opd.tmp 31 (.d (.int .u64 (IntKind.u64.wrap (Int.tmod s3.1 (60 : Int)))))) (wrap_nonneg rfl _))
        (OpJs.cons (OpJ.bits (op := .and) (by simp) (ltN hN rfl) (Opd.tmp 32 (.d (.int .i64 (shrI .i64 a1 (IntKind.u64.wrap (Int.tmod s3.1 (60 : Int))))))) (Opd.int .i64 (1)))
        (OpJs.cons (OpJ.eqlI (ltN hN rfl) (Opd.tmp 33 (.d (.int .i64 (bitI .and .i64 (shrI .i64 a1 (IntKind.u64.wrap (Int.tmod s3.1 (60 : Int)))) (1 : Int))))) (Opd.int .i64 (1)))
        (OpJs.nil)))))))) (by rfl) (by rfl) ?_
      refine seqQ_n ?_
      refine AWp.ghost (Mat.pat [] [(1, (.d (.int .i64 a1))), (5, (.d (.list 6 (r2.1.map e_api_Sample)))), (6, (.sref 3006 6 0 s3.2.2.length)), (7, (.sref 3007 6 0 s3.2.1.length)), (9, (.ptr 1009 0 [])), (21, (.d (.list 6 (r2.1.map e_api_Sample)))), (22, (.d (.int .i64 (r2.1.length : Int)))), (23, (.d (.int .i64 s3.1))), (34, (.d (.bool ((bitI .and .i64 (shrI .i64 a1 (IntKind.u64.wrap (Int.tmod s3.1 (60 : Int)))) (1 : Int)) == (1 : Int)))))] [(1009, some (.box 36 (.d (e_api_Sample x26)))), (3006, some (.row 36 6 (s3.2.2.map e_api_Sample))), (3007, some (.row 36 6 (s3.2.1.map e_api_Sample)))] hB (by rfl) (by rfl) (by rfl)) ?_
      refine AWp.cut h (fun m30 : (List api_Sample) × (List api_Sample) => ([(1, (.d (.int .i64 a1))), (5, (.d (.list 6 (r2.1.map e_api_Sample)))), (6, (.sref 3006 6 0 m30.2.length)), (7, (.sref 3007 6 0 m30.1.length)), (21, (.d (.list 6 (r2.1.map e_api_Sample)))), (22, (.d (.int .i64 (r2.1.length : Int)))), (23, (.d (.int .i64 s3.1)))] : EL)) (fun m30 : (List api_Sample) × (List api_Sample) => ([(3006, some (.row 36 6 (m30.2.map e_api_Sample))), (3007, some (.row 36 6 (m30.1.map e_api_Sample)))] : OL)) (fun m30 h E' O' hmat => ?_) (fun j31 hjj31 h => ?_)
      · refine blkQ_n ?_
        refine seqQ_n ?_
        refine AWp.ghost hmat ?_
        refine AWp.region (OpJs.cons (OpJ.add (ltN hN rfl) (Opd.tmp 23 (.d (.int .i64 s3.1))) (Opd.int .i64 (1)))
          (OpJs.cons (OpJ.move (ltN hN rfl) (Opd.tmp 43 (.d (.int .i64 (w64 (s3.1 + (1 : Int)))))))
          (OpJs.nil))) (by rfl) (by rfl) ?_
        obtain rfl := Option.some.inj h
        exact ⟨rfl, (Mat.trans (Mat.pat [] [(1, (.d (.int .i64 a1))), (5, (.d (.list 6 (r2.1.map e_api_Sample)))), (6, (.sref 3006 6 0 m30.2.length)), (7, (.sref 3007 6 0 m30.1.length)), (21, (.d (.list 6 (r2.1.map e_api_Sample)))), (22, (.d (.int .i64 (r2.1.length : Int)))), (23, (.d (.int .i64 (w64 (s3.1 + (1 : Int))))))] [(3006, some (.row 36 6 (m30.2.map e_api_Sample))), (3007, some (.row 36 6 (m30.1.map e_api_Sample)))] hB (by rfl) (by rfl) (by rfl)) (Mat.pat [] ((fun s3 : Int × (List api_Sample) × (List api_Sample) => ([(1, (.d (.int .i64 a1))), (5, (.d (.list 6 (r2.1.map e_api_Sample)))), (6, (.sref 3006 6 0 s3.2.2.length)), (7, (.sref 3007 6 0 s3.2.1.length)), (21, (.d (.list 6 (r2.1.map e_api_Sample)))), (22, (.d (.int .i64 (r2.1.length : Int)))), (23, (.d (.int .i64 s3.1)))] : EL)) ((w64 (s3.1 + (1 : Int))), m30.1, m30.2)) ((fun s3 : Int × (List api_Sample) × (List api_Sample) => ([(3006, some (.row 36 6 (s3.2.2.map e_api_Sample))), (3007, some (.row 36 6 (s3.2.1.map e_api_Sample)))] : OL)) ((w64 (s3.1 + (1 : Int))), m30.1, m30.2)) hB (by rfl) (by rfl) (by rfl)))⟩
      · refine AWp.cond (b := ((bitI .and .i64 (shrI .i64 a1 (IntKind.u64.wrap (Int.tmod s3.1 (60 : Int)))) (1 : Int)) == (1 : Int))) (by rfl) (fun hg32 => ?_) (fun hg32 => ?_)
        · replace h := ite_t hg32 h
          obtain ⟨hc33, h⟩ := chk_some h
          refine AWp.region (OpJs.cons (OpJ.move (ltN hN rfl) (Opd.tmp 6 (.sref 3006 6 0 s3.2.2.length)))
            (OpJs.cons (OpJ.loadB (bt := 36) (c := (.d (e_api_Sample x26))) (v := (.d (e_api_Sample x26))) tyS36 (At.here _) (by rfl) (by rfl) rfl (ltN hN rfl) (Opd.tmp 9 (.ptr 1009 0 [])))
            (OpJs.cons (OpJ.buildSlice Try.underlying31 tyS36 tyZD36 (by rfl) (by decide) (by decide) (Opds.cons (Opd.tmp 36 (.d (e_api_Sample x26))) Opds.nil) (by kernel_rfl) (es := ([(e_api_Sample x26)] : List D)) (by rfl) (by rfl) (by kernel_rfl) (by simp) (ltN hN rfl))
            (OpJs.cons (OpJ.append hB Try.underlying31 tyE36 (nm := 1038) (by decide) (es := s3.2.2.map e_api_Sample) (ys := ([x26] : List api_Sample).map e_api_Sample) (es' := (s3.2.2 ++ ([x26] : List api_Sample)).map e_api_Sample) (len := (s3.2.2 ++ ([x26] : List api_Sample)).length) (by simp) (by simp) (map_sz (f := e_api_Sample) (fun _ => rfl)) (by rw [List.length_map]; exact lim_mulN hc33 (by decide)) (by rw [List.length_map]; exact lim_leN hc33) (ltN hN rfl) (by simp) (Opd.tmp 35 (.sref 3006 6 0 s3.2.2.length)) (Opd.tmp 37 (.d (.list 6 (([x26] : List api_Sample).map e_api_Sample)))))
            (OpJs.cons (OpJ.assign (ltN hN rfl) (Opd.tmp 38 (.sref 1038 6 0 ((s3.2.2 ++ ([x26] : List api_Sample)).length))))
            (OpJs.nil)))))) (by rfl) (by rfl) ?_
          exact hjj31 _ h _ _ (Mat.trans (Mat.pat [] [(1, (.d (.int .i64 a1))), (5, (.d (.list 6 (r2.1.map e_api_Sample)))), (6, (.sref 1038 6 0 ((s3.2.2 ++ ([x26] : List api_Sample)).length))), (7, (.sref 3007 6 0 s3.2.1.length)), (21, (.d (.list 6 (r2.1.map e_api_Sample)))), (22, (.d (.int .i64 (r2.1.length : Int)))), (23, (.d (.int .i64 s3.1)))] [(1038, some (.row 36 6 ((s3.2.2 ++ ([x26] : List api_Sample)).map e_api_Sample))), (3007, some (.row 36 6 (s3.2.1.map e_api_Sample)))] hB (by rfl) (by rfl) (by rfl)) (Mat.pat [(3006, 1038)] ((fun m30 : (List api_Sample) × (List api_Sample) => ([(1, (.d (.int .i64 a1))), (5, (.d (.list 6 (r2.1.map e_api_Sample)))), (6, (.sref 3006 6 0 m30.2.length)), (7, (.sref 3007 6 0 m30.1.length)), (21, (.d (.list 6 (r2.1.map e_api_Sample)))), (22, (.d (.int .i64 (r2.1.length : Int)))), (23, (.d (.int .i64 s3.1)))] : EL)) (s3.2.1, (s3.2.2 ++ ([x26] : List api_Sample)))) ((fun m30 : (List api_Sample) × (List api_Sample) => ([(3006, some (.row 36 6 (m30.2.map e_api_Sample))), (3007, some (.row 36 6 (m30.1.map e_api_Sample)))] : OL)) (s3.2.1, (s3.2.2 ++ ([x26] : List api_Sample)))) hB (by rfl) (by rfl) (by rfl)))
        · replace h := ite_f hg32 h
          obtain ⟨hc34, h⟩ := chk_some h
          refine AWp.region (OpJs.cons (OpJ.move (ltN hN rfl) (Opd.tmp 7 (.sref 3007 6 0 s3.2.1.length)))
            (OpJs.cons (OpJ.loadB (bt := 36) (c := (.d (e_api_Sample x26))) (v := (.d (e_api_Sample x26))) tyS36 (At.here _) (by rfl) (by rfl) rfl (ltN hN rfl) (Opd.tmp 9 (.ptr 1009 0 [])))
            (OpJs.cons (OpJ.buildSlice Try.underlying31 tyS36 tyZD36 (by rfl) (by decide) (by decide) (Opds.cons (Opd.tmp 40 (.d (e_api_Sample x26))) Opds.nil) (by kernel_rfl) (es := ([(e_api_Sample x26)] : List D)) (by rfl) (by rfl) (by kernel_rfl) (by simp) (ltN hN rfl))
            (OpJs.cons (OpJ.append hB Try.underlying31 tyE36 (nm := 1042) (by decide) (es := s3.2.1.map e_api_Sample) (ys := ([x26] : List api_Sample).map e_api_Sample) (es' := (s3.2.1 ++ ([x26] : List api_Sample)).map e_api_Sample) (len := (s3.2.1 ++ ([x26] : List api_Sample)).length) (by simp) (by simp) (map_sz (f := e_api_Sample) (fun _ => rfl)) (by rw [List.length_map]; exact lim_mulN hc34 (by decide)) (by rw [List.length_map]; exact lim_leN hc34) (ltN hN rfl) (by simp) (Opd.tmp 39 (.sref 3007 6 0 s3.2.1.length)) (Opd.tmp 41 (.d (.list 6 (([x26] : List api_Sample).map e_api_Sample)))))
            (OpJs.cons (OpJ.assign (ltN hN rfl) (Opd.tmp 42 (.sref 1042 6 0 ((s3.2.1 ++ ([x26] : List api_Sample)).length))))
            (OpJs.nil)))))) (by rfl) (by rfl) ?_
          exact hjj31 _ h _ _ (Mat.trans (Mat.pat [] [(1, (.d (.int .i64 a1))), (5, (.d (.list 6 (r2.1.map e_api_Sample)))), (6, (.sref 3006 6 0 s3.2.2.length)), (7, (.sref 1042 6 0 ((s3.2.1 ++ ([x26] : List api_Sample)).length))), (21, (.d (.list 6 (r2.1.map e_api_Sample)))), (22, (.d (.int .i64 (r2.1.length : Int)))), (23, (.d (.int .i64 s3.1)))] [(1042, some (.row 36 6 ((s3.2.1 ++ ([x26] : List api_Sample)).map e_api_Sample))), (3006, some (.row 36 6 (s3.2.2.map e_api_Sample)))] hB (by rfl) (by rfl) (by rfl)) (Mat.pat [(3007, 1042)] ((fun m30 : (List api_Sample) × (List api_Sample) => ([(1, (.d (.int .i64 a1))), (5, (.d (.list 6 (r2.1.map e_api_Sample)))), (6, (.sref 3006 6 0 m30.2.length)), (7, (.sref 3007 6 0 m30.1.length)), (21, (.d (.list 6 (r2.1.map e_api_Sample)))), (22, (.d (.int .i64 (r2.1.length : Int)))), (23, (.d (.int .i64 s3.1)))] : EL)) ((s3.2.1 ++ ([x26] : List api_Sample)), s3.2.2)) ((fun m30 : (List api_Sample) × (List api_Sample) => ([(3006, some (.row 36 6 (m30.2.map e_api_Sample))), (3007, some (.row 36 6 (m30.1.map e_api_Sample)))] : OL)) ((s3.2.1 ++ ([x26] : List api_Sample)), s3.2.2)) hB (by rfl) (by rfl) (by rfl)))
    · replace h := ite_f hg25 h
      refine AWp.exit ?_
      refine seqQ_e ?_
      obtain rfl := Option.some.inj h
      exact ⟨(fun hc => by cases hc), rfl, (Mat.pat [] ((fun p24 : (List api_Sample) × (List api_Sample) => ([(5, (.d (.list 6 (r2.1.map e_api_Sample)))), (6, (.sref 3006 6 0 p24.2.length)), (7, (.sref 3007 6 0 p24.1.length))] : EL)) (s3.2.1, s3.2.2)) ((fun p24 : (List api_Sample) × (List api_Sample) => ([(3006, some (.row 36 6 (p24.2.map e_api_Sample))), (3007, some (.row 36 6 (p24.1.map e_api_Sample)))] : OL)) (s3.2.1, s3.2.2)) hB (by rfl) (by rfl) (by rfl))⟩
  · obtain ⟨rfl, hmat⟩ := hR
    refine blkQ_hit ?_
    refine seqQ_n ?_
    refine AWp.ghost hmat ?_
    refine AWp.seq ?_
    refine AWp.ghost (Mat.freezeAll (n := 3006) (k := 6) (by rfl) (by rfl) (by first | (simp; done) | (simp; omega))) ?_
    refine AWp.ghost (Mat.freezeAll (n := 3007) (k := 7) (by rfl) (by rfl) (by first | (simp; done) | (simp; omega))) ?_
    obtain ⟨r37, hr37, h⟩ := bindS h
    refine AWp.region (OpJs.cons (OpJ.move (ltN hN rfl) (Opd.tmp 6 (.d (.list 6 (p24.2.map e_api_Sample)))))
      (OpJs.cons (OpJ.move (ltN hN rfl) (Opd.tmp 7 (.d (.list 6 (p24.1.map e_api_Sample)))))
      (OpJs.cons (OpJ.callFn hB fnOk14 (sample_Merge_ac p24.2 p24.1 r37 hr37) [] (by kernel_rfl) (ltN hN rfl) (by kernel_rfl) (OpdL.cons (Opd.tmp 45 (.d (.list 6 (p24.2.map e_api_Sample)))) (OpdL.cons (Opd.tmp 46 (.d (.list 6 (p24.1.map e_api_Sample)))) OpdL.nil)))
      (OpJs.cons (OpJ.move (ltN hN rfl) (Opd.tmp 47 (.tup [(.d (.list 6 (r37.1.map e_api_Sample))), (.d (.int .i64 r37.2))])))
      (OpJs.cons (OpJ.extract (v := (.d (.list 6 (r37.1.map e_api_Sample)))) (by rfl) rfl (ltN hN rfl) (Opd.tmp 44 (.tup [(.d (.list 6 (r37.1.map e_api_Sample))), (.d (.int .i64 r37.2))])))
      (OpJs.cons (OpJ.extract (v := (.d (.int .i64 r37.2))) (by rfl) rfl (ltN hN rfl) (Opd.tmp 44 (.tup [(.d (.list 6 (r37.1.map e_api_Sample))), (.d (.int .i64 r37.2))])))
      (OpJs.cons (OpJ.assign (ltN hN rfl) (Opd.tmp 48 (.d (.list 6 (r37.1.map e_api_Sample)))))
      (OpJs.cons (OpJ.assign (ltN hN rfl) (Opd.tmp 49 (.d (.int .i64 r37.2))))
      (OpJs.nil))))))))) (by rfl) (by rfl) ?_
    refine seqQ_n ?_
    refine AWp.ghost (Mat.pat [] [(5, (.d (.list 6 (r2.1.map e_api_Sample)))), (6, (.d (.list 6 (p24.2.map e_api_Sample)))), (7, (.d (.list 6 (p24.1.map e_api_Sample)))), (10, (.d (.list 6 (r37.1.map e_api_Sample)))), (11, (.d (.int .i64 r37.2)))] [] hB (by rfl) (by rfl) (by rfl)) ?_
    refine AWp.seq ?_
    obtain ⟨r38, hr38, h⟩ := bindS h
    refine AWp.region (OpJs.cons (OpJ.move (ltN hN rfl) (Opd.tmp 7 (.d (.list 6 (p24.1.map e_api_Sample)))))
      (OpJs.cons (OpJ.move (ltN hN rfl) (Opd.tmp 6 (.d (.list 6 (p24.2.map e_api_Sample)))))
      (OpJs.cons (OpJ.callFn hB fnOk14 (sample_Merge_ac p24.1 p24.2 r38 hr38) [] (by kernel_rfl) (ltN hN rfl) (by kernel_rfl) (OpdL.cons (Opd.tmp 51 (.d (.list 6 (p24.1.map e_api_Sample)))) (OpdL.cons (Opd.tmp 52 (.d (.list 6 (p24.2.map e_api_Sample)))) OpdL.nil)))
      (OpJs.cons (OpJ.move (ltN hN rfl) (Opd.tmp 53 (.tup [(.d (.list 6 (r38.1.map e_api_Sample))), (.d (.int .i64 r38.2))])))
      (OpJs.cons (OpJ.extract (v := (.d (.list 6 (r38.1.map e_api_Sample)))) (by rfl) rfl (ltN hN rfl) (Opd.tmp 50 (.tup [(.d (.list 6 (r38.1.map e_api_Sample))), (.d (.int .i64 r38.2))])))
      (OpJs.cons (OpJ.extract (v := (.d (.int .i64 r38.2))) (by rfl) rfl (ltN hN rfl) (Opd.tmp 50 (.tup [(.d (.list 6 (r38.1.map e_api_Sample))), (.d (.int .i64 r38.2))])))
      (OpJs.cons (OpJ.assign (ltN hN rfl) (Opd.tmp 54 (.d (.list 6 (r38.1.map e_api_Sample)))))
      (OpJs.cons (OpJ.assign (ltN hN rfl) (Opd.tmp 55 (.d (.int .i64 r38.2))))
      (OpJs.nil))))))))) (by rfl) (by rfl) ?_
    refine seqQ_n ?_
    refine AWp.ghost (Mat.pat [] [(5, (.d (.list 6 (r2.1.map e_api_Sample)))), (6, (.d (.list 6 (p24.2.map e_api_Sample)))), (10, (.d (.list 6 (r37.1.map e_api_Sample)))), (11, (.d (.int .i64 r37.2))), (12, (.d (.list 6 (r38.1.map e_api_Sample)))), (13, (.d (.int .i64 r38.2)))] [] hB (by rfl) (by rfl) (by rfl)) ?_
    refine AWp.seq ?_
    obtain ⟨r39, hr39, h⟩ := bindS h
    refine AWp.region (OpJs.cons (OpJ.move (ltN hN rfl) (Opd.tmp 5 (.d (.list 6 (r2.1.map e_api_Sample)))))
      (OpJs.cons (OpJ.move (ltN hN rfl) (Opd.tmp 5 (.d (.list 6 (r2.1.map e_api_Sample)))))
      (OpJs.cons (OpJ.callFn hB fnOk14 (sample_Merge_ac r2.1 r2.1 r39 hr39) [] (by kernel_rfl) (ltN hN rfl) (by kernel_rfl) (OpdL.cons (Opd.tmp 57 (.d (.list 6 (r2.1.map e_api_Sample)))) (OpdL.cons (Opd.tmp 58 (.d (.list 6 (r2.1.map e_api_Sample)))) OpdL.nil)))
      (OpJs.cons (OpJ.move (ltN hN rfl) (Opd.tmp 59 (.tup [(.d (.list 6 (r39.1.map e_api_Sample))), (.d (.int .i64 r39.2))])))
      (OpJs.cons (OpJ.extract (v := (.d (.list 6 (r39.1.map e_api_Sample)))) (by rfl) rfl (ltN hN rfl) (Opd.tmp 56 (.tup [(.d (.list 6 (r39.1.map e_api_Sample))), (.d (.int .i64 r39.2))])))
      (OpJs.cons (OpJ.extract (v := (.d (.int .i64 r39.2))) (by rfl) rfl (ltN hN rfl) (Opd.tmp 56 (.tup [(.d (.list 6 (r39.1.map e_api_Sample))), (.d (.int .i64 r39.2))])))
      (OpJs.cons (OpJ.assign (ltN hN rfl) (Opd.tmp 60 (.d (.list 6 (r39.1.map e_api_Sample)))))
      (OpJs.cons (OpJ.assign (ltN hN rfl) (Opd.tmp 61 (.d (.int .i64 r39.2))))
      (OpJs.nil))))))))) (by rfl) (by rfl) ?_
    refine seqQ_n ?_
    refine AWp.ghost (Mat.pat [] [(5, (.d (.list 6 (r2.1.map e_api_Sample)))), (6, (.d (.list 6 (p24.2.map e_api_Sample)))), (10, (.d (.list 6 (r37.1.map e_api_Sample)))), (11, (.d (.int .i64 r37.2))), (12, (.d (.list 6 (r38.1.map e_api_Sample)))), (13, (.d (.int .i64 r38.2))), (14, (.d (.list 6 (r39.1.map e_api_Sample)))), (15, (.d (.int .i64 r39.2)))] [] hB (by rfl) (by rfl) (by rfl)) ?_
    refine AWp.seq ?_
    obtain ⟨r40, hr40, h⟩ := bindS h
    refine AWp.region (OpJs.cons (OpJ.move (ltN hN rfl) (Opd.tmp 5 (.d (.list 6 (r2.1.map e_api_Sample)))))
      (OpJs.cons (OpJ.move (ltN hN rfl) (Opd.tmp 6 (.d (.list 6 (p24.2.map e_api_Sample)))))
      (OpJs.cons (OpJ.callFn hB fnOk14 (sample_Merge_ac r2.1 p24.2 r40 hr40) [] (by kernel_rfl) (ltN hN rfl) (by kernel_rfl) (OpdL.cons (Opd.tmp 63 (.d (.list 6 (r2.1.map e_api_Sample)))) (OpdL.cons (Opd.tmp 64 (.d (.list 6 (p24.2.map e_api_Sample)))) OpdL.nil)))
      (OpJs.cons (OpJ.move (ltN hN rfl) (Opd.tmp 65 (.tup [(.d (.list 6 (r40.1.map e_api_Sample))), (.d (.int .i64 r40.2))])))
      (OpJs.cons (OpJ.extract (v := (.d (.list 6 (r40.1.map e_api_Sample)))) (by rfl) rfl (ltN hN rfl) (Opd.tmp 62 (.tup [(.d (.list 6 (r40.1.map e_api_Sample))), (.d (.int .i64 r40.2))])))
      (OpJs.cons (OpJ.extract (v := (.d (.int .i64 r40.2))) (by rfl) rfl (ltN hN rfl) (Opd.tmp 62 (.tup [(.d (.list 6 (r40.1.map e_api_Sample))), (.d (.int .i64 r40.2))])))
      (OpJs.cons (OpJ.assign (ltN hN rfl) (Opd.tmp 66 (.d (.list 6 (r40.1.map e_api_Sample)))))
      (OpJs.cons (OpJ.assign (ltN hN rfl) (Opd.tmp 67 (.d (.int .i64 r40.2))))
      (OpJs.nil))))))))) (by rfl) (by rfl) ?_
    refine seqQ_n ?_
    refine AWp.ghost (Mat.pat [] [(5, (.d (.list 6 (r2.1.map e_api_Sample)))), (10, (.d (.list 6 (r37.1.map e_api_Sample)))), (11, (.d (.int .i64 r37.2))), (12, (.d (.list 6 (r38.1.map e_api_Sample)))), (13, (.d (.int .i64 r38.2))), (14, (.d (.list 6 (r39.1.map e_api_Sample)))), (15, (.d (.int .i64 r39.2))), (16, (.d (.list 6 (r40.1.map e_api_Sample)))), (17, (.d (.int .i64 r40.2)))] [] hB (by rfl) (by rfl) (by rfl)) ?_
    refine AWp.seq ?_
    refine AWp.cut h (fun m51 : Bool => ([(4, (.d (.bool m51)))] : EL)) (fun m51 : Bool => ([] : OL)) (fun m51 h E' O' hmat => ?_) (fun j52 hjj52 h => ?_)
    · refine seqQ_n ?_
      refine AWp.ghost hmat ?_
      refine AWp.ret ?_
      obtain rfl := Option.some.inj h
      exact ⟨.inl rfl, _, _, (Mat.pat [] [(4, (.d (.bool m51)))] [] hB (by rfl) (by rfl) (by rfl)), [(.d (.bool m51))], (Res.tmp (by rfl) (by rfl) Res.nil), rfl, by rfl, by rfl, by rfl⟩
    · rcases Bool.eq_false_or_eq_true ((((r37.2 == (0 : Int)) && (r38.2 == (0 : Int))) && (r39.2 == (0 : Int))) && (r40.2 == (0 : Int))) with hg53 | hg53
      · replace h := ite_t hg53 h
        obtain ⟨r54, hr54, h⟩ := bindS h
        rcases Bool.eq_false_or_eq_true r54 with hg55 | hg55
        · replace h := ite_t hg55 h
          obtain ⟨r56, hr56, h⟩ := bindS h
          rcases Bool.eq_false_or_eq_true r56 with hg57 | hg57
          · replace h := ite_t hg57 h
            obtain ⟨r58, hr58, h⟩ := bindS h
            rcases Bool.eq_false_or_eq_true r58 with hg59 | hg59
            · replace h := ite_t hg59 h
              obtain ⟨r60, hr60, h⟩ := bindS h
              rcases Bool.eq_false_or_eq_true r60 with hg61 | hg61
              · replace h := ite_t hg61 h
                obtain ⟨r62, hr62, h⟩ := bindS h
                refine AWp.region (OpJs.cons (OpJ.move (ltN hN rfl) (Opd.tmp 11 (.d (.int .i64 r37.2))))
                  (OpJs.cons (OpJ.eqlI (ltN hN rfl) (Opd.tmp 68 (.d (.int .i64 r37.2))) (Opd.int .i64 (0)))
                  (OpJs.cons (OpJ.move (ltN hN rfl) (Opd.tmp 69 (.d (.bool (r37.2 == (0 : Int))))))
                  (OpJs.cons (OpJ.opt' (v := (.d (.int .i64 r38.2))) (OpJ.move (ltN hN rfl) (Opd.tmp 13 (.d (.int .i64 r38.2)))) (by rfl) (GuardV.plain _) (ltN hN rfl) (by rfl) (by rfl) (by rfl) (by rfl) (OptL.keep rfl OptL.nil))
                  (OpJs.cons (OpJ.opt' (v := (.d (.bool (r38.2 == (0 : Int))))) (OpJ.eqlI (ltN hN rfl) (Opd.tmp 71 (.d (.int .i64 r38.2))) (Opd.int .i64 (0))) (by rfl) (GuardV.plain _) (ltN hN rfl) (by rfl) (by rfl) (by rfl) (by rfl) (OptL.opt OptL.nil))
                  (OpJs.cons (OpJ.pickAnd rfl (ltN hN rfl) (Opd.tmp 70 (.d (.bool (r37.2 == (0 : Int))))) (Opd.tmp 72 (.opt ((r37.2 == (0 : Int)) == true) (.d (.bool (r38.2 == (0 : Int)))))))
                  (OpJs.cons (OpJ.move (ltN hN rfl) (Opd.tmp 73 (.d (.bool ((r37.2 == (0 : Int)) && (r38.2 == (0 : Int)))))))
                  (OpJs.cons (OpJ.opt' (v := (.d (.int .i64 r39.2))) (OpJ.move (ltN hN rfl) (Opd.tmp 15 (.d (.int .i64 r39.2)))) (by rfl) (GuardV.plain _) (ltN hN rfl) (by rfl) (by rfl) (by rfl) (by rfl) (OptL.keep rfl OptL.nil))
                  (OpJs.cons (OpJ.opt' (v := (.d (.bool (r39.2 == (0 : Int))))) (OpJ.eqlI (ltN hN rfl) (Opd.tmp 75 (.d (.int .i64 r39.2))) (Opd.int .i64 (0))) (by rfl) (GuardV.plain _) (ltN hN rfl) (by rfl) (by rfl) (by rfl) (by rfl) (OptL.opt OptL.nil))
                  (OpJs.cons (OpJ.pickAnd rfl (ltN hN rfl) (Opd.tmp 74 (.d (.bool ((r37.2 == (0 : Int)) && (r38.2 == (0 : Int)))))) (Opd.tmp 76 (.opt (((r37.2 == (0 : Int)) && (r38.2 == (0 : Int))) == true) (.d (.bool (r39.2 == (0 : Int)))))))
                  (OpJs.cons (OpJ.move (ltN hN rfl) (Opd.tmp 77 (.d (.bool (((r37.2 == (0 : Int)) && (r38.2 == (0 : Int))) && (r39.2 == (0 : Int)))))))
                  (OpJs.cons (OpJ.opt' (v := (.d (.int .i64 r40.2))) (OpJ.move (ltN hN rfl) (Opd.tmp 17 (.d (.int .i64 r40.2)))) (by rfl) (GuardV.plain _) (ltN hN rfl) (by rfl) (by rfl) (by rfl) (by rfl) (OptL.keep rfl OptL.nil))
                  (OpJs.cons (OpJ.opt' (v := (.d (.bool (r40.2 == (0 : Int))))) (OpJ.eqlI (ltN hN rfl) (Opd.tmp 79 (.d (.int .i64 r40.2))) (Opd.int .i64 (0))) (by rfl) (GuardV.plain _) (ltN hN rfl) (by rfl) (by rfl) (by rfl) (by rfl) (OptL.opt OptL.nil))
                  (OpJs.cons (OpJ.pickAnd rfl (ltN hN rfl) (Opd.tmp 78 (.d (.bool (((r37.2 == (0 : Int)) && (r38.2 == (0 : Int))) && (r39.2 == (0 : Int)))))) (Opd.tmp 80 (.opt ((((r37.2 == (0 : Int)) && (r38.2 == (0 : Int))) && (r39.2 == (0 : Int))) == true) (.d (.bool (r40.2 == (0 : Int)))))))
                  (OpJs.cons (OpJ.val (v' := .d (.bool true)) (by rw [hg53]) (OpJ.move (ltN hN rfl) (Opd.tmp 81 (.d (.bool ((((r37.2 == (0 : Int)) && (r38.2 == (0 : Int))) && (r39.2 == (0 : Int))) && (r40.2 == (0 : Int))))))))
                  (OpJs.cons (OpJ.guarded (by rfl) (OpJ.move (ltN hN rfl) (Opd.tmp 10 (.d (.list 6 (r37.1.map e_api_Sample))))))
                  (OpJs.cons (OpJ.guarded (by rfl) (OpJ.move (ltN hN rfl) (Opd.tmp 5 (.d (.list 6 (r2.1.map e_api_Sample))))))
                  (OpJs.cons (OpJ.guarded (by rfl) (OpJ.callFn hB fnOk15 (exchangepointref37_Same_ac r37.1 r2.1 r54 hr54) [] (by kernel_rfl) (ltN hN rfl) (by kernel_rfl) (OpdL.cons (Opd.tmp 83 (.d (.list 6 (r37.1.map e_api_Sample)))) (OpdL.cons (Opd.tmp 84 (.d (.list 6 (r2.1.map e_api_Sample)))) OpdL.nil))))
                  (OpJs.cons (OpJ.pickT (ltN hN rfl) (Opd.tmp 82 (.d (.bool true))) (Opd.tmp 85 (.d (.bool r54))))
                  (OpJs.cons (OpJ.val (v' := .d (.bool true)) (by rw [hg55]) (OpJ.move (ltN hN rfl) (Opd.tmp 86 (.d (.bool r54)))))
                  (OpJs.cons (OpJ.guarded (by rfl) (OpJ.move (ltN hN rfl) (Opd.tmp 12 (.d (.list 6 (r38.1.map e_api_Sample))))))
                  (OpJs.cons (OpJ.guarded (by rfl) (OpJ.move (ltN hN rfl) (Opd.tmp 5 (.d (.list 6 (r2.1.map e_api_Sample))))))
                  (OpJs.cons (OpJ.guarded (by rfl) (OpJ.callFn hB fnOk15 (exchangepointref37_Same_ac r38.1 r2.1 r56 hr56) [] (by kernel_rfl) (ltN hN rfl) (by kernel_rfl) (OpdL.cons (Opd.tmp 88 (.d (.list 6 (r38.1.map e_api_Sample)))) (OpdL.cons (Opd.tmp 89 (.d (.list 6 (r2.1.map e_api_Sample)))) OpdL.nil))))
                  (OpJs.cons (OpJ.pickT (ltN hN rfl) (Opd.tmp 87 (.d (.bool true))) (Opd.tmp 90 (.d (.bool r56))))
                  (OpJs.cons (OpJ.val (v' := .d (.bool true)) (by rw [hg57]) (OpJ.move (ltN hN rfl) (Opd.tmp 91 (.d (.bool r56)))))
                  (OpJs.cons (OpJ.guarded (by rfl) (OpJ.move (ltN hN rfl) (Opd.tmp 14 (.d (.list 6 (r39.1.map e_api_Sample))))))
                  (OpJs.cons (OpJ.guarded (by rfl) (OpJ.move (ltN hN rfl) (Opd.tmp 5 (.d (.list 6 (r2.1.map e_api_Sample))))))
                  (OpJs.cons (OpJ.guarded (by rfl) (OpJ.callFn hB fnOk15 (exchangepointref37_Same_ac r39.1 r2.1 r58 hr58) [] (by kernel_rfl) (ltN hN rfl) (by kernel_rfl) (OpdL.cons (Opd.tmp 93 (.d (.list 6 (r39.1.map e_api_Sample)))) (OpdL.cons (Opd.tmp 94 (.d (.list 6 (r2.1.map e_api_Sample)))) OpdL.nil))))
                  (OpJs.cons (OpJ.pickT (ltN hN rfl) (Opd.tmp 92 (.d (.bool true))) (Opd.tmp 95 (.d (.bool r58))))
                  (OpJs.cons (OpJ.val (v' := .d (.bool true)) (by rw [hg59]) (OpJ.move (ltN hN rfl) (Opd.tmp 96 (.d (.bool r58)))))
                  (OpJs.cons (OpJ.guarded (by rfl) (OpJ.move (ltN hN rfl) (Opd.tmp 16 (.d (.list 6 (r40.1.map e_api_Sample))))))
                  (OpJs.cons (OpJ.guarded (by rfl) (OpJ.move (ltN hN rfl) (Opd.tmp 5 (.d (.list 6 (r2.1.map e_api_Sample))))))
                  (OpJs.cons (OpJ.guarded (by rfl) (OpJ.callFn hB fnOk15 (exchangepointref37_Same_ac r40.1 r2.1 r60 hr60) [] (by kernel_rfl) (ltN hN rfl) (by kernel_rfl) (OpdL.cons (Opd.tmp 98 (.d (.list 6 (r40.1.map e_api_Sample)))) (OpdL.cons (Opd.tmp 99 (.d (.list 6 (r2.1.map e_api_Sample)))) OpdL.nil))))
                  (OpJs.cons (OpJ.pickT (ltN hN rfl) (Opd.tmp 97 (.d (.bool true))) (Opd.tmp 100 (.d (.bool r60))))
                  (OpJs.cons (OpJ.val (v' := .d (.bool true)) (by rw [hg61]) (OpJ.move (ltN hN rfl) (Opd.tmp 101 (.d (.bool r60)))))
                  (OpJs.cons (OpJ.guarded (by rfl) (OpJ.callFn hB fnOk11 (exchangepointlaw37_awake_ac  r62 hr62) [] (by kernel_rfl) (ltN hN rfl) (by kernel_rfl) OpdL.nil))
                  (OpJs.cons (OpJ.pickT (ltN hN rfl) (Opd.tmp 102 (.d (.bool true))) (Opd.tmp 103 (.d (.bool r62))))
                  (OpJs.cons (OpJ.assign (ltN hN rfl) (Opd.tmp 104 (.d (.bool r62))))
                  (OpJs.nil))))))))))))))))))))))))))))))))))))))) (by rfl) (by rfl) ?_
                exact hjj52 _ h _ _ (Mat.trans (Mat.pat [] [(4, (.d (.bool r62)))] [] hB (by rfl) (by rfl) (by rfl)) (Mat.pat [] ((fun m51 : Bool => ([(4, (.d (.bool m51)))] : EL)) r62) ((fun m51 : Bool => ([] : OL)) r62) hB (by rfl) (by rfl) (by rfl)))
              · replace h := ite_f hg61 h
                refine AWp.region (OpJs.cons (OpJ.move (ltN hN rfl) (Opd.tmp 11 (.d (.int .i64 r37.2))))
                  (OpJs.cons (OpJ.eqlI (ltN hN rfl) (Opd.tmp 68 (.d (.int .i64 r37.2))) (Opd.int .i64 (0)))
                  (OpJs.cons (OpJ.move (ltN hN rfl) (Opd.tmp 69 (.d (.bool (r37.2 == (0 : Int))))))
                  (OpJs.cons (OpJ.opt' (v := (.d (.int .i64 r38.2))) (OpJ.move (ltN hN rfl) (Opd.tmp 13 (.d (.int .i64 r38.2)))) (by rfl) (GuardV.plain _) (ltN hN rfl) (by rfl) (by rfl) (by rfl) (by rfl) (OptL.keep rfl OptL.nil))
                  (OpJs.cons (OpJ.opt' (v := (.d (.bool (r38.2 == (0 : Int))))) (OpJ.eqlI (ltN hN rfl) (Opd.tmp 71 (.d (.int .i64 r38.2))) (Opd.int .i64 (0))) (by rfl) (GuardV.plain _) (ltN hN rfl) (by rfl) (by rfl) (by rfl) (by rfl) (OptL.opt OptL.nil))
                  (OpJs.cons (OpJ.pickAnd rfl (ltN hN rfl) (Opd.tmp 70 (.d (.bool (r37.2 == (0 : Int))))) (Opd.tmp 72 (.opt ((r37.2 == (0 : Int)) == true) (.d (.bool (r38.2 == (0 : Int)))))))
                  (OpJs.cons (OpJ.move (ltN hN rfl) (Opd.tmp 73 (.d (.bool ((r37.2 == (0 : Int)) && (r38.2 == (0 : Int)))))))
                  (OpJs.cons (OpJ.opt' (v := (.d (.int .i64 r39.2))) (OpJ.move (ltN hN rfl) (Opd.tmp 15 (.d (.int .i64 r39.2)))) (by rfl) (GuardV.plain _) (ltN hN rfl) (by rfl) (by rfl) (by rfl) (by rfl) (OptL.keep rfl OptL.nil))
                  (OpJs.cons (OpJ.opt' (v := (.d (.bool (r39.2 == (0 : Int))))) (OpJ.eqlI (ltN hN rfl) (Opd.tmp 75 (.d (.int .i64 r39.2))) (Opd.int .i64 (0))) (by rfl) (GuardV.plain _) (ltN hN rfl) (by rfl) (by rfl) (by rfl) (by rfl) (OptL.opt OptL.nil))
                  (OpJs.cons (OpJ.pickAnd rfl (ltN hN rfl) (Opd.tmp 74 (.d (.bool ((r37.2 == (0 : Int)) && (r38.2 == (0 : Int)))))) (Opd.tmp 76 (.opt (((r37.2 == (0 : Int)) && (r38.2 == (0 : Int))) == true) (.d (.bool (r39.2 == (0 : Int)))))))
                  (OpJs.cons (OpJ.move (ltN hN rfl) (Opd.tmp 77 (.d (.bool (((r37.2 == (0 : Int)) && (r38.2 == (0 : Int))) && (r39.2 == (0 : Int)))))))
                  (OpJs.cons (OpJ.opt' (v := (.d (.int .i64 r40.2))) (OpJ.move (ltN hN rfl) (Opd.tmp 17 (.d (.int .i64 r40.2)))) (by rfl) (GuardV.plain _) (ltN hN rfl) (by rfl) (by rfl) (by rfl) (by rfl) (OptL.keep rfl OptL.nil))
                  (OpJs.cons (OpJ.opt' (v := (.d (.bool (r40.2 == (0 : Int))))) (OpJ.eqlI (ltN hN rfl) (Opd.tmp 79 (.d (.int .i64 r40.2))) (Opd.int .i64 (0))) (by rfl) (GuardV.plain _) (ltN hN rfl) (by rfl) (by rfl) (by rfl) (by rfl) (OptL.opt OptL.nil))
                  (OpJs.cons (OpJ.pickAnd rfl (ltN hN rfl) (Opd.tmp 78 (.d (.bool (((r37.2 == (0 : Int)) && (r38.2 == (0 : Int))) && (r39.2 == (0 : Int)))))) (Opd.tmp 80 (.opt ((((r37.2 == (0 : Int)) && (r38.2 == (0 : Int))) && (r39.2 == (0 : Int))) == true) (.d (.bool (r40.2 == (0 : Int)))))))
                  (OpJs.cons (OpJ.val (v' := .d (.bool true)) (by rw [hg53]) (OpJ.move (ltN hN rfl) (Opd.tmp 81 (.d (.bool ((((r37.2 == (0 : Int)) && (r38.2 == (0 : Int))) && (r39.2 == (0 : Int))) && (r40.2 == (0 : Int))))))))
                  (OpJs.cons (OpJ.guarded (by rfl) (OpJ.move (ltN hN rfl) (Opd.tmp 10 (.d (.list 6 (r37.1.map e_api_Sample))))))
                  (OpJs.cons (OpJ.guarded (by rfl) (OpJ.move (ltN hN rfl) (Opd.tmp 5 (.d (.list 6 (r2.1.map e_api_Sample))))))
                  (OpJs.cons (OpJ.guarded (by rfl) (OpJ.callFn hB fnOk15 (exchangepointref37_Same_ac r37.1 r2.1 r54 hr54) [] (by kernel_rfl) (ltN hN rfl) (by kernel_rfl) (OpdL.cons (Opd.tmp 83 (.d (.list 6 (r37.1.map e_api_Sample)))) (OpdL.cons (Opd.tmp 84 (.d (.list 6 (r2.1.map e_api_Sample)))) OpdL.nil))))
                  (OpJs.cons (OpJ.pickT (ltN hN rfl) (Opd.tmp 82 (.d (.bool true))) (Opd.tmp 85 (.d (.bool r54))))
                  (OpJs.cons (OpJ.val (v' := .d (.bool true)) (by rw [hg55]) (OpJ.move (ltN hN rfl) (Opd.tmp 86 (.d (.bool r54)))))
                  (OpJs.cons (OpJ.guarded (by rfl) (OpJ.move (ltN hN rfl) (Opd.tmp 12 (.d (.list 6 (r38.1.map e_api_Sample))))))
                  (OpJs.cons (OpJ.guarded (by rfl) (OpJ.move (ltN hN rfl) (Opd.tmp 5 (.d (.list 6 (r2.1.map e_api_Sample))))))
                  (OpJs.cons (OpJ.guarded (by rfl) (OpJ.callFn hB fnOk15 (exchangepointref37_Same_ac r38.1 r2.1 r56 hr56) [] (by kernel_rfl) (ltN hN rfl) (by kernel_rfl) (OpdL.cons (Opd.tmp 88 (.d (.list 6 (r38.1.map e_api_Sample)))) (OpdL.cons (Opd.tmp 89 (.d (.list 6 (r2.1.map e_api_Sample)))) OpdL.nil))))
                  (OpJs.cons (OpJ.pickT (ltN hN rfl) (Opd.tmp 87 (.d (.bool true))) (Opd.tmp 90 (.d (.bool r56))))
                  (OpJs.cons (OpJ.val (v' := .d (.bool true)) (by rw [hg57]) (OpJ.move (ltN hN rfl) (Opd.tmp 91 (.d (.bool r56)))))
                  (OpJs.cons (OpJ.guarded (by rfl) (OpJ.move (ltN hN rfl) (Opd.tmp 14 (.d (.list 6 (r39.1.map e_api_Sample))))))
                  (OpJs.cons (OpJ.guarded (by rfl) (OpJ.move (ltN hN rfl) (Opd.tmp 5 (.d (.list 6 (r2.1.map e_api_Sample))))))
                  (OpJs.cons (OpJ.guarded (by rfl) (OpJ.callFn hB fnOk15 (exchangepointref37_Same_ac r39.1 r2.1 r58 hr58) [] (by kernel_rfl) (ltN hN rfl) (by kernel_rfl) (OpdL.cons (Opd.tmp 93 (.d (.list 6 (r39.1.map e_api_Sample)))) (OpdL.cons (Opd.tmp 94 (.d (.list 6 (r2.1.map e_api_Sample)))) OpdL.nil))))
                  (OpJs.cons (OpJ.pickT (ltN hN rfl) (Opd.tmp 92 (.d (.bool true))) (Opd.tmp 95 (.d (.bool r58))))
                  (OpJs.cons (OpJ.val (v' := .d (.bool true)) (by rw [hg59]) (OpJ.move (ltN hN rfl) (Opd.tmp 96 (.d (.bool r58)))))
                  (OpJs.cons (OpJ.guarded (by rfl) (OpJ.move (ltN hN rfl) (Opd.tmp 16 (.d (.list 6 (r40.1.map e_api_Sample))))))
                  (OpJs.cons (OpJ.guarded (by rfl) (OpJ.move (ltN hN rfl) (Opd.tmp 5 (.d (.list 6 (r2.1.map e_api_Sample))))))
                  (OpJs.cons (OpJ.guarded (by rfl) (OpJ.callFn hB fnOk15 (exchangepointref37_Same_ac r40.1 r2.1 r60 hr60) [] (by kernel_rfl) (ltN hN rfl) (by kernel_rfl) (OpdL.cons (Opd.tmp 98 (.d (.list 6 (r40.1.map e_api_Sample)))) (OpdL.cons (Opd.tmp 99 (.d (.list 6 (r2.1.map e_api_Sample)))) OpdL.nil))))
                  (OpJs.cons (OpJ.pickT (ltN hN rfl) (Opd.tmp 97 (.d (.bool true))) (Opd.tmp 100 (.d (.bool r60))))
                  (OpJs.cons (OpJ.val (v' := .d (.bool false)) (by rw [hg61]) (OpJ.move (ltN hN rfl) (Opd.tmp 101 (.d (.bool r60)))))
                  (OpJs.cons (OpJ.skipU (ltN hN rfl) (by rfl))
                  (OpJs.cons (OpJ.pickF (ltN hN rfl) (Opd.tmp 102 (.d (.bool false))) (Opd.bool false))
                  (OpJs.cons (OpJ.assign (ltN hN rfl) (Opd.tmp 104 (.d (.bool false))))
                  (OpJs.nil))))))))))))))))))))))))))))))))))))))) (by rfl) (by rfl) ?_
                exact hjj52 _ h _ _ (Mat.trans (Mat.pat [] [(4, (.d (.bool false)))] [] hB (by rfl) (by rfl) (by rfl)) (Mat.pat [] ((fun m51 : Bool => ([(4, (.d (.bool m51)))] : EL)) false) ((fun m51 : Bool => ([] : OL)) false) hB (by rfl) (by rfl) (by rfl)))
            · replace h := ite_f hg59 h
              refine AWp.region (OpJs.cons (OpJ.move (ltN hN rfl) (Opd.tmp 11 (.d (.int .i64 r37.2))))
                (OpJs.cons (OpJ.eqlI (ltN hN rfl) (Opd.tmp 68 (.d (.int .i64 r37.2))) (Opd.int .i64 (0)))
                (OpJs.cons (OpJ.move (ltN hN rfl) (Opd.tmp 69 (.d (.bool (r37.2 == (0 : Int))))))
                (OpJs.cons (OpJ.opt' (v := (.d (.int .i64 r38.2))) (OpJ.move (ltN hN rfl) (Opd.tmp 13 (.d (.int .i64 r38.2)))) (by rfl) (GuardV.plain _) (ltN hN rfl) (by rfl) (by rfl) (by rfl) (by rfl) (OptL.keep rfl OptL.nil))
                (OpJs.cons (OpJ.opt' (v := (.d (.bool (r38.2 == (0 : Int))))) (OpJ.eqlI (ltN hN rfl) (Opd.tmp 71 (.d (.int .i64 r38.2))) (Opd.int .i64 (0))) (by rfl) (GuardV.plain _) (ltN hN rfl) (by rfl) (by rfl) (by rfl) (by rfl) (OptL.opt OptL.nil))
                (OpJs.cons (OpJ.pickAnd rfl (ltN hN rfl) (Opd.tmp 70 (.d (.bool (r37.2 == (0 : Int))))) (Opd.tmp 72 (.opt ((r37.2 == (0 : Int)) == true) (.d (.bool (r38.2 == (0 : Int)))))))
                (OpJs.cons (OpJ.move (ltN hN rfl) (Opd.tmp 73 (.d (.bool ((r37.2 == (0 : Int)) && (r38.2 == (0 : Int)))))))
                (OpJs.cons (OpJ.opt' (v := (.d (.int .i64 r39.2))) (OpJ.move (ltN hN rfl) (Opd.tmp 15 (.d (.int .i64 r39.2)))) (by rfl) (GuardV.plain _) (ltN hN rfl) (by rfl) (by rfl) (by rfl) (by rfl) (OptL.keep rfl OptL.nil))
                (OpJs.cons (OpJ.opt' (v := (.d (.bool (r39.2 == (0 : Int))))) (OpJ.eqlI (ltN hN rfl) (Opd.tmp 75 (.d (.int .i64 r39.2))) (Opd.int .i64 (0))) (by rfl) (GuardV.plain _) (ltN hN rfl) (by rfl) (by rfl) (by rfl) (by rfl) (OptL.opt OptL.nil))
                (OpJs.cons (OpJ.pickAnd rfl (ltN hN rfl) (Opd.tmp 74 (.d (.bool ((r37.2 == (0 : Int)) && (r38.2 == (0 : Int)))))) (Opd.tmp 76 (.opt (((r37.2 == (0 : Int)) && (r38.2 == (0 : Int))) == true) (.d (.bool (r39.2 == (0 : Int)))))))
                (OpJs.cons (OpJ.move (ltN hN rfl) (Opd.tmp 77 (.d (.bool (((r37.2 == (0 : Int)) && (r38.2 == (0 : Int))) && (r39.2 == (0 : Int)))))))
                (OpJs.cons (OpJ.opt' (v := (.d (.int .i64 r40.2))) (OpJ.move (ltN hN rfl) (Opd.tmp 17 (.d (.int .i64 r40.2)))) (by rfl) (GuardV.plain _) (ltN hN rfl) (by rfl) (by rfl) (by rfl) (by rfl) (OptL.keep rfl OptL.nil))
                (OpJs.cons (OpJ.opt' (v := (.d (.bool (r40.2 == (0 : Int))))) (OpJ.eqlI (ltN hN rfl) (Opd.tmp 79 (.d (.int .i64 r40.2))) (Opd.int .i64 (0))) (by rfl) (GuardV.plain _) (ltN hN rfl) (by rfl) (by rfl) (by rfl) (by rfl) (OptL.opt OptL.nil))
                (OpJs.cons (OpJ.pickAnd rfl (ltN hN rfl) (Opd.tmp 78 (.d (.bool (((r37.2 == (0 : Int)) && (r38.2 == (0 : Int))) && (r39.2 == (0 : Int)))))) (Opd.tmp 80 (.opt ((((r37.2 == (0 : Int)) && (r38.2 == (0 : Int))) && (r39.2 == (0 : Int))) == true) (.d (.bool (r40.2 == (0 : Int)))))))
                (OpJs.cons (OpJ.val (v' := .d (.bool true)) (by rw [hg53]) (OpJ.move (ltN hN rfl) (Opd.tmp 81 (.d (.bool ((((r37.2 == (0 : Int)) && (r38.2 == (0 : Int))) && (r39.2 == (0 : Int))) && (r40.2 == (0 : Int))))))))
                (OpJs.cons (OpJ.guarded (by rfl) (OpJ.move (ltN hN rfl) (Opd.tmp 10 (.d (.list 6 (r37.1.map e_api_Sample))))))
                (OpJs.cons (OpJ.guarded (by rfl) (OpJ.move (ltN hN rfl) (Opd.tmp 5 (.d (.list 6 (r2.1.map e_api_Sample))))))
                (OpJs.cons (OpJ.guarded (by rfl) (OpJ.callFn hB fnOk15 (exchangepointref37_Same_ac r37.1 r2.1 r54 hr54) [] (by kernel_rfl) (ltN hN rfl) (by kernel_rfl) (OpdL.cons (Opd.tmp 83 (.d (.list 6 (r37.1.map e_api_Sample)))) (OpdL.cons (Opd.tmp 84 (.d (.list 6 (r2.1.map e_api_Sample)))) OpdL.nil))))
                (OpJs.cons (OpJ.pickT (ltN hN rfl) (Opd.tmp 82 (.d (.bool true))) (Opd.tmp 85 (.d (.bool r54))))
                (OpJs.cons (OpJ.val (v' := .d (.bool true)) (by rw [hg55]) (OpJ.move (ltN hN rfl) (Opd.tmp 86 (.d (.bool r54)))))
                (OpJs.cons (OpJ.guarded (by rfl) (OpJ.move (ltN hN rfl) (Opd.tmp 12 (.d (.list 6 (r38.1.map e_api_Sample))))))
                (OpJs.cons (OpJ.guarded (by rfl) (OpJ.move (ltN hN rfl) (Opd.tmp 5 (.d (.list 6 (r2.1.map e_api_Sample))))))
                (OpJs.cons (OpJ.guarded (by rfl) (OpJ.callFn hB fnOk15 (exchangepointref37_Same_ac r38.1 r2.1 r56 hr56) [] (by kernel_rfl) (ltN hN rfl) (by kernel_rfl) (OpdL.cons (Opd.tmp 88 (.d (.list 6 (r38.1.map e_api_Sample)))) (OpdL.cons (Opd.tmp 89 (.d (.list 6 (r2.1.map e_api_Sample)))) OpdL.nil))))
                (OpJs.cons (OpJ.pickT (ltN hN rfl) (Opd.tmp 87 (.d (.bool true))) (Opd.tmp 90 (.d (.bool r56))))
                (OpJs.cons (OpJ.val (v' := .d (.bool true)) (by rw [hg57]) (OpJ.move (ltN hN rfl) (Opd.tmp 91 (.d (.bool r56)))))
                (OpJs.cons (OpJ.guarded (by rfl) (OpJ.move (ltN hN rfl) (Opd.tmp 14 (.d (.list 6 (r39.1.map e_api_Sample))))))
                (OpJs.cons (OpJ.guarded (by rfl) (OpJ.move (ltN hN rfl) (Opd.tmp 5 (.d (.list 6 (r2.1.map e_api_Sample))))))
                (OpJs.cons (OpJ.guarded (by rfl) (OpJ.callFn hB fnOk15 (exchangepointref37_Same_ac r39.1 r2.1 r58 hr58) [] (by kernel_rfl) (ltN hN rfl) (by kernel_rfl) (OpdL.cons (Opd.tmp 93 (.d (.list 6 (r39.1.map e_api_Sample)))) (OpdL.cons (Opd.tmp 94 (.d (.list 6 (r2.1.map e_api_Sample)))) OpdL.nil))))
                (OpJs.cons (OpJ.pickT (ltN hN rfl) (Opd.tmp 92 (.d (.bool true))) (Opd.tmp 95 (.d (.bool r58))))
                (OpJs.cons (OpJ.val (v' := .d (.bool false)) (by rw [hg59]) (OpJ.move (ltN hN rfl) (Opd.tmp 96 (.d (.bool r58)))))
                (OpJs.cons (OpJ.skipU (ltN hN rfl) (by rfl))
                (OpJs.cons (OpJ.skipU (ltN hN rfl) (by rfl))
                (OpJs.cons (OpJ.skipU (ltN hN rfl) (by rfl))
                (OpJs.cons (OpJ.pickF (ltN hN rfl) (Opd.tmp 97 (.d (.bool false))) (Opd.bool false))
                (OpJs.cons (OpJ.move (ltN hN rfl) (Opd.tmp 101 (.d (.bool false))))
                (OpJs.cons (OpJ.skipU (ltN hN rfl) (by rfl))
                (OpJs.cons (OpJ.pickF (ltN hN rfl) (Opd.tmp 102 (.d (.bool false))) (Opd.bool false))
                (OpJs.cons (OpJ.assign (ltN hN rfl) (Opd.tmp 104 (.d (.bool false))))
                (OpJs.nil))))))))))))))))))))))))))))))))))))))) (by rfl) (by rfl) ?_
              exact hjj52 _ h _ _ (Mat.trans (Mat.pat [] [(4, (.d (.bool false)))] [] hB (by rfl) (by rfl) (by rfl)) (Mat.pat [] ((fun m51 : Bool => ([(4, (.d (.bool m51)))] : EL)) false) ((fun m51 : Bool => ([] : OL)) false) hB (by rfl) (by rfl) (by rfl)))
          · replace h := ite_f hg57 h
            refine AWp.region (OpJs.cons (OpJ.move (ltN hN rfl) (Opd.tmp 11 (.d (.int .i64 r37.2))))
              (OpJs.cons (OpJ.eqlI (ltN hN rfl) (Opd.tmp 68 (.d (.int .i64 r37.2))) (Opd.int .i64 (0)))
              (OpJs.cons (OpJ.move (ltN hN rfl) (Opd.tmp 69 (.d (.bool (r37.2 == (0 : Int))))))
              (OpJs.cons (OpJ.opt' (v := (.d (.int .i64 r38.2))) (OpJ.move (ltN hN rfl) (Opd.tmp 13 (.d (.int .i64 r38.2)))) (by rfl) (GuardV.plain _) (ltN hN rfl) (by rfl) (by rfl) (by rfl) (by rfl) (OptL.keep rfl OptL.nil))
              (OpJs.cons (OpJ.opt' (v := (.d (.bool (r38.2 == (0 : Int))))) (OpJ.eqlI (ltN hN rfl) (Opd.tmp 71 (.d (.int .i64 r38.2))) (Opd.int .i64 (0))) (by rfl) (GuardV.plain _) (ltN hN rfl) (by rfl) (by rfl) (by rfl) (by rfl) (OptL.opt OptL.nil))
              (OpJs.cons (OpJ.pickAnd rfl (ltN hN rfl) (Opd.tmp 70 (.d (.bool (r37.2 == (0 : Int))))) (Opd.tmp 72 (.opt ((r37.2 == (0 : Int)) == true) (.d (.bool (r38.2 == (0 : Int)))))))
              (OpJs.cons (OpJ.move (ltN hN rfl) (Opd.tmp 73 (.d (.bool ((r37.2 == (0 : Int)) && (r38.2 == (0 : Int)))))))
              (OpJs.cons (OpJ.opt' (v := (.d (.int .i64 r39.2))) (OpJ.move (ltN hN rfl) (Opd.tmp 15 (.d (.int .i64 r39.2)))) (by rfl) (GuardV.plain _) (ltN hN rfl) (by rfl) (by rfl) (by rfl) (by rfl) (OptL.keep rfl OptL.nil))
              (OpJs.cons (OpJ.opt' (v := (.d (.bool (r39.2 == (0 : Int))))) (OpJ.eqlI (ltN hN rfl) (Opd.tmp 75 (.d (.int .i64 r39.2))) (Opd.int .i64 (0))) (by rfl) (GuardV.plain _) (ltN hN rfl) (by rfl) (by rfl) (by rfl) (by rfl) (OptL.opt OptL.nil))
              (OpJs.cons (OpJ.pickAnd rfl (ltN hN rfl) (Opd.tmp 74 (.d (.bool ((r37.2 == (0 : Int)) && (r38.2 == (0 : Int)))))) (Opd.tmp 76 (.opt (((r37.2 == (0 : Int)) && (r38.2 == (0 : Int))) == true) (.d (.bool (r39.2 == (0 : Int)))))))
              (OpJs.cons (OpJ.move (ltN hN rfl) (Opd.tmp 77 (.d (.bool (((r37.2 == (0 : Int)) && (r38.2 == (0 : Int))) && (r39.2 == (0 : Int)))))))
              (OpJs.cons (OpJ.opt' (v := (.d (.int .i64 r40.2))) (OpJ.move (ltN hN rfl) (Opd.tmp 17 (.d (.int .i64 r40.2)))) (by rfl) (GuardV.plain _) (ltN hN rfl) (by rfl) (by rfl) (by rfl) (by rfl) (OptL.keep rfl OptL.nil))
              (OpJs.cons (OpJ.opt' (v := (.d (.bool (r40.2 == (0 : Int))))) (OpJ.eqlI (ltN hN rfl) (Opd.tmp 79 (.d (.int .i64 r40.2))) (Opd.int .i64 (0))) (by rfl) (GuardV.plain _) (ltN hN rfl) (by rfl) (by rfl) (by rfl) (by rfl) (OptL.opt OptL.nil))
              (OpJs.cons (OpJ.pickAnd rfl (ltN hN rfl) (Opd.tmp 78 (.d (.bool (((r37.2 == (0 : Int)) && (r38.2 == (0 : Int))) && (r39.2 == (0 : Int)))))) (Opd.tmp 80 (.opt ((((r37.2 == (0 : Int)) && (r38.2 == (0 : Int))) && (r39.2 == (0 : Int))) == true) (.d (.bool (r40.2 == (0 : Int)))))))
              (OpJs.cons (OpJ.val (v' := .d (.bool true)) (by rw [hg53]) (OpJ.move (ltN hN rfl) (Opd.tmp 81 (.d (.bool ((((r37.2 == (0 : Int)) && (r38.2 == (0 : Int))) && (r39.2 == (0 : Int))) && (r40.2 == (0 : Int))))))))
              (OpJs.cons (OpJ.guarded (by rfl) (OpJ.move (ltN hN rfl) (Opd.tmp 10 (.d (.list 6 (r37.1.map e_api_Sample))))))
              (OpJs.cons (OpJ.guarded (by rfl) (OpJ.move (ltN hN rfl) (Opd.tmp 5 (.d (.list 6 (r2.1.map e_api_Sample))))))
              (OpJs.cons (OpJ.guarded (by rfl) (OpJ.callFn hB fnOk15 (exchangepointref37_Same_ac r37.1 r2.1 r54 hr54) [] (by kernel_rfl) (ltN hN rfl) (by kernel_rfl) (OpdL.cons (Opd.tmp 83 (.d (.list 6 (r37.1.map e_api_Sample)))) (OpdL.cons (Opd.tmp 84 (.d (.list 6 (r2.1.map e_api_Sample)))) OpdL.nil))))
              (OpJs.cons (OpJ.pickT (ltN hN rfl) (Opd.tmp 82 (.d (.bool true))) (Opd.tmp 85 (.d (.bool r54))))
              (OpJs.cons (OpJ.val (v' := .d (.bool true)) (by rw [hg55]) (OpJ.move (ltN hN rfl) (Opd.tmp 86 (.d (.bool r54)))))
              (OpJs.cons (OpJ.guarded (by rfl) (OpJ.move (ltN hN rfl) (Opd.tmp 12 (.d (.list 6 (r38.1.map e_api_Sample))))))
              (OpJs.cons (OpJ.guarded (by rfl) (OpJ.move (ltN hN rfl) (Opd.tmp 5 (.d (.list 6 (r2.1.map e_api_Sample))))))
              (OpJs.cons (OpJ.guarded (by rfl) (OpJ.callFn hB fnOk15 (exchangepointref37_Same_ac r38.1 r2.1 r56 hr56) [] (by kernel_rfl) (ltN hN rfl) (by kernel_rfl) (OpdL.cons (Opd.tmp 88 (.d (.list 6 (r38.1.map e_api_Sample)))) (OpdL.cons (Opd.tmp 89 (.d (.list 6 (r2.1.map e_api_Sample)))) OpdL.nil))))
              (OpJs.cons (OpJ.pickT (ltN hN rfl) (Opd.tmp 87 (.d (.bool true))) (Opd.tmp 90 (.d (.bool r56))))
              (OpJs.cons (OpJ.val (v' := .d (.bool false)) (by rw [hg57]) (OpJ.move (ltN hN rfl) (Opd.tmp 91 (.d (.bool r56)))))
              (OpJs.cons (OpJ.skipU (ltN hN rfl) (by rfl))
              (OpJs.cons (OpJ.skipU (ltN hN rfl) (by rfl))
              (OpJs.cons (OpJ.skipU (ltN hN rfl) (by rfl))
              (OpJs.cons (OpJ.pickF (ltN hN rfl) (Opd.tmp 92 (.d (.bool false))) (Opd.bool false))
              (OpJs.cons (OpJ.move (ltN hN rfl) (Opd.tmp 96 (.d (.bool false))))
              (OpJs.cons (OpJ.skipU (ltN hN rfl) (by rfl))
              (OpJs.cons (OpJ.skipU (ltN hN rfl) (by rfl))
              (OpJs.cons (OpJ.skipU (ltN hN rfl) (by rfl))
              (OpJs.cons (OpJ.pickF (ltN hN rfl) (Opd.tmp 97 (.d (.bool false))) (Opd.bool false))
              (OpJs.cons (OpJ.move (ltN hN rfl) (Opd.tmp 101 (.d (.bool false))))
              (OpJs.cons (OpJ.skipU (ltN hN rfl) (by rfl))
              (OpJs.cons (OpJ.pickF (ltN hN rfl) (Opd.tmp 102 (.d (.bool false))) (Opd.bool false))
              (OpJs.cons (OpJ.assign (ltN hN rfl) (Opd.tmp 104 (.d (.bool false))))
              (OpJs.nil))))))))))))))))))))))))))))))))))))))) (by rfl) (by rfl) ?_
            exact hjj52 _ h _ _ (Mat.trans (Mat.pat [] [(4, (.d (.bool false)))] [] hB (by rfl) (by rfl) (by rfl)) (Mat.pat [] ((fun m51 : Bool => ([(4, (.d (.bool m51)))] : EL)) false) ((fun m51 : Bool => ([] : OL)) false) hB (by rfl) (by rfl) (by rfl)))
        · replace h := ite_f hg55 h
          refine AWp.region (OpJs.cons (OpJ.move (ltN hN rfl) (Opd.tmp 11 (.d (.int .i64 r37.2))))
            (OpJs.cons (OpJ.eqlI (ltN hN rfl) (Opd.tmp 68 (.d (.int .i64 r37.2))) (Opd.int .i64 (0)))
            (OpJs.cons (OpJ.move (ltN hN rfl) (Opd.tmp 69 (.d (.bool (r37.2 == (0 : Int))))))
            (OpJs.cons (OpJ.opt' (v := (.d (.int .i64 r38.2))) (OpJ.move (ltN hN rfl) (Opd.tmp 13 (.d (.int .i64 r38.2)))) (by rfl) (GuardV.plain _) (ltN hN rfl) (by rfl) (by rfl) (by rfl) (by rfl) (OptL.keep rfl OptL.nil))
            (OpJs.cons (OpJ.opt' (v := (.d (.bool (r38.2 == (0 : Int))))) (OpJ.eqlI (ltN hN rfl) (Opd.tmp 71 (.d (.int .i64 r38.2))) (Opd.int .i64 (0))) (by rfl) (GuardV.plain _) (ltN hN rfl) (by rfl) (by rfl) (by rfl) (by rfl) (OptL.opt OptL.nil))
            (OpJs.cons (OpJ.pickAnd rfl (ltN hN rfl) (Opd.tmp 70 (.d (.bool (r37.2 == (0 : Int))))) (Opd.tmp 72 (.opt ((r37.2 == (0 : Int)) == true) (.d (.bool (r38.2 == (0 : Int)))))))
            (OpJs.cons (OpJ.move (ltN hN rfl) (Opd.tmp 73 (.d (.bool ((r37.2 == (0 : Int)) && (r38.2 == (0 : Int)))))))
            (OpJs.cons (OpJ.opt' (v := (.d (.int .i64 r39.2))) (OpJ.move (ltN hN rfl) (Opd.tmp 15 (.d (.int .i64 r39.2)))) (by rfl) (GuardV.plain _) (ltN hN rfl) (by rfl) (by rfl) (by rfl) (by rfl) (OptL.keep rfl OptL.nil))
            (OpJs.cons (OpJ.opt' (v := (.d (.bool (r39.2 == (0 : Int))))) (OpJ.eqlI (ltN hN rfl) (Opd.tmp 75 (.d (.int .i64 r39.2))) (Opd.int .i64 (0))) (by rfl) (GuardV.plain _) (ltN hN rfl) (by rfl) (by rfl) (by rfl) (by rfl) (OptL.opt OptL.nil))
            (OpJs.cons (OpJ.pickAnd rfl (ltN hN rfl) (Opd.tmp 74 (.d (.bool ((r37.2 == (0 : Int)) && (r38.2 == (0 : Int)))))) (Opd.tmp 76 (.opt (((r37.2 == (0 : Int)) && (r38.2 == (0 : Int))) == true) (.d (.bool (r39.2 == (0 : Int)))))))
            (OpJs.cons (OpJ.move (ltN hN rfl) (Opd.tmp 77 (.d (.bool (((r37.2 == (0 : Int)) && (r38.2 == (0 : Int))) && (r39.2 == (0 : Int)))))))
            (OpJs.cons (OpJ.opt' (v := (.d (.int .i64 r40.2))) (OpJ.move (ltN hN rfl) (Opd.tmp 17 (.d (.int .i64 r40.2)))) (by rfl) (GuardV.plain _) (ltN hN rfl) (by rfl) (by rfl) (by rfl) (by rfl) (OptL.keep rfl OptL.nil))
            (OpJs.cons (OpJ.opt' (v := (.d (.bool (r40.2 == (0 : Int))))) (OpJ.eqlI (ltN hN rfl) (Opd.tmp 79 (.d (.int .i64 r40.2))) (Opd.int .i64 (0))) (by rfl) (GuardV.plain _) (ltN hN rfl) (by rfl) (by rfl) (by rfl) (by rfl) (OptL.opt OptL.nil))
            (OpJs.cons (OpJ.pickAnd rfl (ltN hN rfl) (Opd.tmp 78 (.d (.bool (((r37.2 == (0 : Int)) && (r38.2 == (0 : Int))) && (r39.2 == (0 : Int)))))) (Opd.tmp 80 (.opt ((((r37.2 == (0 : Int)) && (r38.2 == (0 : Int))) && (r39.2 == (0 : Int))) == true) (.d (.bool (r40.2 == (0 : Int)))))))
            (OpJs.cons (OpJ.val (v' := .d (.bool true)) (by rw [hg53]) (OpJ.move (ltN hN rfl) (Opd.tmp 81 (.d (.bool ((((r37.2 == (0 : Int)) && (r38.2 == (0 : Int))) && (r39.2 == (0 : Int))) && (r40.2 == (0 : Int))))))))
            (OpJs.cons (OpJ.guarded (by rfl) (OpJ.move (ltN hN rfl) (Opd.tmp 10 (.d (.list 6 (r37.1.map e_api_Sample))))))
            (OpJs.cons (OpJ.guarded (by rfl) (OpJ.move (ltN hN rfl) (Opd.tmp 5 (.d (.list 6 (r2.1.map e_api_Sample))))))
            (OpJs.cons (OpJ.guarded (by rfl) (OpJ.callFn hB fnOk15 (exchangepointref37_Same_ac r37.1 r2.1 r54 hr54) [] (by kernel_rfl) (ltN hN rfl) (by kernel_rfl) (OpdL.cons (Opd.tmp 83 (.d (.list 6 (r37.1.map e_api_Sample)))) (OpdL.cons (Opd.tmp 84 (.d (.list 6 (r2.1.map e_api_Sample)))) OpdL.nil))))
            (OpJs.cons (OpJ.pickT (ltN hN rfl) (Opd.tmp 82 (.d (.bool true))) (Opd.tmp 85 (.d (.bool r54))))
            (OpJs.cons (OpJ.val (v' := .d (.bool false)) (by rw [hg55]) (OpJ.move (ltN hN rfl) (Opd.tmp 86 (.d (.bool r54)))))
            (OpJs.cons (OpJ.skipU (ltN hN rfl) (by rfl))
            (OpJs.cons (OpJ.skipU (ltN hN rfl) (by rfl))
            (OpJs.cons (OpJ.skipU (ltN hN rfl) (by rfl))
            (OpJs.cons (OpJ.pickF (ltN hN rfl) (Opd.tmp 87 (.d (.bool false))) (Opd.bool false))
            (OpJs.cons (OpJ.move (ltN hN rfl) (Opd.tmp 91 (.d (.bool false))))
            (OpJs.cons (OpJ.skipU (ltN hN rfl) (by rfl))
            (OpJs.cons (OpJ.skipU (ltN hN rfl) (by rfl))
            (OpJs.cons (OpJ.skipU (ltN hN rfl) (by rfl))
            (OpJs.cons (OpJ.pickF (ltN hN rfl) (Opd.tmp 92 (.d (.bool false))) (Opd.bool false))
            (OpJs.cons (OpJ.move (ltN hN rfl) (Opd.tmp 96 (.d (.bool false))))
            (OpJs.cons (OpJ.skipU (ltN hN rfl) (by rfl))
            (OpJs.cons (OpJ.skipU (ltN hN rfl) (by rfl))
            (OpJs.cons (OpJ.skipU (ltN hN rfl) (by rfl))
            (OpJs.cons (OpJ.pickF (ltN hN rfl) (Opd.tmp 97 (.d (.bool false))) (Opd.bool false))
            (OpJs.cons (OpJ.move (ltN hN rfl) (Opd.tmp 101 (.d (.bool false))))
            (OpJs.cons (OpJ.skipU (ltN hN rfl) (by rfl))
            (OpJs.cons (OpJ.pickF (ltN hN rfl) (Opd.tmp 102 (.d (.bool false))) (Opd.bool false))
            (OpJs.cons (OpJ.assign (ltN hN rfl) (Opd.tmp 104 (.d (.bool false))))
            (OpJs.nil))))))))))))))))))))))))))))))))))))))) (by rfl) (by rfl) ?_
          exact hjj52 _ h _ _ (Mat.trans (Mat.pat [] [(4, (.d (.bool false)))] [] hB (by rfl) (by rfl) (by rfl)) (Mat.pat [] ((fun m51 : Bool => ([(4, (.d (.bool m51)))] : EL)) false) ((fun m51 : Bool => ([] : OL)) false) hB (by rfl) (by rfl) (by rfl)))
      · replace h := ite_f hg53 h
        refine AWp.region (OpJs.cons (OpJ.move (ltN hN rfl) (Opd.tmp 11 (.d (.int .i64 r37.2))))
          (OpJs.cons (OpJ.eqlI (ltN hN rfl) (Opd.tmp 68 (.d (.int .i64 r37.2))) (Opd.int .i64 (0)))
          (OpJs.cons (OpJ.move (ltN hN rfl) (Opd.tmp 69 (.d (.bool (r37.2 == (0 : Int))))))
          (OpJs.cons (OpJ.opt' (v := (.d (.int .i64 r38.2))) (OpJ.move (ltN hN rfl) (Opd.tmp 13 (.d (.int .i64 r38.2)))) (by rfl) (GuardV.plain _) (ltN hN rfl) (by rfl) (by rfl) (by rfl) (by rfl) (OptL.keep rfl OptL.nil))
          (OpJs.cons (OpJ.opt' (v := (.d (.bool (r38.2 == (0 : Int))))) (OpJ.eqlI (ltN hN rfl) (Opd.tmp 71 (.d (.int .i64 r38.2))) (Opd.int .i64 (0))) (by rfl) (GuardV.plain _) (ltN hN rfl) (by rfl) (by rfl) (by rfl) (by rfl) (OptL.opt OptL.nil))
          (OpJs.cons (OpJ.pickAnd rfl (ltN hN rfl) (Opd.tmp 70 (.d (.bool (r37.2 == (0 : Int))))) (Opd.tmp 72 (.opt ((r37.2 == (0 : Int)) == true) (.d (.bool (r38.2 == (0 : Int)))))))
          (OpJs.cons (OpJ.move (ltN hN rfl) (Opd.tmp 73 (.d (.bool ((r37.2 == (0 : Int)) && (r38.2 == (0 : Int)))))))
          (OpJs.cons (OpJ.opt' (v := (.d (.int .i64 r39.2))) (OpJ.move (ltN hN rfl) (Opd.tmp 15 (.d (.int .i64 r39.2)))) (by rfl) (GuardV.plain _) (ltN hN rfl) (by rfl) (by rfl) (by rfl) (by rfl) (OptL.keep rfl OptL.nil))
          (OpJs.cons (OpJ.opt' (v := (.d (.bool (r39.2 == (0 : Int))))) (OpJ.eqlI (ltN hN rfl) (Opd.tmp 75 (.d (.int .i64 r39.2))) (Opd.int .i64 (0))) (by rfl) (GuardV.plain _) (ltN hN rfl) (by rfl) (by rfl) (by rfl) (by rfl) (OptL.opt OptL.nil))
          (OpJs.cons (OpJ.pickAnd rfl (ltN hN rfl) (Opd.tmp 74 (.d (.bool ((r37.2 == (0 : Int)) && (r38.2 == (0 : Int)))))) (Opd.tmp 76 (.opt (((r37.2 == (0 : Int)) && (r38.2 == (0 : Int))) == true) (.d (.bool (r39.2 == (0 : Int)))))))
          (OpJs.cons (OpJ.move (ltN hN rfl) (Opd.tmp 77 (.d (.bool (((r37.2 == (0 : Int)) && (r38.2 == (0 : Int))) && (r39.2 == (0 : Int)))))))
          (OpJs.cons (OpJ.opt' (v := (.d (.int .i64 r40.2))) (OpJ.move (ltN hN rfl) (Opd.tmp 17 (.d (.int .i64 r40.2)))) (by rfl) (GuardV.plain _) (ltN hN rfl) (by rfl) (by rfl) (by rfl) (by rfl) (OptL.keep rfl OptL.nil))
          (OpJs.cons (OpJ.opt' (v := (.d (.bool (r40.2 == (0 : Int))))) (OpJ.eqlI (ltN hN rfl) (Opd.tmp 79 (.d (.int .i64 r40.2))) (Opd.int .i64 (0))) (by rfl) (GuardV.plain _) (ltN hN rfl) (by rfl) (by rfl) (by rfl) (by rfl) (OptL.opt OptL.nil))
          (OpJs.cons (OpJ.pickAnd rfl (ltN hN rfl) (Opd.tmp 78 (.d (.bool (((r37.2 == (0 : Int)) && (r38.2 == (0 : Int))) && (r39.2 == (0 : Int)))))) (Opd.tmp 80 (.opt ((((r37.2 == (0 : Int)) && (r38.2 == (0 : Int))) && (r39.2 == (0 : Int))) == true) (.d (.bool (r40.2 == (0 : Int)))))))
          (OpJs.cons (OpJ.val (v' := .d (.bool false)) (by rw [hg53]) (OpJ.move (ltN hN rfl) (Opd.tmp 81 (.d (.bool ((((r37.2 == (0 : Int)) && (r38.2 == (0 : Int))) && (r39.2 == (0 : Int))) && (r40.2 == (0 : Int))))))))
          (OpJs.cons (OpJ.skipU (ltN hN rfl) (by rfl))
          (OpJs.cons (OpJ.skipU (ltN hN rfl) (by rfl))
          (OpJs.cons (OpJ.skipU (ltN hN rfl) (by rfl))
          (OpJs.cons (OpJ.pickF (ltN hN rfl) (Opd.tmp 82 (.d (.bool false))) (Opd.bool false))
          (OpJs.cons (OpJ.move (ltN hN rfl) (Opd.tmp 86 (.d (.bool false))))
          (OpJs.cons (OpJ.skipU (ltN hN rfl) (by rfl))
          (OpJs.cons (OpJ.skipU (ltN hN rfl) (by rfl))
          (OpJs.cons (OpJ.skipU (ltN hN rfl) (by rfl))
          (OpJs.cons (OpJ.pickF (ltN hN rfl) (Opd.tmp 87 (.d (.bool false))) (Opd.bool false))
          (OpJs.cons (OpJ.move (ltN hN rfl) (Opd.tmp 91 (.d (.bool false))))
          (OpJs.cons (OpJ.skipU (ltN hN rfl) (by rfl))
          (OpJs.cons (OpJ.skipU (ltN hN rfl) (by rfl))
          (OpJs.cons (OpJ.skipU (ltN hN rfl) (by rfl))
          (OpJs.cons (OpJ.pickF (ltN hN rfl) (Opd.tmp 92 (.d (.bool false))) (Opd.bool false))
          (OpJs.cons (OpJ.move (ltN hN rfl) (Opd.tmp 96 (.d (.bool false))))
          (OpJs.cons (OpJ.skipU (ltN hN rfl) (by rfl))
          (OpJs.cons (OpJ.skipU (ltN hN rfl) (by rfl))
          (OpJs.cons (OpJ.skipU (ltN hN rfl) (by rfl))
          (OpJs.cons (OpJ.pickF (ltN hN rfl) (Opd.tmp 97 (.d (.bool false))) (Opd.bool false))
          (OpJs.cons (OpJ.move (ltN hN rfl) (Opd.tmp 101 (.d (.bool false))))
          (OpJs.cons (OpJ.skipU (ltN hN rfl) (by rfl))
          (OpJs.cons (OpJ.pickF (ltN hN rfl) (Opd.tmp 102 (.d (.bool false))) (Opd.bool false))
          (OpJs.cons (OpJ.assign (ltN hN rfl) (Opd.tmp 104 (.d (.bool false))))
          (OpJs.nil))))))))))))))))))))))))))))))))))))))) (by rfl) (by rfl) ?_
        exact hjj52 _ h _ _ (Mat.trans (Mat.pat [] [(4, (.d (.bool false)))] [] hB (by rfl) (by rfl) (by rfl)) (Mat.pat [] ((fun m51 : Bool => ([(4, (.d (.bool m51)))] : EL)) false) ((fun m51 : Bool => ([] : OL)) false) hB (by rfl) (by rfl) (by rfl)))


end Go.Proofs.Ytdjdoeengjdmmaa
