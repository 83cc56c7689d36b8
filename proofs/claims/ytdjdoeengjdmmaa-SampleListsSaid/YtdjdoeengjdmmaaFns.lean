/- Printed by gen.py: the Go functions as plain functions, and that the code does what they say. -/
import Derived.Test.YtdjdoeengjdmmaaChecked
import Derived.Test.YtdjdoeengjdmmaaVcR
import Derived.KernelRfl
import Derived.Test.YtdjdoeengjdmmaaFnsC
namespace Go.Proofs.Ytdjdoeengjdmmaa
open Go Go.Vc
noncomputable def exchangepointlaw37_SampleLists_L0 (a2 : Int) (a3 : Int) (r4 : (List api_Sample) × exchangepointmill_Deck) (s5 : Int × (List api_Sample) × (List api_Sample)) : Option ((((List api_Sample) × (List api_Sample))) ⊕ (Int × (List api_Sample) × (List api_Sample))) :=
  (if (decide (s5.1 < (r4.1.length : Int))) = true then
  (idx r4.1 s5.1).bind fun x36 =>
  jn (fun m39 : (List api_Sample) =>
  jn (fun m43 : (List api_Sample) =>
  some (.inr ((w64 (s5.1 + (1 : Int))), m43, m39))) (fun j44 =>
  (if ((bitI .and .i64 (shrI .i64 a3 (IntKind.u64.wrap (Int.tmod s5.1 (60 : Int)))) (1 : Int)) == (0 : Int)) = true then
  chk (decide ((s5.2.1 ++ ([x36] : List api_Sample)).length ≤ LIM)) <|
  j44 (s5.2.1 ++ ([x36] : List api_Sample))
  else
  j44 s5.2.1))) (fun j40 =>
  (if ((bitI .and .i64 (shrI .i64 a2 (IntKind.u64.wrap (Int.tmod s5.1 (60 : Int)))) (1 : Int)) == (1 : Int)) = true then
  chk (decide ((s5.2.2 ++ ([x36] : List api_Sample)).length ≤ LIM)) <|
  j40 (s5.2.2 ++ ([x36] : List api_Sample))
  else
  j40 s5.2.2))
  else
  some (.inl (s5.2.1, s5.2.2)))
noncomputable def exchangepointlaw37_SampleLists_L2 (a0 : (List api_Sample)) (r4 : (List api_Sample) × exchangepointmill_Deck) (p34 : (List api_Sample) × (List api_Sample)) (m74 : (List api_Sample)) (x264 : (List api_Sample)) (s295 : Int) : Option (((Unit) ⊕ (Unit)) ⊕ (Int)) :=
  (if (decide (s295 < (([a0, r4.1, p34.2, p34.1, m74] : List (List api_Sample)).length : Int))) = true then
  (idx ([a0, r4.1, p34.2, p34.1, m74] : List (List api_Sample)) s295).bind fun x321 =>
  (sample_Merge x264 x321).bind fun r322 =>
  (exchangepointref37_Merge x264 x321).bind fun r323 =>
  jn (fun m326 : Bool =>
  (if m326 = true then
  some (.inl (.inl ()))
  else
  some (.inr (w64 (s295 + (1 : Int)))))) (fun j327 =>
  (if (r322.2 != r323.2) = true then
  j327 true
  else
  (exchangepointref37_Same r322.1 r323.1).bind fun r330 =>
  j327 (!r330)))
  else
  some (.inl (.inr ())))
noncomputable def exchangepointlaw37_SampleLists_L1 (a0 : (List api_Sample)) (a4 : Int) (a5 : Int) (r4 : (List api_Sample) × exchangepointmill_Deck) (p34 : (List api_Sample) × (List api_Sample)) (m74 : (List api_Sample)) (s76 : Int) : Option (((Unit) ⊕ (Unit)) ⊕ (Int)) :=
  (if (decide (s76 < (([a0, r4.1, p34.2, p34.1, m74] : List (List api_Sample)).length : Int))) = true then
  (idx ([a0, r4.1, p34.2, p34.1, m74] : List (List api_Sample)) s76).bind fun x264 =>
  jn (fun m281 : Bool =>
  (if m281 = true then
  some (.inl (.inl ()))
  else
  jn (fun m292 : Bool =>
  (if m292 = true then
  some (.inl (.inl ()))
  else
  (loop (exchangepointlaw37_SampleLists_L2 a0 r4 p34 m74 x264) (0 : Int)).bind fun x331 => match x331 with
  | (.inl _) =>
    some (.inl (.inl ()))
  | (.inr _) =>
    some (.inr (w64 (s76 + (1 : Int)))))) (fun j293 =>
  (exchangepointref37_Valid x264).bind fun r333 =>
  (if r333 = true then
  (sample_Lost x264).bind fun r335 =>
  (exchangepointref37_Lost x264).bind fun r336 =>
  (if (r335 != r336) = true then
  j293 true
  else
  (sample_Span x264).bind fun r338 =>
  (exchangepointref37_Span x264).bind fun r339 =>
  j293 (r338 != r339))
  else
  j293 false)))) (fun j282 =>
  (sample_Valid x264).bind fun r340 =>
  (exchangepointref37_Valid x264).bind fun r341 =>
  (if (r340 != r341) = true then
  j282 true
  else
  (sample_Between x264 a4 a5).bind fun r343 =>
  (exchangepointref37_Between x264 a4 a5).bind fun r344 =>
  (exchangepointref37_Same r343 r344).bind fun r345 =>
  (if (!r345) = true then
  j282 true
  else
  (exchangepointmill_Mod a4 (150 : Int)).bind fun r347 =>
  (exchangepointmill_Mod a5 (150 : Int)).bind fun r348 =>
  (sample_Between x264 r347 r348).bind fun r349 =>
  (exchangepointmill_Mod a4 (150 : Int)).bind fun r350 =>
  (exchangepointmill_Mod a5 (150 : Int)).bind fun r351 =>
  (exchangepointref37_Between x264 r350 r351).bind fun r352 =>
  (exchangepointref37_Same r349 r352).bind fun r353 =>
  j282 (!r353))))
  else
  some (.inl (.inr ())))
noncomputable def exchangepointlaw37_SampleLists (a0 : (List api_Sample)) (a1 : (List Int)) (a2 : Int) (a3 : Int) (a4 : Int) (a5 : Int) : Option (Bool) :=
  (if (decide ((300 : Int) < (a0.length : Int))) = true then
  (exchangepointlaw37_awake).bind fun r2 =>
  some r2
  else
  (exchangepointmill_New a1).bind fun r3 =>
  (exchangepointmill_Deck_Samples r3).bind fun r4 =>
  (loop (exchangepointlaw37_SampleLists_L0 a2 a3 r4) ((0 : Int), ([] : List api_Sample), ([] : List api_Sample))).bind fun p34 =>
  chk (decide (r4.1.length ≤ LIM)) <|
  jn (fun m74 : (List api_Sample) =>
  (loop (exchangepointlaw37_SampleLists_L1 a0 a4 a5 r4 p34 m74) (0 : Int)).bind fun x354 => match x354 with
  | (.inl _) =>
    some false
  | (.inr _) =>
    (exchangepointlaw37_awake).bind fun r356 =>
    some r356) (fun j75 =>
  (if (decide ((0 : Int) < (r4.1.length : Int))) = true then
  (exchangepointmill_Mod a3 (r4.1.length : Int)).bind fun r358 =>
  (idx r4.1 r358).bind fun x359 =>
  (exchangepointmill_Mod a2 (5 : Int)).bind fun r360 =>
  (if (r360 == (0 : Int)) = true then
  (idx r4.1 r358).bind fun x362 =>
  (exchangepointmill_Mod a4 (5 : Int)).bind fun r363 =>
  (idx r4.1 r358).bind fun x364 =>
  j75 (r4.1.set r358.toNat (api_Sample.mk x364.fTick (w64 (x362.fSeq + (w64 (r363 - (2 : Int))))) x364.fPool x364.fIn x364.fOut x364.fBytes))
  else
  (if (r360 == (1 : Int)) = true then
  (idx r4.1 r358).bind fun x366 =>
  (exchangepointmill_Mod a4 (5 : Int)).bind fun r367 =>
  (idx r4.1 r358).bind fun x368 =>
  j75 (r4.1.set r358.toNat (api_Sample.mk x368.fTick x368.fSeq (w64 (x366.fPool - r367)) x368.fIn x368.fOut x368.fBytes))
  else
  (if (r360 == (2 : Int)) = true then
  (idx r4.1 r358).bind fun x370 =>
  (exchangepointmill_Mod a4 (9 : Int)).bind fun r371 =>
  (idx r4.1 r358).bind fun x372 =>
  j75 (r4.1.set r358.toNat (api_Sample.mk (w64 (x370.fTick - r371)) x372.fSeq x372.fPool x372.fIn x372.fOut x372.fBytes))
  else
  (if (r360 == (3 : Int)) = true then
  (exchangepointmill_Mod a4 (1002 : Int)).bind fun r374 =>
  (idx r4.1 r358).bind fun x375 =>
  j75 (r4.1.set r358.toNat (api_Sample.mk x375.fTick x375.fSeq x375.fPool x375.fIn (w64 (r374 - (1 : Int))) x375.fBytes))
  else
  (if (r360 == (4 : Int)) = true then
  (idx r4.1 r358).bind fun x377 =>
  (idx r4.1 r358).bind fun x378 =>
  j75 (r4.1.set r358.toNat (api_Sample.mk x378.fTick x378.fSeq x378.fPool x378.fIn x378.fOut (w64 (x377.fBytes + (1 : Int)))))
  else
  j75 r4.1)))))
  else
  j75 r4.1)))
set_option maxHeartbeats 4000000 in
set_option maxRecDepth 100000 in
theorem exchangepointlaw37_SampleLists_ac (a0 : (List api_Sample)) (a1 : (List Int)) (a2 : Int) (a3 : Int) (a4 : Int) (a5 : Int) (r : Bool) (h : exchangepointlaw37_SampleLists a0 a1 a2 a3 a4 a5 = some r) : AC Try.prog 6 [(.d (.list 6 (a0.map e_api_Sample))), (.d (.list 1 (a1.map (eI .i64)))), (.d (.int .i64 a2)), (.d (.int .i64 a3)), (.d (.int .i64 a4)), (.d (.int .i64 a5))] [] (.d (.bool r)) [] := by
  refine AC.of_code2 Try.func6 rfl rfl (Nat.le_of_ble_eq_true (by rfl)) fun B hB hN => ?_
  delta exchangepointlaw37_SampleLists at h
  refine AWp.seq ?_
  refine AWp.region (OpJs.cons (OpJ.assign (ltN hN rfl) (Opd.bool false))
  (OpJs.nil)) (by rfl) (by rfl) ?_
  refine seqQ_n ?_
  refine AWp.ghost (Mat.pat [] [(0, (.d (.list 6 (a0.map e_api_Sample)))), (1, (.d (.list 1 (a1.map (eI .i64))))), (2, (.d (.int .i64 a2))), (3, (.d (.int .i64 a3))), (4, (.d (.int .i64 a4))), (5, (.d (.int .i64 a5)))] [] hB (by rfl) (by rfl) (by rfl)) ?_
  refine AWp.seq ?_
  refine AWp.seq ?_
  refine AWp.region (OpJs.cons (OpJ.move (ltN hN rfl) (Opd.tmp 0 (.d (.list 6 (a0.map e_api_Sample)))))
  (OpJs.cons (OpJ.val (v' := (.d (.int .i64 (a0.length : Int)))) (by simp) (OpJ.lenD Try.underlying31 (ltN hN rfl) (Opd.tmp 30 (.d (.list 6 (a0.map e_api_Sample))))))
  (OpJs.cons (OpJ.gtr (ltN hN rfl) (Opd.tmp 31 (.d (.int .i64 (a0.length : Int)))) (Opd.int .i64 (300)))
  (OpJs.nil)))) (by rfl) (by rfl) ?_
  refine seqQ_n ?_
  refine AWp.ghost (Mat.pat [] [(0, (.d (.list 6 (a0.map e_api_Sample)))), (1, (.d (.list 1 (a1.map (eI .i64))))), (2, (.d (.int .i64 a2))), (3, (.d (.int .i64 a3))), (4, (.d (.int .i64 a4))), (5, (.d (.int .i64 a5))), (32, (.d (.bool (decide ((300 : Int) < (a0.length : Int))))))] [] hB (by rfl) (by rfl) (by rfl)) ?_
  refine AWp.cond (b := (decide ((300 : Int) < (a0.length : Int)))) (by rfl) (fun hg1 => ?_) (fun hg1 => ?_)
  · replace h := ite_t hg1 h
    refine AWp.seq ?_
    obtain ⟨r2, hr2, h⟩ := bindS h
    refine AWp.region (OpJs.cons (OpJ.callFn hB fnOk11 (exchangepointlaw37_awake_ac  r2 hr2) [] (by kernel_rfl) (ltN hN rfl) (by kernel_rfl) OpdL.nil)
      (OpJs.cons (OpJ.assign (ltN hN rfl) (Opd.tmp 33 (.d (.bool r2))))
      (OpJs.nil))) (by rfl) (by rfl) ?_
    refine seqQ_n ?_
    refine AWp.ghost (Mat.pat [] [(12, (.d (.bool r2)))] [] hB (by rfl) (by rfl) (by rfl)) ?_
    refine AWp.ret ?_
    refine seqQ_r ?_
    obtain rfl := Option.some.inj h
    exact ⟨.inl rfl, _, _, (Mat.pat [] [(12, (.d (.bool r2)))] [] hB (by rfl) (by rfl) (by rfl)), [(.d (.bool r2))], (Res.tmp (by rfl) (by rfl) Res.nil), rfl, by rfl, by rfl, by rfl⟩
  · replace h := ite_f hg1 h
    refine AWp.skip ?_
    refine seqQ_n ?_
    refine AWp.seq ?_
    obtain ⟨r3, hr3, h⟩ := bindS h
    refine AWp.region (OpJs.cons (OpJ.move (ltN hN rfl) (Opd.tmp 1 (.d (.list 1 (a1.map (eI .i64))))))
      (OpJs.cons (OpJ.callFn hB fnOk12 (exchangepointmill_New_ac a1 r3 hr3) [(1005, 100350)] (by kernel_rfl) (ltN hN rfl) (by kernel_rfl) (OpdL.cons (Opd.tmp 34 (.d (.list 1 (a1.map (eI .i64))))) OpdL.nil))
      (OpJs.cons (OpJ.assign (ltN hN rfl) (Opd.tmp 35 (.ptr 100350 0 [])))
      (OpJs.nil)))) (by rfl) (by rfl) ?_
    refine seqQ_n ?_
    refine AWp.ghost (Mat.pat [] [(0, (.d (.list 6 (a0.map e_api_Sample)))), (2, (.d (.int .i64 a2))), (3, (.d (.int .i64 a3))), (4, (.d (.int .i64 a4))), (5, (.d (.int .i64 a5))), (13, (.ptr 100350 0 []))] [(100350, some (.box 49 (.d (e_exchangepointmill_Deck r3))))] hB (by rfl) (by rfl) (by rfl)) ?_
    refine AWp.seq ?_
    obtain ⟨r4, hr4, h⟩ := bindS h
    refine AWp.region (OpJs.cons (OpJ.move (ltN hN rfl) (Opd.tmp 13 (.ptr 100350 0 [])))
      (OpJs.cons (OpJ.callFn hB fnOk13 (exchangepointmill_Deck_Samples_ac r3 r4 hr4) [(0, 100350)] (by kernel_rfl) (ltN hN rfl) (by kernel_rfl) (OpdL.cons (Opd.tmp 36 (.ptr 100350 0 [])) OpdL.nil))
      (OpJs.cons (OpJ.assign (ltN hN rfl) (Opd.tmp 37 (.d (.list 6 (r4.1.map e_api_Sample)))))
      (OpJs.nil)))) (by rfl) (by rfl) ?_
    refine seqQ_n ?_
    refine AWp.ghost (Mat.pat [] [(0, (.d (.list 6 (a0.map e_api_Sample)))), (2, (.d (.int .i64 a2))), (3, (.d (.int .i64 a3))), (4, (.d (.int .i64 a4))), (5, (.d (.int .i64 a5))), (14, (.d (.list 6 (r4.1.map e_api_Sample))))] [] hB (by rfl) (by rfl) (by rfl)) ?_
    refine AWp.seq ?_
    refine AWp.region (OpJs.cons (OpJ.assign (ltN hN rfl) Opd.nils)
      (OpJs.cons (OpJ.assign (ltN hN rfl) Opd.nils)
      (OpJs.nil))) (by rfl) (by rfl) ?_
    refine seqQ_n ?_
    refine AWp.ghost (Mat.pat [] [(0, (.d (.list 6 (a0.map e_api_Sample)))), (2, (.d (.int .i64 a2))), (3, (.d (.int .i64 a3))), (4, (.d (.int .i64 a4))), (5, (.d (.int .i64 a5))), (14, (.d (.list 6 (r4.1.map e_api_Sample)))), (15, .nils), (16, .nils)] [] hB (by rfl) (by rfl) (by rfl)) ?_
    refine AWp.seq ?_
    refine AWp.seq ?_
    refine AWp.region (OpJs.cons (OpJ.move (ltN hN rfl) (Opd.tmp 14 (.d (.list 6 (r4.1.map e_api_Sample)))))
      (OpJs.cons (OpJ.val (v' := (.d (.int .i64 (r4.1.length : Int)))) (by simp) (OpJ.lenD Try.underlying31 (ltN hN rfl) (Opd.tmp 38 (.d (.list 6 (r4.1.map e_api_Sample))))))
      (OpJs.cons (OpJ.move (ltN hN rfl) (Opd.int .i64 (0)))
      (OpJs.nil)))) (by rfl) (by rfl) ?_
    refine seqQ_n ?_
    refine AWp.ghost (Mat.pat [] [(0, (.d (.list 6 (a0.map e_api_Sample)))), (2, (.d (.int .i64 a2))), (3, (.d (.int .i64 a3))), (4, (.d (.int .i64 a4))), (5, (.d (.int .i64 a5))), (14, (.d (.list 6 (r4.1.map e_api_Sample)))), (15, .nils), (16, .nils), (38, (.d (.list 6 (r4.1.map e_api_Sample)))), (39, (.d (.int .i64 (r4.1.length : Int)))), (40, (.d (.int .i64 (0 : Int))))] [] hB (by rfl) (by rfl) (by rfl)) ?_
    refine AWp.block ?_
    obtain ⟨p34, hx50, h⟩ := bindS h
    refine AWp.ghost (Mat.trans (Mat.begin (n := 3015) (e := 36) (sz := 6) (k := 15) hB (by decide) (by rfl) (by decide) (by rfl)) (Mat.trans (Mat.begin (n := 3016) (e := 36) (sz := 6) (k := 16) hB (by decide) (by rfl) (by decide) (by rfl)) (Mat.pat [] ((fun s5 : Int × (List api_Sample) × (List api_Sample) => ([(0, (.d (.list 6 (a0.map e_api_Sample)))), (2, (.d (.int .i64 a2))), (3, (.d (.int .i64 a3))), (4, (.d (.int .i64 a4))), (5, (.d (.int .i64 a5))), (14, (.d (.list 6 (r4.1.map e_api_Sample)))), (15, (.sref 3015 6 0 s5.2.2.length)), (16, (.sref 3016 6 0 s5.2.1.length)), (38, (.d (.list 6 (r4.1.map e_api_Sample)))), (39, (.d (.int .i64 (r4.1.length : Int)))), (40, (.d (.int .i64 s5.1)))] : EL)) ((0 : Int), ([] : List api_Sample), ([] : List api_Sample))) ((fun s5 : Int × (List api_Sample) × (List api_Sample) => ([(3015, some (.row 36 6 (s5.2.2.map e_api_Sample))), (3016, some (.row 36 6 (s5.2.1.map e_api_Sample)))] : OL)) ((0 : Int), ([] : List api_Sample), ([] : List api_Sample))) hB (by rfl) (by rfl) (by rfl)))) ?_
    refine AWp.loopS (exchangepointlaw37_SampleLists_L0 a2 a3 r4) (fun s5 : Int × (List api_Sample) × (List api_Sample) => ([(0, (.d (.list 6 (a0.map e_api_Sample)))), (2, (.d (.int .i64 a2))), (3, (.d (.int .i64 a3))), (4, (.d (.int .i64 a4))), (5, (.d (.int .i64 a5))), (14, (.d (.list 6 (r4.1.map e_api_Sample)))), (15, (.sref 3015 6 0 s5.2.2.length)), (16, (.sref 3016 6 0 s5.2.1.length)), (38, (.d (.list 6 (r4.1.map e_api_Sample)))), (39, (.d (.int .i64 (r4.1.length : Int)))), (40, (.d (.int .i64 s5.1)))] : EL)) (fun s5 : Int × (List api_Sample) × (List api_Sample) => ([(3015, some (.row 36 6 (s5.2.2.map e_api_Sample))), (3016, some (.row 36 6 (s5.2.1.map e_api_Sample)))] : OL)) (fun (p34 : ((List api_Sample) × (List api_Sample))) e E' O' => e = .exit 0 ∧ Mat B E' O' ([(0, (.d (.list 6 (a0.map e_api_Sample)))), (2, (.d (.int .i64 a2))), (3, (.d (.int .i64 a3))), (4, (.d (.int .i64 a4))), (5, (.d (.int .i64 a5))), (14, (.d (.list 6 (r4.1.map e_api_Sample)))), (15, (.sref 3015 6 0 p34.2.length)), (16, (.sref 3016 6 0 p34.1.length))] : EL) ([(3015, some (.row 36 6 (p34.2.map e_api_Sample))), (3016, some (.row 36 6 (p34.1.map e_api_Sample)))] : OL)) hx50 (fun s5 y h => ?_) (fun e E' O' hR => ?_)
    · unfold exchangepointlaw37_SampleLists_L0 at h
      show AWp _ _ _ _ ([(0, (.d (.list 6 (a0.map e_api_Sample)))), (2, (.d (.int .i64 a2))), (3, (.d (.int .i64 a3))), (4, (.d (.int .i64 a4))), (5, (.d (.int .i64 a5))), (14, (.d (.list 6 (r4.1.map e_api_Sample)))), (15, (.sref 3015 6 0 s5.2.2.length)), (16, (.sref 3016 6 0 s5.2.1.length)), (38, (.d (.list 6 (r4.1.map e_api_Sample)))), (39, (.d (.int .i64 (r4.1.length : Int)))), (40, (.d (.int .i64 s5.1)))] : EL) ([(3015, some (.row 36 6 (s5.2.2.map e_api_Sample))), (3016, some (.row 36 6 (s5.2.1.map e_api_Sample)))] : OL)
      refine AWp.seq ?_
      refine AWp.region (OpJs.cons (OpJ.lss (ltN hN rfl) (Opd.tmp 40 (.d (.int .i64 s5.1))) (Opd.tmp 39 (.d (.int .i64 (r4.1.length : Int)))))
        (OpJs.nil)) (by rfl) (by rfl) ?_
      refine seqQ_n ?_
      refine AWp.ghost (Mat.pat [] [(0, (.d (.list 6 (a0.map e_api_Sample)))), (2, (.d (.int .i64 a2))), (3, (.d (.int .i64 a3))), (4, (.d (.int .i64 a4))), (5, (.d (.int .i64 a5))), (14, (.d (.list 6 (r4.1.map e_api_Sample)))), (15, (.sref 3015 6 0 s5.2.2.length)), (16, (.sref 3016 6 0 s5.2.1.length)), (38, (.d (.list 6 (r4.1.map e_api_Sample)))), (39, (.d (.int .i64 (r4.1.length : Int)))), (40, (.d (.int .i64 s5.1))), (41, (.d (.bool (decide (s5.1 < (r4.1.length : Int))))))] [(3015, some (.row 36 6 (s5.2.2.map e_api_Sample))), (3016, some (.row 36 6 (s5.2.1.map e_api_Sample)))] hB (by rfl) (by rfl) (by rfl)) ?_
      refine AWp.seq ?_
      refine AWp.cond (b := (decide (s5.1 < (r4.1.length : Int)))) (by rfl) (fun hg35 => ?_) (fun hg35 => ?_)
      · replace h := ite_t hg35 h
        refine AWp.skip ?_
        refine seqQ_n ?_
        refine AWp.seq ?_
        refine AWp.block ?_
        refine AWp.seq ?_
        obtain ⟨x36, hx36, h⟩ := bindS h
        refine AWp.region (OpJs.cons (OpJ.move (ltN hN rfl) (Opd.tmp 40 (.d (.int .i64 s5.1))))
          (OpJs.cons (OpJ.indexD (el := (e_api_Sample x36)) Try.underlying31 tyS36 (idx_some hx36).1 (get_map e_api_Sample (idx_some hx36).2) (ltN hN rfl) (Opd.tmp 38 (.d (.list 6 (r4.1.map e_api_Sample)))) (Opd.tmp 40 (.d (.int .i64 s5.1))))
          (OpJs.cons (OpJ.loadD tyS36 (by rfl) (by rfl) (ltN hN rfl) (Opd.tmp 43 (.dptr (e_api_Sample x36))))
          (OpJs.cons (OpJ.alloc hB tyZ36 (nm := 1018) (by decide) (ltN hN rfl))
          (OpJs.cons (OpJ.assign (ltN hN rfl) (Opd.tmp 42 (.d (.int .i64 s5.1))))
          (OpJs.cons (OpJ.storeB (bt := 36) (c := (.d (.st [(.int .i64 (0 : Int)), (.int .i64 (0 : Int)), (.int .i64 (0 : Int)), (.int .i64 (0 : Int)), (.int .i64 (0 : Int)), (.int .i64 (0 : Int))]))) (v := (.d (e_api_Sample x36))) (c' := (.d (e_api_Sample x36))) tyS36 (SetAt.here _ _) (by rfl) (by rfl) (by simp) rfl (Opd.tmp 18 (.ptr 1018 0 [])) (Opd.tmp 44 (.d (e_api_Sample x36))))
          (OpJs.nil))))))) (by rfl) (by rfl) ?_
        refine seqQ_n ?_
        refine AWp.ghost (Mat.pat [] [(0, (.d (.list 6 (a0.map e_api_Sample)))), (2, (.d (.int .i64 a2))), (3, (.d (.int .i64 a3))), (4, (.d (.int .i64 a4))), (5, (.d (.int .i64 a5))), (14, (.d (.list 6 (r4.1.map e_api_Sample)))), (15, (.sref 3015 6 0 s5.2.2.length)), (16, (.sref 3016 6 0 s5.2.1.length)), (17, (.d (.int .i64 s5.1))), (18, (.ptr 1018 0 [])), (38, (.d (.list 6 (r4.1.map e_api_Sample)))), (39, (.d (.int .i64 (r4.1.length : Int)))), (40, (.d (.int .i64 s5.1)))] [(1018, some (.box 36 (.d (e_api_Sample x36)))), (3015, some (.row 36 6 (s5.2.2.map e_api_Sample))), (3016, some (.row 36 6 (s5.2.1.map e_api_Sample)))] hB (by rfl) (by rfl) (by rfl)) ?_
        refine AWp.seq ?_
        refine AWp.seq ?_
        refine AWp.region (OpJs.cons (OpJ.move (ltN hN rfl) (Opd.tmp 2 (.d (.int .i64 a2))))
          (OpJs.cons (OpJ.move (ltN hN rfl) (Opd.tmp 17 (.d (.int .i64 s5.1))))
          (OpJs.cons (OpJ.rem (ltN hN rfl) (Opd.tmp 46 (.d (.int .i64 s5.1))) (Opd.int .i64 (60)) (by decide))
          (OpJs.cons (OpJ.conv Try.underlying3 Try.underlying37 (ltN hN rfl) (Opd.tmp 47 (.d (.int .i64 (Int.tmod s5.1 (60 : Int))))))
          (OpJs.cons (OpJ.shr (ltN hN rfl) (Opd.tmp 45 (.d (.int .i64 a2))) (Opd.tmp 48 (.d (.int .u64 (IntKind.u64.wrap (Int.tmod s5.1 (60 : Int)))))) (wrap_nonneg rfl _))
          (OpJs.cons (OpJ.bits (op := .and) (by simp) (ltN hN rfl) (Opd.tmp 49 (.d (.int .i64 (shrI .i64 a2 (IntKind.u64.wrap (Int.tmod s5.1 (60 : Int))))))) (Opd.int .i64 (1)))
          (OpJs.cons (OpJ.eqlI (ltN hN rfl) (Opd.tmp 50 (.d (.int .i64 (bitI .and .i64 (shrI .i64 a2 (IntKind.u64.wrap (Int.tmod s5.1 (60 : Int)))) (1 : Int))))) (Opd.int .i64 (1)))
          (OpJs.nil)))))))) (by rfl) (by rfl) ?_
        refine seqQ_n ?_
        refine AWp.ghost (Mat.pat [] [(0, (.d (.list 6 (a0.map e_api_Sample)))), (2, (.d (.int .i64 a2))), (3, (.d (.int .i64 a3))), (4, (.d (.int .i64 a4))), (5, (.d (.int .i64 a5))), (14, (.d (.list 6 (r4.1.map e_api_Sample)))), (15, (.sref 3015 6 0 s5.2.2.length)), (16, (.sref 3016 6 0 s5.2.1.length)), (17, (.d (.int .i64 s5.1))), (18, (.ptr 1018 0 [])), (38, (.d (.list 6 (r4.1.map e_api_Sample)))), (39, (.d (.int .i64 (r4.1.length : Int)))), (40, (.d (.int .i64 s5.1))), (51, (.d (.bool ((bitI .and .i64 (shrI .i64 a2 (IntKind.u64.wrap (Int.tmod s5.1 (60 : Int)))) (1 : Int)) == (1 : Int)))))] [(1018, some (.box 36 (.d (e_api_Sample x36)))), (3015, some (.row 36 6 (s5.2.2.map e_api_Sample))), (3016, some (.row 36 6 (s5.2.1.map e_api_Sample)))] hB (by rfl) (by rfl) (by rfl)) ?_
        refine AWp.cut h (fun m39 : (List api_Sample) => ([(0, (.d (.list 6 (a0.map e_api_Sample)))), (2, (.d (.int .i64 a2))), (3, (.d (.int .i64 a3))), (4, (.d (.int .i64 a4))), (5, (.d (.int .i64 a5))), (14, (.d (.list 6 (r4.1.map e_api_Sample)))), (15, (.sref 3015 6 0 m39.length)), (16, (.sref 3016 6 0 s5.2.1.length)), (17, (.d (.int .i64 s5.1))), (18, (.ptr 1018 0 [])), (38, (.d (.list 6 (r4.1.map e_api_Sample)))), (39, (.d (.int .i64 (r4.1.length : Int)))), (40, (.d (.int .i64 s5.1)))] : EL)) (fun m39 : (List api_Sample) => ([(1018, some (.box 36 (.d (e_api_Sample x36)))), (3015, some (.row 36 6 (m39.map e_api_Sample))), (3016, some (.row 36 6 (s5.2.1.map e_api_Sample)))] : OL)) (fun m39 h E' O' hmat => ?_) (fun j40 hjj40 h => ?_)
        · refine seqQ_n ?_
          refine AWp.ghost hmat ?_
          refine AWp.seq ?_
          refine AWp.region (OpJs.cons (OpJ.move (ltN hN rfl) (Opd.tmp 3 (.d (.int .i64 a3))))
            (OpJs.cons (OpJ.move (ltN hN rfl) (Opd.tmp 17 (.d (.int .i64 s5.1))))
            (OpJs.cons (OpJ.rem (ltN hN rfl) (Opd.tmp 57 (.d (.int .i64 s5.1))) (Opd.int .i64 (60)) (by decide))
            (OpJs.cons (OpJ.conv Try.underlying3 Try.underlying37 (ltN hN rfl) (Opd.tmp 58 (.d (.int .i64 (Int.tmod s5.1 (60 : Int))))))
            (OpJs.cons (OpJ.shr (ltN hN rfl) (Opd.tmp 56 (.d (.int .i64 a3))) (Opd.tmp 59 (.d (.int .u64 (IntKind.u64.wrap (Int.tmod s5.1 (60 : Int)))))) (wrap_nonneg rfl _))
            (OpJs.cons (OpJ.bits (op := .and) (by simp) (ltN hN rfl) (Opd.tmp 60 (.d (.int .i64 (shrI .i64 a3 (IntKind.u64.wrap (Int.tmod s5.1 (60 : Int))))))) (Opd.int .i64 (1)))
            (OpJs.cons (OpJ.eqlI (ltN hN rfl) (Opd.tmp 61 (.d (.int .i64 (bitI .and .i64 (shrI .i64 a3 (IntKind.u64.wrap (Int.tmod s5.1 (60 : Int)))) (1 : Int))))) (Opd.int .i64 (0)))
            (OpJs.nil)))))))) (by rfl) (by rfl) ?_
          refine seqQ_n ?_
          refine AWp.ghost (Mat.pat [] [(0, (.d (.list 6 (a0.map e_api_Sample)))), (2, (.d (.int .i64 a2))), (3, (.d (.int .i64 a3))), (4, (.d (.int .i64 a4))), (5, (.d (.int .i64 a5))), (14, (.d (.list 6 (r4.1.map e_api_Sample)))), (15, (.sref 3015 6 0 m39.length)), (16, (.sref 3016 6 0 s5.2.1.length)), (18, (.ptr 1018 0 [])), (38, (.d (.list 6 (r4.1.map e_api_Sample)))), (39, (.d (.int .i64 (r4.1.length : Int)))), (40, (.d (.int .i64 s5.1))), (62, (.d (.bool ((bitI .and .i64 (shrI .i64 a3 (IntKind.u64.wrap (Int.tmod s5.1 (60 : Int)))) (1 : Int)) == (0 : Int)))))] [(1018, some (.box 36 (.d (e_api_Sample x36)))), (3015, some (.row 36 6 (m39.map e_api_Sample))), (3016, some (.row 36 6 (s5.2.1.map e_api_Sample)))] hB (by rfl) (by rfl) (by rfl)) ?_
          refine AWp.cut h (fun m43 : (List api_Sample) => ([(0, (.d (.list 6 (a0.map e_api_Sample)))), (2, (.d (.int .i64 a2))), (3, (.d (.int .i64 a3))), (4, (.d (.int .i64 a4))), (5, (.d (.int .i64 a5))), (14, (.d (.list 6 (r4.1.map e_api_Sample)))), (15, (.sref 3015 6 0 m39.length)), (16, (.sref 3016 6 0 m43.length)), (38, (.d (.list 6 (r4.1.map e_api_Sample)))), (39, (.d (.int .i64 (r4.1.length : Int)))), (40, (.d (.int .i64 s5.1)))] : EL)) (fun m43 : (List api_Sample) => ([(3015, some (.row 36 6 (m39.map e_api_Sample))), (3016, some (.row 36 6 (m43.map e_api_Sample)))] : OL)) (fun m43 h E' O' hmat => ?_) (fun j44 hjj44 h => ?_)
          · refine blkQ_n ?_
            refine seqQ_n ?_
            refine AWp.ghost hmat ?_
            refine AWp.region (OpJs.cons (OpJ.add (ltN hN rfl) (Opd.tmp 40 (.d (.int .i64 s5.1))) (Opd.int .i64 (1)))
              (OpJs.cons (OpJ.move (ltN hN rfl) (Opd.tmp 67 (.d (.int .i64 (w64 (s5.1 + (1 : Int)))))))
              (OpJs.nil))) (by rfl) (by rfl) ?_
            obtain rfl := Option.some.inj h
            exact ⟨rfl, (Mat.trans (Mat.pat [] [(0, (.d (.list 6 (a0.map e_api_Sample)))), (2, (.d (.int .i64 a2))), (3, (.d (.int .i64 a3))), (4, (.d (.int .i64 a4))), (5, (.d (.int .i64 a5))), (14, (.d (.list 6 (r4.1.map e_api_Sample)))), (15, (.sref 3015 6 0 m39.length)), (16, (.sref 3016 6 0 m43.length)), (38, (.d (.list 6 (r4.1.map e_api_Sample)))), (39, (.d (.int .i64 (r4.1.length : Int)))), (40, (.d (.int .i64 (w64 (s5.1 + (1 : Int))))))] [(3015, some (.row 36 6 (m39.map e_api_Sample))), (3016, some (.row 36 6 (m43.map e_api_Sample)))] hB (by rfl) (by rfl) (by rfl)) (Mat.pat [] ((fun s5 : Int × (List api_Sample) × (List api_Sample) => ([(0, (.d (.list 6 (a0.map e_api_Sample)))), (2, (.d (.int .i64 a2))), (3, (.d (.int .i64 a3))), (4, (.d (.int .i64 a4))), (5, (.d (.int .i64 a5))), (14, (.d (.list 6 (r4.1.map e_api_Sample)))), (15, (.sref 3015 6 0 s5.2.2.length)), (16, (.sref 3016 6 0 s5.2.1.length)), (38, (.d (.list 6 (r4.1.map e_api_Sample)))), (39, (.d (.int .i64 (r4.1.length : Int)))), (40, (.d (.int .i64 s5.1)))] : EL)) ((w64 (s5.1 + (1 : Int))), m43, m39)) ((fun s5 : Int × (List api_Sample) × (List api_Sample) => ([(3015, some (.row 36 6 (s5.2.2.map e_api_Sample))), (3016, some (.row 36 6 (s5.2.1.map e_api_Sample)))] : OL)) ((w64 (s5.1 + (1 : Int))), m43, m39)) hB (by rfl) (by rfl) (by rfl)))⟩
          · refine AWp.cond (b := ((bitI .and .i64 (shrI .i64 a3 (IntKind.u64.wrap (Int.tmod s5.1 (60 : Int)))) (1 : Int)) == (0 : Int))) (by rfl) (fun hg45 => ?_) (fun hg45 => ?_)
            · replace h := ite_t hg45 h
              obtain ⟨hc46, h⟩ := chk_some h
              refine AWp.region (OpJs.cons (OpJ.move (ltN hN rfl) (Opd.tmp 16 (.sref 3016 6 0 s5.2.1.length)))
                (OpJs.cons (OpJ.loadB (bt := 36) (c := (.d (e_api_Sample x36))) (v := (.d (e_api_Sample x36))) tyS36 (At.here _) (by rfl) (by rfl) rfl (ltN hN rfl) (Opd.tmp 18 (.ptr 1018 0 [])))
                (OpJs.cons (OpJ.buildSlice Try.underlying31 tyS36 tyZD36 (by rfl) (by decide) (by decide) (Opds.cons (Opd.tmp 64 (.d (e_api_Sample x36))) Opds.nil) (by kernel_rfl) (es := ([(e_api_Sample x36)] : List D)) (by rfl) (by rfl) (by kernel_rfl) (by simp) (ltN hN rfl))
                (OpJs.cons (OpJ.append hB Try.underlying31 tyE36 (nm := 1066) (by decide) (es := s5.2.1.map e_api_Sample) (ys := ([x36] : List api_Sample).map e_api_Sample) (es' := (s5.2.1 ++ ([x36] : List api_Sample)).map e_api_Sample) (len := (s5.2.1 ++ ([x36] : List api_Sample)).length) (by simp) (by simp) (map_sz (f := e_api_Sample) (fun _ => rfl)) (by rw [List.length_map]; exact lim_mulN hc46 (by decide)) (by rw [List.length_map]; exact lim_leN hc46) (ltN hN rfl) (by simp) (Opd.tmp 63 (.sref 3016 6 0 s5.2.1.length)) (Opd.tmp 65 (.d (.list 6 (([x36] : List api_Sample).map e_api_Sample)))))
                (OpJs.cons (OpJ.assign (ltN hN rfl) (Opd.tmp 66 (.sref 1066 6 0 ((s5.2.1 ++ ([x36] : List api_Sample)).length))))
                (OpJs.nil)))))) (by rfl) (by rfl) ?_
              exact hjj44 _ h _ _ (Mat.trans (Mat.pat [] [(0, (.d (.list 6 (a0.map e_api_Sample)))), (2, (.d (.int .i64 a2))), (3, (.d (.int .i64 a3))), (4, (.d (.int .i64 a4))), (5, (.d (.int .i64 a5))), (14, (.d (.list 6 (r4.1.map e_api_Sample)))), (15, (.sref 3015 6 0 m39.length)), (16, (.sref 1066 6 0 ((s5.2.1 ++ ([x36] : List api_Sample)).length))), (38, (.d (.list 6 (r4.1.map e_api_Sample)))), (39, (.d (.int .i64 (r4.1.length : Int)))), (40, (.d (.int .i64 s5.1)))] [(1066, some (.row 36 6 ((s5.2.1 ++ ([x36] : List api_Sample)).map e_api_Sample))), (3015, some (.row 36 6 (m39.map e_api_Sample)))] hB (by rfl) (by rfl) (by rfl)) (Mat.pat [(3016, 1066)] ((fun m43 : (List api_Sample) => ([(0, (.d (.list 6 (a0.map e_api_Sample)))), (2, (.d (.int .i64 a2))), (3, (.d (.int .i64 a3))), (4, (.d (.int .i64 a4))), (5, (.d (.int .i64 a5))), (14, (.d (.list 6 (r4.1.map e_api_Sample)))), (15, (.sref 3015 6 0 m39.length)), (16, (.sref 3016 6 0 m43.length)), (38, (.d (.list 6 (r4.1.map e_api_Sample)))), (39, (.d (.int .i64 (r4.1.length : Int)))), (40, (.d (.int .i64 s5.1)))] : EL)) (s5.2.1 ++ ([x36] : List api_Sample))) ((fun m43 : (List api_Sample) => ([(3015, some (.row 36 6 (m39.map e_api_Sample))), (3016, some (.row 36 6 (m43.map e_api_Sample)))] : OL)) (s5.2.1 ++ ([x36] : List api_Sample))) hB (by rfl) (by rfl) (by rfl)))
            · replace h := ite_f hg45 h
              refine AWp.skip ?_
              exact hjj44 _ h _ _ (Mat.pat [] ((fun m43 : (List api_Sample) => ([(0, (.d (.list 6 (a0.map e_api_Sample)))), (2, (.d (.int .i64 a2))), (3, (.d (.int .i64 a3))), (4, (.d (.int .i64 a4))), (5, (.d (.int .i64 a5))), (14, (.d (.list 6 (r4.1.map e_api_Sample)))), (15, (.sref 3015 6 0 m39.length)), (16, (.sref 3016 6 0 m43.length)), (38, (.d (.list 6 (r4.1.map e_api_Sample)))), (39, (.d (.int .i64 (r4.1.length : Int)))), (40, (.d (.int .i64 s5.1)))] : EL)) s5.2.1) ((fun m43 : (List api_Sample) => ([(3015, some (.row 36 6 (m39.map e_api_Sample))), (3016, some (.row 36 6 (m43.map e_api_Sample)))] : OL)) s5.2.1) hB (by rfl) (by rfl) (by rfl))
        · refine AWp.cond (b := ((bitI .and .i64 (shrI .i64 a2 (IntKind.u64.wrap (Int.tmod s5.1 (60 : Int)))) (1 : Int)) == (1 : Int))) (by rfl) (fun hg47 => ?_) (fun hg47 => ?_)
          · replace h := ite_t hg47 h
            obtain ⟨hc48, h⟩ := chk_some h
            refine AWp.region (OpJs.cons (OpJ.move (ltN hN rfl) (Opd.tmp 15 (.sref 3015 6 0 s5.2.2.length)))
              (OpJs.cons (OpJ.loadB (bt := 36) (c := (.d (e_api_Sample x36))) (v := (.d (e_api_Sample x36))) tyS36 (At.here _) (by rfl) (by rfl) rfl (ltN hN rfl) (Opd.tmp 18 (.ptr 1018 0 [])))
              (OpJs.cons (OpJ.buildSlice Try.underlying31 tyS36 tyZD36 (by rfl) (by decide) (by decide) (Opds.cons (Opd.tmp 53 (.d (e_api_Sample x36))) Opds.nil) (by kernel_rfl) (es := ([(e_api_Sample x36)] : List D)) (by rfl) (by rfl) (by kernel_rfl) (by simp) (ltN hN rfl))
              (OpJs.cons (OpJ.append hB Try.underlying31 tyE36 (nm := 1055) (by decide) (es := s5.2.2.map e_api_Sample) (ys := ([x36] : List api_Sample).map e_api_Sample) (es' := (s5.2.2 ++ ([x36] : List api_Sample)).map e_api_Sample) (len := (s5.2.2 ++ ([x36] : List api_Sample)).length) (by simp) (by simp) (map_sz (f := e_api_Sample) (fun _ => rfl)) (by rw [List.length_map]; exact lim_mulN hc48 (by decide)) (by rw [List.length_map]; exact lim_leN hc48) (ltN hN rfl) (by simp) (Opd.tmp 52 (.sref 3015 6 0 s5.2.2.length)) (Opd.tmp 54 (.d (.list 6 (([x36] : List api_Sample).map e_api_Sample)))))
              (OpJs.cons (OpJ.assign (ltN hN rfl) (Opd.tmp 55 (.sref 1055 6 0 ((s5.2.2 ++ ([x36] : List api_Sample)).length))))
              (OpJs.nil)))))) (by rfl) (by rfl) ?_
            exact hjj40 _ h _ _ (Mat.trans (Mat.pat [] [(0, (.d (.list 6 (a0.map e_api_Sample)))), (2, (.d (.int .i64 a2))), (3, (.d (.int .i64 a3))), (4, (.d (.int .i64 a4))), (5, (.d (.int .i64 a5))), (14, (.d (.list 6 (r4.1.map e_api_Sample)))), (15, (.sref 1055 6 0 ((s5.2.2 ++ ([x36] : List api_Sample)).length))), (16, (.sref 3016 6 0 s5.2.1.length)), (17, (.d (.int .i64 s5.1))), (18, (.ptr 1018 0 [])), (38, (.d (.list 6 (r4.1.map e_api_Sample)))), (39, (.d (.int .i64 (r4.1.length : Int)))), (40, (.d (.int .i64 s5.1)))] [(1018, some (.box 36 (.d (e_api_Sample x36)))), (1055, some (.row 36 6 ((s5.2.2 ++ ([x36] : List api_Sample)).map e_api_Sample))), (3016, some (.row 36 6 (s5.2.1.map e_api_Sample)))] hB (by rfl) (by rfl) (by rfl)) (Mat.pat [(3015, 1055)] ((fun m39 : (List api_Sample) => ([(0, (.d (.list 6 (a0.map e_api_Sample)))), (2, (.d (.int .i64 a2))), (3, (.d (.int .i64 a3))), (4, (.d (.int .i64 a4))), (5, (.d (.int .i64 a5))), (14, (.d (.list 6 (r4.1.map e_api_Sample)))), (15, (.sref 3015 6 0 m39.length)), (16, (.sref 3016 6 0 s5.2.1.length)), (17, (.d (.int .i64 s5.1))), (18, (.ptr 1018 0 [])), (38, (.d (.list 6 (r4.1.map e_api_Sample)))), (39, (.d (.int .i64 (r4.1.length : Int)))), (40, (.d (.int .i64 s5.1)))] : EL)) (s5.2.2 ++ ([x36] : List api_Sample))) ((fun m39 : (List api_Sample) => ([(1018, some (.box 36 (.d (e_api_Sample x36)))), (3015, some (.row 36 6 (m39.map e_api_Sample))), (3016, some (.row 36 6 (s5.2.1.map e_api_Sample)))] : OL)) (s5.2.2 ++ ([x36] : List api_Sample))) hB (by rfl) (by rfl) (by rfl)))
          · replace h := ite_f hg47 h
            refine AWp.skip ?_
            exact hjj40 _ h _ _ (Mat.pat [] ((fun m39 : (List api_Sample) => ([(0, (.d (.list 6 (a0.map e_api_Sample)))), (2, (.d (.int .i64 a2))), (3, (.d (.int .i64 a3))), (4, (.d (.int .i64 a4))), (5, (.d (.int .i64 a5))), (14, (.d (.list 6 (r4.1.map e_api_Sample)))), (15, (.sref 3015 6 0 m39.length)), (16, (.sref 3016 6 0 s5.2.1.length)), (17, (.d (.int .i64 s5.1))), (18, (.ptr 1018 0 [])), (38, (.d (.list 6 (r4.1.map e_api_Sample)))), (39, (.d (.int .i64 (r4.1.length : Int)))), (40, (.d (.int .i64 s5.1)))] : EL)) s5.2.2) ((fun m39 : (List api_Sample) => ([(1018, some (.box 36 (.d (e_api_Sample x36)))), (3015, some (.row 36 6 (m39.map e_api_Sample))), (3016, some (.row 36 6 (s5.2.1.map e_api_Sample)))] : OL)) s5.2.2) hB (by rfl) (by rfl) (by rfl))
      · replace h := ite_f hg35 h
        refine AWp.exit ?_
        refine seqQ_e ?_
        obtain rfl := Option.some.inj h
        exact ⟨(fun hc => by cases hc), rfl, (Mat.pat [] ((fun p34 : (List api_Sample) × (List api_Sample) => ([(0, (.d (.list 6 (a0.map e_api_Sample)))), (2, (.d (.int .i64 a2))), (3, (.d (.int .i64 a3))), (4, (.d (.int .i64 a4))), (5, (.d (.int .i64 a5))), (14, (.d (.list 6 (r4.1.map e_api_Sample)))), (15, (.sref 3015 6 0 p34.2.length)), (16, (.sref 3016 6 0 p34.1.length))] : EL)) (s5.2.1, s5.2.2)) ((fun p34 : (List api_Sample) × (List api_Sample) => ([(3015, some (.row 36 6 (p34.2.map e_api_Sample))), (3016, some (.row 36 6 (p34.1.map e_api_Sample)))] : OL)) (s5.2.1, s5.2.2)) hB (by rfl) (by rfl) (by rfl))⟩
    · obtain ⟨rfl, hmat⟩ := hR
      refine blkQ_hit ?_
      refine seqQ_n ?_
      refine AWp.ghost hmat ?_
      refine AWp.seq ?_
      obtain ⟨hc51, h⟩ := chk_some h
      refine AWp.region (OpJs.cons (OpJ.move (ltN hN rfl) (Opd.tmp 14 (.d (.list 6 (r4.1.map e_api_Sample)))))
        (OpJs.cons (OpJ.appendN hB Try.underlying31 tyE36 (nm := 1069) (by decide) (ys := r4.1.map e_api_Sample) (len := r4.1.length) (by simp) (map_sz (f := e_api_Sample) (fun _ => rfl)) (by rw [List.length_map]; exact lim_mulN hc51 (by decide)) (by rw [List.length_map]; exact lim_leN hc51) (ltN hN rfl) Opd.nils (Opd.tmp 68 (.d (.list 6 (r4.1.map e_api_Sample)))))
        (OpJs.cons (OpJ.assign (ltN hN rfl) (Opd.tmp 69 (.sref 1069 6 0 r4.1.length)))
        (OpJs.nil)))) (by rfl) (by rfl) ?_
      refine seqQ_n ?_
      refine AWp.ghost (Mat.pat [] [(0, (.d (.list 6 (a0.map e_api_Sample)))), (2, (.d (.int .i64 a2))), (3, (.d (.int .i64 a3))), (4, (.d (.int .i64 a4))), (5, (.d (.int .i64 a5))), (14, (.d (.list 6 (r4.1.map e_api_Sample)))), (15, (.sref 3015 6 0 p34.2.length)), (16, (.sref 3016 6 0 p34.1.length)), (19, (.sref 1069 6 0 r4.1.length))] [(1069, some (.row 36 6 (r4.1.map e_api_Sample))), (3015, some (.row 36 6 (p34.2.map e_api_Sample))), (3016, some (.row 36 6 (p34.1.map e_api_Sample)))] hB (by rfl) (by rfl) (by rfl)) ?_
      refine AWp.seq ?_
      refine AWp.seq ?_
      refine AWp.region (OpJs.cons (OpJ.move (ltN hN rfl) (Opd.tmp 19 (.sref 1069 6 0 r4.1.length)))
        (OpJs.cons (OpJ.lenS (obj := (.row 36 6 (r4.1.map e_api_Sample))) Try.underlying31 (ltN hN rfl) (Opd.tmp 70 (.sref 1069 6 0 r4.1.length)))
        (OpJs.cons (OpJ.gtr (ltN hN rfl) (Opd.tmp 71 (.d (.int .i64 (r4.1.length : Int)))) (Opd.int .i64 (0)))
        (OpJs.nil)))) (by rfl) (by rfl) ?_
      refine seqQ_n ?_
      refine AWp.ghost (Mat.pat [] [(0, (.d (.list 6 (a0.map e_api_Sample)))), (2, (.d (.int .i64 a2))), (3, (.d (.int .i64 a3))), (4, (.d (.int .i64 a4))), (5, (.d (.int .i64 a5))), (14, (.d (.list 6 (r4.1.map e_api_Sample)))), (15, (.sref 3015 6 0 p34.2.length)), (16, (.sref 3016 6 0 p34.1.length)), (19, (.sref 1069 6 0 r4.1.length)), (72, (.d (.bool (decide ((0 : Int) < (r4.1.length : Int))))))] [(1069, some (.row 36 6 (r4.1.map e_api_Sample))), (3015, some (.row 36 6 (p34.2.map e_api_Sample))), (3016, some (.row 36 6 (p34.1.map e_api_Sample)))] hB (by rfl) (by rfl) (by rfl)) ?_
      refine AWp.cut h (fun m74 : (List api_Sample) => ([(0, (.d (.list 6 (a0.map e_api_Sample)))), (4, (.d (.int .i64 a4))), (5, (.d (.int .i64 a5))), (14, (.d (.list 6 (r4.1.map e_api_Sample)))), (15, (.sref 3015 6 0 p34.2.length)), (16, (.sref 3016 6 0 p34.1.length)), (19, (.sref 1069 6 0 m74.length))] : EL)) (fun m74 : (List api_Sample) => ([(1069, some (.row 36 6 (m74.map e_api_Sample))), (3015, some (.row 36 6 (p34.2.map e_api_Sample))), (3016, some (.row 36 6 (p34.1.map e_api_Sample)))] : OL)) (fun m74 h E' O' hmat => ?_) (fun j75 hjj75 h => ?_)
      · refine seqQ_n ?_
        refine AWp.ghost hmat ?_
        refine AWp.seq ?_
        refine AWp.ghost (Mat.freezeAll (n := 3015) (k := 15) (by rfl) (by rfl) (by first | (simp; done) | (simp; omega))) ?_
        refine AWp.ghost (Mat.freezeAll (n := 3016) (k := 16) (by rfl) (by rfl) (by first | (simp; done) | (simp; omega))) ?_
        refine AWp.ghost (Mat.freezeAll (n := 1069) (k := 19) (by rfl) (by rfl) (by first | (simp; done) | (simp; omega))) ?_
        refine AWp.region (OpJs.cons (OpJ.move (ltN hN rfl) (Opd.tmp 0 (.d (.list 6 (a0.map e_api_Sample)))))
          (OpJs.cons (OpJ.move (ltN hN rfl) (Opd.tmp 14 (.d (.list 6 (r4.1.map e_api_Sample)))))
          (OpJs.cons (OpJ.move (ltN hN rfl) (Opd.tmp 15 (.d (.list 6 (p34.2.map e_api_Sample)))))
          (OpJs.cons (OpJ.move (ltN hN rfl) (Opd.tmp 16 (.d (.list 6 (p34.1.map e_api_Sample)))))
          (OpJs.cons (OpJ.move (ltN hN rfl) (Opd.tmp 19 (.d (.list 6 (m74.map e_api_Sample)))))
          (OpJs.cons (OpJ.buildSlice Try.underlying43 tyS31 tyZD31 (by rfl) (by decide) (by decide) (Opds.cons (Opd.tmp 132 (.d (.list 6 (a0.map e_api_Sample)))) (Opds.cons (Opd.tmp 133 (.d (.list 6 (r4.1.map e_api_Sample)))) (Opds.cons (Opd.tmp 134 (.d (.list 6 (p34.2.map e_api_Sample)))) (Opds.cons (Opd.tmp 135 (.d (.list 6 (p34.1.map e_api_Sample)))) (Opds.cons (Opd.tmp 136 (.d (.list 6 (m74.map e_api_Sample)))) Opds.nil))))) (by kernel_rfl) (es := ([(.list 6 (a0.map e_api_Sample)), (.list 6 (r4.1.map e_api_Sample)), (.list 6 (p34.2.map e_api_Sample)), (.list 6 (p34.1.map e_api_Sample)), (.list 6 (m74.map e_api_Sample))] : List D)) (by rfl) (by rfl) (by kernel_rfl) (by simp) (ltN hN rfl))
          (OpJs.cons (OpJ.assign (ltN hN rfl) (Opd.tmp 137 (.d (.list 1 (([a0, r4.1, p34.2, p34.1, m74] : List (List api_Sample)).map e_LeapiSample)))))
          (OpJs.nil)))))))) (by rfl) (by rfl) ?_
        refine seqQ_n ?_
        refine AWp.ghost (Mat.pat [] [(4, (.d (.int .i64 a4))), (5, (.d (.int .i64 a5))), (21, (.d (.list 1 (([a0, r4.1, p34.2, p34.1, m74] : List (List api_Sample)).map e_LeapiSample))))] [] hB (by rfl) (by rfl) (by rfl)) ?_
        refine AWp.seq ?_
        refine AWp.seq ?_
        refine AWp.region (OpJs.cons (OpJ.move (ltN hN rfl) (Opd.tmp 21 (.d (.list 1 (([a0, r4.1, p34.2, p34.1, m74] : List (List api_Sample)).map e_LeapiSample)))))
          (OpJs.cons (OpJ.val (v' := (.d (.int .i64 (([a0, r4.1, p34.2, p34.1, m74] : List (List api_Sample)).length : Int)))) (by simp) (OpJ.lenD Try.underlying43 (ltN hN rfl) (Opd.tmp 138 (.d (.list 1 (([a0, r4.1, p34.2, p34.1, m74] : List (List api_Sample)).map e_LeapiSample))))))
          (OpJs.cons (OpJ.move (ltN hN rfl) (Opd.int .i64 (0)))
          (OpJs.nil)))) (by rfl) (by rfl) ?_
        refine seqQ_n ?_
        refine AWp.ghost (Mat.pat [] [(4, (.d (.int .i64 a4))), (5, (.d (.int .i64 a5))), (21, (.d (.list 1 (([a0, r4.1, p34.2, p34.1, m74] : List (List api_Sample)).map e_LeapiSample)))), (138, (.d (.list 1 (([a0, r4.1, p34.2, p34.1, m74] : List (List api_Sample)).map e_LeapiSample)))), (139, (.d (.int .i64 (([a0, r4.1, p34.2, p34.1, m74] : List (List api_Sample)).length : Int)))), (140, (.d (.int .i64 (0 : Int))))] [] hB (by rfl) (by rfl) (by rfl)) ?_
        refine AWp.block ?_
        obtain ⟨x354, hx355, h⟩ := bindS h
        refine AWp.ghost (Mat.pat [] ((fun s76 : Int => ([(4, (.d (.int .i64 a4))), (5, (.d (.int .i64 a5))), (21, (.d (.list 1 (([a0, r4.1, p34.2, p34.1, m74] : List (List api_Sample)).map e_LeapiSample)))), (138, (.d (.list 1 (([a0, r4.1, p34.2, p34.1, m74] : List (List api_Sample)).map e_LeapiSample)))), (139, (.d (.int .i64 (([a0, r4.1, p34.2, p34.1, m74] : List (List api_Sample)).length : Int)))), (140, (.d (.int .i64 s76)))] : EL)) (0 : Int)) ((fun s76 : Int => ([] : OL)) (0 : Int)) hB (by rfl) (by rfl) (by rfl)) ?_
        refine AWp.loopS (exchangepointlaw37_SampleLists_L1 a0 a4 a5 r4 p34 m74) (fun s76 : Int => ([(4, (.d (.int .i64 a4))), (5, (.d (.int .i64 a5))), (21, (.d (.list 1 (([a0, r4.1, p34.2, p34.1, m74] : List (List api_Sample)).map e_LeapiSample)))), (138, (.d (.list 1 (([a0, r4.1, p34.2, p34.1, m74] : List (List api_Sample)).map e_LeapiSample)))), (139, (.d (.int .i64 (([a0, r4.1, p34.2, p34.1, m74] : List (List api_Sample)).length : Int)))), (140, (.d (.int .i64 s76)))] : EL)) (fun s76 : Int => ([] : OL)) (fun (x : (Unit) ⊕ (Unit)) e E' O' => match x with | (.inl _p) => e = .ret ∧ Mat B E' O' ([(12, (.d (.bool false)))] : EL) ([] : OL) | (.inr _p) => e = .exit 3 ∧ Mat B E' O' ([] : EL) ([] : OL)) hx355 (fun s76 y h => ?_) (fun e E' O' hR => ?_)
        · unfold exchangepointlaw37_SampleLists_L1 at h
          show AWp _ _ _ _ ([(4, (.d (.int .i64 a4))), (5, (.d (.int .i64 a5))), (21, (.d (.list 1 (([a0, r4.1, p34.2, p34.1, m74] : List (List api_Sample)).map e_LeapiSample)))), (138, (.d (.list 1 (([a0, r4.1, p34.2, p34.1, m74] : List (List api_Sample)).map e_LeapiSample)))), (139, (.d (.int .i64 (([a0, r4.1, p34.2, p34.1, m74] : List (List api_Sample)).length : Int)))), (140, (.d (.int .i64 s76)))] : EL) ([] : OL)
          refine AWp.seq ?_
          refine AWp.region (OpJs.cons (OpJ.lss (ltN hN rfl) (Opd.tmp 140 (.d (.int .i64 s76))) (Opd.tmp 139 (.d (.int .i64 (([a0, r4.1, p34.2, p34.1, m74] : List (List api_Sample)).length : Int)))))
            (OpJs.nil)) (by rfl) (by rfl) ?_
          refine seqQ_n ?_
          refine AWp.ghost (Mat.pat [] [(4, (.d (.int .i64 a4))), (5, (.d (.int .i64 a5))), (21, (.d (.list 1 (([a0, r4.1, p34.2, p34.1, m74] : List (List api_Sample)).map e_LeapiSample)))), (138, (.d (.list 1 (([a0, r4.1, p34.2, p34.1, m74] : List (List api_Sample)).map e_LeapiSample)))), (139, (.d (.int .i64 (([a0, r4.1, p34.2, p34.1, m74] : List (List api_Sample)).length : Int)))), (140, (.d (.int .i64 s76))), (141, (.d (.bool (decide (s76 < (([a0, r4.1, p34.2, p34.1, m74] : List (List api_Sample)).length : Int))))))] [] hB (by rfl) (by rfl) (by rfl)) ?_
          refine AWp.seq ?_
          refine AWp.cond (b := (decide (s76 < (([a0, r4.1, p34.2, p34.1, m74] : List (List api_Sample)).length : Int)))) (by rfl) (fun hg263 => ?_) (fun hg263 => ?_)
          · replace h := ite_t hg263 h
            refine AWp.skip ?_
            refine seqQ_n ?_
            refine AWp.seq ?_
            refine AWp.block ?_
            refine AWp.seq ?_
            obtain ⟨x264, hx264, h⟩ := bindS h
            refine AWp.region (OpJs.cons (OpJ.indexD (el := (.list 6 (x264.map e_api_Sample))) Try.underlying43 tyS31 (idx_some hx264).1 (get_map e_LeapiSample (idx_some hx264).2) (ltN hN rfl) (Opd.tmp 138 (.d (.list 1 (([a0, r4.1, p34.2, p34.1, m74] : List (List api_Sample)).map e_LeapiSample)))) (Opd.tmp 140 (.d (.int .i64 s76))))
              (OpJs.cons (OpJ.loadD tyS31 (by rfl) (by rfl) (ltN hN rfl) (Opd.tmp 142 (.dptr (.list 6 (x264.map e_api_Sample)))))
              (OpJs.cons (OpJ.assign (ltN hN rfl) (Opd.tmp 143 (.d (.list 6 (x264.map e_api_Sample)))))
              (OpJs.nil)))) (by rfl) (by rfl) ?_
            refine seqQ_n ?_
            refine AWp.ghost (Mat.pat [] [(4, (.d (.int .i64 a4))), (5, (.d (.int .i64 a5))), (21, (.d (.list 1 (([a0, r4.1, p34.2, p34.1, m74] : List (List api_Sample)).map e_LeapiSample)))), (23, (.d (.list 6 (x264.map e_api_Sample)))), (138, (.d (.list 1 (([a0, r4.1, p34.2, p34.1, m74] : List (List api_Sample)).map e_LeapiSample)))), (139, (.d (.int .i64 (([a0, r4.1, p34.2, p34.1, m74] : List (List api_Sample)).length : Int)))), (140, (.d (.int .i64 s76)))] [] hB (by rfl) (by rfl) (by rfl)) ?_
            refine AWp.seq ?_
            refine AWp.seq ?_
            refine AWp.cut h (fun m281 : Bool => ([(4, (.d (.int .i64 a4))), (5, (.d (.int .i64 a5))), (21, (.d (.list 1 (([a0, r4.1, p34.2, p34.1, m74] : List (List api_Sample)).map e_LeapiSample)))), (23, (.d (.list 6 (x264.map e_api_Sample)))), (138, (.d (.list 1 (([a0, r4.1, p34.2, p34.1, m74] : List (List api_Sample)).map e_LeapiSample)))), (139, (.d (.int .i64 (([a0, r4.1, p34.2, p34.1, m74] : List (List api_Sample)).length : Int)))), (140, (.d (.int .i64 s76))), (176, (.d (.bool m281)))] : EL)) (fun m281 : Bool => ([] : OL)) (fun m281 h E' O' hmat => ?_) (fun j282 hjj282 h => ?_)
            · refine seqQ_n ?_
              refine AWp.ghost hmat ?_
              refine AWp.cond (b := m281) (by rfl) (fun hg283 => ?_) (fun hg283 => ?_)
              · replace h := ite_t hg283 h
                refine AWp.seq ?_
                refine AWp.region (OpJs.cons (OpJ.assign (ltN hN rfl) (Opd.bool false))
                  (OpJs.nil)) (by rfl) (by rfl) ?_
                refine seqQ_n ?_
                refine AWp.ghost (Mat.pat [] [(12, (.d (.bool false)))] [] hB (by rfl) (by rfl) (by rfl)) ?_
                refine AWp.ret ?_
                refine seqQ_r ?_
                refine blkQ_r ?_
                refine seqQ_r ?_
                obtain rfl := Option.some.inj h
                exact ⟨(fun hc => by cases hc), rfl, (Mat.pat [] ((fun _ : Unit => ([(12, (.d (.bool false)))] : EL)) ()) ((fun _ : Unit => ([] : OL)) ()) hB (by rfl) (by rfl) (by rfl))⟩
              · replace h := ite_f hg283 h
                refine AWp.skip ?_
                refine seqQ_n ?_
                refine AWp.seq ?_
                refine AWp.seq ?_
                refine AWp.cut h (fun m292 : Bool => ([(4, (.d (.int .i64 a4))), (5, (.d (.int .i64 a5))), (21, (.d (.list 1 (([a0, r4.1, p34.2, p34.1, m74] : List (List api_Sample)).map e_LeapiSample)))), (23, (.d (.list 6 (x264.map e_api_Sample)))), (138, (.d (.list 1 (([a0, r4.1, p34.2, p34.1, m74] : List (List api_Sample)).map e_LeapiSample)))), (139, (.d (.int .i64 (([a0, r4.1, p34.2, p34.1, m74] : List (List api_Sample)).length : Int)))), (140, (.d (.int .i64 s76))), (192, (.d (.bool m292)))] : EL)) (fun m292 : Bool => ([] : OL)) (fun m292 h E' O' hmat => ?_) (fun j293 hjj293 h => ?_)
                · refine seqQ_n ?_
                  refine AWp.ghost hmat ?_
                  refine AWp.cond (b := m292) (by rfl) (fun hg294 => ?_) (fun hg294 => ?_)
                  · replace h := ite_t hg294 h
                    refine AWp.seq ?_
                    refine AWp.region (OpJs.cons (OpJ.assign (ltN hN rfl) (Opd.bool false))
                      (OpJs.nil)) (by rfl) (by rfl) ?_
                    refine seqQ_n ?_
                    refine AWp.ghost (Mat.pat [] [(12, (.d (.bool false)))] [] hB (by rfl) (by rfl) (by rfl)) ?_
                    refine AWp.ret ?_
                    refine seqQ_r ?_
                    refine blkQ_r ?_
                    refine seqQ_r ?_
                    obtain rfl := Option.some.inj h
                    exact ⟨(fun hc => by cases hc), rfl, (Mat.pat [] ((fun _ : Unit => ([(12, (.d (.bool false)))] : EL)) ()) ((fun _ : Unit => ([] : OL)) ()) hB (by rfl) (by rfl) (by rfl))⟩
                  · replace h := ite_f hg294 h
                    refine AWp.skip ?_
                    refine seqQ_n ?_
                    refine AWp.seq ?_
                    refine AWp.region (OpJs.cons (OpJ.move (ltN hN rfl) (Opd.tmp 21 (.d (.list 1 (([a0, r4.1, p34.2, p34.1, m74] : List (List api_Sample)).map e_LeapiSample)))))
                      (OpJs.cons (OpJ.val (v' := (.d (.int .i64 (([a0, r4.1, p34.2, p34.1, m74] : List (List api_Sample)).length : Int)))) (by simp) (OpJ.lenD Try.underlying43 (ltN hN rfl) (Opd.tmp 193 (.d (.list 1 (([a0, r4.1, p34.2, p34.1, m74] : List (List api_Sample)).map e_LeapiSample))))))
                      (OpJs.cons (OpJ.move (ltN hN rfl) (Opd.int .i64 (0)))
                      (OpJs.nil)))) (by rfl) (by rfl) ?_
                    refine seqQ_n ?_
                    refine AWp.ghost (Mat.pat [] [(4, (.d (.int .i64 a4))), (5, (.d (.int .i64 a5))), (21, (.d (.list 1 (([a0, r4.1, p34.2, p34.1, m74] : List (List api_Sample)).map e_LeapiSample)))), (23, (.d (.list 6 (x264.map e_api_Sample)))), (138, (.d (.list 1 (([a0, r4.1, p34.2, p34.1, m74] : List (List api_Sample)).map e_LeapiSample)))), (139, (.d (.int .i64 (([a0, r4.1, p34.2, p34.1, m74] : List (List api_Sample)).length : Int)))), (140, (.d (.int .i64 s76))), (193, (.d (.list 1 (([a0, r4.1, p34.2, p34.1, m74] : List (List api_Sample)).map e_LeapiSample)))), (194, (.d (.int .i64 (([a0, r4.1, p34.2, p34.1, m74] : List (List api_Sample)).length : Int)))), (195, (.d (.int .i64 (0 : Int))))] [] hB (by rfl) (by rfl) (by rfl)) ?_
                    refine AWp.block ?_
                    obtain ⟨x331, hx332, h⟩ := bindS h
                    refine AWp.ghost (Mat.pat [] ((fun s295 : Int => ([(4, (.d (.int .i64 a4))), (5, (.d (.int .i64 a5))), (21, (.d (.list 1 (([a0, r4.1, p34.2, p34.1, m74] : List (List api_Sample)).map e_LeapiSample)))), (23, (.d (.list 6 (x264.map e_api_Sample)))), (138, (.d (.list 1 (([a0, r4.1, p34.2, p34.1, m74] : List (List api_Sample)).map e_LeapiSample)))), (139, (.d (.int .i64 (([a0, r4.1, p34.2, p34.1, m74] : List (List api_Sample)).length : Int)))), (140, (.d (.int .i64 s76))), (193, (.d (.list 1 (([a0, r4.1, p34.2, p34.1, m74] : List (List api_Sample)).map e_LeapiSample)))), (194, (.d (.int .i64 (([a0, r4.1, p34.2, p34.1, m74] : List (List api_Sample)).length : Int)))), (195, (.d (.int .i64 s295)))] : EL)) (0 : Int)) ((fun s295 : Int => ([] : OL)) (0 : Int)) hB (by rfl) (by rfl) (by rfl)) ?_
                    refine AWp.loopS (exchangepointlaw37_SampleLists_L2 a0 r4 p34 m74 x264) (fun s295 : Int => ([(4, (.d (.int .i64 a4))), (5, (.d (.int .i64 a5))), (21, (.d (.list 1 (([a0, r4.1, p34.2, p34.1, m74] : List (List api_Sample)).map e_LeapiSample)))), (23, (.d (.list 6 (x264.map e_api_Sample)))), (138, (.d (.list 1 (([a0, r4.1, p34.2, p34.1, m74] : List (List api_Sample)).map e_LeapiSample)))), (139, (.d (.int .i64 (([a0, r4.1, p34.2, p34.1, m74] : List (List api_Sample)).length : Int)))), (140, (.d (.int .i64 s76))), (193, (.d (.list 1 (([a0, r4.1, p34.2, p34.1, m74] : List (List api_Sample)).map e_LeapiSample)))), (194, (.d (.int .i64 (([a0, r4.1, p34.2, p34.1, m74] : List (List api_Sample)).length : Int)))), (195, (.d (.int .i64 s295)))] : EL)) (fun s295 : Int => ([] : OL)) (fun (x : (Unit) ⊕ (Unit)) e E' O' => match x with | (.inl _p) => e = .ret ∧ Mat B E' O' ([(12, (.d (.bool false)))] : EL) ([] : OL) | (.inr _p) => e = .exit 5 ∧ Mat B E' O' ([(4, (.d (.int .i64 a4))), (5, (.d (.int .i64 a5))), (21, (.d (.list 1 (([a0, r4.1, p34.2, p34.1, m74] : List (List api_Sample)).map e_LeapiSample)))), (138, (.d (.list 1 (([a0, r4.1, p34.2, p34.1, m74] : List (List api_Sample)).map e_LeapiSample)))), (139, (.d (.int .i64 (([a0, r4.1, p34.2, p34.1, m74] : List (List api_Sample)).length : Int)))), (140, (.d (.int .i64 s76)))] : EL) ([] : OL)) hx332 (fun s295 y h => ?_) (fun e E' O' hR => ?_)
                    · unfold exchangepointlaw37_SampleLists_L2 at h
                      show AWp _ _ _ _ ([(4, (.d (.int .i64 a4))), (5, (.d (.int .i64 a5))), (21, (.d (.list 1 (([a0, r4.1, p34.2, p34.1, m74] : List (List api_Sample)).map e_LeapiSample)))), (23, (.d (.list 6 (x264.map e_api_Sample)))), (138, (.d (.list 1 (([a0, r4.1, p34.2, p34.1, m74] : List (List api_Sample)).map e_LeapiSample)))), (139, (.d (.int .i64 (([a0, r4.1, p34.2, p34.1, m74] : List (List api_Sample)).length : Int)))), (140, (.d (.int .i64 s76))), (193, (.d (.list 1 (([a0, r4.1, p34.2, p34.1, m74] : List (List api_Sample)).map e_LeapiSample)))), (194, (.d (.int .i64 (([a0, r4.1, p34.2, p34.1, m74] : List (List api_Sample)).length : Int)))), (195, (.d (.int .i64 s295)))] : EL) ([] : OL)
                      refine AWp.seq ?_
                      refine AWp.region (OpJs.cons (OpJ.lss (ltN hN rfl) (Opd.tmp 195 (.d (.int .i64 s295))) (Opd.tmp 194 (.d (.int .i64 (([a0, r4.1, p34.2, p34.1, m74] : List (List api_Sample)).length : Int)))))
                        (OpJs.nil)) (by rfl) (by rfl) ?_
                      refine seqQ_n ?_
                      refine AWp.ghost (Mat.pat [] [(4, (.d (.int .i64 a4))), (5, (.d (.int .i64 a5))), (21, (.d (.list 1 (([a0, r4.1, p34.2, p34.1, m74] : List (List api_Sample)).map e_LeapiSample)))), (23, (.d (.list 6 (x264.map e_api_Sample)))), (138, (.d (.list 1 (([a0, r4.1, p34.2, p34.1, m74] : List (List api_Sample)).map e_LeapiSample)))), (139, (.d (.int .i64 (([a0, r4.1, p34.2, p34.1, m74] : List (List api_Sample)).length : Int)))), (140, (.d (.int .i64 s76))), (193, (.d (.list 1 (([a0, r4.1, p34.2, p34.1, m74] : List (List api_Sample)).map e_LeapiSample)))), (194, (.d (.int .i64 (([a0, r4.1, p34.2, p34.1, m74] : List (List api_Sample)).length : Int)))), (195, (.d (.int .i64 s295))), (196, (.d (.bool (decide (s295 < (([a0, r4.1, p34.2, p34.1, m74] : List (List api_Sample)).length : Int))))))] [] hB (by rfl) (by rfl) (by rfl)) ?_
                      refine AWp.seq ?_
                      refine AWp.cond (b := (decide (s295 < (([a0, r4.1, p34.2, p34.1, m74] : List (List api_Sample)).length : Int)))) (by rfl) (fun hg320 => ?_) (fun hg320 => ?_)
                      · replace h := ite_t hg320 h
                        refine AWp.skip ?_
                        refine seqQ_n ?_
                        refine AWp.seq ?_
                        refine AWp.block ?_
                        refine AWp.seq ?_
                        obtain ⟨x321, hx321, h⟩ := bindS h
                        refine AWp.region (OpJs.cons (OpJ.indexD (el := (.list 6 (x321.map e_api_Sample))) Try.underlying43 tyS31 (idx_some hx321).1 (get_map e_LeapiSample (idx_some hx321).2) (ltN hN rfl) (Opd.tmp 193 (.d (.list 1 (([a0, r4.1, p34.2, p34.1, m74] : List (List api_Sample)).map e_LeapiSample)))) (Opd.tmp 195 (.d (.int .i64 s295))))
                          (OpJs.cons (OpJ.loadD tyS31 (by rfl) (by rfl) (ltN hN rfl) (Opd.tmp 197 (.dptr (.list 6 (x321.map e_api_Sample)))))
                          (OpJs.cons (OpJ.assign (ltN hN rfl) (Opd.tmp 198 (.d (.list 6 (x321.map e_api_Sample)))))
                          (OpJs.nil)))) (by rfl) (by rfl) ?_
                        refine seqQ_n ?_
                        refine AWp.ghost (Mat.pat [] [(4, (.d (.int .i64 a4))), (5, (.d (.int .i64 a5))), (21, (.d (.list 1 (([a0, r4.1, p34.2, p34.1, m74] : List (List api_Sample)).map e_LeapiSample)))), (23, (.d (.list 6 (x264.map e_api_Sample)))), (25, (.d (.list 6 (x321.map e_api_Sample)))), (138, (.d (.list 1 (([a0, r4.1, p34.2, p34.1, m74] : List (List api_Sample)).map e_LeapiSample)))), (139, (.d (.int .i64 (([a0, r4.1, p34.2, p34.1, m74] : List (List api_Sample)).length : Int)))), (140, (.d (.int .i64 s76))), (193, (.d (.list 1 (([a0, r4.1, p34.2, p34.1, m74] : List (List api_Sample)).map e_LeapiSample)))), (194, (.d (.int .i64 (([a0, r4.1, p34.2, p34.1, m74] : List (List api_Sample)).length : Int)))), (195, (.d (.int .i64 s295)))] [] hB (by rfl) (by rfl) (by rfl)) ?_
                        refine AWp.seq ?_
                        obtain ⟨r322, hr322, h⟩ := bindS h
                        refine AWp.region (OpJs.cons (OpJ.move (ltN hN rfl) (Opd.tmp 23 (.d (.list 6 (x264.map e_api_Sample)))))
                          (OpJs.cons (OpJ.move (ltN hN rfl) (Opd.tmp 25 (.d (.list 6 (x321.map e_api_Sample)))))
                          (OpJs.cons (OpJ.callFn hB fnOk14 (sample_Merge_ac x264 x321 r322 hr322) [] (by kernel_rfl) (ltN hN rfl) (by kernel_rfl) (OpdL.cons (Opd.tmp 200 (.d (.list 6 (x264.map e_api_Sample)))) (OpdL.cons (Opd.tmp 201 (.d (.list 6 (x321.map e_api_Sample)))) OpdL.nil)))
                          (OpJs.cons (OpJ.move (ltN hN rfl) (Opd.tmp 202 (.tup [(.d (.list 6 (r322.1.map e_api_Sample))), (.d (.int .i64 r322.2))])))
                          (OpJs.cons (OpJ.extract (v := (.d (.list 6 (r322.1.map e_api_Sample)))) (by rfl) rfl (ltN hN rfl) (Opd.tmp 199 (.tup [(.d (.list 6 (r322.1.map e_api_Sample))), (.d (.int .i64 r322.2))])))
                          (OpJs.cons (OpJ.extract (v := (.d (.int .i64 r322.2))) (by rfl) rfl (ltN hN rfl) (Opd.tmp 199 (.tup [(.d (.list 6 (r322.1.map e_api_Sample))), (.d (.int .i64 r322.2))])))
                          (OpJs.cons (OpJ.assign (ltN hN rfl) (Opd.tmp 203 (.d (.list 6 (r322.1.map e_api_Sample)))))
                          (OpJs.cons (OpJ.assign (ltN hN rfl) (Opd.tmp 204 (.d (.int .i64 r322.2))))
                          (OpJs.nil))))))))) (by rfl) (by rfl) ?_
                        refine seqQ_n ?_
                        refine AWp.ghost (Mat.pat [] [(4, (.d (.int .i64 a4))), (5, (.d (.int .i64 a5))), (21, (.d (.list 1 (([a0, r4.1, p34.2, p34.1, m74] : List (List api_Sample)).map e_LeapiSample)))), (23, (.d (.list 6 (x264.map e_api_Sample)))), (25, (.d (.list 6 (x321.map e_api_Sample)))), (26, (.d (.list 6 (r322.1.map e_api_Sample)))), (27, (.d (.int .i64 r322.2))), (138, (.d (.list 1 (([a0, r4.1, p34.2, p34.1, m74] : List (List api_Sample)).map e_LeapiSample)))), (139, (.d (.int .i64 (([a0, r4.1, p34.2, p34.1, m74] : List (List api_Sample)).length : Int)))), (140, (.d (.int .i64 s76))), (193, (.d (.list 1 (([a0, r4.1, p34.2, p34.1, m74] : List (List api_Sample)).map e_LeapiSample)))), (194, (.d (.int .i64 (([a0, r4.1, p34.2, p34.1, m74] : List (List api_Sample)).length : Int)))), (195, (.d (.int .i64 s295)))] [] hB (by rfl) (by rfl) (by rfl)) ?_
                        refine AWp.seq ?_
                        obtain ⟨r323, hr323, h⟩ := bindS h
                        refine AWp.region (OpJs.cons (OpJ.move (ltN hN rfl) (Opd.tmp 23 (.d (.list 6 (x264.map e_api_Sample)))))
                          (OpJs.cons (OpJ.move (ltN hN rfl) (Opd.tmp 25 (.d (.list 6 (x321.map e_api_Sample)))))
                          (OpJs.cons (OpJ.callFn hB fnOk24 (exchangepointref37_Merge_ac x264 x321 r323 hr323) [] (by kernel_rfl) (ltN hN rfl) (by kernel_rfl) (OpdL.cons (Opd.tmp 206 (.d (.list 6 (x264.map e_api_Sample)))) (OpdL.cons (Opd.tmp 207 (.d (.list 6 (x321.map e_api_Sample)))) OpdL.nil)))
                          (OpJs.cons (OpJ.move (ltN hN rfl) (Opd.tmp 208 (.tup [(.d (.list 6 (r323.1.map e_api_Sample))), (.d (.int .i64 r323.2))])))
                          (OpJs.cons (OpJ.extract (v := (.d (.list 6 (r323.1.map e_api_Sample)))) (by rfl) rfl (ltN hN rfl) (Opd.tmp 205 (.tup [(.d (.list 6 (r323.1.map e_api_Sample))), (.d (.int .i64 r323.2))])))
                          (OpJs.cons (OpJ.extract (v := (.d (.int .i64 r323.2))) (by rfl) rfl (ltN hN rfl) (Opd.tmp 205 (.tup [(.d (.list 6 (r323.1.map e_api_Sample))), (.d (.int .i64 r323.2))])))
                          (OpJs.cons (OpJ.assign (ltN hN rfl) (Opd.tmp 209 (.d (.list 6 (r323.1.map e_api_Sample)))))
                          (OpJs.cons (OpJ.assign (ltN hN rfl) (Opd.tmp 210 (.d (.int .i64 r323.2))))
                          (OpJs.nil))))))))) (by rfl) (by rfl) ?_
                        refine seqQ_n ?_
                        refine AWp.ghost (Mat.pat [] [(4, (.d (.int .i64 a4))), (5, (.d (.int .i64 a5))), (21, (.d (.list 1 (([a0, r4.1, p34.2, p34.1, m74] : List (List api_Sample)).map e_LeapiSample)))), (23, (.d (.list 6 (x264.map e_api_Sample)))), (26, (.d (.list 6 (r322.1.map e_api_Sample)))), (27, (.d (.int .i64 r322.2))), (28, (.d (.list 6 (r323.1.map e_api_Sample)))), (29, (.d (.int .i64 r323.2))), (138, (.d (.list 1 (([a0, r4.1, p34.2, p34.1, m74] : List (List api_Sample)).map e_LeapiSample)))), (139, (.d (.int .i64 (([a0, r4.1, p34.2, p34.1, m74] : List (List api_Sample)).length : Int)))), (140, (.d (.int .i64 s76))), (193, (.d (.list 1 (([a0, r4.1, p34.2, p34.1, m74] : List (List api_Sample)).map e_LeapiSample)))), (194, (.d (.int .i64 (([a0, r4.1, p34.2, p34.1, m74] : List (List api_Sample)).length : Int)))), (195, (.d (.int .i64 s295)))] [] hB (by rfl) (by rfl) (by rfl)) ?_
                        refine AWp.seq ?_
                        refine AWp.cut h (fun m326 : Bool => ([(4, (.d (.int .i64 a4))), (5, (.d (.int .i64 a5))), (21, (.d (.list 1 (([a0, r4.1, p34.2, p34.1, m74] : List (List api_Sample)).map e_LeapiSample)))), (23, (.d (.list 6 (x264.map e_api_Sample)))), (138, (.d (.list 1 (([a0, r4.1, p34.2, p34.1, m74] : List (List api_Sample)).map e_LeapiSample)))), (139, (.d (.int .i64 (([a0, r4.1, p34.2, p34.1, m74] : List (List api_Sample)).length : Int)))), (140, (.d (.int .i64 s76))), (193, (.d (.list 1 (([a0, r4.1, p34.2, p34.1, m74] : List (List api_Sample)).map e_LeapiSample)))), (194, (.d (.int .i64 (([a0, r4.1, p34.2, p34.1, m74] : List (List api_Sample)).length : Int)))), (195, (.d (.int .i64 s295))), (219, (.d (.bool m326)))] : EL)) (fun m326 : Bool => ([] : OL)) (fun m326 h E' O' hmat => ?_) (fun j327 hjj327 h => ?_)
                        · refine seqQ_n ?_
                          refine AWp.ghost hmat ?_
                          refine AWp.cond (b := m326) (by rfl) (fun hg328 => ?_) (fun hg328 => ?_)
                          · replace h := ite_t hg328 h
                            refine AWp.seq ?_
                            refine AWp.region (OpJs.cons (OpJ.assign (ltN hN rfl) (Opd.bool false))
                              (OpJs.nil)) (by rfl) (by rfl) ?_
                            refine seqQ_n ?_
                            refine AWp.ghost (Mat.pat [] [(12, (.d (.bool false)))] [] hB (by rfl) (by rfl) (by rfl)) ?_
                            refine AWp.ret ?_
                            refine blkQ_r ?_
                            refine seqQ_r ?_
                            obtain rfl := Option.some.inj h
                            exact ⟨(fun hc => by cases hc), rfl, (Mat.pat [] ((fun _ : Unit => ([(12, (.d (.bool false)))] : EL)) ()) ((fun _ : Unit => ([] : OL)) ()) hB (by rfl) (by rfl) (by rfl))⟩
                          · replace h := ite_f hg328 h
                            refine AWp.skip ?_
                            refine blkQ_n ?_
                            refine seqQ_n ?_
                            refine AWp.region (OpJs.cons (OpJ.add (ltN hN rfl) (Opd.tmp 195 (.d (.int .i64 s295))) (Opd.int .i64 (1)))
                              (OpJs.cons (OpJ.move (ltN hN rfl) (Opd.tmp 220 (.d (.int .i64 (w64 (s295 + (1 : Int)))))))
                              (OpJs.nil))) (by rfl) (by rfl) ?_
                            obtain rfl := Option.some.inj h
                            exact ⟨rfl, (Mat.trans (Mat.pat [] [(4, (.d (.int .i64 a4))), (5, (.d (.int .i64 a5))), (21, (.d (.list 1 (([a0, r4.1, p34.2, p34.1, m74] : List (List api_Sample)).map e_LeapiSample)))), (23, (.d (.list 6 (x264.map e_api_Sample)))), (138, (.d (.list 1 (([a0, r4.1, p34.2, p34.1, m74] : List (List api_Sample)).map e_LeapiSample)))), (139, (.d (.int .i64 (([a0, r4.1, p34.2, p34.1, m74] : List (List api_Sample)).length : Int)))), (140, (.d (.int .i64 s76))), (193, (.d (.list 1 (([a0, r4.1, p34.2, p34.1, m74] : List (List api_Sample)).map e_LeapiSample)))), (194, (.d (.int .i64 (([a0, r4.1, p34.2, p34.1, m74] : List (List api_Sample)).length : Int)))), (195, (.d (.int .i64 (w64 (s295 + (1 : Int))))))] [] hB (by rfl) (by rfl) (by rfl)) (Mat.pat [] ((fun s295 : Int => ([(4, (.d (.int .i64 a4))), (5, (.d (.int .i64 a5))), (21, (.d (.list 1 (([a0, r4.1, p34.2, p34.1, m74] : List (List api_Sample)).map e_LeapiSample)))), (23, (.d (.list 6 (x264.map e_api_Sample)))), (138, (.d (.list 1 (([a0, r4.1, p34.2, p34.1, m74] : List (List api_Sample)).map e_LeapiSample)))), (139, (.d (.int .i64 (([a0, r4.1, p34.2, p34.1, m74] : List (List api_Sample)).length : Int)))), (140, (.d (.int .i64 s76))), (193, (.d (.list 1 (([a0, r4.1, p34.2, p34.1, m74] : List (List api_Sample)).map e_LeapiSample)))), (194, (.d (.int .i64 (([a0, r4.1, p34.2, p34.1, m74] : List (List api_Sample)).length : Int)))), (195, (.d (.int .i64 s295)))] : EL)) (w64 (s295 + (1 : Int)))) ((fun s295 : Int => ([] : OL)) (w64 (s295 + (1 : Int)))) hB (by rfl) (by rfl) (by rfl)))⟩
                        · rcases Bool.eq_false_or_eq_true (r322.2 != r323.2) with hg329 | hg329
                          · replace h := ite_t hg329 h
                            refine AWp.region (OpJs.cons (OpJ.move (ltN hN rfl) (Opd.tmp 27 (.d (.int .i64 r322.2))))
                              (OpJs.cons (OpJ.move (ltN hN rfl) (Opd.tmp 29 (.d (.int .i64 r323.2))))
                              (OpJs.cons (OpJ.neqI (ltN hN rfl) (Opd.tmp 211 (.d (.int .i64 r322.2))) (Opd.tmp 212 (.d (.int .i64 r323.2))))
                              (OpJs.cons (OpJ.val (v' := .d (.bool true)) (by rw [hg329]) (OpJ.move (ltN hN rfl) (Opd.tmp 213 (.d (.bool (r322.2 != r323.2))))))
                              (OpJs.cons (OpJ.skipU (ltN hN rfl) (by rfl))
                              (OpJs.cons (OpJ.skipU (ltN hN rfl) (by rfl))
                              (OpJs.cons (OpJ.skipU (ltN hN rfl) (by rfl))
                              (OpJs.cons (OpJ.skipU (ltN hN rfl) (by rfl))
                              (OpJs.cons (OpJ.pickT (ltN hN rfl) (Opd.tmp 214 (.d (.bool true))) (Opd.bool true))
                              (OpJs.nil)))))))))) (by rfl) (by rfl) ?_
                            exact hjj327 _ h _ _ (Mat.trans (Mat.pat [] [(4, (.d (.int .i64 a4))), (5, (.d (.int .i64 a5))), (21, (.d (.list 1 (([a0, r4.1, p34.2, p34.1, m74] : List (List api_Sample)).map e_LeapiSample)))), (23, (.d (.list 6 (x264.map e_api_Sample)))), (138, (.d (.list 1 (([a0, r4.1, p34.2, p34.1, m74] : List (List api_Sample)).map e_LeapiSample)))), (139, (.d (.int .i64 (([a0, r4.1, p34.2, p34.1, m74] : List (List api_Sample)).length : Int)))), (140, (.d (.int .i64 s76))), (193, (.d (.list 1 (([a0, r4.1, p34.2, p34.1, m74] : List (List api_Sample)).map e_LeapiSample)))), (194, (.d (.int .i64 (([a0, r4.1, p34.2, p34.1, m74] : List (List api_Sample)).length : Int)))), (195, (.d (.int .i64 s295))), (219, (.d (.bool true)))] [] hB (by rfl) (by rfl) (by rfl)) (Mat.pat [] ((fun m326 : Bool => ([(4, (.d (.int .i64 a4))), (5, (.d (.int .i64 a5))), (21, (.d (.list 1 (([a0, r4.1, p34.2, p34.1, m74] : List (List api_Sample)).map e_LeapiSample)))), (23, (.d (.list 6 (x264.map e_api_Sample)))), (138, (.d (.list 1 (([a0, r4.1, p34.2, p34.1, m74] : List (List api_Sample)).map e_LeapiSample)))), (139, (.d (.int .i64 (([a0, r4.1, p34.2, p34.1, m74] : List (List api_Sample)).length : Int)))), (140, (.d (.int .i64 s76))), (193, (.d (.list 1 (([a0, r4.1, p34.2, p34.1, m74] : List (List api_Sample)).map e_LeapiSample)))), (194, (.d (.int .i64 (([a0, r4.1, p34.2, p34.1, m74] : List (List api_Sample)).length : Int)))), (195, (.d (.int .i64 s295))), (219, (.d (.bool m326)))] : EL)) true) ((fun m326 : Bool => ([] : OL)) true) hB (by rfl) (by rfl) (by rfl)))
                          · replace h := ite_f hg329 h
                            obtain ⟨r330, hr330, h⟩ := bindS h
                            refine AWp.region (OpJs.cons (OpJ.move (ltN hN rfl) (Opd.tmp 27 (.d (.int .i64 r322.2))))
                              (OpJs.cons (OpJ.move (ltN hN rfl) (Opd.tmp 29 (.d (.int .i64 r323.2))))
                              (OpJs.cons (OpJ.neqI (ltN hN rfl) (Opd.tmp 211 (.d (.int .i64 r322.2))) (Opd.tmp 212 (.d (.int .i64 r323.2))))
                              (OpJs.cons (OpJ.val (v' := .d (.bool false)) (by rw [hg329]) (OpJ.move (ltN hN rfl) (Opd.tmp 213 (.d (.bool (r322.2 != r323.2))))))
                              (OpJs.cons (OpJ.guarded (by rfl) (OpJ.move (ltN hN rfl) (Opd.tmp 26 (.d (.list 6 (r322.1.map e_api_Sample))))))
                              (OpJs.cons (OpJ.guarded (by rfl) (OpJ.move (ltN hN rfl) (Opd.tmp 28 (.d (.list 6 (r323.1.map e_api_Sample))))))
                              (OpJs.cons (OpJ.guarded (by rfl) (OpJ.callFn hB fnOk15 (exchangepointref37_Same_ac r322.1 r323.1 r330 hr330) [] (by kernel_rfl) (ltN hN rfl) (by kernel_rfl) (OpdL.cons (Opd.tmp 215 (.d (.list 6 (r322.1.map e_api_Sample)))) (OpdL.cons (Opd.tmp 216 (.d (.list 6 (r323.1.map e_api_Sample)))) OpdL.nil))))
                              (OpJs.cons (OpJ.guarded (by rfl) (OpJ.not (ltN hN rfl) (Opd.tmp 217 (.d (.bool r330)))))
                              (OpJs.cons (OpJ.pickF (ltN hN rfl) (Opd.tmp 214 (.d (.bool false))) (Opd.tmp 218 (.d (.bool (!r330)))))
                              (OpJs.nil)))))))))) (by rfl) (by rfl) ?_
                            exact hjj327 _ h _ _ (Mat.trans (Mat.pat [] [(4, (.d (.int .i64 a4))), (5, (.d (.int .i64 a5))), (21, (.d (.list 1 (([a0, r4.1, p34.2, p34.1, m74] : List (List api_Sample)).map e_LeapiSample)))), (23, (.d (.list 6 (x264.map e_api_Sample)))), (138, (.d (.list 1 (([a0, r4.1, p34.2, p34.1, m74] : List (List api_Sample)).map e_LeapiSample)))), (139, (.d (.int .i64 (([a0, r4.1, p34.2, p34.1, m74] : List (List api_Sample)).length : Int)))), (140, (.d (.int .i64 s76))), (193, (.d (.list 1 (([a0, r4.1, p34.2, p34.1, m74] : List (List api_Sample)).map e_LeapiSample)))), (194, (.d (.int .i64 (([a0, r4.1, p34.2, p34.1, m74] : List (List api_Sample)).length : Int)))), (195, (.d (.int .i64 s295))), (219, (.d (.bool (!r330))))] [] hB (by rfl) (by rfl) (by rfl)) (Mat.pat [] ((fun m326 : Bool => ([(4, (.d (.int .i64 a4))), (5, (.d (.int .i64 a5))), (21, (.d (.list 1 (([a0, r4.1, p34.2, p34.1, m74] : List (List api_Sample)).map e_LeapiSample)))), (23, (.d (.list 6 (x264.map e_api_Sample)))), (138, (.d (.list 1 (([a0, r4.1, p34.2, p34.1, m74] : List (List api_Sample)).map e_LeapiSample)))), (139, (.d (.int .i64 (([a0, r4.1, p34.2, p34.1, m74] : List (List api_Sample)).length : Int)))), (140, (.d (.int .i64 s76))), (193, (.d (.list 1 (([a0, r4.1, p34.2, p34.1, m74] : List (List api_Sample)).map e_LeapiSample)))), (194, (.d (.int .i64 (([a0, r4.1, p34.2, p34.1, m74] : List (List api_Sample)).length : Int)))), (195, (.d (.int .i64 s295))), (219, (.d (.bool m326)))] : EL)) (!r330)) ((fun m326 : Bool => ([] : OL)) (!r330)) hB (by rfl) (by rfl) (by rfl)))
                      · replace h := ite_f hg320 h
                        refine AWp.exit ?_
                        refine seqQ_e ?_
                        obtain rfl := Option.some.inj h
                        exact ⟨(fun hc => by cases hc), rfl, (Mat.pat [] ((fun _ : Unit => ([(4, (.d (.int .i64 a4))), (5, (.d (.int .i64 a5))), (21, (.d (.list 1 (([a0, r4.1, p34.2, p34.1, m74] : List (List api_Sample)).map e_LeapiSample)))), (138, (.d (.list 1 (([a0, r4.1, p34.2, p34.1, m74] : List (List api_Sample)).map e_LeapiSample)))), (139, (.d (.int .i64 (([a0, r4.1, p34.2, p34.1, m74] : List (List api_Sample)).length : Int)))), (140, (.d (.int .i64 s76)))] : EL)) ()) ((fun _ : Unit => ([] : OL)) ()) hB (by rfl) (by rfl) (by rfl))⟩
                    · rcases x331 with _ | _
                      · obtain ⟨rfl, hmat⟩ := hR
                        refine blkQ_r ?_
                        refine blkQ_r ?_
                        refine seqQ_r ?_
                        obtain rfl := Option.some.inj h
                        exact ⟨(fun hc => by cases hc), rfl, (Mat.trans hmat (Mat.pat [] ((fun _ : Unit => ([(12, (.d (.bool false)))] : EL)) ()) ((fun _ : Unit => ([] : OL)) ()) hB (by rfl) (by rfl) (by rfl)))⟩
                      · obtain ⟨rfl, hmat⟩ := hR
                        refine blkQ_hit ?_
                        refine blkQ_n ?_
                        refine seqQ_n ?_
                        refine AWp.ghost hmat ?_
                        refine AWp.region (OpJs.cons (OpJ.add (ltN hN rfl) (Opd.tmp 140 (.d (.int .i64 s76))) (Opd.int .i64 (1)))
                          (OpJs.cons (OpJ.move (ltN hN rfl) (Opd.tmp 221 (.d (.int .i64 (w64 (s76 + (1 : Int)))))))
                          (OpJs.nil))) (by rfl) (by rfl) ?_
                        obtain rfl := Option.some.inj h
                        exact ⟨rfl, (Mat.trans (Mat.pat [] [(4, (.d (.int .i64 a4))), (5, (.d (.int .i64 a5))), (21, (.d (.list 1 (([a0, r4.1, p34.2, p34.1, m74] : List (List api_Sample)).map e_LeapiSample)))), (138, (.d (.list 1 (([a0, r4.1, p34.2, p34.1, m74] : List (List api_Sample)).map e_LeapiSample)))), (139, (.d (.int .i64 (([a0, r4.1, p34.2, p34.1, m74] : List (List api_Sample)).length : Int)))), (140, (.d (.int .i64 (w64 (s76 + (1 : Int))))))] [] hB (by rfl) (by rfl) (by rfl)) (Mat.pat [] ((fun s76 : Int => ([(4, (.d (.int .i64 a4))), (5, (.d (.int .i64 a5))), (21, (.d (.list 1 (([a0, r4.1, p34.2, p34.1, m74] : List (List api_Sample)).map e_LeapiSample)))), (138, (.d (.list 1 (([a0, r4.1, p34.2, p34.1, m74] : List (List api_Sample)).map e_LeapiSample)))), (139, (.d (.int .i64 (([a0, r4.1, p34.2, p34.1, m74] : List (List api_Sample)).length : Int)))), (140, (.d (.int .i64 s76)))] : EL)) (w64 (s76 + (1 : Int)))) ((fun s76 : Int => ([] : OL)) (w64 (s76 + (1 : Int)))) hB (by rfl) (by rfl) (by rfl)))⟩
                · obtain ⟨r333, hr333, h⟩ := bindS h
                  rcases Bool.eq_false_or_eq_true r333 with hg334 | hg334
                  · replace h := ite_t hg334 h
                    obtain ⟨r335, hr335, h⟩ := bindS h
                    obtain ⟨r336, hr336, h⟩ := bindS h
                    rcases Bool.eq_false_or_eq_true (r335 != r336) with hg337 | hg337
                    · replace h := ite_t hg337 h
                      refine AWp.region (OpJs.cons (OpJ.move (ltN hN rfl) (Opd.tmp 23 (.d (.list 6 (x264.map e_api_Sample)))))
                        (OpJs.cons (OpJ.callFn hB fnOk17 (exchangepointref37_Valid_ac x264 r333 hr333) [] (by kernel_rfl) (ltN hN rfl) (by kernel_rfl) (OpdL.cons (Opd.tmp 177 (.d (.list 6 (x264.map e_api_Sample)))) OpdL.nil))
                        (OpJs.cons (OpJ.val (v' := .d (.bool true)) (by rw [hg334]) (OpJ.move (ltN hN rfl) (Opd.tmp 178 (.d (.bool r333)))))
                        (OpJs.cons (OpJ.guarded (by rfl) (OpJ.move (ltN hN rfl) (Opd.tmp 23 (.d (.list 6 (x264.map e_api_Sample))))))
                        (OpJs.cons (OpJ.guarded (by rfl) (OpJ.callFn hB fnOk20 (sample_Lost_ac x264 r335 hr335) [] (by kernel_rfl) (ltN hN rfl) (by kernel_rfl) (OpdL.cons (Opd.tmp 180 (.d (.list 6 (x264.map e_api_Sample)))) OpdL.nil)))
                        (OpJs.cons (OpJ.guarded (by rfl) (OpJ.move (ltN hN rfl) (Opd.tmp 23 (.d (.list 6 (x264.map e_api_Sample))))))
                        (OpJs.cons (OpJ.guarded (by rfl) (OpJ.callFn hB fnOk21 (exchangepointref37_Lost_ac x264 r336 hr336) [] (by kernel_rfl) (ltN hN rfl) (by kernel_rfl) (OpdL.cons (Opd.tmp 182 (.d (.list 6 (x264.map e_api_Sample)))) OpdL.nil)))
                        (OpJs.cons (OpJ.guarded (by rfl) (OpJ.neqI (ltN hN rfl) (Opd.tmp 181 (.d (.int .i64 r335))) (Opd.tmp 183 (.d (.int .i64 r336)))))
                        (OpJs.cons (OpJ.guarded (by rfl) (OpJ.val (v' := .d (.bool true)) (by rw [hg337]) (OpJ.move (ltN hN rfl) (Opd.tmp 184 (.d (.bool (r335 != r336)))))))
                        (OpJs.cons (OpJ.skipU (ltN hN rfl) (by rfl))
                        (OpJs.cons (OpJ.skipU (ltN hN rfl) (by rfl))
                        (OpJs.cons (OpJ.skipU (ltN hN rfl) (by rfl))
                        (OpJs.cons (OpJ.skipU (ltN hN rfl) (by rfl))
                        (OpJs.cons (OpJ.skipU (ltN hN rfl) (by rfl))
                        (OpJs.cons (OpJ.guarded (by rfl) (OpJ.pickT (ltN hN rfl) (Opd.tmp 185 (.d (.bool true))) (Opd.bool true)))
                        (OpJs.cons (OpJ.pickT (ltN hN rfl) (Opd.tmp 179 (.d (.bool true))) (Opd.tmp 191 (.d (.bool true))))
                        (OpJs.nil))))))))))))))))) (by rfl) (by rfl) ?_
                      exact hjj293 _ h _ _ (Mat.trans (Mat.pat [] [(4, (.d (.int .i64 a4))), (5, (.d (.int .i64 a5))), (21, (.d (.list 1 (([a0, r4.1, p34.2, p34.1, m74] : List (List api_Sample)).map e_LeapiSample)))), (23, (.d (.list 6 (x264.map e_api_Sample)))), (138, (.d (.list 1 (([a0, r4.1, p34.2, p34.1, m74] : List (List api_Sample)).map e_LeapiSample)))), (139, (.d (.int .i64 (([a0, r4.1, p34.2, p34.1, m74] : List (List api_Sample)).length : Int)))), (140, (.d (.int .i64 s76))), (192, (.d (.bool true)))] [] hB (by rfl) (by rfl) (by rfl)) (Mat.pat [] ((fun m292 : Bool => ([(4, (.d (.int .i64 a4))), (5, (.d (.int .i64 a5))), (21, (.d (.list 1 (([a0, r4.1, p34.2, p34.1, m74] : List (List api_Sample)).map e_LeapiSample)))), (23, (.d (.list 6 (x264.map e_api_Sample)))), (138, (.d (.list 1 (([a0, r4.1, p34.2, p34.1, m74] : List (List api_Sample)).map e_LeapiSample)))), (139, (.d (.int .i64 (([a0, r4.1, p34.2, p34.1, m74] : List (List api_Sample)).length : Int)))), (140, (.d (.int .i64 s76))), (192, (.d (.bool m292)))] : EL)) true) ((fun m292 : Bool => ([] : OL)) true) hB (by rfl) (by rfl) (by rfl)))
                    · replace h := ite_f hg337 h
                      obtain ⟨r338, hr338, h⟩ := bindS h
                      obtain ⟨r339, hr339, h⟩ := bindS h
                      refine AWp.region (OpJs.cons (OpJ.move (ltN hN rfl) (Opd.tmp 23 (.d (.list 6 (x264.map e_api_Sample)))))
                        (OpJs.cons (OpJ.callFn hB fnOk17 (exchangepointref37_Valid_ac x264 r333 hr333) [] (by kernel_rfl) (ltN hN rfl) (by kernel_rfl) (OpdL.cons (Opd.tmp 177 (.d (.list 6 (x264.map e_api_Sample)))) OpdL.nil))
                        (OpJs.cons (OpJ.val (v' := .d (.bool true)) (by rw [hg334]) (OpJ.move (ltN hN rfl) (Opd.tmp 178 (.d (.bool r333)))))
                        (OpJs.cons (OpJ.guarded (by rfl) (OpJ.move (ltN hN rfl) (Opd.tmp 23 (.d (.list 6 (x264.map e_api_Sample))))))
                        (OpJs.cons (OpJ.guarded (by rfl) (OpJ.callFn hB fnOk20 (sample_Lost_ac x264 r335 hr335) [] (by kernel_rfl) (ltN hN rfl) (by kernel_rfl) (OpdL.cons (Opd.tmp 180 (.d (.list 6 (x264.map e_api_Sample)))) OpdL.nil)))
                        (OpJs.cons (OpJ.guarded (by rfl) (OpJ.move (ltN hN rfl) (Opd.tmp 23 (.d (.list 6 (x264.map e_api_Sample))))))
                        (OpJs.cons (OpJ.guarded (by rfl) (OpJ.callFn hB fnOk21 (exchangepointref37_Lost_ac x264 r336 hr336) [] (by kernel_rfl) (ltN hN rfl) (by kernel_rfl) (OpdL.cons (Opd.tmp 182 (.d (.list 6 (x264.map e_api_Sample)))) OpdL.nil)))
                        (OpJs.cons (OpJ.guarded (by rfl) (OpJ.neqI (ltN hN rfl) (Opd.tmp 181 (.d (.int .i64 r335))) (Opd.tmp 183 (.d (.int .i64 r336)))))
                        (OpJs.cons (OpJ.guarded (by rfl) (OpJ.val (v' := .d (.bool false)) (by rw [hg337]) (OpJ.move (ltN hN rfl) (Opd.tmp 184 (.d (.bool (r335 != r336)))))))
                        (OpJs.cons (OpJ.guarded (by rfl) (OpJ.move (ltN hN rfl) (Opd.tmp 23 (.d (.list 6 (x264.map e_api_Sample))))))
                        (OpJs.cons (OpJ.guarded (by rfl) (OpJ.callFn hB fnOk22 (sample_Span_ac x264 r338 hr338) [] (by kernel_rfl) (ltN hN rfl) (by kernel_rfl) (OpdL.cons (Opd.tmp 186 (.d (.list 6 (x264.map e_api_Sample)))) OpdL.nil)))
                        (OpJs.cons (OpJ.guarded (by rfl) (OpJ.move (ltN hN rfl) (Opd.tmp 23 (.d (.list 6 (x264.map e_api_Sample))))))
                        (OpJs.cons (OpJ.guarded (by rfl) (OpJ.callFn hB fnOk23 (exchangepointref37_Span_ac x264 r339 hr339) [] (by kernel_rfl) (ltN hN rfl) (by kernel_rfl) (OpdL.cons (Opd.tmp 188 (.d (.list 6 (x264.map e_api_Sample)))) OpdL.nil)))
                        (OpJs.cons (OpJ.guarded (by rfl) (OpJ.neqI (ltN hN rfl) (Opd.tmp 187 (.d (.int .i64 r338))) (Opd.tmp 189 (.d (.int .i64 r339)))))
                        (OpJs.cons (OpJ.guarded (by rfl) (OpJ.pickF (ltN hN rfl) (Opd.tmp 185 (.d (.bool false))) (Opd.tmp 190 (.d (.bool (r338 != r339))))))
                        (OpJs.cons (OpJ.pickT (ltN hN rfl) (Opd.tmp 179 (.d (.bool true))) (Opd.tmp 191 (.d (.bool (r338 != r339)))))
                        (OpJs.nil))))))))))))))))) (by rfl) (by rfl) ?_
                      exact hjj293 _ h _ _ (Mat.trans (Mat.pat [] [(4, (.d (.int .i64 a4))), (5, (.d (.int .i64 a5))), (21, (.d (.list 1 (([a0, r4.1, p34.2, p34.1, m74] : List (List api_Sample)).map e_LeapiSample)))), (23, (.d (.list 6 (x264.map e_api_Sample)))), (138, (.d (.list 1 (([a0, r4.1, p34.2, p34.1, m74] : List (List api_Sample)).map e_LeapiSample)))), (139, (.d (.int .i64 (([a0, r4.1, p34.2, p34.1, m74] : List (List api_Sample)).length : Int)))), (140, (.d (.int .i64 s76))), (192, (.d (.bool (r338 != r339))))] [] hB (by rfl) (by rfl) (by rfl)) (Mat.pat [] ((fun m292 : Bool => ([(4, (.d (.int .i64 a4))), (5, (.d (.int .i64 a5))), (21, (.d (.list 1 (([a0, r4.1, p34.2, p34.1, m74] : List (List api_Sample)).map e_LeapiSample)))), (23, (.d (.list 6 (x264.map e_api_Sample)))), (138, (.d (.list 1 (([a0, r4.1, p34.2, p34.1, m74] : List (List api_Sample)).map e_LeapiSample)))), (139, (.d (.int .i64 (([a0, r4.1, p34.2, p34.1, m74] : List (List api_Sample)).length : Int)))), (140, (.d (.int .i64 s76))), (192, (.d (.bool m292)))] : EL)) (r338 != r339)) ((fun m292 : Bool => ([] : OL)) (r338 != r339)) hB (by rfl) (by rfl) (by rfl)))
                  · replace h := ite_f hg334 h
                    refine AWp.region (OpJs.cons (OpJ.move (ltN hN rfl) (Opd.tmp 23 (.d (.list 6 (x264.map e_api_Sample)))))
                      (OpJs.cons (OpJ.callFn hB fnOk17 (exchangepointref37_Valid_ac x264 r333 hr333) [] (by kernel_rfl) (ltN hN rfl) (by kernel_rfl) (OpdL.cons (Opd.tmp 177 (.d (.list 6 (x264.map e_api_Sample)))) OpdL.nil))
                      (OpJs.cons (OpJ.val (v' := .d (.bool false)) (by rw [hg334]) (OpJ.move (ltN hN rfl) (Opd.tmp 178 (.d (.bool r333)))))
                      (OpJs.cons (OpJ.skipU (ltN hN rfl) (by rfl))
                      (OpJs.cons (OpJ.skipU (ltN hN rfl) (by rfl))
                      (OpJs.cons (OpJ.skipU (ltN hN rfl) (by rfl))
                      (OpJs.cons (OpJ.skipU (ltN hN rfl) (by rfl))
                      (OpJs.cons (OpJ.skipU (ltN hN rfl) (by rfl))
                      (OpJs.cons (OpJ.skipU (ltN hN rfl) (by rfl))
                      (OpJs.cons (OpJ.skipV (ltN hN rfl) (by rfl))
                      (OpJs.cons (OpJ.skipV (ltN hN rfl) (by rfl))
                      (OpJs.cons (OpJ.skipV (ltN hN rfl) (by rfl))
                      (OpJs.cons (OpJ.skipV (ltN hN rfl) (by rfl))
                      (OpJs.cons (OpJ.skipV (ltN hN rfl) (by rfl))
                      (OpJs.cons (OpJ.skipU (ltN hN rfl) (by rfl))
                      (OpJs.cons (OpJ.pickF (ltN hN rfl) (Opd.tmp 179 (.d (.bool false))) (Opd.bool false))
                      (OpJs.nil))))))))))))))))) (by rfl) (by rfl) ?_
                    exact hjj293 _ h _ _ (Mat.trans (Mat.pat [] [(4, (.d (.int .i64 a4))), (5, (.d (.int .i64 a5))), (21, (.d (.list 1 (([a0, r4.1, p34.2, p34.1, m74] : List (List api_Sample)).map e_LeapiSample)))), (23, (.d (.list 6 (x264.map e_api_Sample)))), (138, (.d (.list 1 (([a0, r4.1, p34.2, p34.1, m74] : List (List api_Sample)).map e_LeapiSample)))), (139, (.d (.int .i64 (([a0, r4.1, p34.2, p34.1, m74] : List (List api_Sample)).length : Int)))), (140, (.d (.int .i64 s76))), (192, (.d (.bool false)))] [] hB (by rfl) (by rfl) (by rfl)) (Mat.pat [] ((fun m292 : Bool => ([(4, (.d (.int .i64 a4))), (5, (.d (.int .i64 a5))), (21, (.d (.list 1 (([a0, r4.1, p34.2, p34.1, m74] : List (List api_Sample)).map e_LeapiSample)))), (23, (.d (.list 6 (x264.map e_api_Sample)))), (138, (.d (.list 1 (([a0, r4.1, p34.2, p34.1, m74] : List (List api_Sample)).map e_LeapiSample)))), (139, (.d (.int .i64 (([a0, r4.1, p34.2, p34.1, m74] : List (List api_Sample)).length : Int)))), (140, (.d (.int .i64 s76))), (192, (.d (.bool m292)))] : EL)) false) ((fun m292 : Bool => ([] : OL)) false) hB (by rfl) (by rfl) (by rfl)))
            · obtain ⟨r340, hr340, h⟩ := bindS h
              obtain ⟨r341, hr341, h⟩ := bindS h
              rcases Bool.eq_false_or_eq_true (r340 != r341) with hg342 | hg342
              · replace h := ite_t hg342 h
                refine AWp.region (OpJs.cons (OpJ.move (ltN hN rfl) (Opd.tmp 23 (.d (.list 6 (x264.map e_api_Sample)))))
                  (OpJs.cons (OpJ.callFn hB fnOk16 (sample_Valid_ac x264 r340 hr340) [] (by kernel_rfl) (ltN hN rfl) (by kernel_rfl) (OpdL.cons (Opd.tmp 144 (.d (.list 6 (x264.map e_api_Sample)))) OpdL.nil))
                  (OpJs.cons (OpJ.move (ltN hN rfl) (Opd.tmp 23 (.d (.list 6 (x264.map e_api_Sample)))))
                  (OpJs.cons (OpJ.callFn hB fnOk17 (exchangepointref37_Valid_ac x264 r341 hr341) [] (by kernel_rfl) (ltN hN rfl) (by kernel_rfl) (OpdL.cons (Opd.tmp 146 (.d (.list 6 (x264.map e_api_Sample)))) OpdL.nil))
                  (OpJs.cons (OpJ.neqB Try.underlying4 (ltN hN rfl) (Opd.tmp 145 (.d (.bool r340))) (Opd.tmp 147 (.d (.bool r341))))
                  (OpJs.cons (OpJ.val (v' := .d (.bool true)) (by rw [hg342]) (OpJ.move (ltN hN rfl) (Opd.tmp 148 (.d (.bool (r340 != r341))))))
                  (OpJs.cons (OpJ.skipU (ltN hN rfl) (by rfl))
                  (OpJs.cons (OpJ.skipU (ltN hN rfl) (by rfl))
                  (OpJs.cons (OpJ.skipU (ltN hN rfl) (by rfl))
                  (OpJs.cons (OpJ.skipU (ltN hN rfl) (by rfl))
                  (OpJs.cons (OpJ.skipU (ltN hN rfl) (by rfl))
                  (OpJs.cons (OpJ.skipU (ltN hN rfl) (by rfl))
                  (OpJs.cons (OpJ.skipU (ltN hN rfl) (by rfl))
                  (OpJs.cons (OpJ.skipU (ltN hN rfl) (by rfl))
                  (OpJs.cons (OpJ.skipU (ltN hN rfl) (by rfl))
                  (OpJs.cons (OpJ.skipU (ltN hN rfl) (by rfl))
                  (OpJs.cons (OpJ.pickT (ltN hN rfl) (Opd.tmp 149 (.d (.bool true))) (Opd.bool true))
                  (OpJs.cons (OpJ.move (ltN hN rfl) (Opd.tmp 160 (.d (.bool true))))
                  (OpJs.cons (OpJ.skipU (ltN hN rfl) (by rfl))
                  (OpJs.cons (OpJ.skipU (ltN hN rfl) (by rfl))
                  (OpJs.cons (OpJ.skipU (ltN hN rfl) (by rfl))
                  (OpJs.cons (OpJ.skipU (ltN hN rfl) (by rfl))
                  (OpJs.cons (OpJ.skipU (ltN hN rfl) (by rfl))
                  (OpJs.cons (OpJ.skipU (ltN hN rfl) (by rfl))
                  (OpJs.cons (OpJ.skipU (ltN hN rfl) (by rfl))
                  (OpJs.cons (OpJ.skipU (ltN hN rfl) (by rfl))
                  (OpJs.cons (OpJ.skipU (ltN hN rfl) (by rfl))
                  (OpJs.cons (OpJ.skipU (ltN hN rfl) (by rfl))
                  (OpJs.cons (OpJ.skipU (ltN hN rfl) (by rfl))
                  (OpJs.cons (OpJ.skipU (ltN hN rfl) (by rfl))
                  (OpJs.cons (OpJ.skipU (ltN hN rfl) (by rfl))
                  (OpJs.cons (OpJ.skipU (ltN hN rfl) (by rfl))
                  (OpJs.cons (OpJ.pickT (ltN hN rfl) (Opd.tmp 161 (.d (.bool true))) (Opd.bool true))
                  (OpJs.nil)))))))))))))))))))))))))))))))))) (by rfl) (by rfl) ?_
                exact hjj282 _ h _ _ (Mat.trans (Mat.pat [] [(4, (.d (.int .i64 a4))), (5, (.d (.int .i64 a5))), (21, (.d (.list 1 (([a0, r4.1, p34.2, p34.1, m74] : List (List api_Sample)).map e_LeapiSample)))), (23, (.d (.list 6 (x264.map e_api_Sample)))), (138, (.d (.list 1 (([a0, r4.1, p34.2, p34.1, m74] : List (List api_Sample)).map e_LeapiSample)))), (139, (.d (.int .i64 (([a0, r4.1, p34.2, p34.1, m74] : List (List api_Sample)).length : Int)))), (140, (.d (.int .i64 s76))), (176, (.d (.bool true)))] [] hB (by rfl) (by rfl) (by rfl)) (Mat.pat [] ((fun m281 : Bool => ([(4, (.d (.int .i64 a4))), (5, (.d (.int .i64 a5))), (21, (.d (.list 1 (([a0, r4.1, p34.2, p34.1, m74] : List (List api_Sample)).map e_LeapiSample)))), (23, (.d (.list 6 (x264.map e_api_Sample)))), (138, (.d (.list 1 (([a0, r4.1, p34.2, p34.1, m74] : List (List api_Sample)).map e_LeapiSample)))), (139, (.d (.int .i64 (([a0, r4.1, p34.2, p34.1, m74] : List (List api_Sample)).length : Int)))), (140, (.d (.int .i64 s76))), (176, (.d (.bool m281)))] : EL)) true) ((fun m281 : Bool => ([] : OL)) true) hB (by rfl) (by rfl) (by rfl)))
              · replace h := ite_f hg342 h
                obtain ⟨r343, hr343, h⟩ := bindS h
                obtain ⟨r344, hr344, h⟩ := bindS h
                obtain ⟨r345, hr345, h⟩ := bindS h
                rcases Bool.eq_false_or_eq_true (!r345) with hg346 | hg346
                · replace h := ite_t hg346 h
                  refine AWp.region (OpJs.cons (OpJ.move (ltN hN rfl) (Opd.tmp 23 (.d (.list 6 (x264.map e_api_Sample)))))
                    (OpJs.cons (OpJ.callFn hB fnOk16 (sample_Valid_ac x264 r340 hr340) [] (by kernel_rfl) (ltN hN rfl) (by kernel_rfl) (OpdL.cons (Opd.tmp 144 (.d (.list 6 (x264.map e_api_Sample)))) OpdL.nil))
                    (OpJs.cons (OpJ.move (ltN hN rfl) (Opd.tmp 23 (.d (.list 6 (x264.map e_api_Sample)))))
                    (OpJs.cons (OpJ.callFn hB fnOk17 (exchangepointref37_Valid_ac x264 r341 hr341) [] (by kernel_rfl) (ltN hN rfl) (by kernel_rfl) (OpdL.cons (Opd.tmp 146 (.d (.list 6 (x264.map e_api_Sample)))) OpdL.nil))
                    (OpJs.cons (OpJ.neqB Try.underlying4 (ltN hN rfl) (Opd.tmp 145 (.d (.bool r340))) (Opd.tmp 147 (.d (.bool r341))))
                    (OpJs.cons (OpJ.val (v' := .d (.bool false)) (by rw [hg342]) (OpJ.move (ltN hN rfl) (Opd.tmp 148 (.d (.bool (r340 != r341))))))
                    (OpJs.cons (OpJ.guarded (by rfl) (OpJ.move (ltN hN rfl) (Opd.tmp 23 (.d (.list 6 (x264.map e_api_Sample))))))
                    (OpJs.cons (OpJ.guarded (by rfl) (OpJ.move (ltN hN rfl) (Opd.tmp 4 (.d (.int .i64 a4)))))
                    (OpJs.cons (OpJ.guarded (by rfl) (OpJ.move (ltN hN rfl) (Opd.tmp 5 (.d (.int .i64 a5)))))
                    (OpJs.cons (OpJ.guarded (by rfl) (OpJ.callFn hB fnOk18 (sample_Between_ac x264 a4 a5 r343 hr343) [] (by kernel_rfl) (ltN hN rfl) (by kernel_rfl) (OpdL.cons (Opd.tmp 150 (.d (.list 6 (x264.map e_api_Sample)))) (OpdL.cons (Opd.tmp 151 (.d (.int .i64 a4))) (OpdL.cons (Opd.tmp 152 (.d (.int .i64 a5))) OpdL.nil)))))
                    (OpJs.cons (OpJ.guarded (by rfl) (OpJ.move (ltN hN rfl) (Opd.tmp 23 (.d (.list 6 (x264.map e_api_Sample))))))
                    (OpJs.cons (OpJ.guarded (by rfl) (OpJ.move (ltN hN rfl) (Opd.tmp 4 (.d (.int .i64 a4)))))
                    (OpJs.cons (OpJ.guarded (by rfl) (OpJ.move (ltN hN rfl) (Opd.tmp 5 (.d (.int .i64 a5)))))
                    (OpJs.cons (OpJ.guarded (by rfl) (OpJ.callFn hB fnOk19 (exchangepointref37_Between_ac x264 a4 a5 r344 hr344) [] (by kernel_rfl) (ltN hN rfl) (by kernel_rfl) (OpdL.cons (Opd.tmp 154 (.d (.list 6 (x264.map e_api_Sample)))) (OpdL.cons (Opd.tmp 155 (.d (.int .i64 a4))) (OpdL.cons (Opd.tmp 156 (.d (.int .i64 a5))) OpdL.nil)))))
                    (OpJs.cons (OpJ.guarded (by rfl) (OpJ.callFn hB fnOk15 (exchangepointref37_Same_ac r343 r344 r345 hr345) [] (by kernel_rfl) (ltN hN rfl) (by kernel_rfl) (OpdL.cons (Opd.tmp 153 (.d (.list 6 (r343.map e_api_Sample)))) (OpdL.cons (Opd.tmp 157 (.d (.list 6 (r344.map e_api_Sample)))) OpdL.nil))))
                    (OpJs.cons (OpJ.guarded (by rfl) (OpJ.not (ltN hN rfl) (Opd.tmp 158 (.d (.bool r345)))))
                    (OpJs.cons (OpJ.pickF (ltN hN rfl) (Opd.tmp 149 (.d (.bool false))) (Opd.tmp 159 (.d (.bool (!r345)))))
                    (OpJs.cons (OpJ.val (v' := .d (.bool true)) (by rw [hg346]) (OpJ.move (ltN hN rfl) (Opd.tmp 160 (.d (.bool (!r345))))))
                    (OpJs.cons (OpJ.skipU (ltN hN rfl) (by rfl))
                    (OpJs.cons (OpJ.skipU (ltN hN rfl) (by rfl))
                    (OpJs.cons (OpJ.skipU (ltN hN rfl) (by rfl))
                    (OpJs.cons (OpJ.skipU (ltN hN rfl) (by rfl))
                    (OpJs.cons (OpJ.skipU (ltN hN rfl) (by rfl))
                    (OpJs.cons (OpJ.skipU (ltN hN rfl) (by rfl))
                    (OpJs.cons (OpJ.skipU (ltN hN rfl) (by rfl))
                    (OpJs.cons (OpJ.skipU (ltN hN rfl) (by rfl))
                    (OpJs.cons (OpJ.skipU (ltN hN rfl) (by rfl))
                    (OpJs.cons (OpJ.skipU (ltN hN rfl) (by rfl))
                    (OpJs.cons (OpJ.skipU (ltN hN rfl) (by rfl))
                    (OpJs.cons (OpJ.skipU (ltN hN rfl) (by rfl))
                    (OpJs.cons (OpJ.skipU (ltN hN rfl) (by rfl))
                    (OpJs.cons (OpJ.skipU (ltN hN rfl) (by rfl))
                    (OpJs.cons (OpJ.pickT (ltN hN rfl) (Opd.tmp 161 (.d (.bool true))) (Opd.bool true))
                    (OpJs.nil)))))))))))))))))))))))))))))))))) (by rfl) (by rfl) ?_
                  exact hjj282 _ h _ _ (Mat.trans (Mat.pat [] [(4, (.d (.int .i64 a4))), (5, (.d (.int .i64 a5))), (21, (.d (.list 1 (([a0, r4.1, p34.2, p34.1, m74] : List (List api_Sample)).map e_LeapiSample)))), (23, (.d (.list 6 (x264.map e_api_Sample)))), (138, (.d (.list 1 (([a0, r4.1, p34.2, p34.1, m74] : List (List api_Sample)).map e_LeapiSample)))), (139, (.d (.int .i64 (([a0, r4.1, p34.2, p34.1, m74] : List (List api_Sample)).length : Int)))), (140, (.d (.int .i64 s76))), (176, (.d (.bool true)))] [] hB (by rfl) (by rfl) (by rfl)) (Mat.pat [] ((fun m281 : Bool => ([(4, (.d (.int .i64 a4))), (5, (.d (.int .i64 a5))), (21, (.d (.list 1 (([a0, r4.1, p34.2, p34.1, m74] : List (List api_Sample)).map e_LeapiSample)))), (23, (.d (.list 6 (x264.map e_api_Sample)))), (138, (.d (.list 1 (([a0, r4.1, p34.2, p34.1, m74] : List (List api_Sample)).map e_LeapiSample)))), (139, (.d (.int .i64 (([a0, r4.1, p34.2, p34.1, m74] : List (List api_Sample)).length : Int)))), (140, (.d (.int .i64 s76))), (176, (.d (.bool m281)))] : EL)) true) ((fun m281 : Bool => ([] : OL)) true) hB (by rfl) (by rfl) (by rfl)))
                · replace h := ite_f hg346 h
                  obtain ⟨r347, hr347, h⟩ := bindS h
                  obtain ⟨r348, hr348, h⟩ := bindS h
                  obtain ⟨r349, hr349, h⟩ := bindS h
                  obtain ⟨r350, hr350, h⟩ := bindS h
                  obtain ⟨r351, hr351, h⟩ := bindS h
                  obtain ⟨r352, hr352, h⟩ := bindS h
                  obtain ⟨r353, hr353, h⟩ := bindS h
                  refine AWp.region (OpJs.cons (OpJ.move (ltN hN rfl) (Opd.tmp 23 (.d (.list 6 (x264.map e_api_Sample)))))
                    (OpJs.cons (OpJ.callFn hB fnOk16 (sample_Valid_ac x264 r340 hr340) [] (by kernel_rfl) (ltN hN rfl) (by kernel_rfl) (OpdL.cons (Opd.tmp 144 (.d (.list 6 (x264.map e_api_Sample)))) OpdL.nil))
                    (OpJs.cons (OpJ.move (ltN hN rfl) (Opd.tmp 23 (.d (.list 6 (x264.map e_api_Sample)))))
                    (OpJs.cons (OpJ.callFn hB fnOk17 (exchangepointref37_Valid_ac x264 r341 hr341) [] (by kernel_rfl) (ltN hN rfl) (by kernel_rfl) (OpdL.cons (Opd.tmp 146 (.d (.list 6 (x264.map e_api_Sample)))) OpdL.nil))
                    (OpJs.cons (OpJ.neqB Try.underlying4 (ltN hN rfl) (Opd.tmp 145 (.d (.bool r340))) (Opd.tmp 147 (.d (.bool r341))))
                    (OpJs.cons (OpJ.val (v' := .d (.bool false)) (by rw [hg342]) (OpJ.move (ltN hN rfl) (Opd.tmp 148 (.d (.bool (r340 != r341))))))
                    (OpJs.cons (OpJ.guarded (by rfl) (OpJ.move (ltN hN rfl) (Opd.tmp 23 (.d (.list 6 (x264.map e_api_Sample))))))
                    (OpJs.cons (OpJ.guarded (by rfl) (OpJ.move (ltN hN rfl) (Opd.tmp 4 (.d (.int .i64 a4)))))
                    (OpJs.cons (OpJ.guarded (by rfl) (OpJ.move (ltN hN rfl) (Opd.tmp 5 (.d (.int .i64 a5)))))
                    (OpJs.cons (OpJ.guarded (by rfl) (OpJ.callFn hB fnOk18 (sample_Between_ac x264 a4 a5 r343 hr343) [] (by kernel_rfl) (ltN hN rfl) (by kernel_rfl) (OpdL.cons (Opd.tmp 150 (.d (.list 6 (x264.map e_api_Sample)))) (OpdL.cons (Opd.tmp 151 (.d (.int .i64 a4))) (OpdL.cons (Opd.tmp 152 (.d (.int .i64 a5))) OpdL.nil)))))
                    (OpJs.cons (OpJ.guarded (by rfl) (OpJ.move (ltN hN rfl) (Opd.tmp 23 (.d (.list 6 (x264.map e_api_Sample))))))
                    (OpJs.cons (OpJ.guarded (by rfl) (OpJ.move (ltN hN rfl) (Opd.tmp 4 (.d (.int .i64 a4)))))
                    (OpJs.cons (OpJ.guarded (by rfl) (OpJ.move (ltN hN rfl) (Opd.tmp 5 (.d (.int .i64 a5)))))
                    (OpJs.cons (OpJ.guarded (by rfl) (OpJ.callFn hB fnOk19 (exchangepointref37_Between_ac x264 a4 a5 r344 hr344) [] (by kernel_rfl) (ltN hN rfl) (by kernel_rfl) (OpdL.cons (Opd.tmp 154 (.d (.list 6 (x264.map e_api_Sample)))) (OpdL.cons (Opd.tmp 155 (.d (.int .i64 a4))) (OpdL.cons (Opd.tmp 156 (.d (.int .i64 a5))) OpdL.nil)))))
                    (OpJs.cons (OpJ.guarded (by rfl) (OpJ.callFn hB fnOk15 (exchangepointref37_Same_ac r343 r344 r345 hr345) [] (by kernel_rfl) (ltN hN rfl) (by kernel_rfl) (OpdL.cons (Opd.tmp 153 (.d (.list 6 (r343.map e_api_Sample)))) (OpdL.cons (Opd.tmp 157 (.d (.list 6 (r344.map e_api_Sample)))) OpdL.nil))))
                    (OpJs.cons (OpJ.guarded (by rfl) (OpJ.not (ltN hN rfl) (Opd.tmp 158 (.d (.bool r345)))))
                    (OpJs.cons (OpJ.pickF (ltN hN rfl) (Opd.tmp 149 (.d (.bool false))) (Opd.tmp 159 (.d (.bool (!r345)))))
                    (OpJs.cons (OpJ.val (v' := .d (.bool false)) (by rw [hg346]) (OpJ.move (ltN hN rfl) (Opd.tmp 160 (.d (.bool (!r345))))))
                    (OpJs.cons (OpJ.guarded (by rfl) (OpJ.move (ltN hN rfl) (Opd.tmp 23 (.d (.list 6 (x264.map e_api_Sample))))))
                    (OpJs.cons (OpJ.guarded (by rfl) (OpJ.move (ltN hN rfl) (Opd.tmp 4 (.d (.int .i64 a4)))))
                    (OpJs.cons (OpJ.guarded (by rfl) (OpJ.callFn hB fnOk7 (exchangepointmill_Mod_ac a4 (150 : Int) r347 hr347) [] (by kernel_rfl) (ltN hN rfl) (by kernel_rfl) (OpdL.cons (Opd.tmp 163 (.d (.int .i64 a4))) (OpdL.cons (Opd.int .i64 (150)) OpdL.nil))))
                    (OpJs.cons (OpJ.guarded (by rfl) (OpJ.move (ltN hN rfl) (Opd.tmp 5 (.d (.int .i64 a5)))))
                    (OpJs.cons (OpJ.guarded (by rfl) (OpJ.callFn hB fnOk7 (exchangepointmill_Mod_ac a5 (150 : Int) r348 hr348) [] (by kernel_rfl) (ltN hN rfl) (by kernel_rfl) (OpdL.cons (Opd.tmp 165 (.d (.int .i64 a5))) (OpdL.cons (Opd.int .i64 (150)) OpdL.nil))))
                    (OpJs.cons (OpJ.guarded (by rfl) (OpJ.callFn hB fnOk18 (sample_Between_ac x264 r347 r348 r349 hr349) [] (by kernel_rfl) (ltN hN rfl) (by kernel_rfl) (OpdL.cons (Opd.tmp 162 (.d (.list 6 (x264.map e_api_Sample)))) (OpdL.cons (Opd.tmp 164 (.d (.int .i64 r347))) (OpdL.cons (Opd.tmp 166 (.d (.int .i64 r348))) OpdL.nil)))))
                    (OpJs.cons (OpJ.guarded (by rfl) (OpJ.move (ltN hN rfl) (Opd.tmp 23 (.d (.list 6 (x264.map e_api_Sample))))))
                    (OpJs.cons (OpJ.guarded (by rfl) (OpJ.move (ltN hN rfl) (Opd.tmp 4 (.d (.int .i64 a4)))))
                    (OpJs.cons (OpJ.guarded (by rfl) (OpJ.callFn hB fnOk7 (exchangepointmill_Mod_ac a4 (150 : Int) r350 hr350) [] (by kernel_rfl) (ltN hN rfl) (by kernel_rfl) (OpdL.cons (Opd.tmp 169 (.d (.int .i64 a4))) (OpdL.cons (Opd.int .i64 (150)) OpdL.nil))))
                    (OpJs.cons (OpJ.guarded (by rfl) (OpJ.move (ltN hN rfl) (Opd.tmp 5 (.d (.int .i64 a5)))))
                    (OpJs.cons (OpJ.guarded (by rfl) (OpJ.callFn hB fnOk7 (exchangepointmill_Mod_ac a5 (150 : Int) r351 hr351) [] (by kernel_rfl) (ltN hN rfl) (by kernel_rfl) (OpdL.cons (Opd.tmp 171 (.d (.int .i64 a5))) (OpdL.cons (Opd.int .i64 (150)) OpdL.nil))))
                    (OpJs.cons (OpJ.guarded (by rfl) (OpJ.callFn hB fnOk19 (exchangepointref37_Between_ac x264 r350 r351 r352 hr352) [] (by kernel_rfl) (ltN hN rfl) (by kernel_rfl) (OpdL.cons (Opd.tmp 168 (.d (.list 6 (x264.map e_api_Sample)))) (OpdL.cons (Opd.tmp 170 (.d (.int .i64 r350))) (OpdL.cons (Opd.tmp 172 (.d (.int .i64 r351))) OpdL.nil)))))
                    (OpJs.cons (OpJ.guarded (by rfl) (OpJ.callFn hB fnOk15 (exchangepointref37_Same_ac r349 r352 r353 hr353) [] (by kernel_rfl) (ltN hN rfl) (by kernel_rfl) (OpdL.cons (Opd.tmp 167 (.d (.list 6 (r349.map e_api_Sample)))) (OpdL.cons (Opd.tmp 173 (.d (.list 6 (r352.map e_api_Sample)))) OpdL.nil))))
                    (OpJs.cons (OpJ.guarded (by rfl) (OpJ.not (ltN hN rfl) (Opd.tmp 174 (.d (.bool r353)))))
                    (OpJs.cons (OpJ.pickF (ltN hN rfl) (Opd.tmp 161 (.d (.bool false))) (Opd.tmp 175 (.d (.bool (!r353)))))
                    (OpJs.nil)))))))))))))))))))))))))))))))))) (by rfl) (by rfl) ?_
                  exact hjj282 _ h _ _ (Mat.trans (Mat.pat [] [(4, (.d (.int .i64 a4))), (5, (.d (.int .i64 a5))), (21, (.d (.list 1 (([a0, r4.1, p34.2, p34.1, m74] : List (List api_Sample)).map e_LeapiSample)))), (23, (.d (.list 6 (x264.map e_api_Sample)))), (138, (.d (.list 1 (([a0, r4.1, p34.2, p34.1, m74] : List (List api_Sample)).map e_LeapiSample)))), (139, (.d (.int .i64 (([a0, r4.1, p34.2, p34.1, m74] : List (List api_Sample)).length : Int)))), (140, (.d (.int .i64 s76))), (176, (.d (.bool (!r353))))] [] hB (by rfl) (by rfl) (by rfl)) (Mat.pat [] ((fun m281 : Bool => ([(4, (.d (.int .i64 a4))), (5, (.d (.int .i64 a5))), (21, (.d (.list 1 (([a0, r4.1, p34.2, p34.1, m74] : List (List api_Sample)).map e_LeapiSample)))), (23, (.d (.list 6 (x264.map e_api_Sample)))), (138, (.d (.list 1 (([a0, r4.1, p34.2, p34.1, m74] : List (List api_Sample)).map e_LeapiSample)))), (139, (.d (.int .i64 (([a0, r4.1, p34.2, p34.1, m74] : List (List api_Sample)).length : Int)))), (140, (.d (.int .i64 s76))), (176, (.d (.bool m281)))] : EL)) (!r353)) ((fun m281 : Bool => ([] : OL)) (!r353)) hB (by rfl) (by rfl) (by rfl)))
          · replace h := ite_f hg263 h
            refine AWp.exit ?_
            refine seqQ_e ?_
            obtain rfl := Option.some.inj h
            exact ⟨(fun hc => by cases hc), rfl, (Mat.pat [] ((fun _ : Unit => ([] : EL)) ()) ((fun _ : Unit => ([] : OL)) ()) hB (by rfl) (by rfl) (by rfl))⟩
        · rcases x354 with _ | _
          · obtain ⟨rfl, hmat⟩ := hR
            refine blkQ_r ?_
            refine seqQ_r ?_
            obtain rfl := Option.some.inj h
            exact ⟨.inl rfl, _, _, (Mat.trans hmat (Mat.pat [] [(12, (.d (.bool false)))] [] hB (by rfl) (by rfl) (by rfl))), [(.d (.bool false))], (Res.tmp (by rfl) (by rfl) Res.nil), rfl, by rfl, by rfl, by rfl⟩
          · obtain ⟨rfl, hmat⟩ := hR
            refine blkQ_hit ?_
            refine seqQ_n ?_
            refine AWp.ghost hmat ?_
            refine AWp.seq ?_
            obtain ⟨r356, hr356, h⟩ := bindS h
            refine AWp.region (OpJs.cons (OpJ.callFn hB fnOk11 (exchangepointlaw37_awake_ac  r356 hr356) [] (by kernel_rfl) (ltN hN rfl) (by kernel_rfl) OpdL.nil)
              (OpJs.cons (OpJ.assign (ltN hN rfl) (Opd.tmp 222 (.d (.bool r356))))
              (OpJs.nil))) (by rfl) (by rfl) ?_
            refine seqQ_n ?_
            refine AWp.ghost (Mat.pat [] [(12, (.d (.bool r356)))] [] hB (by rfl) (by rfl) (by rfl)) ?_
            refine AWp.ret ?_
            obtain rfl := Option.some.inj h
            exact ⟨.inl rfl, _, _, (Mat.pat [] [(12, (.d (.bool r356)))] [] hB (by rfl) (by rfl) (by rfl)), [(.d (.bool r356))], (Res.tmp (by rfl) (by rfl) Res.nil), rfl, by rfl, by rfl, by rfl⟩
      · refine AWp.cond (b := (decide ((0 : Int) < (r4.1.length : Int)))) (by rfl) (fun hg357 => ?_) (fun hg357 => ?_)
        · replace h := ite_t hg357 h
          refine AWp.seq ?_
          obtain ⟨r358, hr358, h⟩ := bindS h
          obtain ⟨x359, hx359, h⟩ := bindS h
          refine AWp.region (OpJs.cons (OpJ.move (ltN hN rfl) (Opd.tmp 19 (.sref 1069 6 0 r4.1.length)))
            (OpJs.cons (OpJ.move (ltN hN rfl) (Opd.tmp 3 (.d (.int .i64 a3))))
            (OpJs.cons (OpJ.move (ltN hN rfl) (Opd.tmp 19 (.sref 1069 6 0 r4.1.length)))
            (OpJs.cons (OpJ.lenS (obj := (.row 36 6 (r4.1.map e_api_Sample))) Try.underlying31 (ltN hN rfl) (Opd.tmp 75 (.sref 1069 6 0 r4.1.length)))
            (OpJs.cons (OpJ.callFn hB fnOk7 (exchangepointmill_Mod_ac a3 (r4.1.length : Int) r358 hr358) [] (by kernel_rfl) (ltN hN rfl) (by kernel_rfl) (OpdL.cons (Opd.tmp 74 (.d (.int .i64 a3))) (OpdL.cons (Opd.tmp 76 (.d (.int .i64 (r4.1.length : Int)))) OpdL.nil)))
            (OpJs.cons (OpJ.val (v' := (.ptr 1069 (r358.toNat * 6) [r358.toNat])) (by simp) (OpJ.indexS Try.underlying31 tyS36 (obj := (.row 36 6 (r4.1.map e_api_Sample))) (idx_some hx359).1 (by have := idx_lt hx359; simpa using this) (ltN hN rfl) (Opd.tmp 73 (.sref 1069 6 0 r4.1.length)) (Opd.tmp 77 (.d (.int .i64 r358)))))
            (OpJs.cons (OpJ.assign (ltN hN rfl) (Opd.tmp 78 (.ptr 1069 (r358.toNat * 6) [r358.toNat])))
            (OpJs.nil)))))))) (by rfl) (by rfl) ?_
          refine seqQ_n ?_
          refine AWp.ghost (Mat.pat [] [(0, (.d (.list 6 (a0.map e_api_Sample)))), (2, (.d (.int .i64 a2))), (4, (.d (.int .i64 a4))), (5, (.d (.int .i64 a5))), (14, (.d (.list 6 (r4.1.map e_api_Sample)))), (15, (.sref 3015 6 0 p34.2.length)), (16, (.sref 3016 6 0 p34.1.length)), (19, (.sref 1069 6 0 r4.1.length)), (20, (.ptr 1069 (r358.toNat * 6) [r358.toNat]))] [(1069, some (.row 36 6 (r4.1.map e_api_Sample))), (3015, some (.row 36 6 (p34.2.map e_api_Sample))), (3016, some (.row 36 6 (p34.1.map e_api_Sample)))] hB (by rfl) (by rfl) (by rfl)) ?_
          refine AWp.seq ?_
          obtain ⟨r360, hr360, h⟩ := bindS h
          refine AWp.region (OpJs.cons (OpJ.move (ltN hN rfl) (Opd.tmp 2 (.d (.int .i64 a2))))
            (OpJs.cons (OpJ.callFn hB fnOk7 (exchangepointmill_Mod_ac a2 (5 : Int) r360 hr360) [] (by kernel_rfl) (ltN hN rfl) (by kernel_rfl) (OpdL.cons (Opd.tmp 79 (.d (.int .i64 a2))) (OpdL.cons (Opd.int .i64 (5)) OpdL.nil)))
            (OpJs.nil))) (by rfl) (by rfl) ?_
          refine seqQ_n ?_
          refine AWp.ghost (Mat.pat [] [(0, (.d (.list 6 (a0.map e_api_Sample)))), (4, (.d (.int .i64 a4))), (5, (.d (.int .i64 a5))), (14, (.d (.list 6 (r4.1.map e_api_Sample)))), (15, (.sref 3015 6 0 p34.2.length)), (16, (.sref 3016 6 0 p34.1.length)), (19, (.sref 1069 6 0 r4.1.length)), (20, (.ptr 1069 (r358.toNat * 6) [r358.toNat])), (80, (.d (.int .i64 r360)))] [(1069, some (.row 36 6 (r4.1.map e_api_Sample))), (3015, some (.row 36 6 (p34.2.map e_api_Sample))), (3016, some (.row 36 6 (p34.1.map e_api_Sample)))] hB (by rfl) (by rfl) (by rfl)) ?_
          refine AWp.block ?_
          refine AWp.seq ?_
          refine AWp.region (OpJs.cons (OpJ.eqlI (ltN hN rfl) (Opd.tmp 80 (.d (.int .i64 r360))) (Opd.int .i64 (0)))
            (OpJs.cons (OpJ.assign (ltN hN rfl) (Opd.tmp 82 (.d (.bool (r360 == (0 : Int))))))
            (OpJs.nil))) (by rfl) (by rfl) ?_
          refine seqQ_n ?_
          refine AWp.ghost (Mat.pat [] [(0, (.d (.list 6 (a0.map e_api_Sample)))), (4, (.d (.int .i64 a4))), (5, (.d (.int .i64 a5))), (14, (.d (.list 6 (r4.1.map e_api_Sample)))), (15, (.sref 3015 6 0 p34.2.length)), (16, (.sref 3016 6 0 p34.1.length)), (19, (.sref 1069 6 0 r4.1.length)), (20, (.ptr 1069 (r358.toNat * 6) [r358.toNat])), (80, (.d (.int .i64 r360))), (81, (.d (.bool (r360 == (0 : Int)))))] [(1069, some (.row 36 6 (r4.1.map e_api_Sample))), (3015, some (.row 36 6 (p34.2.map e_api_Sample))), (3016, some (.row 36 6 (p34.1.map e_api_Sample)))] hB (by rfl) (by rfl) (by rfl)) ?_
          refine AWp.cond (b := (r360 == (0 : Int))) (by rfl) (fun hg361 => ?_) (fun hg361 => ?_)
          · replace h := ite_t hg361 h
            obtain ⟨x362, hx362, h⟩ := bindS h
            obtain ⟨r363, hr363, h⟩ := bindS h
            obtain ⟨x364, hx364, h⟩ := bindS h
            refine AWp.draws (by kernel_rfl) (OpJs.cons (OpJ.move (ltN hN rfl) (Opd.tmp 20 (.ptr 1069 (r358.toNat * 6) [r358.toNat])))
              (OpJs.cons (OpJ.nilP (obj := (.row 36 6 (r4.1.map e_api_Sample))) (ltN hN rfl) (Opd.tmp 83 (.ptr 1069 (r358.toNat * 6) [r358.toNat])))
              (OpJs.cons (OpJ.val (v' := (.ptr 1069 ((r358.toNat * 6) + 1) [r358.toNat, 1])) (by rfl) (OpJ.fieldP Try.underlying36 (by rfl) (o := 1) (by rfl) tyS3 (by decide) (obj := (.row 36 6 (r4.1.map e_api_Sample))) (ltN hN rfl) (Opd.tmp 84 (.ptr 1069 (r358.toNat * 6) [r358.toNat]))))
              (OpJs.cons (OpJ.loadR (e := 36) (sz := 6) (es := r4.1.map e_api_Sample) tyS3 (get_map e_api_Sample (idx_some hx362).2) (o := 1) (v := (.int .i64 x362.fSeq)) (At.dst1 (f := (.int .i64 x362.fSeq)) (by rfl) (by rfl) (At.here _) (by first | rfl | omega)) (by rfl) (by rfl) (by rfl) (ltN hN rfl) (Opd.tmp 85 (.ptr 1069 ((r358.toNat * 6) + 1) [r358.toNat, 1])))
              (OpJs.cons (OpJ.move (ltN hN rfl) (Opd.tmp 4 (.d (.int .i64 a4))))
              (OpJs.cons (OpJ.callFn hB fnOk7 (exchangepointmill_Mod_ac a4 (5 : Int) r363 hr363) [] (by kernel_rfl) (ltN hN rfl) (by kernel_rfl) (OpdL.cons (Opd.tmp 87 (.d (.int .i64 a4))) (OpdL.cons (Opd.int .i64 (5)) OpdL.nil)))
              (OpJs.cons (OpJ.sub (ltN hN rfl) (Opd.tmp 88 (.d (.int .i64 r363))) (Opd.int .i64 (2)))
              (OpJs.cons (OpJ.add (ltN hN rfl) (Opd.tmp 86 (.d (.int .i64 x362.fSeq))) (Opd.tmp 89 (.d (.int .i64 (w64 (r363 - (2 : Int)))))))
              (OpJs.cons (OpJ.nilP (obj := (.row 36 6 (r4.1.map e_api_Sample))) (ltN hN rfl) (Opd.tmp 83 (.ptr 1069 (r358.toNat * 6) [r358.toNat])))
              (OpJs.cons (OpJ.val (v' := (.ptr 1069 ((r358.toNat * 6) + 1) [r358.toNat, 1])) (by rfl) (OpJ.fieldP Try.underlying36 (by rfl) (o := 1) (by rfl) tyS3 (by decide) (obj := (.row 36 6 (r4.1.map e_api_Sample))) (ltN hN rfl) (Opd.tmp 91 (.ptr 1069 (r358.toNat * 6) [r358.toNat]))))
              (OpJs.cons (OpJ.storeR (e := 36) (sz := 6) (es := r4.1.map e_api_Sample) (es' := (r4.1.set r358.toNat (api_Sample.mk x364.fTick (w64 (x362.fSeq + (w64 (r363 - (2 : Int))))) x364.fPool x364.fIn x364.fOut x364.fBytes)).map e_api_Sample) tyS3 (get_map e_api_Sample (idx_some hx364).2) (o := 1) (v := (.int .i64 (w64 (x362.fSeq + (w64 (r363 - (2 : Int))))))) (el' := (.st [(.int .i64 x364.fTick), (.int .i64 (w64 (x362.fSeq + (w64 (r363 - (2 : Int)))))), (.int .i64 x364.fPool), (.int .i64 x364.fIn), (.int .i64 x364.fOut), (.int .i64 x364.fBytes)])) (SetAt.dst1 (f := (.int .i64 x364.fSeq)) (f' := (.int .i64 (w64 (x362.fSeq + (w64 (r363 - (2 : Int))))))) (by rfl) (by rfl) (SetAt.here _ _) (by rfl) (by rfl) (by first | rfl | omega)) (by rfl) (map_set _ _ _ _) (by rfl) (by rfl) (Opd.tmp 92 (.ptr 1069 ((r358.toNat * 6) + 1) [r358.toNat, 1])) (Opd.tmp 90 (.d (.int .i64 (w64 (x362.fSeq + (w64 (r363 - (2 : Int)))))))))
              (OpJs.nil)))))))))))) (by kernel_rfl) (by rfl) (by rfl) ?_
            refine blkQ_n ?_
            exact hjj75 _ h _ _ (Mat.trans (Mat.pat [] [(0, (.d (.list 6 (a0.map e_api_Sample)))), (4, (.d (.int .i64 a4))), (5, (.d (.int .i64 a5))), (14, (.d (.list 6 (r4.1.map e_api_Sample)))), (15, (.sref 3015 6 0 p34.2.length)), (16, (.sref 3016 6 0 p34.1.length)), (19, (.sref 1069 6 0 r4.1.length))] [(1069, some (.row 36 6 ((r4.1.set r358.toNat (api_Sample.mk x364.fTick (w64 (x362.fSeq + (w64 (r363 - (2 : Int))))) x364.fPool x364.fIn x364.fOut x364.fBytes)).map e_api_Sample))), (3015, some (.row 36 6 (p34.2.map e_api_Sample))), (3016, some (.row 36 6 (p34.1.map e_api_Sample)))] hB (by rfl) (by rfl) (by rfl)) (Mat.trans (Mat.val (k := 19) (v := (.sref 1069 6 0 r4.1.length)) (v' := (.sref 1069 6 0 ((r4.1.set r358.toNat (api_Sample.mk x364.fTick (w64 (x362.fSeq + (w64 (r363 - (2 : Int))))) x364.fPool x364.fIn x364.fOut x364.fBytes)).length))) (by rfl) (by first | (simp; done) | (simp; omega))) (Mat.pat [] ((fun m74 : (List api_Sample) => ([(0, (.d (.list 6 (a0.map e_api_Sample)))), (4, (.d (.int .i64 a4))), (5, (.d (.int .i64 a5))), (14, (.d (.list 6 (r4.1.map e_api_Sample)))), (15, (.sref 3015 6 0 p34.2.length)), (16, (.sref 3016 6 0 p34.1.length)), (19, (.sref 1069 6 0 m74.length))] : EL)) (r4.1.set r358.toNat (api_Sample.mk x364.fTick (w64 (x362.fSeq + (w64 (r363 - (2 : Int))))) x364.fPool x364.fIn x364.fOut x364.fBytes))) ((fun m74 : (List api_Sample) => ([(1069, some (.row 36 6 (m74.map e_api_Sample))), (3015, some (.row 36 6 (p34.2.map e_api_Sample))), (3016, some (.row 36 6 (p34.1.map e_api_Sample)))] : OL)) (r4.1.set r358.toNat (api_Sample.mk x364.fTick (w64 (x362.fSeq + (w64 (r363 - (2 : Int))))) x364.fPool x364.fIn x364.fOut x364.fBytes))) hB (by rfl) (by rfl) (by rfl))))
          · replace h := ite_f hg361 h
            refine AWp.seq ?_
            refine AWp.region (OpJs.cons (OpJ.eqlI (ltN hN rfl) (Opd.tmp 80 (.d (.int .i64 r360))) (Opd.int .i64 (1)))
              (OpJs.cons (OpJ.assign (ltN hN rfl) (Opd.tmp 94 (.d (.bool (r360 == (1 : Int))))))
              (OpJs.nil))) (by rfl) (by rfl) ?_
            refine seqQ_n ?_
            refine AWp.ghost (Mat.pat [] [(0, (.d (.list 6 (a0.map e_api_Sample)))), (4, (.d (.int .i64 a4))), (5, (.d (.int .i64 a5))), (14, (.d (.list 6 (r4.1.map e_api_Sample)))), (15, (.sref 3015 6 0 p34.2.length)), (16, (.sref 3016 6 0 p34.1.length)), (19, (.sref 1069 6 0 r4.1.length)), (20, (.ptr 1069 (r358.toNat * 6) [r358.toNat])), (80, (.d (.int .i64 r360))), (93, (.d (.bool (r360 == (1 : Int)))))] [(1069, some (.row 36 6 (r4.1.map e_api_Sample))), (3015, some (.row 36 6 (p34.2.map e_api_Sample))), (3016, some (.row 36 6 (p34.1.map e_api_Sample)))] hB (by rfl) (by rfl) (by rfl)) ?_
            refine AWp.cond (b := (r360 == (1 : Int))) (by rfl) (fun hg365 => ?_) (fun hg365 => ?_)
            · replace h := ite_t hg365 h
              obtain ⟨x366, hx366, h⟩ := bindS h
              obtain ⟨r367, hr367, h⟩ := bindS h
              obtain ⟨x368, hx368, h⟩ := bindS h
              refine AWp.draws (by kernel_rfl) (OpJs.cons (OpJ.move (ltN hN rfl) (Opd.tmp 20 (.ptr 1069 (r358.toNat * 6) [r358.toNat])))
                (OpJs.cons (OpJ.nilP (obj := (.row 36 6 (r4.1.map e_api_Sample))) (ltN hN rfl) (Opd.tmp 95 (.ptr 1069 (r358.toNat * 6) [r358.toNat])))
                (OpJs.cons (OpJ.val (v' := (.ptr 1069 ((r358.toNat * 6) + 2) [r358.toNat, 2])) (by rfl) (OpJ.fieldP Try.underlying36 (by rfl) (o := 2) (by rfl) tyS3 (by decide) (obj := (.row 36 6 (r4.1.map e_api_Sample))) (ltN hN rfl) (Opd.tmp 96 (.ptr 1069 (r358.toNat * 6) [r358.toNat]))))
                (OpJs.cons (OpJ.loadR (e := 36) (sz := 6) (es := r4.1.map e_api_Sample) tyS3 (get_map e_api_Sample (idx_some hx366).2) (o := 2) (v := (.int .i64 x366.fPool)) (At.dst1 (f := (.int .i64 x366.fPool)) (by rfl) (by rfl) (At.here _) (by first | rfl | omega)) (by rfl) (by rfl) (by rfl) (ltN hN rfl) (Opd.tmp 97 (.ptr 1069 ((r358.toNat * 6) + 2) [r358.toNat, 2])))
                (OpJs.cons (OpJ.move (ltN hN rfl) (Opd.tmp 4 (.d (.int .i64 a4))))
                (OpJs.cons (OpJ.callFn hB fnOk7 (exchangepointmill_Mod_ac a4 (5 : Int) r367 hr367) [] (by kernel_rfl) (ltN hN rfl) (by kernel_rfl) (OpdL.cons (Opd.tmp 99 (.d (.int .i64 a4))) (OpdL.cons (Opd.int .i64 (5)) OpdL.nil)))
                (OpJs.cons (OpJ.sub (ltN hN rfl) (Opd.tmp 98 (.d (.int .i64 x366.fPool))) (Opd.tmp 100 (.d (.int .i64 r367))))
                (OpJs.cons (OpJ.nilP (obj := (.row 36 6 (r4.1.map e_api_Sample))) (ltN hN rfl) (Opd.tmp 95 (.ptr 1069 (r358.toNat * 6) [r358.toNat])))
                (OpJs.cons (OpJ.val (v' := (.ptr 1069 ((r358.toNat * 6) + 2) [r358.toNat, 2])) (by rfl) (OpJ.fieldP Try.underlying36 (by rfl) (o := 2) (by rfl) tyS3 (by decide) (obj := (.row 36 6 (r4.1.map e_api_Sample))) (ltN hN rfl) (Opd.tmp 102 (.ptr 1069 (r358.toNat * 6) [r358.toNat]))))
                (OpJs.cons (OpJ.storeR (e := 36) (sz := 6) (es := r4.1.map e_api_Sample) (es' := (r4.1.set r358.toNat (api_Sample.mk x368.fTick x368.fSeq (w64 (x366.fPool - r367)) x368.fIn x368.fOut x368.fBytes)).map e_api_Sample) tyS3 (get_map e_api_Sample (idx_some hx368).2) (o := 2) (v := (.int .i64 (w64 (x366.fPool - r367)))) (el' := (.st [(.int .i64 x368.fTick), (.int .i64 x368.fSeq), (.int .i64 (w64 (x366.fPool - r367))), (.int .i64 x368.fIn), (.int .i64 x368.fOut), (.int .i64 x368.fBytes)])) (SetAt.dst1 (f := (.int .i64 x368.fPool)) (f' := (.int .i64 (w64 (x366.fPool - r367)))) (by rfl) (by rfl) (SetAt.here _ _) (by rfl) (by rfl) (by first | rfl | omega)) (by rfl) (map_set _ _ _ _) (by rfl) (by rfl) (Opd.tmp 103 (.ptr 1069 ((r358.toNat * 6) + 2) [r358.toNat, 2])) (Opd.tmp 101 (.d (.int .i64 (w64 (x366.fPool - r367))))))
                (OpJs.nil))))))))))) (by kernel_rfl) (by rfl) (by rfl) ?_
              refine blkQ_n ?_
              exact hjj75 _ h _ _ (Mat.trans (Mat.pat [] [(0, (.d (.list 6 (a0.map e_api_Sample)))), (4, (.d (.int .i64 a4))), (5, (.d (.int .i64 a5))), (14, (.d (.list 6 (r4.1.map e_api_Sample)))), (15, (.sref 3015 6 0 p34.2.length)), (16, (.sref 3016 6 0 p34.1.length)), (19, (.sref 1069 6 0 r4.1.length))] [(1069, some (.row 36 6 ((r4.1.set r358.toNat (api_Sample.mk x368.fTick x368.fSeq (w64 (x366.fPool - r367)) x368.fIn x368.fOut x368.fBytes)).map e_api_Sample))), (3015, some (.row 36 6 (p34.2.map e_api_Sample))), (3016, some (.row 36 6 (p34.1.map e_api_Sample)))] hB (by rfl) (by rfl) (by rfl)) (Mat.trans (Mat.val (k := 19) (v := (.sref 1069 6 0 r4.1.length)) (v' := (.sref 1069 6 0 ((r4.1.set r358.toNat (api_Sample.mk x368.fTick x368.fSeq (w64 (x366.fPool - r367)) x368.fIn x368.fOut x368.fBytes)).length))) (by rfl) (by first | (simp; done) | (simp; omega))) (Mat.pat [] ((fun m74 : (List api_Sample) => ([(0, (.d (.list 6 (a0.map e_api_Sample)))), (4, (.d (.int .i64 a4))), (5, (.d (.int .i64 a5))), (14, (.d (.list 6 (r4.1.map e_api_Sample)))), (15, (.sref 3015 6 0 p34.2.length)), (16, (.sref 3016 6 0 p34.1.length)), (19, (.sref 1069 6 0 m74.length))] : EL)) (r4.1.set r358.toNat (api_Sample.mk x368.fTick x368.fSeq (w64 (x366.fPool - r367)) x368.fIn x368.fOut x368.fBytes))) ((fun m74 : (List api_Sample) => ([(1069, some (.row 36 6 (m74.map e_api_Sample))), (3015, some (.row 36 6 (p34.2.map e_api_Sample))), (3016, some (.row 36 6 (p34.1.map e_api_Sample)))] : OL)) (r4.1.set r358.toNat (api_Sample.mk x368.fTick x368.fSeq (w64 (x366.fPool - r367)) x368.fIn x368.fOut x368.fBytes))) hB (by rfl) (by rfl) (by rfl))))
            · replace h := ite_f hg365 h
              refine AWp.seq ?_
              refine AWp.region (OpJs.cons (OpJ.eqlI (ltN hN rfl) (Opd.tmp 80 (.d (.int .i64 r360))) (Opd.int .i64 (2)))
                (OpJs.cons (OpJ.assign (ltN hN rfl) (Opd.tmp 105 (.d (.bool (r360 == (2 : Int))))))
                (OpJs.nil))) (by rfl) (by rfl) ?_
              refine seqQ_n ?_
              refine AWp.ghost (Mat.pat [] [(0, (.d (.list 6 (a0.map e_api_Sample)))), (4, (.d (.int .i64 a4))), (5, (.d (.int .i64 a5))), (14, (.d (.list 6 (r4.1.map e_api_Sample)))), (15, (.sref 3015 6 0 p34.2.length)), (16, (.sref 3016 6 0 p34.1.length)), (19, (.sref 1069 6 0 r4.1.length)), (20, (.ptr 1069 (r358.toNat * 6) [r358.toNat])), (80, (.d (.int .i64 r360))), (104, (.d (.bool (r360 == (2 : Int)))))] [(1069, some (.row 36 6 (r4.1.map e_api_Sample))), (3015, some (.row 36 6 (p34.2.map e_api_Sample))), (3016, some (.row 36 6 (p34.1.map e_api_Sample)))] hB (by rfl) (by rfl) (by rfl)) ?_
              refine AWp.cond (b := (r360 == (2 : Int))) (by rfl) (fun hg369 => ?_) (fun hg369 => ?_)
              · replace h := ite_t hg369 h
                obtain ⟨x370, hx370, h⟩ := bindS h
                obtain ⟨r371, hr371, h⟩ := bindS h
                obtain ⟨x372, hx372, h⟩ := bindS h
                refine AWp.draws (by kernel_rfl) (OpJs.cons (OpJ.move (ltN hN rfl) (Opd.tmp 20 (.ptr 1069 (r358.toNat * 6) [r358.toNat])))
                  (OpJs.cons (OpJ.nilP (obj := (.row 36 6 (r4.1.map e_api_Sample))) (ltN hN rfl) (Opd.tmp 106 (.ptr 1069 (r358.toNat * 6) [r358.toNat])))
                  (OpJs.cons (OpJ.val (v' := (.ptr 1069 ((r358.toNat * 6) + 0) [r358.toNat, 0])) (by rfl) (OpJ.fieldP Try.underlying36 (by rfl) (o := 0) (by rfl) tyS3 (by decide) (obj := (.row 36 6 (r4.1.map e_api_Sample))) (ltN hN rfl) (Opd.tmp 107 (.ptr 1069 (r358.toNat * 6) [r358.toNat]))))
                  (OpJs.cons (OpJ.loadR (e := 36) (sz := 6) (es := r4.1.map e_api_Sample) tyS3 (get_map e_api_Sample (idx_some hx370).2) (o := 0) (v := (.int .i64 x370.fTick)) (At.dst1 (f := (.int .i64 x370.fTick)) (by rfl) (by rfl) (At.here _) (by first | rfl | omega)) (by rfl) (by rfl) (by rfl) (ltN hN rfl) (Opd.tmp 108 (.ptr 1069 ((r358.toNat * 6) + 0) [r358.toNat, 0])))
                  (OpJs.cons (OpJ.move (ltN hN rfl) (Opd.tmp 4 (.d (.int .i64 a4))))
                  (OpJs.cons (OpJ.callFn hB fnOk7 (exchangepointmill_Mod_ac a4 (9 : Int) r371 hr371) [] (by kernel_rfl) (ltN hN rfl) (by kernel_rfl) (OpdL.cons (Opd.tmp 110 (.d (.int .i64 a4))) (OpdL.cons (Opd.int .i64 (9)) OpdL.nil)))
                  (OpJs.cons (OpJ.sub (ltN hN rfl) (Opd.tmp 109 (.d (.int .i64 x370.fTick))) (Opd.tmp 111 (.d (.int .i64 r371))))
                  (OpJs.cons (OpJ.nilP (obj := (.row 36 6 (r4.1.map e_api_Sample))) (ltN hN rfl) (Opd.tmp 106 (.ptr 1069 (r358.toNat * 6) [r358.toNat])))
                  (OpJs.cons (OpJ.val (v' := (.ptr 1069 ((r358.toNat * 6) + 0) [r358.toNat, 0])) (by rfl) (OpJ.fieldP Try.underlying36 (by rfl) (o := 0) (by rfl) tyS3 (by decide) (obj := (.row 36 6 (r4.1.map e_api_Sample))) (ltN hN rfl) (Opd.tmp 113 (.ptr 1069 (r358.toNat * 6) [r358.toNat]))))
                  (OpJs.cons (OpJ.storeR (e := 36) (sz := 6) (es := r4.1.map e_api_Sample) (es' := (r4.1.set r358.toNat (api_Sample.mk (w64 (x370.fTick - r371)) x372.fSeq x372.fPool x372.fIn x372.fOut x372.fBytes)).map e_api_Sample) tyS3 (get_map e_api_Sample (idx_some hx372).2) (o := 0) (v := (.int .i64 (w64 (x370.fTick - r371)))) (el' := (.st [(.int .i64 (w64 (x370.fTick - r371))), (.int .i64 x372.fSeq), (.int .i64 x372.fPool), (.int .i64 x372.fIn), (.int .i64 x372.fOut), (.int .i64 x372.fBytes)])) (SetAt.dst1 (f := (.int .i64 x372.fTick)) (f' := (.int .i64 (w64 (x370.fTick - r371)))) (by rfl) (by rfl) (SetAt.here _ _) (by rfl) (by rfl) (by first | rfl | omega)) (by rfl) (map_set _ _ _ _) (by rfl) (by rfl) (Opd.tmp 114 (.ptr 1069 ((r358.toNat * 6) + 0) [r358.toNat, 0])) (Opd.tmp 112 (.d (.int .i64 (w64 (x370.fTick - r371))))))
                  (OpJs.nil))))))))))) (by kernel_rfl) (by rfl) (by rfl) ?_
                refine blkQ_n ?_
                exact hjj75 _ h _ _ (Mat.trans (Mat.pat [] [(0, (.d (.list 6 (a0.map e_api_Sample)))), (4, (.d (.int .i64 a4))), (5, (.d (.int .i64 a5))), (14, (.d (.list 6 (r4.1.map e_api_Sample)))), (15, (.sref 3015 6 0 p34.2.length)), (16, (.sref 3016 6 0 p34.1.length)), (19, (.sref 1069 6 0 r4.1.length))] [(1069, some (.row 36 6 ((r4.1.set r358.toNat (api_Sample.mk (w64 (x370.fTick - r371)) x372.fSeq x372.fPool x372.fIn x372.fOut x372.fBytes)).map e_api_Sample))), (3015, some (.row 36 6 (p34.2.map e_api_Sample))), (3016, some (.row 36 6 (p34.1.map e_api_Sample)))] hB (by rfl) (by rfl) (by rfl)) (Mat.trans (Mat.val (k := 19) (v := (.sref 1069 6 0 r4.1.length)) (v' := (.sref 1069 6 0 ((r4.1.set r358.toNat (api_Sample.mk (w64 (x370.fTick - r371)) x372.fSeq x372.fPool x372.fIn x372.fOut x372.fBytes)).length))) (by rfl) (by first | (simp; done) | (simp; omega))) (Mat.pat [] ((fun m74 : (List api_Sample) => ([(0, (.d (.list 6 (a0.map e_api_Sample)))), (4, (.d (.int .i64 a4))), (5, (.d (.int .i64 a5))), (14, (.d (.list 6 (r4.1.map e_api_Sample)))), (15, (.sref 3015 6 0 p34.2.length)), (16, (.sref 3016 6 0 p34.1.length)), (19, (.sref 1069 6 0 m74.length))] : EL)) (r4.1.set r358.toNat (api_Sample.mk (w64 (x370.fTick - r371)) x372.fSeq x372.fPool x372.fIn x372.fOut x372.fBytes))) ((fun m74 : (List api_Sample) => ([(1069, some (.row 36 6 (m74.map e_api_Sample))), (3015, some (.row 36 6 (p34.2.map e_api_Sample))), (3016, some (.row 36 6 (p34.1.map e_api_Sample)))] : OL)) (r4.1.set r358.toNat (api_Sample.mk (w64 (x370.fTick - r371)) x372.fSeq x372.fPool x372.fIn x372.fOut x372.fBytes))) hB (by rfl) (by rfl) (by rfl))))
              · replace h := ite_f hg369 h
                refine AWp.seq ?_
                refine AWp.region (OpJs.cons (OpJ.eqlI (ltN hN rfl) (Opd.tmp 80 (.d (.int .i64 r360))) (Opd.int .i64 (3)))
                  (OpJs.cons (OpJ.assign (ltN hN rfl) (Opd.tmp 116 (.d (.bool (r360 == (3 : Int))))))
                  (OpJs.nil))) (by rfl) (by rfl) ?_
                refine seqQ_n ?_
                refine AWp.ghost (Mat.pat [] [(0, (.d (.list 6 (a0.map e_api_Sample)))), (4, (.d (.int .i64 a4))), (5, (.d (.int .i64 a5))), (14, (.d (.list 6 (r4.1.map e_api_Sample)))), (15, (.sref 3015 6 0 p34.2.length)), (16, (.sref 3016 6 0 p34.1.length)), (19, (.sref 1069 6 0 r4.1.length)), (20, (.ptr 1069 (r358.toNat * 6) [r358.toNat])), (80, (.d (.int .i64 r360))), (115, (.d (.bool (r360 == (3 : Int)))))] [(1069, some (.row 36 6 (r4.1.map e_api_Sample))), (3015, some (.row 36 6 (p34.2.map e_api_Sample))), (3016, some (.row 36 6 (p34.1.map e_api_Sample)))] hB (by rfl) (by rfl) (by rfl)) ?_
                refine AWp.cond (b := (r360 == (3 : Int))) (by rfl) (fun hg373 => ?_) (fun hg373 => ?_)
                · replace h := ite_t hg373 h
                  obtain ⟨r374, hr374, h⟩ := bindS h
                  obtain ⟨x375, hx375, h⟩ := bindS h
                  refine AWp.region (OpJs.cons (OpJ.move (ltN hN rfl) (Opd.tmp 20 (.ptr 1069 (r358.toNat * 6) [r358.toNat])))
                    (OpJs.cons (OpJ.move (ltN hN rfl) (Opd.tmp 4 (.d (.int .i64 a4))))
                    (OpJs.cons (OpJ.callFn hB fnOk7 (exchangepointmill_Mod_ac a4 (1002 : Int) r374 hr374) [] (by kernel_rfl) (ltN hN rfl) (by kernel_rfl) (OpdL.cons (Opd.tmp 118 (.d (.int .i64 a4))) (OpdL.cons (Opd.int .i64 (1002)) OpdL.nil)))
                    (OpJs.cons (OpJ.sub (ltN hN rfl) (Opd.tmp 119 (.d (.int .i64 r374))) (Opd.int .i64 (1)))
                    (OpJs.cons (OpJ.nilP (obj := (.row 36 6 (r4.1.map e_api_Sample))) (ltN hN rfl) (Opd.tmp 117 (.ptr 1069 (r358.toNat * 6) [r358.toNat])))
                    (OpJs.cons (OpJ.val (v' := (.ptr 1069 ((r358.toNat * 6) + 4) [r358.toNat, 4])) (by rfl) (OpJ.fieldP Try.underlying36 (by rfl) (o := 4) (by rfl) tyS3 (by decide) (obj := (.row 36 6 (r4.1.map e_api_Sample))) (ltN hN rfl) (Opd.tmp 121 (.ptr 1069 (r358.toNat * 6) [r358.toNat]))))
                    (OpJs.cons (OpJ.storeR (e := 36) (sz := 6) (es := r4.1.map e_api_Sample) (es' := (r4.1.set r358.toNat (api_Sample.mk x375.fTick x375.fSeq x375.fPool x375.fIn (w64 (r374 - (1 : Int))) x375.fBytes)).map e_api_Sample) tyS3 (get_map e_api_Sample (idx_some hx375).2) (o := 4) (v := (.int .i64 (w64 (r374 - (1 : Int))))) (el' := (.st [(.int .i64 x375.fTick), (.int .i64 x375.fSeq), (.int .i64 x375.fPool), (.int .i64 x375.fIn), (.int .i64 (w64 (r374 - (1 : Int)))), (.int .i64 x375.fBytes)])) (SetAt.dst1 (f := (.int .i64 x375.fOut)) (f' := (.int .i64 (w64 (r374 - (1 : Int))))) (by rfl) (by rfl) (SetAt.here _ _) (by rfl) (by rfl) (by first | rfl | omega)) (by rfl) (map_set _ _ _ _) (by rfl) (by rfl) (Opd.tmp 122 (.ptr 1069 ((r358.toNat * 6) + 4) [r358.toNat, 4])) (Opd.tmp 120 (.d (.int .i64 (w64 (r374 - (1 : Int)))))))
                    (OpJs.nil)))))))) (by rfl) (by rfl) ?_
                  refine blkQ_n ?_
                  exact hjj75 _ h _ _ (Mat.trans (Mat.pat [] [(0, (.d (.list 6 (a0.map e_api_Sample)))), (4, (.d (.int .i64 a4))), (5, (.d (.int .i64 a5))), (14, (.d (.list 6 (r4.1.map e_api_Sample)))), (15, (.sref 3015 6 0 p34.2.length)), (16, (.sref 3016 6 0 p34.1.length)), (19, (.sref 1069 6 0 r4.1.length))] [(1069, some (.row 36 6 ((r4.1.set r358.toNat (api_Sample.mk x375.fTick x375.fSeq x375.fPool x375.fIn (w64 (r374 - (1 : Int))) x375.fBytes)).map e_api_Sample))), (3015, some (.row 36 6 (p34.2.map e_api_Sample))), (3016, some (.row 36 6 (p34.1.map e_api_Sample)))] hB (by rfl) (by rfl) (by rfl)) (Mat.trans (Mat.val (k := 19) (v := (.sref 1069 6 0 r4.1.length)) (v' := (.sref 1069 6 0 ((r4.1.set r358.toNat (api_Sample.mk x375.fTick x375.fSeq x375.fPool x375.fIn (w64 (r374 - (1 : Int))) x375.fBytes)).length))) (by rfl) (by first | (simp; done) | (simp; omega))) (Mat.pat [] ((fun m74 : (List api_Sample) => ([(0, (.d (.list 6 (a0.map e_api_Sample)))), (4, (.d (.int .i64 a4))), (5, (.d (.int .i64 a5))), (14, (.d (.list 6 (r4.1.map e_api_Sample)))), (15, (.sref 3015 6 0 p34.2.length)), (16, (.sref 3016 6 0 p34.1.length)), (19, (.sref 1069 6 0 m74.length))] : EL)) (r4.1.set r358.toNat (api_Sample.mk x375.fTick x375.fSeq x375.fPool x375.fIn (w64 (r374 - (1 : Int))) x375.fBytes))) ((fun m74 : (List api_Sample) => ([(1069, some (.row 36 6 (m74.map e_api_Sample))), (3015, some (.row 36 6 (p34.2.map e_api_Sample))), (3016, some (.row 36 6 (p34.1.map e_api_Sample)))] : OL)) (r4.1.set r358.toNat (api_Sample.mk x375.fTick x375.fSeq x375.fPool x375.fIn (w64 (r374 - (1 : Int))) x375.fBytes))) hB (by rfl) (by rfl) (by rfl))))
                · replace h := ite_f hg373 h
                  refine AWp.seq ?_
                  refine AWp.region (OpJs.cons (OpJ.eqlI (ltN hN rfl) (Opd.tmp 80 (.d (.int .i64 r360))) (Opd.int .i64 (4)))
                    (OpJs.cons (OpJ.assign (ltN hN rfl) (Opd.tmp 124 (.d (.bool (r360 == (4 : Int))))))
                    (OpJs.nil))) (by rfl) (by rfl) ?_
                  refine seqQ_n ?_
                  refine AWp.ghost (Mat.pat [] [(0, (.d (.list 6 (a0.map e_api_Sample)))), (4, (.d (.int .i64 a4))), (5, (.d (.int .i64 a5))), (14, (.d (.list 6 (r4.1.map e_api_Sample)))), (15, (.sref 3015 6 0 p34.2.length)), (16, (.sref 3016 6 0 p34.1.length)), (19, (.sref 1069 6 0 r4.1.length)), (20, (.ptr 1069 (r358.toNat * 6) [r358.toNat])), (123, (.d (.bool (r360 == (4 : Int)))))] [(1069, some (.row 36 6 (r4.1.map e_api_Sample))), (3015, some (.row 36 6 (p34.2.map e_api_Sample))), (3016, some (.row 36 6 (p34.1.map e_api_Sample)))] hB (by rfl) (by rfl) (by rfl)) ?_
                  refine AWp.cond (b := (r360 == (4 : Int))) (by rfl) (fun hg376 => ?_) (fun hg376 => ?_)
                  · replace h := ite_t hg376 h
                    obtain ⟨x377, hx377, h⟩ := bindS h
                    obtain ⟨x378, hx378, h⟩ := bindS h
                    refine AWp.region (OpJs.cons (OpJ.move (ltN hN rfl) (Opd.tmp 20 (.ptr 1069 (r358.toNat * 6) [r358.toNat])))
                      (OpJs.cons (OpJ.nilP (obj := (.row 36 6 (r4.1.map e_api_Sample))) (ltN hN rfl) (Opd.tmp 125 (.ptr 1069 (r358.toNat * 6) [r358.toNat])))
                      (OpJs.cons (OpJ.val (v' := (.ptr 1069 ((r358.toNat * 6) + 5) [r358.toNat, 5])) (by rfl) (OpJ.fieldP Try.underlying36 (by rfl) (o := 5) (by rfl) tyS3 (by decide) (obj := (.row 36 6 (r4.1.map e_api_Sample))) (ltN hN rfl) (Opd.tmp 126 (.ptr 1069 (r358.toNat * 6) [r358.toNat]))))
                      (OpJs.cons (OpJ.loadR (e := 36) (sz := 6) (es := r4.1.map e_api_Sample) tyS3 (get_map e_api_Sample (idx_some hx377).2) (o := 5) (v := (.int .i64 x377.fBytes)) (At.dst1 (f := (.int .i64 x377.fBytes)) (by rfl) (by rfl) (At.here _) (by first | rfl | omega)) (by rfl) (by rfl) (by rfl) (ltN hN rfl) (Opd.tmp 127 (.ptr 1069 ((r358.toNat * 6) + 5) [r358.toNat, 5])))
                      (OpJs.cons (OpJ.add (ltN hN rfl) (Opd.tmp 128 (.d (.int .i64 x377.fBytes))) (Opd.int .i64 (1)))
                      (OpJs.cons (OpJ.nilP (obj := (.row 36 6 (r4.1.map e_api_Sample))) (ltN hN rfl) (Opd.tmp 125 (.ptr 1069 (r358.toNat * 6) [r358.toNat])))
                      (OpJs.cons (OpJ.val (v' := (.ptr 1069 ((r358.toNat * 6) + 5) [r358.toNat, 5])) (by rfl) (OpJ.fieldP Try.underlying36 (by rfl) (o := 5) (by rfl) tyS3 (by decide) (obj := (.row 36 6 (r4.1.map e_api_Sample))) (ltN hN rfl) (Opd.tmp 130 (.ptr 1069 (r358.toNat * 6) [r358.toNat]))))
                      (OpJs.cons (OpJ.storeR (e := 36) (sz := 6) (es := r4.1.map e_api_Sample) (es' := (r4.1.set r358.toNat (api_Sample.mk x378.fTick x378.fSeq x378.fPool x378.fIn x378.fOut (w64 (x377.fBytes + (1 : Int))))).map e_api_Sample) tyS3 (get_map e_api_Sample (idx_some hx378).2) (o := 5) (v := (.int .i64 (w64 (x377.fBytes + (1 : Int))))) (el' := (.st [(.int .i64 x378.fTick), (.int .i64 x378.fSeq), (.int .i64 x378.fPool), (.int .i64 x378.fIn), (.int .i64 x378.fOut), (.int .i64 (w64 (x377.fBytes + (1 : Int))))])) (SetAt.dst1 (f := (.int .i64 x378.fBytes)) (f' := (.int .i64 (w64 (x377.fBytes + (1 : Int))))) (by rfl) (by rfl) (SetAt.here _ _) (by rfl) (by rfl) (by first | rfl | omega)) (by rfl) (map_set _ _ _ _) (by rfl) (by rfl) (Opd.tmp 131 (.ptr 1069 ((r358.toNat * 6) + 5) [r358.toNat, 5])) (Opd.tmp 129 (.d (.int .i64 (w64 (x377.fBytes + (1 : Int)))))))
                      (OpJs.nil))))))))) (by rfl) (by rfl) ?_
                    refine blkQ_n ?_
                    exact hjj75 _ h _ _ (Mat.trans (Mat.pat [] [(0, (.d (.list 6 (a0.map e_api_Sample)))), (4, (.d (.int .i64 a4))), (5, (.d (.int .i64 a5))), (14, (.d (.list 6 (r4.1.map e_api_Sample)))), (15, (.sref 3015 6 0 p34.2.length)), (16, (.sref 3016 6 0 p34.1.length)), (19, (.sref 1069 6 0 r4.1.length))] [(1069, some (.row 36 6 ((r4.1.set r358.toNat (api_Sample.mk x378.fTick x378.fSeq x378.fPool x378.fIn x378.fOut (w64 (x377.fBytes + (1 : Int))))).map e_api_Sample))), (3015, some (.row 36 6 (p34.2.map e_api_Sample))), (3016, some (.row 36 6 (p34.1.map e_api_Sample)))] hB (by rfl) (by rfl) (by rfl)) (Mat.trans (Mat.val (k := 19) (v := (.sref 1069 6 0 r4.1.length)) (v' := (.sref 1069 6 0 ((r4.1.set r358.toNat (api_Sample.mk x378.fTick x378.fSeq x378.fPool x378.fIn x378.fOut (w64 (x377.fBytes + (1 : Int))))).length))) (by rfl) (by first | (simp; done) | (simp; omega))) (Mat.pat [] ((fun m74 : (List api_Sample) => ([(0, (.d (.list 6 (a0.map e_api_Sample)))), (4, (.d (.int .i64 a4))), (5, (.d (.int .i64 a5))), (14, (.d (.list 6 (r4.1.map e_api_Sample)))), (15, (.sref 3015 6 0 p34.2.length)), (16, (.sref 3016 6 0 p34.1.length)), (19, (.sref 1069 6 0 m74.length))] : EL)) (r4.1.set r358.toNat (api_Sample.mk x378.fTick x378.fSeq x378.fPool x378.fIn x378.fOut (w64 (x377.fBytes + (1 : Int)))))) ((fun m74 : (List api_Sample) => ([(1069, some (.row 36 6 (m74.map e_api_Sample))), (3015, some (.row 36 6 (p34.2.map e_api_Sample))), (3016, some (.row 36 6 (p34.1.map e_api_Sample)))] : OL)) (r4.1.set r358.toNat (api_Sample.mk x378.fTick x378.fSeq x378.fPool x378.fIn x378.fOut (w64 (x377.fBytes + (1 : Int)))))) hB (by rfl) (by rfl) (by rfl))))
                  · replace h := ite_f hg376 h
                    refine AWp.skip ?_
                    refine blkQ_n ?_
                    exact hjj75 _ h _ _ (Mat.pat [] ((fun m74 : (List api_Sample) => ([(0, (.d (.list 6 (a0.map e_api_Sample)))), (4, (.d (.int .i64 a4))), (5, (.d (.int .i64 a5))), (14, (.d (.list 6 (r4.1.map e_api_Sample)))), (15, (.sref 3015 6 0 p34.2.length)), (16, (.sref 3016 6 0 p34.1.length)), (19, (.sref 1069 6 0 m74.length))] : EL)) r4.1) ((fun m74 : (List api_Sample) => ([(1069, some (.row 36 6 (m74.map e_api_Sample))), (3015, some (.row 36 6 (p34.2.map e_api_Sample))), (3016, some (.row 36 6 (p34.1.map e_api_Sample)))] : OL)) r4.1) hB (by rfl) (by rfl) (by rfl))
        · replace h := ite_f hg357 h
          refine AWp.skip ?_
          exact hjj75 _ h _ _ (Mat.pat [] ((fun m74 : (List api_Sample) => ([(0, (.d (.list 6 (a0.map e_api_Sample)))), (4, (.d (.int .i64 a4))), (5, (.d (.int .i64 a5))), (14, (.d (.list 6 (r4.1.map e_api_Sample)))), (15, (.sref 3015 6 0 p34.2.length)), (16, (.sref 3016 6 0 p34.1.length)), (19, (.sref 1069 6 0 m74.length))] : EL)) r4.1) ((fun m74 : (List api_Sample) => ([(1069, some (.row 36 6 (m74.map e_api_Sample))), (3015, some (.row 36 6 (p34.2.map e_api_Sample))), (3016, some (.row 36 6 (p34.1.map e_api_Sample)))] : OL)) r4.1) hB (by rfl) (by rfl) (by rfl))


end Go.Proofs.Ytdjdoeengjdmmaa
