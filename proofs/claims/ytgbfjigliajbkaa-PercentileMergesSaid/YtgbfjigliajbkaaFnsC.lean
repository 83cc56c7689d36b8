/- Printed by gen.py: the Go functions as plain functions, and that the code does what they say. -/
import Derived.Test.YtgbfjigliajbkaaChecked
import Derived.Test.YtgbfjigliajbkaaVcT
import Derived.KernelRfl
import Derived.Test.YtgbfjigliajbkaaFnsB
import Derived.Test.YtgbfjigliajbkaaExt
namespace Go.Proofs.Ytgbfjigliajbkaa
open Go Go.Vc
noncomputable def percentile_Used_L0 (a0 : api_Series) (a1 : Int) (s3 : Int × Int) : Option (((Int) ⊕ (Int)) ⊕ (Int × Int)) :=
  (if (decide (s3.2 < (([a0.fIn, a0.fOut] : List (List Int)).length : Int))) = true then
  (idx ([a0.fIn, a0.fOut] : List (List Int)) s3.2).bind fun x19 =>
  (percentile_Rates x19 a0.fSeconds).bind fun r20 =>
  (if (r20.2 != (0 : Int)) = true then
  some (.inl (.inl r20.2))
  else
  (percentile_Percentile r20.1 a1).bind fun r22 =>
  (if (r22.2 != (0 : Int)) = true then
  some (.inl (.inl r22.2))
  else
  some (.inr ((maxI s3.1 r22.1), (w64 (s3.2 + (1 : Int)))))))
  else
  some (.inl (.inr s3.1)))
noncomputable def percentile_Used (a0 : api_Series) (a1 : Int) : Option (Int × Int) :=
  (percentile_Valid a0).bind fun r1 =>
  (if (!r1) = true then
  some ((0 : Int), (1 : Int))
  else
  (loop (percentile_Used_L0 a0 a1) ((0 : Int), (0 : Int))).bind fun x24 => match x24 with
  | (.inl p16) =>
    some ((0 : Int), p16)
  | (.inr p17) =>
    some (p17, (0 : Int)))
set_option maxHeartbeats 4000000 in
set_option maxRecDepth 100000 in
theorem percentile_Used_ac (a0 : api_Series) (a1 : Int) (r : Int × Int) (h : percentile_Used a0 a1 = some r) : AC Try.prog 18 [(.d (e_api_Series a0)), (.d (.int .i64 a1))] [] (.tup [(.d (.int .i64 r.1)), (.d (.int .i64 r.2))]) [] := by
  refine AC.of_code2 Try.func18 rfl rfl (Nat.le_of_ble_eq_true (by rfl)) fun B hB hN => ?_
  delta percentile_Used at h
  refine AWp.seq ?_
  refine AWp.region (OpJs.cons (OpJ.box hB (nm := 1002) (by decide) (by simp) rfl (ltN hN rfl) (Opd.tmp 0 (.d (e_api_Series a0))))
  (OpJs.cons (OpJ.assign (ltN hN rfl) (Opd.int .i64 (0)))
  (OpJs.cons (OpJ.assign (ltN hN rfl) (Opd.int .i64 (0)))
  (OpJs.nil)))) (by rfl) (by rfl) ?_
  refine seqQ_n ?_
  refine AWp.ghost (Mat.pat [] [(1, (.d (.int .i64 a1))), (2, (.ptr 1002 0 []))] [(1002, some (.box 30 (.d (e_api_Series a0))))] hB (by rfl) (by rfl) (by rfl)) ?_
  refine AWp.seq ?_
  refine AWp.seq ?_
  obtain ⟨r1, hr1, h⟩ := bindS h
  refine AWp.region (OpJs.cons (OpJ.loadB (bt := 30) (c := (.d (e_api_Series a0))) (v := (.d (e_api_Series a0))) tyS30 (At.here _) (by rfl) (by rfl) rfl (ltN hN rfl) (Opd.tmp 2 (.ptr 1002 0 [])))
  (OpJs.cons (OpJ.callFn hB fnOk16 (percentile_Valid_ac a0 r1 hr1) [] (by kernel_rfl) (ltN hN rfl) (by kernel_rfl) (OpdL.cons (Opd.tmp 12 (.d (e_api_Series a0))) OpdL.nil))
  (OpJs.cons (OpJ.not (ltN hN rfl) (Opd.tmp 13 (.d (.bool r1))))
  (OpJs.nil)))) (by rfl) (by rfl) ?_
  refine seqQ_n ?_
  refine AWp.ghost (Mat.pat [] [(1, (.d (.int .i64 a1))), (2, (.ptr 1002 0 [])), (14, (.d (.bool (!r1))))] [(1002, some (.box 30 (.d (e_api_Series a0))))] hB (by rfl) (by rfl) (by rfl)) ?_
  refine AWp.cond (b := (!r1)) (by rfl) (fun hg2 => ?_) (fun hg2 => ?_)
  · replace h := ite_t hg2 h
    refine AWp.seq ?_
    refine AWp.region (OpJs.cons (OpJ.assign (ltN hN rfl) (Opd.int .i64 (0)))
      (OpJs.cons (OpJ.assign (ltN hN rfl) (Opd.int .i64 (1)))
      (OpJs.nil))) (by rfl) (by rfl) ?_
    refine seqQ_n ?_
    refine AWp.ghost (Mat.pat [] [(4, (.d (.int .i64 (0 : Int)))), (5, (.d (.int .i64 (1 : Int))))] [] hB (by rfl) (by rfl) (by rfl)) ?_
    refine AWp.ret ?_
    refine seqQ_r ?_
    obtain rfl := Option.some.inj h
    exact ⟨.inl rfl, _, _, (Mat.pat [] [(4, (.d (.int .i64 (0 : Int)))), (5, (.d (.int .i64 (1 : Int))))] [] hB (by rfl) (by rfl) (by rfl)), [(.d (.int .i64 (0 : Int))), (.d (.int .i64 (1 : Int)))], (Res.tmp (by rfl) (by rfl) (Res.tmp (by rfl) (by rfl) Res.nil)), rfl, by rfl, by rfl, by rfl⟩
  · replace h := ite_f hg2 h
    refine AWp.skip ?_
    refine seqQ_n ?_
    refine AWp.seq ?_
    refine AWp.region (OpJs.cons (OpJ.assign (ltN hN rfl) (Opd.int .i64 (0)))
      (OpJs.nil)) (by rfl) (by rfl) ?_
    refine seqQ_n ?_
    refine AWp.ghost (Mat.pat [] [(1, (.d (.int .i64 a1))), (2, (.ptr 1002 0 [])), (6, (.d (.int .i64 (0 : Int))))] [(1002, some (.box 30 (.d (e_api_Series a0))))] hB (by rfl) (by rfl) (by rfl)) ?_
    refine AWp.seq ?_
    refine AWp.seq ?_
    refine AWp.region (OpJs.cons (OpJ.val (v' := (.ptr 1002 2 [2])) (by rfl) (OpJ.fieldP Try.underlying30 (by rfl) (o := 2) (by rfl) tyS22 (by decide) (obj := (.box 30 (.d (e_api_Series a0)))) (ltN hN rfl) (Opd.tmp 2 (.ptr 1002 0 []))))
      (OpJs.cons (OpJ.loadB (bt := 30) (c := (.d (e_api_Series a0))) (v := (.d (.list 1 (a0.fIn.map (eI .i64))))) tyS22 (At.dst1 (f := (.list 1 (a0.fIn.map (eI .i64)))) (by rfl) (by rfl) (At.here _) (by first | rfl | omega)) (by rfl) (by rfl) rfl (ltN hN rfl) (Opd.tmp 15 (.ptr 1002 2 [2])))
      (OpJs.cons (OpJ.val (v' := (.ptr 1002 3 [3])) (by rfl) (OpJ.fieldP Try.underlying30 (by rfl) (o := 3) (by rfl) tyS22 (by decide) (obj := (.box 30 (.d (e_api_Series a0)))) (ltN hN rfl) (Opd.tmp 2 (.ptr 1002 0 []))))
      (OpJs.cons (OpJ.loadB (bt := 30) (c := (.d (e_api_Series a0))) (v := (.d (.list 1 (a0.fOut.map (eI .i64))))) tyS22 (At.dst1 (f := (.list 1 (a0.fOut.map (eI .i64)))) (by rfl) (by rfl) (At.here _) (by first | rfl | omega)) (by rfl) (by rfl) rfl (ltN hN rfl) (Opd.tmp 17 (.ptr 1002 3 [3])))
      (OpJs.cons (OpJ.buildSlice Try.underlying42 tyS22 tyZD22 (by rfl) (by decide) (by decide) (Opds.cons (Opd.tmp 16 (.d (.list 1 (a0.fIn.map (eI .i64))))) (Opds.cons (Opd.tmp 18 (.d (.list 1 (a0.fOut.map (eI .i64))))) Opds.nil)) (by kernel_rfl) (es := ([(.list 1 (a0.fIn.map (eI .i64))), (.list 1 (a0.fOut.map (eI .i64)))] : List D)) (by rfl) (by rfl) (by kernel_rfl) (by simp) (ltN hN rfl))
      (OpJs.cons (OpJ.val (v' := (.d (.int .i64 (([a0.fIn, a0.fOut] : List (List Int)).length : Int)))) (by simp) (OpJ.lenD Try.underlying42 (ltN hN rfl) (Opd.tmp 19 (.d (.list 1 (([a0.fIn, a0.fOut] : List (List Int)).map e_LeIi64))))))
      (OpJs.cons (OpJ.move (ltN hN rfl) (Opd.int .i64 (0)))
      (OpJs.nil)))))))) (by rfl) (by rfl) ?_
    refine seqQ_n ?_
    refine AWp.ghost (Mat.pat [] [(1, (.d (.int .i64 a1))), (2, (.ptr 1002 0 [])), (6, (.d (.int .i64 (0 : Int)))), (19, (.d (.list 1 (([a0.fIn, a0.fOut] : List (List Int)).map e_LeIi64)))), (20, (.d (.int .i64 (([a0.fIn, a0.fOut] : List (List Int)).length : Int)))), (21, (.d (.int .i64 (0 : Int))))] [(1002, some (.box 30 (.d (e_api_Series a0))))] hB (by rfl) (by rfl) (by rfl)) ?_
    refine AWp.block ?_
    obtain ⟨x24, hx25, h⟩ := bindS h
    refine AWp.ghost (Mat.pat [] ((fun s3 : Int × Int => ([(1, (.d (.int .i64 a1))), (2, (.ptr 1002 0 [])), (6, (.d (.int .i64 s3.1))), (19, (.d (.list 1 (([a0.fIn, a0.fOut] : List (List Int)).map e_LeIi64)))), (20, (.d (.int .i64 (([a0.fIn, a0.fOut] : List (List Int)).length : Int)))), (21, (.d (.int .i64 s3.2)))] : EL)) ((0 : Int), (0 : Int))) ((fun s3 : Int × Int => ([(1002, some (.box 30 (.d (e_api_Series a0))))] : OL)) ((0 : Int), (0 : Int))) hB (by rfl) (by rfl) (by rfl)) ?_
    refine AWp.loopS (percentile_Used_L0 a0 a1) (fun s3 : Int × Int => ([(1, (.d (.int .i64 a1))), (2, (.ptr 1002 0 [])), (6, (.d (.int .i64 s3.1))), (19, (.d (.list 1 (([a0.fIn, a0.fOut] : List (List Int)).map e_LeIi64)))), (20, (.d (.int .i64 (([a0.fIn, a0.fOut] : List (List Int)).length : Int)))), (21, (.d (.int .i64 s3.2)))] : EL)) (fun s3 : Int × Int => ([(1002, some (.box 30 (.d (e_api_Series a0))))] : OL)) (fun (x : (Int) ⊕ (Int)) e E' O' => match x with | (.inl p16) => e = .ret ∧ Mat B E' O' ([(4, (.d (.int .i64 (0 : Int)))), (5, (.d (.int .i64 p16)))] : EL) ([] : OL) | (.inr p17) => e = .exit 0 ∧ Mat B E' O' ([(6, (.d (.int .i64 p17)))] : EL) ([] : OL)) hx25 (fun s3 y h => ?_) (fun e E' O' hR => ?_)
    · unfold percentile_Used_L0 at h
      show AWp _ _ _ _ ([(1, (.d (.int .i64 a1))), (2, (.ptr 1002 0 [])), (6, (.d (.int .i64 s3.1))), (19, (.d (.list 1 (([a0.fIn, a0.fOut] : List (List Int)).map e_LeIi64)))), (20, (.d (.int .i64 (([a0.fIn, a0.fOut] : List (List Int)).length : Int)))), (21, (.d (.int .i64 s3.2)))] : EL) ([(1002, some (.box 30 (.d (e_api_Series a0))))] : OL)
      refine AWp.seq ?_
      refine AWp.region (OpJs.cons (OpJ.lss (ltN hN rfl) (Opd.tmp 21 (.d (.int .i64 s3.2))) (Opd.tmp 20 (.d (.int .i64 (([a0.fIn, a0.fOut] : List (List Int)).length : Int)))))
        (OpJs.nil)) (by rfl) (by rfl) ?_
      refine seqQ_n ?_
      refine AWp.ghost (Mat.pat [] [(1, (.d (.int .i64 a1))), (2, (.ptr 1002 0 [])), (6, (.d (.int .i64 s3.1))), (19, (.d (.list 1 (([a0.fIn, a0.fOut] : List (List Int)).map e_LeIi64)))), (20, (.d (.int .i64 (([a0.fIn, a0.fOut] : List (List Int)).length : Int)))), (21, (.d (.int .i64 s3.2))), (22, (.d (.bool (decide (s3.2 < (([a0.fIn, a0.fOut] : List (List Int)).length : Int))))))] [(1002, some (.box 30 (.d (e_api_Series a0))))] hB (by rfl) (by rfl) (by rfl)) ?_
      refine AWp.seq ?_
      refine AWp.cond (b := (decide (s3.2 < (([a0.fIn, a0.fOut] : List (List Int)).length : Int)))) (by rfl) (fun hg18 => ?_) (fun hg18 => ?_)
      · replace h := ite_t hg18 h
        refine AWp.skip ?_
        refine seqQ_n ?_
        refine AWp.seq ?_
        refine AWp.block ?_
        refine AWp.seq ?_
        obtain ⟨x19, hx19, h⟩ := bindS h
        refine AWp.region (OpJs.cons (OpJ.indexD (el := (.list 1 (x19.map (eI .i64)))) Try.underlying42 tyS22 (idx_some hx19).1 (get_map e_LeIi64 (idx_some hx19).2) (ltN hN rfl) (Opd.tmp 19 (.d (.list 1 (([a0.fIn, a0.fOut] : List (List Int)).map e_LeIi64)))) (Opd.tmp 21 (.d (.int .i64 s3.2))))
          (OpJs.cons (OpJ.loadD tyS22 (by rfl) (by rfl) (ltN hN rfl) (Opd.tmp 23 (.dptr (.list 1 (x19.map (eI .i64))))))
          (OpJs.cons (OpJ.assign (ltN hN rfl) (Opd.tmp 24 (.d (.list 1 (x19.map (eI .i64))))))
          (OpJs.nil)))) (by rfl) (by rfl) ?_
        refine seqQ_n ?_
        refine AWp.ghost (Mat.pat [] [(1, (.d (.int .i64 a1))), (2, (.ptr 1002 0 [])), (6, (.d (.int .i64 s3.1))), (8, (.d (.list 1 (x19.map (eI .i64))))), (19, (.d (.list 1 (([a0.fIn, a0.fOut] : List (List Int)).map e_LeIi64)))), (20, (.d (.int .i64 (([a0.fIn, a0.fOut] : List (List Int)).length : Int)))), (21, (.d (.int .i64 s3.2)))] [(1002, some (.box 30 (.d (e_api_Series a0))))] hB (by rfl) (by rfl) (by rfl)) ?_
        refine AWp.seq ?_
        obtain ⟨r20, hr20, h⟩ := bindS h
        refine AWp.region (OpJs.cons (OpJ.move (ltN hN rfl) (Opd.tmp 8 (.d (.list 1 (x19.map (eI .i64))))))
          (OpJs.cons (OpJ.val (v' := (.ptr 1002 1 [1])) (by rfl) (OpJ.fieldP Try.underlying30 (by rfl) (o := 1) (by rfl) tyS3 (by decide) (obj := (.box 30 (.d (e_api_Series a0)))) (ltN hN rfl) (Opd.tmp 2 (.ptr 1002 0 []))))
          (OpJs.cons (OpJ.loadB (bt := 30) (c := (.d (e_api_Series a0))) (v := (.d (.int .i64 a0.fSeconds))) tyS3 (At.dst1 (f := (.int .i64 a0.fSeconds)) (by rfl) (by rfl) (At.here _) (by first | rfl | omega)) (by rfl) (by rfl) rfl (ltN hN rfl) (Opd.tmp 27 (.ptr 1002 1 [1])))
          (OpJs.cons (OpJ.callFn hB fnOk22 (percentile_Rates_ac x19 a0.fSeconds r20 hr20) [] (by kernel_rfl) (ltN hN rfl) (by kernel_rfl) (OpdL.cons (Opd.tmp 26 (.d (.list 1 (x19.map (eI .i64))))) (OpdL.cons (Opd.tmp 28 (.d (.int .i64 a0.fSeconds))) OpdL.nil)))
          (OpJs.cons (OpJ.move (ltN hN rfl) (Opd.tmp 29 (.tup [(.d (.list 1 (r20.1.map (eI .i64)))), (.d (.int .i64 r20.2))])))
          (OpJs.cons (OpJ.extract (v := (.d (.list 1 (r20.1.map (eI .i64))))) (by rfl) rfl (ltN hN rfl) (Opd.tmp 25 (.tup [(.d (.list 1 (r20.1.map (eI .i64)))), (.d (.int .i64 r20.2))])))
          (OpJs.cons (OpJ.extract (v := (.d (.int .i64 r20.2))) (by rfl) rfl (ltN hN rfl) (Opd.tmp 25 (.tup [(.d (.list 1 (r20.1.map (eI .i64)))), (.d (.int .i64 r20.2))])))
          (OpJs.cons (OpJ.assign (ltN hN rfl) (Opd.tmp 30 (.d (.list 1 (r20.1.map (eI .i64))))))
          (OpJs.cons (OpJ.assign (ltN hN rfl) (Opd.tmp 31 (.d (.int .i64 r20.2))))
          (OpJs.nil)))))))))) (by rfl) (by rfl) ?_
        refine seqQ_n ?_
        refine AWp.ghost (Mat.pat [] [(1, (.d (.int .i64 a1))), (2, (.ptr 1002 0 [])), (6, (.d (.int .i64 s3.1))), (9, (.d (.list 1 (r20.1.map (eI .i64))))), (10, (.d (.int .i64 r20.2))), (19, (.d (.list 1 (([a0.fIn, a0.fOut] : List (List Int)).map e_LeIi64)))), (20, (.d (.int .i64 (([a0.fIn, a0.fOut] : List (List Int)).length : Int)))), (21, (.d (.int .i64 s3.2)))] [(1002, some (.box 30 (.d (e_api_Series a0))))] hB (by rfl) (by rfl) (by rfl)) ?_
        refine AWp.seq ?_
        refine AWp.seq ?_
        refine AWp.region (OpJs.cons (OpJ.move (ltN hN rfl) (Opd.tmp 10 (.d (.int .i64 r20.2))))
          (OpJs.cons (OpJ.neqI (ltN hN rfl) (Opd.tmp 32 (.d (.int .i64 r20.2))) (Opd.int .i64 (0)))
          (OpJs.nil))) (by rfl) (by rfl) ?_
        refine seqQ_n ?_
        refine AWp.ghost (Mat.pat [] [(1, (.d (.int .i64 a1))), (2, (.ptr 1002 0 [])), (6, (.d (.int .i64 s3.1))), (9, (.d (.list 1 (r20.1.map (eI .i64))))), (10, (.d (.int .i64 r20.2))), (19, (.d (.list 1 (([a0.fIn, a0.fOut] : List (List Int)).map e_LeIi64)))), (20, (.d (.int .i64 (([a0.fIn, a0.fOut] : List (List Int)).length : Int)))), (21, (.d (.int .i64 s3.2))), (33, (.d (.bool (r20.2 != (0 : Int)))))] [(1002, some (.box 30 (.d (e_api_Series a0))))] hB (by rfl) (by rfl) (by rfl)) ?_
        refine AWp.cond (b := (r20.2 != (0 : Int))) (by rfl) (fun hg21 => ?_) (fun hg21 => ?_)
        · replace h := ite_t hg21 h
          refine AWp.seq ?_
          refine AWp.region (OpJs.cons (OpJ.move (ltN hN rfl) (Opd.tmp 10 (.d (.int .i64 r20.2))))
            (OpJs.cons (OpJ.assign (ltN hN rfl) (Opd.int .i64 (0)))
            (OpJs.cons (OpJ.assign (ltN hN rfl) (Opd.tmp 34 (.d (.int .i64 r20.2))))
            (OpJs.nil)))) (by rfl) (by rfl) ?_
          refine seqQ_n ?_
          refine AWp.ghost (Mat.pat [] [(4, (.d (.int .i64 (0 : Int)))), (5, (.d (.int .i64 r20.2)))] [] hB (by rfl) (by rfl) (by rfl)) ?_
          refine AWp.ret ?_
          refine seqQ_r ?_
          refine blkQ_r ?_
          refine seqQ_r ?_
          obtain rfl := Option.some.inj h
          exact ⟨(fun hc => by cases hc), rfl, (Mat.pat [] ((fun p16 : Int => ([(4, (.d (.int .i64 (0 : Int)))), (5, (.d (.int .i64 p16)))] : EL)) r20.2) ((fun p16 : Int => ([] : OL)) r20.2) hB (by rfl) (by rfl) (by rfl))⟩
        · replace h := ite_f hg21 h
          refine AWp.skip ?_
          refine seqQ_n ?_
          refine AWp.seq ?_
          obtain ⟨r22, hr22, h⟩ := bindS h
          refine AWp.region (OpJs.cons (OpJ.move (ltN hN rfl) (Opd.tmp 9 (.d (.list 1 (r20.1.map (eI .i64))))))
            (OpJs.cons (OpJ.move (ltN hN rfl) (Opd.tmp 1 (.d (.int .i64 a1))))
            (OpJs.cons (OpJ.callFn hB fnOk8 (percentile_Percentile_ac r20.1 a1 r22 hr22) [] (by kernel_rfl) (ltN hN rfl) (by kernel_rfl) (OpdL.cons (Opd.tmp 36 (.d (.list 1 (r20.1.map (eI .i64))))) (OpdL.cons (Opd.tmp 37 (.d (.int .i64 a1))) OpdL.nil)))
            (OpJs.cons (OpJ.move (ltN hN rfl) (Opd.tmp 38 (.tup [(.d (.int .i64 r22.1)), (.d (.int .i64 r22.2))])))
            (OpJs.cons (OpJ.extract (v := (.d (.int .i64 r22.1))) (by rfl) rfl (ltN hN rfl) (Opd.tmp 35 (.tup [(.d (.int .i64 r22.1)), (.d (.int .i64 r22.2))])))
            (OpJs.cons (OpJ.extract (v := (.d (.int .i64 r22.2))) (by rfl) rfl (ltN hN rfl) (Opd.tmp 35 (.tup [(.d (.int .i64 r22.1)), (.d (.int .i64 r22.2))])))
            (OpJs.cons (OpJ.assign (ltN hN rfl) (Opd.tmp 39 (.d (.int .i64 r22.1))))
            (OpJs.cons (OpJ.assign (ltN hN rfl) (Opd.tmp 40 (.d (.int .i64 r22.2))))
            (OpJs.nil))))))))) (by rfl) (by rfl) ?_
          refine seqQ_n ?_
          refine AWp.ghost (Mat.pat [] [(1, (.d (.int .i64 a1))), (2, (.ptr 1002 0 [])), (6, (.d (.int .i64 s3.1))), (10, (.d (.int .i64 r22.2))), (11, (.d (.int .i64 r22.1))), (19, (.d (.list 1 (([a0.fIn, a0.fOut] : List (List Int)).map e_LeIi64)))), (20, (.d (.int .i64 (([a0.fIn, a0.fOut] : List (List Int)).length : Int)))), (21, (.d (.int .i64 s3.2)))] [(1002, some (.box 30 (.d (e_api_Series a0))))] hB (by rfl) (by rfl) (by rfl)) ?_
          refine AWp.seq ?_
          refine AWp.seq ?_
          refine AWp.region (OpJs.cons (OpJ.move (ltN hN rfl) (Opd.tmp 10 (.d (.int .i64 r22.2))))
            (OpJs.cons (OpJ.neqI (ltN hN rfl) (Opd.tmp 41 (.d (.int .i64 r22.2))) (Opd.int .i64 (0)))
            (OpJs.nil))) (by rfl) (by rfl) ?_
          refine seqQ_n ?_
          refine AWp.ghost (Mat.pat [] [(1, (.d (.int .i64 a1))), (2, (.ptr 1002 0 [])), (6, (.d (.int .i64 s3.1))), (10, (.d (.int .i64 r22.2))), (11, (.d (.int .i64 r22.1))), (19, (.d (.list 1 (([a0.fIn, a0.fOut] : List (List Int)).map e_LeIi64)))), (20, (.d (.int .i64 (([a0.fIn, a0.fOut] : List (List Int)).length : Int)))), (21, (.d (.int .i64 s3.2))), (42, (.d (.bool (r22.2 != (0 : Int)))))] [(1002, some (.box 30 (.d (e_api_Series a0))))] hB (by rfl) (by rfl) (by rfl)) ?_
          refine AWp.cond (b := (r22.2 != (0 : Int))) (by rfl) (fun hg23 => ?_) (fun hg23 => ?_)
          · replace h := ite_t hg23 h
            refine AWp.seq ?_
            refine AWp.region (OpJs.cons (OpJ.move (ltN hN rfl) (Opd.tmp 10 (.d (.int .i64 r22.2))))
              (OpJs.cons (OpJ.assign (ltN hN rfl) (Opd.int .i64 (0)))
              (OpJs.cons (OpJ.assign (ltN hN rfl) (Opd.tmp 43 (.d (.int .i64 r22.2))))
              (OpJs.nil)))) (by rfl) (by rfl) ?_
            refine seqQ_n ?_
            refine AWp.ghost (Mat.pat [] [(4, (.d (.int .i64 (0 : Int)))), (5, (.d (.int .i64 r22.2)))] [] hB (by rfl) (by rfl) (by rfl)) ?_
            refine AWp.ret ?_
            refine seqQ_r ?_
            refine blkQ_r ?_
            refine seqQ_r ?_
            obtain rfl := Option.some.inj h
            exact ⟨(fun hc => by cases hc), rfl, (Mat.pat [] ((fun p16 : Int => ([(4, (.d (.int .i64 (0 : Int)))), (5, (.d (.int .i64 p16)))] : EL)) r22.2) ((fun p16 : Int => ([] : OL)) r22.2) hB (by rfl) (by rfl) (by rfl))⟩
          · replace h := ite_f hg23 h
            refine AWp.skip ?_
            refine seqQ_n ?_
            refine AWp.region (OpJs.cons (OpJ.move (ltN hN rfl) (Opd.tmp 6 (.d (.int .i64 s3.1))))
              (OpJs.cons (OpJ.move (ltN hN rfl) (Opd.tmp 11 (.d (.int .i64 r22.1))))
              (OpJs.cons (OpJ.max (ltN hN rfl) (Opd.tmp 44 (.d (.int .i64 s3.1))) (Opd.tmp 45 (.d (.int .i64 r22.1))))
              (OpJs.cons (OpJ.assign (ltN hN rfl) (Opd.tmp 46 (.d (.int .i64 (maxI s3.1 r22.1)))))
              (OpJs.nil))))) (by rfl) (by rfl) ?_
            refine blkQ_n ?_
            refine seqQ_n ?_
            refine AWp.ghost (Mat.pat [] [(1, (.d (.int .i64 a1))), (2, (.ptr 1002 0 [])), (6, (.d (.int .i64 (maxI s3.1 r22.1)))), (19, (.d (.list 1 (([a0.fIn, a0.fOut] : List (List Int)).map e_LeIi64)))), (20, (.d (.int .i64 (([a0.fIn, a0.fOut] : List (List Int)).length : Int)))), (21, (.d (.int .i64 s3.2)))] [(1002, some (.box 30 (.d (e_api_Series a0))))] hB (by rfl) (by rfl) (by rfl)) ?_
            refine AWp.region (OpJs.cons (OpJ.add (ltN hN rfl) (Opd.tmp 21 (.d (.int .i64 s3.2))) (Opd.int .i64 (1)))
              (OpJs.cons (OpJ.move (ltN hN rfl) (Opd.tmp 47 (.d (.int .i64 (w64 (s3.2 + (1 : Int)))))))
              (OpJs.nil))) (by rfl) (by rfl) ?_
            obtain rfl := Option.some.inj h
            exact ⟨rfl, (Mat.trans (Mat.pat [] [(1, (.d (.int .i64 a1))), (2, (.ptr 1002 0 [])), (6, (.d (.int .i64 (maxI s3.1 r22.1)))), (19, (.d (.list 1 (([a0.fIn, a0.fOut] : List (List Int)).map e_LeIi64)))), (20, (.d (.int .i64 (([a0.fIn, a0.fOut] : List (List Int)).length : Int)))), (21, (.d (.int .i64 (w64 (s3.2 + (1 : Int))))))] [(1002, some (.box 30 (.d (e_api_Series a0))))] hB (by rfl) (by rfl) (by rfl)) (Mat.pat [] ((fun s3 : Int × Int => ([(1, (.d (.int .i64 a1))), (2, (.ptr 1002 0 [])), (6, (.d (.int .i64 s3.1))), (19, (.d (.list 1 (([a0.fIn, a0.fOut] : List (List Int)).map e_LeIi64)))), (20, (.d (.int .i64 (([a0.fIn, a0.fOut] : List (List Int)).length : Int)))), (21, (.d (.int .i64 s3.2)))] : EL)) ((maxI s3.1 r22.1), (w64 (s3.2 + (1 : Int))))) ((fun s3 : Int × Int => ([(1002, some (.box 30 (.d (e_api_Series a0))))] : OL)) ((maxI s3.1 r22.1), (w64 (s3.2 + (1 : Int))))) hB (by rfl) (by rfl) (by rfl)))⟩
      · replace h := ite_f hg18 h
        refine AWp.exit ?_
        refine seqQ_e ?_
        obtain rfl := Option.some.inj h
        exact ⟨(fun hc => by cases hc), rfl, (Mat.pat [] ((fun p17 : Int => ([(6, (.d (.int .i64 p17)))] : EL)) s3.1) ((fun p17 : Int => ([] : OL)) s3.1) hB (by rfl) (by rfl) (by rfl))⟩
    · rcases x24 with p16 | p17
      · obtain ⟨rfl, hmat⟩ := hR
        refine blkQ_r ?_
        refine seqQ_r ?_
        obtain rfl := Option.some.inj h
        exact ⟨.inl rfl, _, _, (Mat.trans hmat (Mat.pat [] [(4, (.d (.int .i64 (0 : Int)))), (5, (.d (.int .i64 p16)))] [] hB (by rfl) (by rfl) (by rfl))), [(.d (.int .i64 (0 : Int))), (.d (.int .i64 p16))], (Res.tmp (by rfl) (by rfl) (Res.tmp (by rfl) (by rfl) Res.nil)), rfl, by rfl, by rfl, by rfl⟩
      · obtain ⟨rfl, hmat⟩ := hR
        refine blkQ_hit ?_
        refine seqQ_n ?_
        refine AWp.ghost hmat ?_
        refine AWp.seq ?_
        refine AWp.region (OpJs.cons (OpJ.move (ltN hN rfl) (Opd.tmp 6 (.d (.int .i64 p17))))
          (OpJs.cons (OpJ.assign (ltN hN rfl) (Opd.tmp 48 (.d (.int .i64 p17))))
          (OpJs.cons (OpJ.assign (ltN hN rfl) (Opd.int .i64 (0)))
          (OpJs.nil)))) (by rfl) (by rfl) ?_
        refine seqQ_n ?_
        refine AWp.ghost (Mat.pat [] [(4, (.d (.int .i64 p17))), (5, (.d (.int .i64 (0 : Int))))] [] hB (by rfl) (by rfl) (by rfl)) ?_
        refine AWp.ret ?_
        obtain rfl := Option.some.inj h
        exact ⟨.inl rfl, _, _, (Mat.pat [] [(4, (.d (.int .i64 p17))), (5, (.d (.int .i64 (0 : Int))))] [] hB (by rfl) (by rfl) (by rfl)), [(.d (.int .i64 p17)), (.d (.int .i64 (0 : Int)))], (Res.tmp (by rfl) (by rfl) (Res.tmp (by rfl) (by rfl) Res.nil)), rfl, by rfl, by rfl, by rfl⟩

noncomputable def exchangepointref40_Rate (a0 : Int) (a1 : Int) : Option (Int × Int) :=
  (if ((((decide (a0 < (0 : Int))) || (decide ((1125899906842624 : Int) < a0))) || (decide (a1 < (1 : Int)))) || (decide ((86400 : Int) < a1))) = true then
  some ((0 : Int), (1 : Int))
  else
  chk (decide ((w64 (a1 * (1000000 : Int))) ≠ 0)) <|
  some ((w64 (Int.tdiv (w64 ((w64 ((w64 ((8 : Int) * a0)) + (w64 (a1 * (1000000 : Int))))) - (1 : Int))) (w64 (a1 * (1000000 : Int))))), (0 : Int)))
set_option maxHeartbeats 4000000 in
set_option maxRecDepth 100000 in
theorem exchangepointref40_Rate_ac (a0 : Int) (a1 : Int) (r : Int × Int) (h : exchangepointref40_Rate a0 a1 = some r) : AC Try.prog 21 [(.d (.int .i64 a0)), (.d (.int .i64 a1))] [] (.tup [(.d (.int .i64 r.1)), (.d (.int .i64 r.2))]) [] := by
  refine AC.of_code2 Try.func21 rfl rfl (Nat.le_of_ble_eq_true (by rfl)) fun B hB hN => ?_
  delta exchangepointref40_Rate at h
  refine AWp.seq ?_
  refine AWp.region (OpJs.cons (OpJ.assign (ltN hN rfl) (Opd.int .i64 (0)))
  (OpJs.cons (OpJ.assign (ltN hN rfl) (Opd.int .i64 (0)))
  (OpJs.nil))) (by rfl) (by rfl) ?_
  refine seqQ_n ?_
  refine AWp.ghost (Mat.pat [] [(0, (.d (.int .i64 a0))), (1, (.d (.int .i64 a1)))] [] hB (by rfl) (by rfl) (by rfl)) ?_
  refine AWp.seq ?_
  refine AWp.seq ?_
  refine AWp.region (OpJs.cons (OpJ.move (ltN hN rfl) (Opd.tmp 0 (.d (.int .i64 a0))))
  (OpJs.cons (OpJ.lss (ltN hN rfl) (Opd.tmp 7 (.d (.int .i64 a0))) (Opd.int .i64 (0)))
  (OpJs.cons (OpJ.move (ltN hN rfl) (Opd.tmp 8 (.d (.bool (decide (a0 < (0 : Int)))))))
  (OpJs.cons (OpJ.opt' (v := (.d (.int .i64 a0))) (OpJ.move (ltN hN rfl) (Opd.tmp 0 (.d (.int .i64 a0)))) (by rfl) (GuardV.plain _) (ltN hN rfl) (by rfl) (by rfl) (by rfl) (by rfl) (OptL.keep rfl OptL.nil))
  (OpJs.cons (OpJ.opt' (v := (.d (.bool (decide ((1125899906842624 : Int) < a0))))) (OpJ.gtr (ltN hN rfl) (Opd.tmp 10 (.d (.int .i64 a0))) (Opd.int .i64 (1125899906842624))) (by rfl) (GuardV.plain _) (ltN hN rfl) (by rfl) (by rfl) (by rfl) (by rfl) (OptL.opt OptL.nil))
  (OpJs.cons (OpJ.pickOr rfl (ltN hN rfl) (Opd.tmp 9 (.d (.bool (decide (a0 < (0 : Int)))))) (Opd.tmp 11 (.opt ((decide (a0 < (0 : Int))) == false) (.d (.bool (decide ((1125899906842624 : Int) < a0)))))))
  (OpJs.cons (OpJ.move (ltN hN rfl) (Opd.tmp 12 (.d (.bool ((decide (a0 < (0 : Int))) || (decide ((1125899906842624 : Int) < a0)))))))
  (OpJs.cons (OpJ.opt' (v := (.d (.int .i64 a1))) (OpJ.move (ltN hN rfl) (Opd.tmp 1 (.d (.int .i64 a1)))) (by rfl) (GuardV.plain _) (ltN hN rfl) (by rfl) (by rfl) (by rfl) (by rfl) (OptL.keep rfl OptL.nil))
  (OpJs.cons (OpJ.opt' (v := (.d (.bool (decide (a1 < (1 : Int)))))) (OpJ.lss (ltN hN rfl) (Opd.tmp 14 (.d (.int .i64 a1))) (Opd.int .i64 (1))) (by rfl) (GuardV.plain _) (ltN hN rfl) (by rfl) (by rfl) (by rfl) (by rfl) (OptL.opt OptL.nil))
  (OpJs.cons (OpJ.pickOr rfl (ltN hN rfl) (Opd.tmp 13 (.d (.bool ((decide (a0 < (0 : Int))) || (decide ((1125899906842624 : Int) < a0)))))) (Opd.tmp 15 (.opt (((decide (a0 < (0 : Int))) || (decide ((1125899906842624 : Int) < a0))) == false) (.d (.bool (decide (a1 < (1 : Int))))))))
  (OpJs.cons (OpJ.move (ltN hN rfl) (Opd.tmp 16 (.d (.bool (((decide (a0 < (0 : Int))) || (decide ((1125899906842624 : Int) < a0))) || (decide (a1 < (1 : Int))))))))
  (OpJs.cons (OpJ.opt' (v := (.d (.int .i64 a1))) (OpJ.move (ltN hN rfl) (Opd.tmp 1 (.d (.int .i64 a1)))) (by rfl) (GuardV.plain _) (ltN hN rfl) (by rfl) (by rfl) (by rfl) (by rfl) (OptL.keep rfl OptL.nil))
  (OpJs.cons (OpJ.opt' (v := (.d (.bool (decide ((86400 : Int) < a1))))) (OpJ.gtr (ltN hN rfl) (Opd.tmp 18 (.d (.int .i64 a1))) (Opd.int .i64 (86400))) (by rfl) (GuardV.plain _) (ltN hN rfl) (by rfl) (by rfl) (by rfl) (by rfl) (OptL.opt OptL.nil))
  (OpJs.cons (OpJ.pickOr rfl (ltN hN rfl) (Opd.tmp 17 (.d (.bool (((decide (a0 < (0 : Int))) || (decide ((1125899906842624 : Int) < a0))) || (decide (a1 < (1 : Int))))))) (Opd.tmp 19 (.opt ((((decide (a0 < (0 : Int))) || (decide ((1125899906842624 : Int) < a0))) || (decide (a1 < (1 : Int)))) == false) (.d (.bool (decide ((86400 : Int) < a1)))))))
  (OpJs.nil))))))))))))))) (by rfl) (by rfl) ?_
  refine seqQ_n ?_
  refine AWp.ghost (Mat.pat [] [(0, (.d (.int .i64 a0))), (1, (.d (.int .i64 a1))), (20, (.d (.bool ((((decide (a0 < (0 : Int))) || (decide ((1125899906842624 : Int) < a0))) || (decide (a1 < (1 : Int)))) || (decide ((86400 : Int) < a1))))))] [] hB (by rfl) (by rfl) (by rfl)) ?_
  refine AWp.cond (b := ((((decide (a0 < (0 : Int))) || (decide ((1125899906842624 : Int) < a0))) || (decide (a1 < (1 : Int)))) || (decide ((86400 : Int) < a1)))) (by rfl) (fun hg1 => ?_) (fun hg1 => ?_)
  · replace h := ite_t hg1 h
    refine AWp.seq ?_
    refine AWp.region (OpJs.cons (OpJ.assign (ltN hN rfl) (Opd.int .i64 (0)))
      (OpJs.cons (OpJ.assign (ltN hN rfl) (Opd.int .i64 (1)))
      (OpJs.nil))) (by rfl) (by rfl) ?_
    refine seqQ_n ?_
    refine AWp.ghost (Mat.pat [] [(4, (.d (.int .i64 (0 : Int)))), (5, (.d (.int .i64 (1 : Int))))] [] hB (by rfl) (by rfl) (by rfl)) ?_
    refine AWp.ret ?_
    refine seqQ_r ?_
    obtain rfl := Option.some.inj h
    exact ⟨.inl rfl, _, _, (Mat.pat [] [(4, (.d (.int .i64 (0 : Int)))), (5, (.d (.int .i64 (1 : Int))))] [] hB (by rfl) (by rfl) (by rfl)), [(.d (.int .i64 (0 : Int))), (.d (.int .i64 (1 : Int)))], (Res.tmp (by rfl) (by rfl) (Res.tmp (by rfl) (by rfl) Res.nil)), rfl, by rfl, by rfl, by rfl⟩
  · replace h := ite_f hg1 h
    refine AWp.skip ?_
    refine seqQ_n ?_
    refine AWp.seq ?_
    refine AWp.region (OpJs.cons (OpJ.move (ltN hN rfl) (Opd.tmp 1 (.d (.int .i64 a1))))
      (OpJs.cons (OpJ.mul (ltN hN rfl) (Opd.tmp 21 (.d (.int .i64 a1))) (Opd.int .i64 (1000000)))
      (OpJs.cons (OpJ.assign (ltN hN rfl) (Opd.tmp 22 (.d (.int .i64 (w64 (a1 * (1000000 : Int)))))))
      (OpJs.nil)))) (by rfl) (by rfl) ?_
    refine seqQ_n ?_
    refine AWp.ghost (Mat.pat [] [(0, (.d (.int .i64 a0))), (6, (.d (.int .i64 (w64 (a1 * (1000000 : Int))))))] [] hB (by rfl) (by rfl) (by rfl)) ?_
    refine AWp.seq ?_
    obtain ⟨hc2, h⟩ := chk_some h
    refine AWp.region (OpJs.cons (OpJ.move (ltN hN rfl) (Opd.tmp 0 (.d (.int .i64 a0))))
      (OpJs.cons (OpJ.mul (ltN hN rfl) (Opd.int .i64 (8)) (Opd.tmp 23 (.d (.int .i64 a0))))
      (OpJs.cons (OpJ.move (ltN hN rfl) (Opd.tmp 6 (.d (.int .i64 (w64 (a1 * (1000000 : Int)))))))
      (OpJs.cons (OpJ.add (ltN hN rfl) (Opd.tmp 24 (.d (.int .i64 (w64 ((8 : Int) * a0))))) (Opd.tmp 25 (.d (.int .i64 (w64 (a1 * (1000000 : Int)))))))
      (OpJs.cons (OpJ.sub (ltN hN rfl) (Opd.tmp 26 (.d (.int .i64 (w64 ((w64 ((8 : Int) * a0)) + (w64 (a1 * (1000000 : Int)))))))) (Opd.int .i64 (1)))
      (OpJs.cons (OpJ.move (ltN hN rfl) (Opd.tmp 6 (.d (.int .i64 (w64 (a1 * (1000000 : Int)))))))
      (OpJs.cons (OpJ.quo (ltN hN rfl) (Opd.tmp 27 (.d (.int .i64 (w64 ((w64 ((w64 ((8 : Int) * a0)) + (w64 (a1 * (1000000 : Int))))) - (1 : Int)))))) (Opd.tmp 28 (.d (.int .i64 (w64 (a1 * (1000000 : Int)))))) (of_decide_eq_true hc2))
      (OpJs.cons (OpJ.assign (ltN hN rfl) (Opd.tmp 29 (.d (.int .i64 (w64 (Int.tdiv (w64 ((w64 ((w64 ((8 : Int) * a0)) + (w64 (a1 * (1000000 : Int))))) - (1 : Int))) (w64 (a1 * (1000000 : Int)))))))))
      (OpJs.cons (OpJ.assign (ltN hN rfl) (Opd.int .i64 (0)))
      (OpJs.nil)))))))))) (by rfl) (by rfl) ?_
    refine seqQ_n ?_
    refine AWp.ghost (Mat.pat [] [(4, (.d (.int .i64 (w64 (Int.tdiv (w64 ((w64 ((w64 ((8 : Int) * a0)) + (w64 (a1 * (1000000 : Int))))) - (1 : Int))) (w64 (a1 * (1000000 : Int)))))))), (5, (.d (.int .i64 (0 : Int))))] [] hB (by rfl) (by rfl) (by rfl)) ?_
    refine AWp.ret ?_
    obtain rfl := Option.some.inj h
    exact ⟨.inl rfl, _, _, (Mat.pat [] [(4, (.d (.int .i64 (w64 (Int.tdiv (w64 ((w64 ((w64 ((8 : Int) * a0)) + (w64 (a1 * (1000000 : Int))))) - (1 : Int))) (w64 (a1 * (1000000 : Int)))))))), (5, (.d (.int .i64 (0 : Int))))] [] hB (by rfl) (by rfl) (by rfl)), [(.d (.int .i64 (w64 (Int.tdiv (w64 ((w64 ((w64 ((8 : Int) * a0)) + (w64 (a1 * (1000000 : Int))))) - (1 : Int))) (w64 (a1 * (1000000 : Int))))))), (.d (.int .i64 (0 : Int)))], (Res.tmp (by rfl) (by rfl) (Res.tmp (by rfl) (by rfl) Res.nil)), rfl, by rfl, by rfl, by rfl⟩

noncomputable def exchangepointref40_Rates_L0 (a0 : (List Int)) (a1 : Int) (s2 : Int × (List Int)) : Option (((Int) ⊕ ((List Int))) ⊕ (Int × (List Int))) :=
  (if (decide (s2.1 < (a0.length : Int))) = true then
  jn (fun m37 : (List Int) =>
  some (.inr ((w64 (s2.1 + (1 : Int))), m37))) (fun j38 =>
  (idx a0 s2.1).bind fun x39 =>
  (if (x39 == (-1 : Int)) = true then
  j38 s2.2
  else
  (exchangepointref40_Rate x39 a1).bind fun r41 =>
  (if (r41.2 != (0 : Int)) = true then
  some (.inl (.inl r41.2))
  else
  chk (decide ((s2.2 ++ ([r41.1] : List Int)).length ≤ LIM)) <|
  j38 (s2.2 ++ ([r41.1] : List Int)))))
  else
  some (.inl (.inr s2.2)))
noncomputable def exchangepointref40_Rates (a0 : (List Int)) (a1 : Int) : Option ((List Int) × Int) :=
  (if ((decide (a1 < (1 : Int))) || (decide ((86400 : Int) < a1))) = true then
  some (([] : List Int), (1 : Int))
  else
  (loop (exchangepointref40_Rates_L0 a0 a1) ((0 : Int), ([] : List Int))).bind fun x44 => match x44 with
  | (.inl p29) =>
    some (([] : List Int), p29)
  | (.inr p30) =>
    some (p30, (0 : Int)))
set_option maxHeartbeats 4000000 in
set_option maxRecDepth 100000 in
theorem exchangepointref40_Rates_ac (a0 : (List Int)) (a1 : Int) (r : (List Int) × Int) (h : exchangepointref40_Rates a0 a1 = some r) : AC Try.prog 23 [(.d (.list 1 (a0.map (eI .i64)))), (.d (.int .i64 a1))] [] (.tup [(.d (.list 1 (r.1.map (eI .i64)))), (.d (.int .i64 r.2))]) [] := by
  refine AC.of_code2 Try.func23 rfl rfl (Nat.le_of_ble_eq_true (by rfl)) fun B hB hN => ?_
  delta exchangepointref40_Rates at h
  refine AWp.seq ?_
  refine AWp.region (OpJs.cons (OpJ.assign (ltN hN rfl) Opd.nils)
  (OpJs.cons (OpJ.assign (ltN hN rfl) (Opd.int .i64 (0)))
  (OpJs.nil))) (by rfl) (by rfl) ?_
  refine seqQ_n ?_
  refine AWp.ghost (Mat.pat [] [(0, (.d (.list 1 (a0.map (eI .i64))))), (1, (.d (.int .i64 a1)))] [] hB (by rfl) (by rfl) (by rfl)) ?_
  refine AWp.seq ?_
  refine AWp.seq ?_
  refine AWp.region (OpJs.cons (OpJ.move (ltN hN rfl) (Opd.tmp 1 (.d (.int .i64 a1))))
  (OpJs.cons (OpJ.lss (ltN hN rfl) (Opd.tmp 11 (.d (.int .i64 a1))) (Opd.int .i64 (1)))
  (OpJs.cons (OpJ.move (ltN hN rfl) (Opd.tmp 12 (.d (.bool (decide (a1 < (1 : Int)))))))
  (OpJs.cons (OpJ.opt' (v := (.d (.int .i64 a1))) (OpJ.move (ltN hN rfl) (Opd.tmp 1 (.d (.int .i64 a1)))) (by rfl) (GuardV.plain _) (ltN hN rfl) (by rfl) (by rfl) (by rfl) (by rfl) (OptL.keep rfl OptL.nil))
  (OpJs.cons (OpJ.opt' (v := (.d (.bool (decide ((86400 : Int) < a1))))) (OpJ.gtr (ltN hN rfl) (Opd.tmp 14 (.d (.int .i64 a1))) (Opd.int .i64 (86400))) (by rfl) (GuardV.plain _) (ltN hN rfl) (by rfl) (by rfl) (by rfl) (by rfl) (OptL.opt OptL.nil))
  (OpJs.cons (OpJ.pickOr rfl (ltN hN rfl) (Opd.tmp 13 (.d (.bool (decide (a1 < (1 : Int)))))) (Opd.tmp 15 (.opt ((decide (a1 < (1 : Int))) == false) (.d (.bool (decide ((86400 : Int) < a1)))))))
  (OpJs.nil))))))) (by rfl) (by rfl) ?_
  refine seqQ_n ?_
  refine AWp.ghost (Mat.pat [] [(0, (.d (.list 1 (a0.map (eI .i64))))), (1, (.d (.int .i64 a1))), (16, (.d (.bool ((decide (a1 < (1 : Int))) || (decide ((86400 : Int) < a1))))))] [] hB (by rfl) (by rfl) (by rfl)) ?_
  refine AWp.cond (b := ((decide (a1 < (1 : Int))) || (decide ((86400 : Int) < a1)))) (by rfl) (fun hg1 => ?_) (fun hg1 => ?_)
  · replace h := ite_t hg1 h
    refine AWp.seq ?_
    refine AWp.region (OpJs.cons (OpJ.assign (ltN hN rfl) Opd.nils)
      (OpJs.cons (OpJ.assign (ltN hN rfl) (Opd.int .i64 (1)))
      (OpJs.nil))) (by rfl) (by rfl) ?_
    refine seqQ_n ?_
    refine AWp.ghost (Mat.pat [] [(4, .nils), (5, (.d (.int .i64 (1 : Int))))] [] hB (by rfl) (by rfl) (by rfl)) ?_
    refine AWp.ret ?_
    refine seqQ_r ?_
    obtain rfl := Option.some.inj h
    exact ⟨.inl rfl, _, _, (Mat.trans (Mat.coeP (Ts := [(4, (.d (.list 1 (([] : List Int).map (eI .i64)))))]) (Bs := []) (TwT.cons (x := .nils) (by rfl) (Tw.leaf ⟨_, (Co.nils 1), rfl⟩) TwT.nil) TwB.nil) (Mat.pat [] [(4, (.d (.list 1 (([] : List Int).map (eI .i64))))), (5, (.d (.int .i64 (1 : Int))))] [] hB (by rfl) (by rfl) (by rfl))), [(.d (.list 1 (([] : List Int).map (eI .i64)))), (.d (.int .i64 (1 : Int)))], (Res.tmp (by rfl) (by rfl) (Res.tmp (by rfl) (by rfl) Res.nil)), rfl, by rfl, by rfl, by rfl⟩
  · replace h := ite_f hg1 h
    refine AWp.skip ?_
    refine seqQ_n ?_
    refine AWp.seq ?_
    refine AWp.region (OpJs.cons (OpJ.assign (ltN hN rfl) Opd.nils)
      (OpJs.nil)) (by rfl) (by rfl) ?_
    refine seqQ_n ?_
    refine AWp.ghost (Mat.pat [] [(0, (.d (.list 1 (a0.map (eI .i64))))), (1, (.d (.int .i64 a1))), (6, .nils)] [] hB (by rfl) (by rfl) (by rfl)) ?_
    refine AWp.seq ?_
    refine AWp.seq ?_
    refine AWp.region (OpJs.cons (OpJ.move (ltN hN rfl) (Opd.tmp 0 (.d (.list 1 (a0.map (eI .i64))))))
      (OpJs.cons (OpJ.val (v' := (.d (.int .i64 (a0.length : Int)))) (by simp) (OpJ.lenD Try.underlying22 (ltN hN rfl) (Opd.tmp 17 (.d (.list 1 (a0.map (eI .i64)))))))
      (OpJs.cons (OpJ.move (ltN hN rfl) (Opd.int .i64 (0)))
      (OpJs.nil)))) (by rfl) (by rfl) ?_
    refine seqQ_n ?_
    refine AWp.ghost (Mat.pat [] [(1, (.d (.int .i64 a1))), (6, .nils), (17, (.d (.list 1 (a0.map (eI .i64))))), (18, (.d (.int .i64 (a0.length : Int)))), (19, (.d (.int .i64 (0 : Int))))] [] hB (by rfl) (by rfl) (by rfl)) ?_
    refine AWp.block ?_
    obtain ⟨x44, hx45, h⟩ := bindS h
    refine AWp.ghost (Mat.trans (Mat.beginP (n := 3006) (e := 3) (sz := 1) (Ts := [(6, (.sref 3006 1 0 0))]) (Bs := []) hB (by decide) (by rfl) (by decide) (TwT.cons (x := .nils) (by rfl) (Tw.leaf ⟨rfl, rfl⟩) TwT.nil) TwB.nil) (Mat.pat [] ((fun s2 : Int × (List Int) => ([(1, (.d (.int .i64 a1))), (6, (.sref 3006 1 0 s2.2.length)), (17, (.d (.list 1 (a0.map (eI .i64))))), (18, (.d (.int .i64 (a0.length : Int)))), (19, (.d (.int .i64 s2.1)))] : EL)) ((0 : Int), ([] : List Int))) ((fun s2 : Int × (List Int) => ([(3006, some (.row 3 1 (s2.2.map (eI .i64))))] : OL)) ((0 : Int), ([] : List Int))) hB (by rfl) (by rfl) (by rfl))) ?_
    refine AWp.loopS (exchangepointref40_Rates_L0 a0 a1) (fun s2 : Int × (List Int) => ([(1, (.d (.int .i64 a1))), (6, (.sref 3006 1 0 s2.2.length)), (17, (.d (.list 1 (a0.map (eI .i64))))), (18, (.d (.int .i64 (a0.length : Int)))), (19, (.d (.int .i64 s2.1)))] : EL)) (fun s2 : Int × (List Int) => ([(3006, some (.row 3 1 (s2.2.map (eI .i64))))] : OL)) (fun (x : (Int) ⊕ ((List Int))) e E' O' => match x with | (.inl p29) => e = .ret ∧ Mat B E' O' ([(4, .nils), (5, (.d (.int .i64 p29)))] : EL) ([] : OL) | (.inr p30) => e = .exit 0 ∧ Mat B E' O' ([(6, (.sref 3006 1 0 p30.length))] : EL) ([(3006, some (.row 3 1 (p30.map (eI .i64))))] : OL)) hx45 (fun s2 y h => ?_) (fun e E' O' hR => ?_)
    · unfold exchangepointref40_Rates_L0 at h
      show AWp _ _ _ _ ([(1, (.d (.int .i64 a1))), (6, (.sref 3006 1 0 s2.2.length)), (17, (.d (.list 1 (a0.map (eI .i64))))), (18, (.d (.int .i64 (a0.length : Int)))), (19, (.d (.int .i64 s2.1)))] : EL) ([(3006, some (.row 3 1 (s2.2.map (eI .i64))))] : OL)
      refine AWp.seq ?_
      refine AWp.region (OpJs.cons (OpJ.lss (ltN hN rfl) (Opd.tmp 19 (.d (.int .i64 s2.1))) (Opd.tmp 18 (.d (.int .i64 (a0.length : Int)))))
        (OpJs.nil)) (by rfl) (by rfl) ?_
      refine seqQ_n ?_
      refine AWp.ghost (Mat.pat [] [(1, (.d (.int .i64 a1))), (6, (.sref 3006 1 0 s2.2.length)), (17, (.d (.list 1 (a0.map (eI .i64))))), (18, (.d (.int .i64 (a0.length : Int)))), (19, (.d (.int .i64 s2.1))), (20, (.d (.bool (decide (s2.1 < (a0.length : Int))))))] [(3006, some (.row 3 1 (s2.2.map (eI .i64))))] hB (by rfl) (by rfl) (by rfl)) ?_
      refine AWp.seq ?_
      refine AWp.cond (b := (decide (s2.1 < (a0.length : Int)))) (by rfl) (fun hg31 => ?_) (fun hg31 => ?_)
      · replace h := ite_t hg31 h
        refine AWp.skip ?_
        refine seqQ_n ?_
        refine AWp.seq ?_
        refine AWp.cut h (fun m37 : (List Int) => ([(1, (.d (.int .i64 a1))), (6, (.sref 3006 1 0 m37.length)), (17, (.d (.list 1 (a0.map (eI .i64))))), (18, (.d (.int .i64 (a0.length : Int)))), (19, (.d (.int .i64 s2.1)))] : EL)) (fun m37 : (List Int) => ([(3006, some (.row 3 1 (m37.map (eI .i64))))] : OL)) (fun m37 h E' O' hmat => ?_) (fun j38 hjj38 h => ?_)
        · refine seqQ_n ?_
          refine AWp.ghost hmat ?_
          refine AWp.region (OpJs.cons (OpJ.add (ltN hN rfl) (Opd.tmp 19 (.d (.int .i64 s2.1))) (Opd.int .i64 (1)))
            (OpJs.cons (OpJ.move (ltN hN rfl) (Opd.tmp 38 (.d (.int .i64 (w64 (s2.1 + (1 : Int)))))))
            (OpJs.nil))) (by rfl) (by rfl) ?_
          obtain rfl := Option.some.inj h
          exact ⟨rfl, (Mat.trans (Mat.pat [] [(1, (.d (.int .i64 a1))), (6, (.sref 3006 1 0 m37.length)), (17, (.d (.list 1 (a0.map (eI .i64))))), (18, (.d (.int .i64 (a0.length : Int)))), (19, (.d (.int .i64 (w64 (s2.1 + (1 : Int))))))] [(3006, some (.row 3 1 (m37.map (eI .i64))))] hB (by rfl) (by rfl) (by rfl)) (Mat.pat [] ((fun s2 : Int × (List Int) => ([(1, (.d (.int .i64 a1))), (6, (.sref 3006 1 0 s2.2.length)), (17, (.d (.list 1 (a0.map (eI .i64))))), (18, (.d (.int .i64 (a0.length : Int)))), (19, (.d (.int .i64 s2.1)))] : EL)) ((w64 (s2.1 + (1 : Int))), m37)) ((fun s2 : Int × (List Int) => ([(3006, some (.row 3 1 (s2.2.map (eI .i64))))] : OL)) ((w64 (s2.1 + (1 : Int))), m37)) hB (by rfl) (by rfl) (by rfl)))⟩
        · refine AWp.block ?_
          refine AWp.seq ?_
          obtain ⟨x39, hx39, h⟩ := bindS h
          refine AWp.region (OpJs.cons (OpJ.indexD (el := (.int .i64 x39)) Try.underlying22 tyS3 (idx_some hx39).1 (get_map (eI .i64) (idx_some hx39).2) (ltN hN rfl) (Opd.tmp 17 (.d (.list 1 (a0.map (eI .i64))))) (Opd.tmp 19 (.d (.int .i64 s2.1))))
            (OpJs.cons (OpJ.loadD tyS3 (by rfl) (by rfl) (ltN hN rfl) (Opd.tmp 21 (.dptr (.int .i64 x39))))
            (OpJs.cons (OpJ.assign (ltN hN rfl) (Opd.tmp 22 (.d (.int .i64 x39))))
            (OpJs.nil)))) (by rfl) (by rfl) ?_
          refine seqQ_n ?_
          refine AWp.ghost (Mat.pat [] [(1, (.d (.int .i64 a1))), (6, (.sref 3006 1 0 s2.2.length)), (8, (.d (.int .i64 x39))), (17, (.d (.list 1 (a0.map (eI .i64))))), (18, (.d (.int .i64 (a0.length : Int)))), (19, (.d (.int .i64 s2.1)))] [(3006, some (.row 3 1 (s2.2.map (eI .i64))))] hB (by rfl) (by rfl) (by rfl)) ?_
          refine AWp.seq ?_
          refine AWp.seq ?_
          refine AWp.region (OpJs.cons (OpJ.move (ltN hN rfl) (Opd.tmp 8 (.d (.int .i64 x39))))
            (OpJs.cons (OpJ.eqlI (ltN hN rfl) (Opd.tmp 23 (.d (.int .i64 x39))) (Opd.int .i64 (-1)))
            (OpJs.nil))) (by rfl) (by rfl) ?_
          refine seqQ_n ?_
          refine AWp.ghost (Mat.pat [] [(1, (.d (.int .i64 a1))), (6, (.sref 3006 1 0 s2.2.length)), (8, (.d (.int .i64 x39))), (17, (.d (.list 1 (a0.map (eI .i64))))), (18, (.d (.int .i64 (a0.length : Int)))), (19, (.d (.int .i64 s2.1))), (24, (.d (.bool (x39 == (-1 : Int)))))] [(3006, some (.row 3 1 (s2.2.map (eI .i64))))] hB (by rfl) (by rfl) (by rfl)) ?_
          refine AWp.cond (b := (x39 == (-1 : Int))) (by rfl) (fun hg40 => ?_) (fun hg40 => ?_)
          · replace h := ite_t hg40 h
            refine AWp.exit ?_
            refine seqQ_e ?_
            refine blkQ_hit ?_
            exact hjj38 _ h _ _ (Mat.pat [] ((fun m37 : (List Int) => ([(1, (.d (.int .i64 a1))), (6, (.sref 3006 1 0 m37.length)), (17, (.d (.list 1 (a0.map (eI .i64))))), (18, (.d (.int .i64 (a0.length : Int)))), (19, (.d (.int .i64 s2.1)))] : EL)) s2.2) ((fun m37 : (List Int) => ([(3006, some (.row 3 1 (m37.map (eI .i64))))] : OL)) s2.2) hB (by rfl) (by rfl) (by rfl))
          · replace h := ite_f hg40 h
            refine AWp.skip ?_
            refine seqQ_n ?_
            refine AWp.seq ?_
            obtain ⟨r41, hr41, h⟩ := bindS h
            refine AWp.region (OpJs.cons (OpJ.move (ltN hN rfl) (Opd.tmp 8 (.d (.int .i64 x39))))
              (OpJs.cons (OpJ.move (ltN hN rfl) (Opd.tmp 1 (.d (.int .i64 a1))))
              (OpJs.cons (OpJ.callFn hB fnOk21 (exchangepointref40_Rate_ac x39 a1 r41 hr41) [] (by kernel_rfl) (ltN hN rfl) (by kernel_rfl) (OpdL.cons (Opd.tmp 26 (.d (.int .i64 x39))) (OpdL.cons (Opd.tmp 27 (.d (.int .i64 a1))) OpdL.nil)))
              (OpJs.cons (OpJ.move (ltN hN rfl) (Opd.tmp 28 (.tup [(.d (.int .i64 r41.1)), (.d (.int .i64 r41.2))])))
              (OpJs.cons (OpJ.extract (v := (.d (.int .i64 r41.1))) (by rfl) rfl (ltN hN rfl) (Opd.tmp 25 (.tup [(.d (.int .i64 r41.1)), (.d (.int .i64 r41.2))])))
              (OpJs.cons (OpJ.extract (v := (.d (.int .i64 r41.2))) (by rfl) rfl (ltN hN rfl) (Opd.tmp 25 (.tup [(.d (.int .i64 r41.1)), (.d (.int .i64 r41.2))])))
              (OpJs.cons (OpJ.assign (ltN hN rfl) (Opd.tmp 29 (.d (.int .i64 r41.1))))
              (OpJs.cons (OpJ.assign (ltN hN rfl) (Opd.tmp 30 (.d (.int .i64 r41.2))))
              (OpJs.nil))))))))) (by rfl) (by rfl) ?_
            refine seqQ_n ?_
            refine AWp.ghost (Mat.pat [] [(1, (.d (.int .i64 a1))), (6, (.sref 3006 1 0 s2.2.length)), (9, (.d (.int .i64 r41.1))), (10, (.d (.int .i64 r41.2))), (17, (.d (.list 1 (a0.map (eI .i64))))), (18, (.d (.int .i64 (a0.length : Int)))), (19, (.d (.int .i64 s2.1)))] [(3006, some (.row 3 1 (s2.2.map (eI .i64))))] hB (by rfl) (by rfl) (by rfl)) ?_
            refine AWp.seq ?_
            refine AWp.seq ?_
            refine AWp.region (OpJs.cons (OpJ.move (ltN hN rfl) (Opd.tmp 10 (.d (.int .i64 r41.2))))
              (OpJs.cons (OpJ.neqI (ltN hN rfl) (Opd.tmp 31 (.d (.int .i64 r41.2))) (Opd.int .i64 (0)))
              (OpJs.nil))) (by rfl) (by rfl) ?_
            refine seqQ_n ?_
            refine AWp.ghost (Mat.pat [] [(1, (.d (.int .i64 a1))), (6, (.sref 3006 1 0 s2.2.length)), (9, (.d (.int .i64 r41.1))), (10, (.d (.int .i64 r41.2))), (17, (.d (.list 1 (a0.map (eI .i64))))), (18, (.d (.int .i64 (a0.length : Int)))), (19, (.d (.int .i64 s2.1))), (32, (.d (.bool (r41.2 != (0 : Int)))))] [(3006, some (.row 3 1 (s2.2.map (eI .i64))))] hB (by rfl) (by rfl) (by rfl)) ?_
            refine AWp.cond (b := (r41.2 != (0 : Int))) (by rfl) (fun hg42 => ?_) (fun hg42 => ?_)
            · replace h := ite_t hg42 h
              refine AWp.seq ?_
              refine AWp.region (OpJs.cons (OpJ.move (ltN hN rfl) (Opd.tmp 10 (.d (.int .i64 r41.2))))
                (OpJs.cons (OpJ.assign (ltN hN rfl) Opd.nils)
                (OpJs.cons (OpJ.assign (ltN hN rfl) (Opd.tmp 33 (.d (.int .i64 r41.2))))
                (OpJs.nil)))) (by rfl) (by rfl) ?_
              refine seqQ_n ?_
              refine AWp.ghost (Mat.pat [] [(4, .nils), (5, (.d (.int .i64 r41.2)))] [] hB (by rfl) (by rfl) (by rfl)) ?_
              refine AWp.ret ?_
              refine seqQ_r ?_
              refine blkQ_r ?_
              refine seqQ_r ?_
              obtain rfl := Option.some.inj h
              exact ⟨(fun hc => by cases hc), rfl, (Mat.pat [] ((fun p29 : Int => ([(4, .nils), (5, (.d (.int .i64 p29)))] : EL)) r41.2) ((fun p29 : Int => ([] : OL)) r41.2) hB (by rfl) (by rfl) (by rfl))⟩
            · replace h := ite_f hg42 h
              refine AWp.skip ?_
              refine seqQ_n ?_
              obtain ⟨hc43, h⟩ := chk_some h
              refine AWp.region (OpJs.cons (OpJ.move (ltN hN rfl) (Opd.tmp 6 (.sref 3006 1 0 s2.2.length)))
                (OpJs.cons (OpJ.move (ltN hN rfl) (Opd.tmp 9 (.d (.int .i64 r41.1))))
                (OpJs.cons (OpJ.buildSlice Try.underlying22 tyS3 tyZD3 (by rfl) (by decide) (by decide) (Opds.cons (Opd.tmp 35 (.d (.int .i64 r41.1))) Opds.nil) (by kernel_rfl) (es := ([(.int .i64 r41.1)] : List D)) (by rfl) (by rfl) (by kernel_rfl) (by simp) (ltN hN rfl))
                (OpJs.cons (OpJ.append hB Try.underlying22 tyE3 (nm := 1037) (by decide) (es := s2.2.map (eI .i64)) (ys := ([r41.1] : List Int).map (eI .i64)) (es' := (s2.2 ++ ([r41.1] : List Int)).map (eI .i64)) (len := (s2.2 ++ ([r41.1] : List Int)).length) (by simp) (by simp) (map_sz (f := (eI .i64)) (fun _ => rfl)) (by rw [List.length_map]; exact lim_mulN hc43 (by decide)) (by rw [List.length_map]; exact lim_leN hc43) (ltN hN rfl) (by simp) (Opd.tmp 34 (.sref 3006 1 0 s2.2.length)) (Opd.tmp 36 (.d (.list 1 (([r41.1] : List Int).map (eI .i64))))))
                (OpJs.cons (OpJ.assign (ltN hN rfl) (Opd.tmp 37 (.sref 1037 1 0 ((s2.2 ++ ([r41.1] : List Int)).length))))
                (OpJs.nil)))))) (by rfl) (by rfl) ?_
              refine blkQ_n ?_
              exact hjj38 _ h _ _ (Mat.trans (Mat.pat [] [(1, (.d (.int .i64 a1))), (6, (.sref 1037 1 0 ((s2.2 ++ ([r41.1] : List Int)).length))), (17, (.d (.list 1 (a0.map (eI .i64))))), (18, (.d (.int .i64 (a0.length : Int)))), (19, (.d (.int .i64 s2.1)))] [(1037, some (.row 3 1 ((s2.2 ++ ([r41.1] : List Int)).map (eI .i64))))] hB (by rfl) (by rfl) (by rfl)) (Mat.pat [(3006, 1037)] ((fun m37 : (List Int) => ([(1, (.d (.int .i64 a1))), (6, (.sref 3006 1 0 m37.length)), (17, (.d (.list 1 (a0.map (eI .i64))))), (18, (.d (.int .i64 (a0.length : Int)))), (19, (.d (.int .i64 s2.1)))] : EL)) (s2.2 ++ ([r41.1] : List Int))) ((fun m37 : (List Int) => ([(3006, some (.row 3 1 (m37.map (eI .i64))))] : OL)) (s2.2 ++ ([r41.1] : List Int))) hB (by rfl) (by rfl) (by rfl)))
      · replace h := ite_f hg31 h
        refine AWp.exit ?_
        refine seqQ_e ?_
        obtain rfl := Option.some.inj h
        exact ⟨(fun hc => by cases hc), rfl, (Mat.pat [] ((fun p30 : (List Int) => ([(6, (.sref 3006 1 0 p30.length))] : EL)) s2.2) ((fun p30 : (List Int) => ([(3006, some (.row 3 1 (p30.map (eI .i64))))] : OL)) s2.2) hB (by rfl) (by rfl) (by rfl))⟩
    · rcases x44 with p29 | p30
      · obtain ⟨rfl, hmat⟩ := hR
        refine blkQ_r ?_
        refine seqQ_r ?_
        obtain rfl := Option.some.inj h
        exact ⟨.inl rfl, _, _, (Mat.trans hmat (Mat.trans (Mat.coeP (Ts := [(4, (.d (.list 1 (([] : List Int).map (eI .i64)))))]) (Bs := []) (TwT.cons (x := .nils) (by rfl) (Tw.leaf ⟨_, (Co.nils 1), rfl⟩) TwT.nil) TwB.nil) (Mat.pat [] [(4, (.d (.list 1 (([] : List Int).map (eI .i64))))), (5, (.d (.int .i64 p29)))] [] hB (by rfl) (by rfl) (by rfl)))), [(.d (.list 1 (([] : List Int).map (eI .i64)))), (.d (.int .i64 p29))], (Res.tmp (by rfl) (by rfl) (Res.tmp (by rfl) (by rfl) Res.nil)), rfl, by rfl, by rfl, by rfl⟩
      · obtain ⟨rfl, hmat⟩ := hR
        refine blkQ_hit ?_
        refine seqQ_n ?_
        refine AWp.ghost hmat ?_
        refine AWp.seq ?_
        refine AWp.region (OpJs.cons (OpJ.move (ltN hN rfl) (Opd.tmp 6 (.sref 3006 1 0 p30.length)))
          (OpJs.cons (OpJ.assign (ltN hN rfl) (Opd.tmp 39 (.sref 3006 1 0 p30.length)))
          (OpJs.cons (OpJ.assign (ltN hN rfl) (Opd.int .i64 (0)))
          (OpJs.nil)))) (by rfl) (by rfl) ?_
        refine seqQ_n ?_
        refine AWp.ghost (Mat.pat [] [(4, (.sref 3006 1 0 p30.length)), (5, (.d (.int .i64 (0 : Int))))] [(3006, some (.row 3 1 (p30.map (eI .i64))))] hB (by rfl) (by rfl) (by rfl)) ?_
        refine AWp.ret ?_
        obtain rfl := Option.some.inj h
        exact ⟨.inl rfl, _, _, (Mat.trans (Mat.freezeP (n := 3006) (e := 3) (sz := 1) (es := p30.map (eI .i64)) (Ts := [(4, (.d (.list 1 (p30.map (eI .i64)))))]) (Bs := []) (by rfl) (TwT.cons (x := (.sref 3006 1 0 p30.length)) (by rfl) (FrzL.all (by first | rfl | (simp; done) | (simp; omega))) TwT.nil) TwB.nil) (Mat.pat [] [(4, (.d (.list 1 (p30.map (eI .i64))))), (5, (.d (.int .i64 (0 : Int))))] [] hB (by rfl) (by rfl) (by rfl))), [(.d (.list 1 (p30.map (eI .i64)))), (.d (.int .i64 (0 : Int)))], (Res.tmp (by rfl) (by rfl) (Res.tmp (by rfl) (by rfl) Res.nil)), rfl, by rfl, by rfl, by rfl⟩

noncomputable def exchangepointref40_Percentile (a0 : (List Int)) (a1 : Int) : Option (Int × Int) :=
  (if (((decide (a1 < (1 : Int))) || (decide ((100 : Int) < a1))) || (decide ((9000 : Int) < (a0.length : Int)))) = true then
  some ((0 : Int), (1 : Int))
  else
  (if ((a0.length : Int) == (0 : Int)) = true then
  some ((0 : Int), (39 : Int))
  else
  chk (decide (a0.length ≤ LIM)) <|
  (ext31_slices_Sort a0).bind fun r4 =>
  chk (decide (r4.length = a0.length)) <|
  (idx r4 (w64 ((w64 (Int.tdiv (w64 ((w64 (a1 * (a0.length : Int))) + (99 : Int))) (100 : Int))) - (1 : Int)))).bind fun x6 =>
  (idx r4 (w64 ((w64 (Int.tdiv (w64 ((w64 (a1 * (a0.length : Int))) + (99 : Int))) (100 : Int))) - (1 : Int)))).bind fun x7 =>
  some (x7, (0 : Int))))
set_option maxHeartbeats 4000000 in
set_option maxRecDepth 100000 in
theorem exchangepointref40_Percentile_ac (a0 : (List Int)) (a1 : Int) (r : Int × Int) (h : exchangepointref40_Percentile a0 a1 = some r) : AC Try.prog 25 [(.d (.list 1 (a0.map (eI .i64)))), (.d (.int .i64 a1))] [] (.tup [(.d (.int .i64 r.1)), (.d (.int .i64 r.2))]) [] := by
  refine AC.of_code2 Try.func25 rfl rfl (Nat.le_of_ble_eq_true (by rfl)) fun B hB hN => ?_
  delta exchangepointref40_Percentile at h
  refine AWp.seq ?_
  refine AWp.region (OpJs.cons (OpJ.assign (ltN hN rfl) (Opd.int .i64 (0)))
  (OpJs.cons (OpJ.assign (ltN hN rfl) (Opd.int .i64 (0)))
  (OpJs.nil))) (by rfl) (by rfl) ?_
  refine seqQ_n ?_
  refine AWp.ghost (Mat.pat [] [(0, (.d (.list 1 (a0.map (eI .i64))))), (1, (.d (.int .i64 a1)))] [] hB (by rfl) (by rfl) (by rfl)) ?_
  refine AWp.seq ?_
  refine AWp.seq ?_
  refine AWp.region (OpJs.cons (OpJ.move (ltN hN rfl) (Opd.tmp 1 (.d (.int .i64 a1))))
  (OpJs.cons (OpJ.lss (ltN hN rfl) (Opd.tmp 7 (.d (.int .i64 a1))) (Opd.int .i64 (1)))
  (OpJs.cons (OpJ.move (ltN hN rfl) (Opd.tmp 8 (.d (.bool (decide (a1 < (1 : Int)))))))
  (OpJs.cons (OpJ.opt' (v := (.d (.int .i64 a1))) (OpJ.move (ltN hN rfl) (Opd.tmp 1 (.d (.int .i64 a1)))) (by rfl) (GuardV.plain _) (ltN hN rfl) (by rfl) (by rfl) (by rfl) (by rfl) (OptL.keep rfl OptL.nil))
  (OpJs.cons (OpJ.opt' (v := (.d (.bool (decide ((100 : Int) < a1))))) (OpJ.gtr (ltN hN rfl) (Opd.tmp 10 (.d (.int .i64 a1))) (Opd.int .i64 (100))) (by rfl) (GuardV.plain _) (ltN hN rfl) (by rfl) (by rfl) (by rfl) (by rfl) (OptL.opt OptL.nil))
  (OpJs.cons (OpJ.pickOr rfl (ltN hN rfl) (Opd.tmp 9 (.d (.bool (decide (a1 < (1 : Int)))))) (Opd.tmp 11 (.opt ((decide (a1 < (1 : Int))) == false) (.d (.bool (decide ((100 : Int) < a1)))))))
  (OpJs.cons (OpJ.move (ltN hN rfl) (Opd.tmp 12 (.d (.bool ((decide (a1 < (1 : Int))) || (decide ((100 : Int) < a1)))))))
  (OpJs.cons (OpJ.opt' (v := (.d (.list 1 (a0.map (eI .i64))))) (OpJ.move (ltN hN rfl) (Opd.tmp 0 (.d (.list 1 (a0.map (eI .i64)))))) (by rfl) (GuardV.plain _) (ltN hN rfl) (by rfl) (by rfl) (by rfl) (by rfl) (OptL.keep rfl OptL.nil))
  (OpJs.cons (OpJ.opt' (v := (.d (.int .i64 (a0.length : Int)))) (OpJ.val (v' := (.d (.int .i64 (a0.length : Int)))) (by simp) (OpJ.lenD Try.underlying22 (ltN hN rfl) (Opd.tmp 14 (.d (.list 1 (a0.map (eI .i64))))))) (by rfl) (GuardV.plain _) (ltN hN rfl) (by rfl) (by rfl) (by rfl) (by rfl) (OptL.opt OptL.nil))
  (OpJs.cons (OpJ.opt' (v := (.d (.bool (decide ((9000 : Int) < (a0.length : Int)))))) (OpJ.gtr (ltN hN rfl) (Opd.tmp 15 (.d (.int .i64 (a0.length : Int)))) (Opd.int .i64 (9000))) (by rfl) (GuardV.plain _) (ltN hN rfl) (by rfl) (by rfl) (by rfl) (by rfl) (OptL.opt OptL.nil))
  (OpJs.cons (OpJ.pickOr rfl (ltN hN rfl) (Opd.tmp 13 (.d (.bool ((decide (a1 < (1 : Int))) || (decide ((100 : Int) < a1)))))) (Opd.tmp 16 (.opt (((decide (a1 < (1 : Int))) || (decide ((100 : Int) < a1))) == false) (.d (.bool (decide ((9000 : Int) < (a0.length : Int))))))))
  (OpJs.nil)))))))))))) (by rfl) (by rfl) ?_
  refine seqQ_n ?_
  refine AWp.ghost (Mat.pat [] [(0, (.d (.list 1 (a0.map (eI .i64))))), (1, (.d (.int .i64 a1))), (17, (.d (.bool (((decide (a1 < (1 : Int))) || (decide ((100 : Int) < a1))) || (decide ((9000 : Int) < (a0.length : Int)))))))] [] hB (by rfl) (by rfl) (by rfl)) ?_
  refine AWp.cond (b := (((decide (a1 < (1 : Int))) || (decide ((100 : Int) < a1))) || (decide ((9000 : Int) < (a0.length : Int))))) (by rfl) (fun hg1 => ?_) (fun hg1 => ?_)
  · replace h := ite_t hg1 h
    refine AWp.seq ?_
    refine AWp.region (OpJs.cons (OpJ.assign (ltN hN rfl) (Opd.int .i64 (0)))
      (OpJs.cons (OpJ.assign (ltN hN rfl) (Opd.int .i64 (1)))
      (OpJs.nil))) (by rfl) (by rfl) ?_
    refine seqQ_n ?_
    refine AWp.ghost (Mat.pat [] [(4, (.d (.int .i64 (0 : Int)))), (5, (.d (.int .i64 (1 : Int))))] [] hB (by rfl) (by rfl) (by rfl)) ?_
    refine AWp.ret ?_
    refine seqQ_r ?_
    obtain rfl := Option.some.inj h
    exact ⟨.inl rfl, _, _, (Mat.pat [] [(4, (.d (.int .i64 (0 : Int)))), (5, (.d (.int .i64 (1 : Int))))] [] hB (by rfl) (by rfl) (by rfl)), [(.d (.int .i64 (0 : Int))), (.d (.int .i64 (1 : Int)))], (Res.tmp (by rfl) (by rfl) (Res.tmp (by rfl) (by rfl) Res.nil)), rfl, by rfl, by rfl, by rfl⟩
  · replace h := ite_f hg1 h
    refine AWp.skip ?_
    refine seqQ_n ?_
    refine AWp.seq ?_
    refine AWp.seq ?_
    refine AWp.region (OpJs.cons (OpJ.move (ltN hN rfl) (Opd.tmp 0 (.d (.list 1 (a0.map (eI .i64))))))
      (OpJs.cons (OpJ.val (v' := (.d (.int .i64 (a0.length : Int)))) (by simp) (OpJ.lenD Try.underlying22 (ltN hN rfl) (Opd.tmp 18 (.d (.list 1 (a0.map (eI .i64)))))))
      (OpJs.cons (OpJ.eqlI (ltN hN rfl) (Opd.tmp 19 (.d (.int .i64 (a0.length : Int)))) (Opd.int .i64 (0)))
      (OpJs.nil)))) (by rfl) (by rfl) ?_
    refine seqQ_n ?_
    refine AWp.ghost (Mat.pat [] [(0, (.d (.list 1 (a0.map (eI .i64))))), (1, (.d (.int .i64 a1))), (20, (.d (.bool ((a0.length : Int) == (0 : Int)))))] [] hB (by rfl) (by rfl) (by rfl)) ?_
    refine AWp.cond (b := ((a0.length : Int) == (0 : Int))) (by rfl) (fun hg2 => ?_) (fun hg2 => ?_)
    · replace h := ite_t hg2 h
      refine AWp.seq ?_
      refine AWp.region (OpJs.cons (OpJ.assign (ltN hN rfl) (Opd.int .i64 (0)))
        (OpJs.cons (OpJ.assign (ltN hN rfl) (Opd.int .i64 (39)))
        (OpJs.nil))) (by rfl) (by rfl) ?_
      refine seqQ_n ?_
      refine AWp.ghost (Mat.pat [] [(4, (.d (.int .i64 (0 : Int)))), (5, (.d (.int .i64 (39 : Int))))] [] hB (by rfl) (by rfl) (by rfl)) ?_
      refine AWp.ret ?_
      refine seqQ_r ?_
      obtain rfl := Option.some.inj h
      exact ⟨.inl rfl, _, _, (Mat.pat [] [(4, (.d (.int .i64 (0 : Int)))), (5, (.d (.int .i64 (39 : Int))))] [] hB (by rfl) (by rfl) (by rfl)), [(.d (.int .i64 (0 : Int))), (.d (.int .i64 (39 : Int)))], (Res.tmp (by rfl) (by rfl) (Res.tmp (by rfl) (by rfl) Res.nil)), rfl, by rfl, by rfl, by rfl⟩
    · replace h := ite_f hg2 h
      refine AWp.skip ?_
      refine seqQ_n ?_
      refine AWp.seq ?_
      obtain ⟨hc3, h⟩ := chk_some h
      refine AWp.region (OpJs.cons (OpJ.move (ltN hN rfl) (Opd.tmp 0 (.d (.list 1 (a0.map (eI .i64))))))
        (OpJs.cons (OpJ.appendN hB Try.underlying22 tyE3 (nm := 1022) (by decide) (ys := a0.map (eI .i64)) (len := a0.length) (by simp) (map_sz (f := (eI .i64)) (fun _ => rfl)) (by rw [List.length_map]; exact lim_mulN hc3 (by decide)) (by rw [List.length_map]; exact lim_leN hc3) (ltN hN rfl) Opd.nils (Opd.tmp 21 (.d (.list 1 (a0.map (eI .i64))))))
        (OpJs.cons (OpJ.assign (ltN hN rfl) (Opd.tmp 22 (.sref 1022 1 0 a0.length)))
        (OpJs.nil)))) (by rfl) (by rfl) ?_
      refine seqQ_n ?_
      refine AWp.ghost (Mat.pat [] [(1, (.d (.int .i64 a1))), (6, (.sref 1022 1 0 a0.length))] [(1022, some (.row 3 1 (a0.map (eI .i64))))] hB (by rfl) (by rfl) (by rfl)) ?_
      refine AWp.seq ?_
      obtain ⟨r4, hr4, h⟩ := bindS h
      obtain ⟨hc5, h⟩ := chk_some h
      have hc5_o := of_decide_eq_true hc5
      refine AWp.region (OpJs.cons (OpJ.move (ltN hN rfl) (Opd.tmp 6 (.sref 1022 1 0 a0.length)))
        (OpJs.cons (OpJ.callFn hB fnOk31 (ext31_slices_Sort_ac a0 r4 hr4) [(0, 1022)] (by kernel_rfl) (ltN hN rfl) (by kernel_rfl) (OpdL.cons (Opd.tmp 23 (.sref 1022 1 0 a0.length)) OpdL.nil))
        (OpJs.nil))) (by rfl) (by rfl) ?_
      refine seqQ_n ?_
      refine AWp.ghost (Mat.pat [] [(1, (.d (.int .i64 a1))), (6, (.sref 1022 1 0 a0.length))] [(1022, some (.row 3 1 (r4.map (eI .i64))))] hB (by rfl) (by rfl) (by rfl)) ?_
      refine AWp.seq ?_
      obtain ⟨x6, hx6, h⟩ := bindS h
      obtain ⟨x7, hx7, h⟩ := bindS h
      refine AWp.region (OpJs.cons (OpJ.move (ltN hN rfl) (Opd.tmp 6 (.sref 1022 1 0 a0.length)))
        (OpJs.cons (OpJ.move (ltN hN rfl) (Opd.tmp 1 (.d (.int .i64 a1))))
        (OpJs.cons (OpJ.move (ltN hN rfl) (Opd.tmp 6 (.sref 1022 1 0 a0.length)))
        (OpJs.cons (OpJ.lenS (obj := (.row 3 1 (r4.map (eI .i64)))) Try.underlying22 (ltN hN rfl) (Opd.tmp 27 (.sref 1022 1 0 a0.length)))
        (OpJs.cons (OpJ.mul (ltN hN rfl) (Opd.tmp 26 (.d (.int .i64 a1))) (Opd.tmp 28 (.d (.int .i64 (a0.length : Int)))))
        (OpJs.cons (OpJ.add (ltN hN rfl) (Opd.tmp 29 (.d (.int .i64 (w64 (a1 * (a0.length : Int)))))) (Opd.int .i64 (99)))
        (OpJs.cons (OpJ.quo (ltN hN rfl) (Opd.tmp 30 (.d (.int .i64 (w64 ((w64 (a1 * (a0.length : Int))) + (99 : Int)))))) (Opd.int .i64 (100)) (by decide))
        (OpJs.cons (OpJ.sub (ltN hN rfl) (Opd.tmp 31 (.d (.int .i64 (w64 (Int.tdiv (w64 ((w64 (a1 * (a0.length : Int))) + (99 : Int))) (100 : Int)))))) (Opd.int .i64 (1)))
        (OpJs.cons (OpJ.val (v' := (.ptr 1022 ((w64 ((w64 (Int.tdiv (w64 ((w64 (a1 * (a0.length : Int))) + (99 : Int))) (100 : Int))) - (1 : Int))).toNat * 1) [(w64 ((w64 (Int.tdiv (w64 ((w64 (a1 * (a0.length : Int))) + (99 : Int))) (100 : Int))) - (1 : Int))).toNat])) (by simp) (OpJ.indexS Try.underlying22 tyS3 (obj := (.row 3 1 (r4.map (eI .i64)))) (idx_some hx6).1 (by have := idx_lt hx6; first | (simpa using this) | ((try simp only [List.length_map] at this); (try simp only [List.length_map]); omega)) (ltN hN rfl) (Opd.tmp 25 (.sref 1022 1 0 a0.length)) (Opd.tmp 32 (.d (.int .i64 (w64 ((w64 (Int.tdiv (w64 ((w64 (a1 * (a0.length : Int))) + (99 : Int))) (100 : Int))) - (1 : Int))))))))
        (OpJs.cons (OpJ.loadR (e := 3) (sz := 1) (es := r4.map (eI .i64)) tyS3 (get_map (eI .i64) (idx_some hx7).2) (o := 0) (v := (.int .i64 x7)) (At.here _) (by rfl) (by rfl) (by rfl) (ltN hN rfl) (Opd.tmp 33 (.ptr 1022 ((w64 ((w64 (Int.tdiv (w64 ((w64 (a1 * (a0.length : Int))) + (99 : Int))) (100 : Int))) - (1 : Int))).toNat * 1) [(w64 ((w64 (Int.tdiv (w64 ((w64 (a1 * (a0.length : Int))) + (99 : Int))) (100 : Int))) - (1 : Int))).toNat])))
        (OpJs.cons (OpJ.assign (ltN hN rfl) (Opd.tmp 34 (.d (.int .i64 x7))))
        (OpJs.cons (OpJ.assign (ltN hN rfl) (Opd.int .i64 (0)))
        (OpJs.nil))))))))))))) (by rfl) (by rfl) ?_
      refine seqQ_n ?_
      refine AWp.ghost (Mat.pat [] [(4, (.d (.int .i64 x7))), (5, (.d (.int .i64 (0 : Int))))] [] hB (by rfl) (by rfl) (by rfl)) ?_
      refine AWp.ret ?_
      obtain rfl := Option.some.inj h
      exact ⟨.inl rfl, _, _, (Mat.pat [] [(4, (.d (.int .i64 x7))), (5, (.d (.int .i64 (0 : Int))))] [] hB (by rfl) (by rfl) (by rfl)), [(.d (.int .i64 x7)), (.d (.int .i64 (0 : Int)))], (Res.tmp (by rfl) (by rfl) (Res.tmp (by rfl) (by rfl) Res.nil)), rfl, by rfl, by rfl, by rfl⟩

noncomputable def exchangepointref40_Used (a0 : api_Series) (a1 : Int) : Option (Int × Int) :=
  (exchangepointref40_Valid a0).bind fun r1 =>
  (if (!r1) = true then
  some ((0 : Int), (1 : Int))
  else
  (exchangepointref40_Rates a0.fIn a0.fSeconds).bind fun r3 =>
  (exchangepointref40_Rates a0.fOut a0.fSeconds).bind fun r4 =>
  (exchangepointref40_Percentile r3.1 a1).bind fun r5 =>
  (if (r5.2 != (0 : Int)) = true then
  some ((0 : Int), r5.2)
  else
  (exchangepointref40_Percentile r4.1 a1).bind fun r7 =>
  some ((maxI r5.1 r7.1), (0 : Int))))
set_option maxHeartbeats 4000000 in
set_option maxRecDepth 100000 in
theorem exchangepointref40_Used_ac (a0 : api_Series) (a1 : Int) (r : Int × Int) (h : exchangepointref40_Used a0 a1 = some r) : AC Try.prog 19 [(.d (e_api_Series a0)), (.d (.int .i64 a1))] [] (.tup [(.d (.int .i64 r.1)), (.d (.int .i64 r.2))]) [] := by
  refine AC.of_code2 Try.func19 rfl rfl (Nat.le_of_ble_eq_true (by rfl)) fun B hB hN => ?_
  delta exchangepointref40_Used at h
  refine AWp.seq ?_
  refine AWp.region (OpJs.cons (OpJ.box hB (nm := 1002) (by decide) (by simp) rfl (ltN hN rfl) (Opd.tmp 0 (.d (e_api_Series a0))))
  (OpJs.cons (OpJ.assign (ltN hN rfl) (Opd.int .i64 (0)))
  (OpJs.cons (OpJ.assign (ltN hN rfl) (Opd.int .i64 (0)))
  (OpJs.nil)))) (by rfl) (by rfl) ?_
  refine seqQ_n ?_
  refine AWp.ghost (Mat.pat [] [(1, (.d (.int .i64 a1))), (2, (.ptr 1002 0 []))] [(1002, some (.box 30 (.d (e_api_Series a0))))] hB (by rfl) (by rfl) (by rfl)) ?_
  refine AWp.seq ?_
  refine AWp.seq ?_
  obtain ⟨r1, hr1, h⟩ := bindS h
  refine AWp.region (OpJs.cons (OpJ.loadB (bt := 30) (c := (.d (e_api_Series a0))) (v := (.d (e_api_Series a0))) tyS30 (At.here _) (by rfl) (by rfl) rfl (ltN hN rfl) (Opd.tmp 2 (.ptr 1002 0 [])))
  (OpJs.cons (OpJ.callFn hB fnOk17 (exchangepointref40_Valid_ac a0 r1 hr1) [] (by kernel_rfl) (ltN hN rfl) (by kernel_rfl) (OpdL.cons (Opd.tmp 14 (.d (e_api_Series a0))) OpdL.nil))
  (OpJs.cons (OpJ.not (ltN hN rfl) (Opd.tmp 15 (.d (.bool r1))))
  (OpJs.nil)))) (by rfl) (by rfl) ?_
  refine seqQ_n ?_
  refine AWp.ghost (Mat.pat [] [(1, (.d (.int .i64 a1))), (2, (.ptr 1002 0 [])), (16, (.d (.bool (!r1))))] [(1002, some (.box 30 (.d (e_api_Series a0))))] hB (by rfl) (by rfl) (by rfl)) ?_
  refine AWp.cond (b := (!r1)) (by rfl) (fun hg2 => ?_) (fun hg2 => ?_)
  · replace h := ite_t hg2 h
    refine AWp.seq ?_
    refine AWp.region (OpJs.cons (OpJ.assign (ltN hN rfl) (Opd.int .i64 (0)))
      (OpJs.cons (OpJ.assign (ltN hN rfl) (Opd.int .i64 (1)))
      (OpJs.nil))) (by rfl) (by rfl) ?_
    refine seqQ_n ?_
    refine AWp.ghost (Mat.pat [] [(4, (.d (.int .i64 (0 : Int)))), (5, (.d (.int .i64 (1 : Int))))] [] hB (by rfl) (by rfl) (by rfl)) ?_
    refine AWp.ret ?_
    refine seqQ_r ?_
    obtain rfl := Option.some.inj h
    exact ⟨.inl rfl, _, _, (Mat.pat [] [(4, (.d (.int .i64 (0 : Int)))), (5, (.d (.int .i64 (1 : Int))))] [] hB (by rfl) (by rfl) (by rfl)), [(.d (.int .i64 (0 : Int))), (.d (.int .i64 (1 : Int)))], (Res.tmp (by rfl) (by rfl) (Res.tmp (by rfl) (by rfl) Res.nil)), rfl, by rfl, by rfl, by rfl⟩
  · replace h := ite_f hg2 h
    refine AWp.skip ?_
    refine seqQ_n ?_
    refine AWp.seq ?_
    obtain ⟨r3, hr3, h⟩ := bindS h
    refine AWp.region (OpJs.cons (OpJ.val (v' := (.ptr 1002 2 [2])) (by rfl) (OpJ.fieldP Try.underlying30 (by rfl) (o := 2) (by rfl) tyS22 (by decide) (obj := (.box 30 (.d (e_api_Series a0)))) (ltN hN rfl) (Opd.tmp 2 (.ptr 1002 0 []))))
      (OpJs.cons (OpJ.loadB (bt := 30) (c := (.d (e_api_Series a0))) (v := (.d (.list 1 (a0.fIn.map (eI .i64))))) tyS22 (At.dst1 (f := (.list 1 (a0.fIn.map (eI .i64)))) (by rfl) (by rfl) (At.here _) (by first | rfl | omega)) (by rfl) (by rfl) rfl (ltN hN rfl) (Opd.tmp 18 (.ptr 1002 2 [2])))
      (OpJs.cons (OpJ.val (v' := (.ptr 1002 1 [1])) (by rfl) (OpJ.fieldP Try.underlying30 (by rfl) (o := 1) (by rfl) tyS3 (by decide) (obj := (.box 30 (.d (e_api_Series a0)))) (ltN hN rfl) (Opd.tmp 2 (.ptr 1002 0 []))))
      (OpJs.cons (OpJ.loadB (bt := 30) (c := (.d (e_api_Series a0))) (v := (.d (.int .i64 a0.fSeconds))) tyS3 (At.dst1 (f := (.int .i64 a0.fSeconds)) (by rfl) (by rfl) (At.here _) (by first | rfl | omega)) (by rfl) (by rfl) rfl (ltN hN rfl) (Opd.tmp 20 (.ptr 1002 1 [1])))
      (OpJs.cons (OpJ.callFn hB fnOk23 (exchangepointref40_Rates_ac a0.fIn a0.fSeconds r3 hr3) [] (by kernel_rfl) (ltN hN rfl) (by kernel_rfl) (OpdL.cons (Opd.tmp 19 (.d (.list 1 (a0.fIn.map (eI .i64))))) (OpdL.cons (Opd.tmp 21 (.d (.int .i64 a0.fSeconds))) OpdL.nil)))
      (OpJs.cons (OpJ.move (ltN hN rfl) (Opd.tmp 22 (.tup [(.d (.list 1 (r3.1.map (eI .i64)))), (.d (.int .i64 r3.2))])))
      (OpJs.cons (OpJ.extract (v := (.d (.list 1 (r3.1.map (eI .i64))))) (by rfl) rfl (ltN hN rfl) (Opd.tmp 17 (.tup [(.d (.list 1 (r3.1.map (eI .i64)))), (.d (.int .i64 r3.2))])))
      (OpJs.cons (OpJ.extract (v := (.d (.int .i64 r3.2))) (by rfl) rfl (ltN hN rfl) (Opd.tmp 17 (.tup [(.d (.list 1 (r3.1.map (eI .i64)))), (.d (.int .i64 r3.2))])))
      (OpJs.cons (OpJ.assign (ltN hN rfl) (Opd.tmp 23 (.d (.list 1 (r3.1.map (eI .i64))))))
      (OpJs.cons (OpJ.assign (ltN hN rfl) (Opd.tmp 24 (.d (.int .i64 r3.2))))
      (OpJs.nil))))))))))) (by rfl) (by rfl) ?_
    refine seqQ_n ?_
    refine AWp.ghost (Mat.pat [] [(1, (.d (.int .i64 a1))), (2, (.ptr 1002 0 [])), (6, (.d (.list 1 (r3.1.map (eI .i64)))))] [(1002, some (.box 30 (.d (e_api_Series a0))))] hB (by rfl) (by rfl) (by rfl)) ?_
    refine AWp.seq ?_
    obtain ⟨r4, hr4, h⟩ := bindS h
    refine AWp.region (OpJs.cons (OpJ.val (v' := (.ptr 1002 3 [3])) (by rfl) (OpJ.fieldP Try.underlying30 (by rfl) (o := 3) (by rfl) tyS22 (by decide) (obj := (.box 30 (.d (e_api_Series a0)))) (ltN hN rfl) (Opd.tmp 2 (.ptr 1002 0 []))))
      (OpJs.cons (OpJ.loadB (bt := 30) (c := (.d (e_api_Series a0))) (v := (.d (.list 1 (a0.fOut.map (eI .i64))))) tyS22 (At.dst1 (f := (.list 1 (a0.fOut.map (eI .i64)))) (by rfl) (by rfl) (At.here _) (by first | rfl | omega)) (by rfl) (by rfl) rfl (ltN hN rfl) (Opd.tmp 26 (.ptr 1002 3 [3])))
      (OpJs.cons (OpJ.val (v' := (.ptr 1002 1 [1])) (by rfl) (OpJ.fieldP Try.underlying30 (by rfl) (o := 1) (by rfl) tyS3 (by decide) (obj := (.box 30 (.d (e_api_Series a0)))) (ltN hN rfl) (Opd.tmp 2 (.ptr 1002 0 []))))
      (OpJs.cons (OpJ.loadB (bt := 30) (c := (.d (e_api_Series a0))) (v := (.d (.int .i64 a0.fSeconds))) tyS3 (At.dst1 (f := (.int .i64 a0.fSeconds)) (by rfl) (by rfl) (At.here _) (by first | rfl | omega)) (by rfl) (by rfl) rfl (ltN hN rfl) (Opd.tmp 28 (.ptr 1002 1 [1])))
      (OpJs.cons (OpJ.callFn hB fnOk23 (exchangepointref40_Rates_ac a0.fOut a0.fSeconds r4 hr4) [] (by kernel_rfl) (ltN hN rfl) (by kernel_rfl) (OpdL.cons (Opd.tmp 27 (.d (.list 1 (a0.fOut.map (eI .i64))))) (OpdL.cons (Opd.tmp 29 (.d (.int .i64 a0.fSeconds))) OpdL.nil)))
      (OpJs.cons (OpJ.move (ltN hN rfl) (Opd.tmp 30 (.tup [(.d (.list 1 (r4.1.map (eI .i64)))), (.d (.int .i64 r4.2))])))
      (OpJs.cons (OpJ.extract (v := (.d (.list 1 (r4.1.map (eI .i64))))) (by rfl) rfl (ltN hN rfl) (Opd.tmp 25 (.tup [(.d (.list 1 (r4.1.map (eI .i64)))), (.d (.int .i64 r4.2))])))
      (OpJs.cons (OpJ.extract (v := (.d (.int .i64 r4.2))) (by rfl) rfl (ltN hN rfl) (Opd.tmp 25 (.tup [(.d (.list 1 (r4.1.map (eI .i64)))), (.d (.int .i64 r4.2))])))
      (OpJs.cons (OpJ.assign (ltN hN rfl) (Opd.tmp 31 (.d (.list 1 (r4.1.map (eI .i64))))))
      (OpJs.cons (OpJ.assign (ltN hN rfl) (Opd.tmp 32 (.d (.int .i64 r4.2))))
      (OpJs.nil))))))))))) (by rfl) (by rfl) ?_
    refine seqQ_n ?_
    refine AWp.ghost (Mat.pat [] [(1, (.d (.int .i64 a1))), (6, (.d (.list 1 (r3.1.map (eI .i64))))), (8, (.d (.list 1 (r4.1.map (eI .i64)))))] [] hB (by rfl) (by rfl) (by rfl)) ?_
    refine AWp.seq ?_
    obtain ⟨r5, hr5, h⟩ := bindS h
    refine AWp.region (OpJs.cons (OpJ.move (ltN hN rfl) (Opd.tmp 6 (.d (.list 1 (r3.1.map (eI .i64))))))
      (OpJs.cons (OpJ.move (ltN hN rfl) (Opd.tmp 1 (.d (.int .i64 a1))))
      (OpJs.cons (OpJ.callFn hB fnOk25 (exchangepointref40_Percentile_ac r3.1 a1 r5 hr5) [] (by kernel_rfl) (ltN hN rfl) (by kernel_rfl) (OpdL.cons (Opd.tmp 34 (.d (.list 1 (r3.1.map (eI .i64))))) (OpdL.cons (Opd.tmp 35 (.d (.int .i64 a1))) OpdL.nil)))
      (OpJs.cons (OpJ.move (ltN hN rfl) (Opd.tmp 36 (.tup [(.d (.int .i64 r5.1)), (.d (.int .i64 r5.2))])))
      (OpJs.cons (OpJ.extract (v := (.d (.int .i64 r5.1))) (by rfl) rfl (ltN hN rfl) (Opd.tmp 33 (.tup [(.d (.int .i64 r5.1)), (.d (.int .i64 r5.2))])))
      (OpJs.cons (OpJ.extract (v := (.d (.int .i64 r5.2))) (by rfl) rfl (ltN hN rfl) (Opd.tmp 33 (.tup [(.d (.int .i64 r5.1)), (.d (.int .i64 r5.2))])))
      (OpJs.cons (OpJ.assign (ltN hN rfl) (Opd.tmp 37 (.d (.int .i64 r5.1))))
      (OpJs.cons (OpJ.assign (ltN hN rfl) (Opd.tmp 38 (.d (.int .i64 r5.2))))
      (OpJs.nil))))))))) (by rfl) (by rfl) ?_
    refine seqQ_n ?_
    refine AWp.ghost (Mat.pat [] [(1, (.d (.int .i64 a1))), (8, (.d (.list 1 (r4.1.map (eI .i64))))), (10, (.d (.int .i64 r5.1))), (11, (.d (.int .i64 r5.2)))] [] hB (by rfl) (by rfl) (by rfl)) ?_
    refine AWp.seq ?_
    refine AWp.seq ?_
    refine AWp.region (OpJs.cons (OpJ.move (ltN hN rfl) (Opd.tmp 11 (.d (.int .i64 r5.2))))
      (OpJs.cons (OpJ.neqI (ltN hN rfl) (Opd.tmp 39 (.d (.int .i64 r5.2))) (Opd.int .i64 (0)))
      (OpJs.nil))) (by rfl) (by rfl) ?_
    refine seqQ_n ?_
    refine AWp.ghost (Mat.pat [] [(1, (.d (.int .i64 a1))), (8, (.d (.list 1 (r4.1.map (eI .i64))))), (10, (.d (.int .i64 r5.1))), (11, (.d (.int .i64 r5.2))), (40, (.d (.bool (r5.2 != (0 : Int)))))] [] hB (by rfl) (by rfl) (by rfl)) ?_
    refine AWp.cond (b := (r5.2 != (0 : Int))) (by rfl) (fun hg6 => ?_) (fun hg6 => ?_)
    · replace h := ite_t hg6 h
      refine AWp.seq ?_
      refine AWp.region (OpJs.cons (OpJ.move (ltN hN rfl) (Opd.tmp 11 (.d (.int .i64 r5.2))))
        (OpJs.cons (OpJ.assign (ltN hN rfl) (Opd.int .i64 (0)))
        (OpJs.cons (OpJ.assign (ltN hN rfl) (Opd.tmp 41 (.d (.int .i64 r5.2))))
        (OpJs.nil)))) (by rfl) (by rfl) ?_
      refine seqQ_n ?_
      refine AWp.ghost (Mat.pat [] [(4, (.d (.int .i64 (0 : Int)))), (5, (.d (.int .i64 r5.2)))] [] hB (by rfl) (by rfl) (by rfl)) ?_
      refine AWp.ret ?_
      refine seqQ_r ?_
      obtain rfl := Option.some.inj h
      exact ⟨.inl rfl, _, _, (Mat.pat [] [(4, (.d (.int .i64 (0 : Int)))), (5, (.d (.int .i64 r5.2)))] [] hB (by rfl) (by rfl) (by rfl)), [(.d (.int .i64 (0 : Int))), (.d (.int .i64 r5.2))], (Res.tmp (by rfl) (by rfl) (Res.tmp (by rfl) (by rfl) Res.nil)), rfl, by rfl, by rfl, by rfl⟩
    · replace h := ite_f hg6 h
      refine AWp.skip ?_
      refine seqQ_n ?_
      refine AWp.seq ?_
      obtain ⟨r7, hr7, h⟩ := bindS h
      refine AWp.region (OpJs.cons (OpJ.move (ltN hN rfl) (Opd.tmp 8 (.d (.list 1 (r4.1.map (eI .i64))))))
        (OpJs.cons (OpJ.move (ltN hN rfl) (Opd.tmp 1 (.d (.int .i64 a1))))
        (OpJs.cons (OpJ.callFn hB fnOk25 (exchangepointref40_Percentile_ac r4.1 a1 r7 hr7) [] (by kernel_rfl) (ltN hN rfl) (by kernel_rfl) (OpdL.cons (Opd.tmp 43 (.d (.list 1 (r4.1.map (eI .i64))))) (OpdL.cons (Opd.tmp 44 (.d (.int .i64 a1))) OpdL.nil)))
        (OpJs.cons (OpJ.move (ltN hN rfl) (Opd.tmp 45 (.tup [(.d (.int .i64 r7.1)), (.d (.int .i64 r7.2))])))
        (OpJs.cons (OpJ.extract (v := (.d (.int .i64 r7.1))) (by rfl) rfl (ltN hN rfl) (Opd.tmp 42 (.tup [(.d (.int .i64 r7.1)), (.d (.int .i64 r7.2))])))
        (OpJs.cons (OpJ.extract (v := (.d (.int .i64 r7.2))) (by rfl) rfl (ltN hN rfl) (Opd.tmp 42 (.tup [(.d (.int .i64 r7.1)), (.d (.int .i64 r7.2))])))
        (OpJs.cons (OpJ.assign (ltN hN rfl) (Opd.tmp 46 (.d (.int .i64 r7.1))))
        (OpJs.cons (OpJ.assign (ltN hN rfl) (Opd.tmp 47 (.d (.int .i64 r7.2))))
        (OpJs.nil))))))))) (by rfl) (by rfl) ?_
      refine seqQ_n ?_
      refine AWp.ghost (Mat.pat [] [(10, (.d (.int .i64 r5.1))), (12, (.d (.int .i64 r7.1)))] [] hB (by rfl) (by rfl) (by rfl)) ?_
      refine AWp.seq ?_
      refine AWp.region (OpJs.cons (OpJ.move (ltN hN rfl) (Opd.tmp 10 (.d (.int .i64 r5.1))))
        (OpJs.cons (OpJ.move (ltN hN rfl) (Opd.tmp 12 (.d (.int .i64 r7.1))))
        (OpJs.cons (OpJ.max (ltN hN rfl) (Opd.tmp 48 (.d (.int .i64 r5.1))) (Opd.tmp 49 (.d (.int .i64 r7.1))))
        (OpJs.cons (OpJ.assign (ltN hN rfl) (Opd.tmp 50 (.d (.int .i64 (maxI r5.1 r7.1)))))
        (OpJs.cons (OpJ.assign (ltN hN rfl) (Opd.int .i64 (0)))
        (OpJs.nil)))))) (by rfl) (by rfl) ?_
      refine seqQ_n ?_
      refine AWp.ghost (Mat.pat [] [(4, (.d (.int .i64 (maxI r5.1 r7.1)))), (5, (.d (.int .i64 (0 : Int))))] [] hB (by rfl) (by rfl) (by rfl)) ?_
      refine AWp.ret ?_
      obtain rfl := Option.some.inj h
      exact ⟨.inl rfl, _, _, (Mat.pat [] [(4, (.d (.int .i64 (maxI r5.1 r7.1)))), (5, (.d (.int .i64 (0 : Int))))] [] hB (by rfl) (by rfl) (by rfl)), [(.d (.int .i64 (maxI r5.1 r7.1))), (.d (.int .i64 (0 : Int)))], (Res.tmp (by rfl) (by rfl) (Res.tmp (by rfl) (by rfl) Res.nil)), rfl, by rfl, by rfl, by rfl⟩

noncomputable def exchangepointref23_SameInts_L0 (a0 : (List Int)) (a1 : (List Int)) (s2 : Int) : Option (((Unit) ⊕ (Unit)) ⊕ (Int)) :=
  (if (decide (s2 < (a0.length : Int))) = true then
  (idx a0 s2).bind fun x14 =>
  (idx a1 s2).bind fun x15 =>
  (if (x14 != x15) = true then
  some (.inl (.inl ()))
  else
  some (.inr (w64 (s2 + (1 : Int)))))
  else
  some (.inl (.inr ())))
noncomputable def exchangepointref23_SameInts (a0 : (List Int)) (a1 : (List Int)) : Option (Bool) :=
  (if ((a0.length : Int) != (a1.length : Int)) = true then
  some false
  else
  (loop (exchangepointref23_SameInts_L0 a0 a1) (0 : Int)).bind fun x17 => match x17 with
  | (.inl _) =>
    some false
  | (.inr _) =>
    some true)
set_option maxHeartbeats 4000000 in
set_option maxRecDepth 100000 in
theorem exchangepointref23_SameInts_ac (a0 : (List Int)) (a1 : (List Int)) (r : Bool) (h : exchangepointref23_SameInts a0 a1 = some r) : AC Try.prog 24 [(.d (.list 1 (a0.map (eI .i64)))), (.d (.list 1 (a1.map (eI .i64))))] [] (.d (.bool r)) [] := by
  refine AC.of_code2 Try.func24 rfl rfl (Nat.le_of_ble_eq_true (by rfl)) fun B hB hN => ?_
  delta exchangepointref23_SameInts at h
  refine AWp.seq ?_
  refine AWp.region (OpJs.cons (OpJ.assign (ltN hN rfl) (Opd.bool false))
  (OpJs.nil)) (by rfl) (by rfl) ?_
  refine seqQ_n ?_
  refine AWp.ghost (Mat.pat [] [(0, (.d (.list 1 (a0.map (eI .i64))))), (1, (.d (.list 1 (a1.map (eI .i64)))))] [] hB (by rfl) (by rfl) (by rfl)) ?_
  refine AWp.seq ?_
  refine AWp.seq ?_
  refine AWp.region (OpJs.cons (OpJ.move (ltN hN rfl) (Opd.tmp 0 (.d (.list 1 (a0.map (eI .i64))))))
  (OpJs.cons (OpJ.val (v' := (.d (.int .i64 (a0.length : Int)))) (by simp) (OpJ.lenD Try.underlying22 (ltN hN rfl) (Opd.tmp 6 (.d (.list 1 (a0.map (eI .i64)))))))
  (OpJs.cons (OpJ.move (ltN hN rfl) (Opd.tmp 1 (.d (.list 1 (a1.map (eI .i64))))))
  (OpJs.cons (OpJ.val (v' := (.d (.int .i64 (a1.length : Int)))) (by simp) (OpJ.lenD Try.underlying22 (ltN hN rfl) (Opd.tmp 8 (.d (.list 1 (a1.map (eI .i64)))))))
  (OpJs.cons (OpJ.neqI (ltN hN rfl) (Opd.tmp 7 (.d (.int .i64 (a0.length : Int)))) (Opd.tmp 9 (.d (.int .i64 (a1.length : Int)))))
  (OpJs.nil)))))) (by rfl) (by rfl) ?_
  refine seqQ_n ?_
  refine AWp.ghost (Mat.pat [] [(0, (.d (.list 1 (a0.map (eI .i64))))), (1, (.d (.list 1 (a1.map (eI .i64))))), (10, (.d (.bool ((a0.length : Int) != (a1.length : Int)))))] [] hB (by rfl) (by rfl) (by rfl)) ?_
  refine AWp.cond (b := ((a0.length : Int) != (a1.length : Int))) (by rfl) (fun hg1 => ?_) (fun hg1 => ?_)
  · replace h := ite_t hg1 h
    refine AWp.seq ?_
    refine AWp.region (OpJs.cons (OpJ.assign (ltN hN rfl) (Opd.bool false))
      (OpJs.nil)) (by rfl) (by rfl) ?_
    refine seqQ_n ?_
    refine AWp.ghost (Mat.pat [] [(4, (.d (.bool false)))] [] hB (by rfl) (by rfl) (by rfl)) ?_
    refine AWp.ret ?_
    refine seqQ_r ?_
    obtain rfl := Option.some.inj h
    exact ⟨.inl rfl, _, _, (Mat.pat [] [(4, (.d (.bool false)))] [] hB (by rfl) (by rfl) (by rfl)), [(.d (.bool false))], (Res.tmp (by rfl) (by rfl) Res.nil), rfl, by rfl, by rfl, by rfl⟩
  · replace h := ite_f hg1 h
    refine AWp.skip ?_
    refine seqQ_n ?_
    refine AWp.seq ?_
    refine AWp.seq ?_
    refine AWp.region (OpJs.cons (OpJ.move (ltN hN rfl) (Opd.tmp 0 (.d (.list 1 (a0.map (eI .i64))))))
      (OpJs.cons (OpJ.val (v' := (.d (.int .i64 (a0.length : Int)))) (by simp) (OpJ.lenD Try.underlying22 (ltN hN rfl) (Opd.tmp 11 (.d (.list 1 (a0.map (eI .i64)))))))
      (OpJs.cons (OpJ.move (ltN hN rfl) (Opd.int .i64 (0)))
      (OpJs.nil)))) (by rfl) (by rfl) ?_
    refine seqQ_n ?_
    refine AWp.ghost (Mat.pat [] [(0, (.d (.list 1 (a0.map (eI .i64))))), (1, (.d (.list 1 (a1.map (eI .i64))))), (12, (.d (.int .i64 (a0.length : Int)))), (13, (.d (.int .i64 (0 : Int))))] [] hB (by rfl) (by rfl) (by rfl)) ?_
    refine AWp.block ?_
    obtain ⟨x17, hx18, h⟩ := bindS h
    refine AWp.ghost (Mat.pat [] ((fun s2 : Int => ([(0, (.d (.list 1 (a0.map (eI .i64))))), (1, (.d (.list 1 (a1.map (eI .i64))))), (12, (.d (.int .i64 (a0.length : Int)))), (13, (.d (.int .i64 s2)))] : EL)) (0 : Int)) ((fun s2 : Int => ([] : OL)) (0 : Int)) hB (by rfl) (by rfl) (by rfl)) ?_
    refine AWp.loopS (exchangepointref23_SameInts_L0 a0 a1) (fun s2 : Int => ([(0, (.d (.list 1 (a0.map (eI .i64))))), (1, (.d (.list 1 (a1.map (eI .i64))))), (12, (.d (.int .i64 (a0.length : Int)))), (13, (.d (.int .i64 s2)))] : EL)) (fun s2 : Int => ([] : OL)) (fun (x : (Unit) ⊕ (Unit)) e E' O' => match x with | (.inl _p) => e = .ret ∧ Mat B E' O' ([(4, (.d (.bool false)))] : EL) ([] : OL) | (.inr _p) => e = .exit 0 ∧ Mat B E' O' ([] : EL) ([] : OL)) hx18 (fun s2 y h => ?_) (fun e E' O' hR => ?_)
    · unfold exchangepointref23_SameInts_L0 at h
      show AWp _ _ _ _ ([(0, (.d (.list 1 (a0.map (eI .i64))))), (1, (.d (.list 1 (a1.map (eI .i64))))), (12, (.d (.int .i64 (a0.length : Int)))), (13, (.d (.int .i64 s2)))] : EL) ([] : OL)
      refine AWp.seq ?_
      refine AWp.region (OpJs.cons (OpJ.lss (ltN hN rfl) (Opd.tmp 13 (.d (.int .i64 s2))) (Opd.tmp 12 (.d (.int .i64 (a0.length : Int)))))
        (OpJs.nil)) (by rfl) (by rfl) ?_
      refine seqQ_n ?_
      refine AWp.ghost (Mat.pat [] [(0, (.d (.list 1 (a0.map (eI .i64))))), (1, (.d (.list 1 (a1.map (eI .i64))))), (12, (.d (.int .i64 (a0.length : Int)))), (13, (.d (.int .i64 s2))), (14, (.d (.bool (decide (s2 < (a0.length : Int))))))] [] hB (by rfl) (by rfl) (by rfl)) ?_
      refine AWp.seq ?_
      refine AWp.cond (b := (decide (s2 < (a0.length : Int)))) (by rfl) (fun hg13 => ?_) (fun hg13 => ?_)
      · replace h := ite_t hg13 h
        refine AWp.skip ?_
        refine seqQ_n ?_
        refine AWp.seq ?_
        refine AWp.block ?_
        refine AWp.seq ?_
        refine AWp.region (OpJs.cons (OpJ.move (ltN hN rfl) (Opd.tmp 13 (.d (.int .i64 s2))))
          (OpJs.cons (OpJ.assign (ltN hN rfl) (Opd.tmp 15 (.d (.int .i64 s2))))
          (OpJs.nil))) (by rfl) (by rfl) ?_
        refine seqQ_n ?_
        refine AWp.ghost (Mat.pat [] [(0, (.d (.list 1 (a0.map (eI .i64))))), (1, (.d (.list 1 (a1.map (eI .i64))))), (5, (.d (.int .i64 s2))), (12, (.d (.int .i64 (a0.length : Int)))), (13, (.d (.int .i64 s2)))] [] hB (by rfl) (by rfl) (by rfl)) ?_
        refine AWp.seq ?_
        obtain ⟨x14, hx14, h⟩ := bindS h
        obtain ⟨x15, hx15, h⟩ := bindS h
        refine AWp.draws (by kernel_rfl) (OpJs.cons (OpJ.move (ltN hN rfl) (Opd.tmp 0 (.d (.list 1 (a0.map (eI .i64))))))
          (OpJs.cons (OpJ.move (ltN hN rfl) (Opd.tmp 5 (.d (.int .i64 s2))))
          (OpJs.cons (OpJ.indexD (el := (.int .i64 x14)) Try.underlying22 tyS3 (idx_some hx14).1 (get_map (eI .i64) (idx_some hx14).2) (ltN hN rfl) (Opd.tmp 16 (.d (.list 1 (a0.map (eI .i64))))) (Opd.tmp 17 (.d (.int .i64 s2))))
          (OpJs.cons (OpJ.loadD tyS3 (by rfl) (by rfl) (ltN hN rfl) (Opd.tmp 18 (.dptr (.int .i64 x14))))
          (OpJs.cons (OpJ.move (ltN hN rfl) (Opd.tmp 1 (.d (.list 1 (a1.map (eI .i64))))))
          (OpJs.cons (OpJ.move (ltN hN rfl) (Opd.tmp 5 (.d (.int .i64 s2))))
          (OpJs.cons (OpJ.indexD (el := (.int .i64 x15)) Try.underlying22 tyS3 (idx_some hx15).1 (get_map (eI .i64) (idx_some hx15).2) (ltN hN rfl) (Opd.tmp 20 (.d (.list 1 (a1.map (eI .i64))))) (Opd.tmp 21 (.d (.int .i64 s2))))
          (OpJs.cons (OpJ.loadD tyS3 (by rfl) (by rfl) (ltN hN rfl) (Opd.tmp 22 (.dptr (.int .i64 x15))))
          (OpJs.cons (OpJ.neqI (ltN hN rfl) (Opd.tmp 19 (.d (.int .i64 x14))) (Opd.tmp 23 (.d (.int .i64 x15))))
          (OpJs.nil)))))))))) (by kernel_rfl) (by rfl) (by rfl) ?_
        refine seqQ_n ?_
        refine AWp.ghost (Mat.pat [] [(0, (.d (.list 1 (a0.map (eI .i64))))), (1, (.d (.list 1 (a1.map (eI .i64))))), (12, (.d (.int .i64 (a0.length : Int)))), (13, (.d (.int .i64 s2))), (24, (.d (.bool (x14 != x15))))] [] hB (by rfl) (by rfl) (by rfl)) ?_
        refine AWp.cond (b := (x14 != x15)) (by rfl) (fun hg16 => ?_) (fun hg16 => ?_)
        · replace h := ite_t hg16 h
          refine AWp.seq ?_
          refine AWp.region (OpJs.cons (OpJ.assign (ltN hN rfl) (Opd.bool false))
            (OpJs.nil)) (by rfl) (by rfl) ?_
          refine seqQ_n ?_
          refine AWp.ghost (Mat.pat [] [(4, (.d (.bool false)))] [] hB (by rfl) (by rfl) (by rfl)) ?_
          refine AWp.ret ?_
          refine blkQ_r ?_
          refine seqQ_r ?_
          obtain rfl := Option.some.inj h
          exact ⟨(fun hc => by cases hc), rfl, (Mat.pat [] ((fun _ : Unit => ([(4, (.d (.bool false)))] : EL)) ()) ((fun _ : Unit => ([] : OL)) ()) hB (by rfl) (by rfl) (by rfl))⟩
        · replace h := ite_f hg16 h
          refine AWp.skip ?_
          refine blkQ_n ?_
          refine seqQ_n ?_
          refine AWp.region (OpJs.cons (OpJ.add (ltN hN rfl) (Opd.tmp 13 (.d (.int .i64 s2))) (Opd.int .i64 (1)))
            (OpJs.cons (OpJ.move (ltN hN rfl) (Opd.tmp 25 (.d (.int .i64 (w64 (s2 + (1 : Int)))))))
            (OpJs.nil))) (by rfl) (by rfl) ?_
          obtain rfl := Option.some.inj h
          exact ⟨rfl, (Mat.trans (Mat.pat [] [(0, (.d (.list 1 (a0.map (eI .i64))))), (1, (.d (.list 1 (a1.map (eI .i64))))), (12, (.d (.int .i64 (a0.length : Int)))), (13, (.d (.int .i64 (w64 (s2 + (1 : Int))))))] [] hB (by rfl) (by rfl) (by rfl)) (Mat.pat [] ((fun s2 : Int => ([(0, (.d (.list 1 (a0.map (eI .i64))))), (1, (.d (.list 1 (a1.map (eI .i64))))), (12, (.d (.int .i64 (a0.length : Int)))), (13, (.d (.int .i64 s2)))] : EL)) (w64 (s2 + (1 : Int)))) ((fun s2 : Int => ([] : OL)) (w64 (s2 + (1 : Int)))) hB (by rfl) (by rfl) (by rfl)))⟩
      · replace h := ite_f hg13 h
        refine AWp.exit ?_
        refine seqQ_e ?_
        obtain rfl := Option.some.inj h
        exact ⟨(fun hc => by cases hc), rfl, (Mat.pat [] ((fun _ : Unit => ([] : EL)) ()) ((fun _ : Unit => ([] : OL)) ()) hB (by rfl) (by rfl) (by rfl))⟩
    · rcases x17 with _ | _
      · obtain ⟨rfl, hmat⟩ := hR
        refine blkQ_r ?_
        refine seqQ_r ?_
        obtain rfl := Option.some.inj h
        exact ⟨.inl rfl, _, _, (Mat.trans hmat (Mat.pat [] [(4, (.d (.bool false)))] [] hB (by rfl) (by rfl) (by rfl))), [(.d (.bool false))], (Res.tmp (by rfl) (by rfl) Res.nil), rfl, by rfl, by rfl, by rfl⟩
      · obtain ⟨rfl, hmat⟩ := hR
        refine blkQ_hit ?_
        refine seqQ_n ?_
        refine AWp.ghost hmat ?_
        refine AWp.seq ?_
        refine AWp.region (OpJs.cons (OpJ.assign (ltN hN rfl) (Opd.bool true))
          (OpJs.nil)) (by rfl) (by rfl) ?_
        refine seqQ_n ?_
        refine AWp.ghost (Mat.pat [] [(4, (.d (.bool true)))] [] hB (by rfl) (by rfl) (by rfl)) ?_
        refine AWp.ret ?_
        obtain rfl := Option.some.inj h
        exact ⟨.inl rfl, _, _, (Mat.pat [] [(4, (.d (.bool true)))] [] hB (by rfl) (by rfl) (by rfl)), [(.d (.bool true))], (Res.tmp (by rfl) (by rfl) Res.nil), rfl, by rfl, by rfl, by rfl⟩

noncomputable def exchangepointlaw40_PercentileRates_L0 (a0 : api_Series) (a4 : Int) (r4 : api_Series × exchangepointmill_Deck) (r5 : api_Series) (m17 : Int × (List Int) × (List Int)) (s19 : Int) : Option (((Unit) ⊕ (Unit)) ⊕ (Int)) :=
  (if (decide (s19 < (([a0, r4.1, (api_Series.mk r5.fPort m17.1 m17.2.2 m17.2.1)] : List api_Series).length : Int))) = true then
  (idx ([a0, r4.1, (api_Series.mk r5.fPort m17.1 m17.2.2 m17.2.1)] : List api_Series) s19).bind fun x43 =>
  (percentile_Valid x43).bind fun r44 =>
  (exchangepointref40_Valid x43).bind fun r45 =>
  (if (r44 != r45) = true then
  some (.inl (.inl ()))
  else
  (exchangepointmill_Mod a4 (100 : Int)).bind fun r47 =>
  (percentile_Used x43 (w64 ((1 : Int) + r47))).bind fun r48 =>
  (exchangepointmill_Mod a4 (100 : Int)).bind fun r49 =>
  (exchangepointref40_Used x43 (w64 ((1 : Int) + r49))).bind fun r50 =>
  (if ((r48.1 != r50.1) || (r48.2 != r50.2)) = true then
  some (.inl (.inl ()))
  else
  some (.inr (w64 (s19 + (1 : Int))))))
  else
  some (.inl (.inr ())))
noncomputable def exchangepointlaw40_PercentileRates_L1 (a2 : Int) (a3 : Int) (r54 : Int) (r55 : Int) (r56 : Int) (s57 : Int) : Option (((Unit) ⊕ (Unit)) ⊕ (Int)) :=
  (if (decide (s57 < (([([a2, a3] : List Int), ([r54, (w64 ((1 : Int) + r55))] : List Int), ([(w64 (r56 * (37500000 : Int))), (300 : Int)] : List Int)] : List (List Int)).length : Int))) = true then
  (idx ([([a2, a3] : List Int), ([r54, (w64 ((1 : Int) + r55))] : List Int), ([(w64 (r56 * (37500000 : Int))), (300 : Int)] : List Int)] : List (List Int)) s57).bind fun x79 =>
  (idx x79 (0 : Int)).bind fun x80 =>
  (idx x79 (1 : Int)).bind fun x81 =>
  (percentile_Rate x80 x81).bind fun r82 =>
  (idx x79 (0 : Int)).bind fun x83 =>
  (idx x79 (1 : Int)).bind fun x84 =>
  (exchangepointref40_Rate x83 x84).bind fun r85 =>
  (if ((r82.1 != r85.1) || (r82.2 != r85.2)) = true then
  some (.inl (.inl ()))
  else
  some (.inr (w64 (s57 + (1 : Int)))))
  else
  some (.inl (.inr ())))
noncomputable def exchangepointlaw40_PercentileRates_L3 (a4 : Int) (x171 : (List Int)) (r183 : Int) (s184 : Int) : Option (((Unit) ⊕ (Unit)) ⊕ (Int)) :=
  (if (decide (s184 < (([a4, (w64 (r183 - (1 : Int))), (95 : Int)] : List Int).length : Int))) = true then
  (idx ([a4, (w64 (r183 - (1 : Int))), (95 : Int)] : List Int) s184).bind fun x198 =>
  (percentile_Percentile x171 x198).bind fun r199 =>
  (exchangepointref40_Percentile x171 x198).bind fun r200 =>
  (if ((r199.1 != r200.1) || (r199.2 != r200.2)) = true then
  some (.inl (.inl ()))
  else
  some (.inr (w64 (s184 + (1 : Int)))))
  else
  some (.inl (.inr ())))
noncomputable def exchangepointlaw40_PercentileRates_L2 (a1 : (List Int)) (a3 : Int) (a4 : Int) (r4 : api_Series × exchangepointmill_Deck) (s89 : Int) : Option (((Unit) ⊕ (Unit)) ⊕ (Int)) :=
  (if (decide (s89 < (([a1, r4.1.fIn, r4.1.fOut] : List (List Int)).length : Int))) = true then
  (idx ([a1, r4.1.fIn, r4.1.fOut] : List (List Int)) s89).bind fun x171 =>
  (percentile_Rates x171 (300 : Int)).bind fun r172 =>
  (exchangepointref40_Rates x171 (300 : Int)).bind fun r173 =>
  (percentile_Rates x171 a3).bind fun r174 =>
  (exchangepointref40_Rates x171 a3).bind fun r175 =>
  jn (fun m180 : Bool =>
  (if m180 = true then
  some (.inl (.inl ()))
  else
  (exchangepointmill_Mod a4 (103 : Int)).bind fun r183 =>
  (loop (exchangepointlaw40_PercentileRates_L3 a4 x171 r183) (0 : Int)).bind fun x202 => match x202 with
  | (.inl _) =>
    some (.inl (.inl ()))
  | (.inr _) =>
    some (.inr (w64 (s89 + (1 : Int)))))) (fun j181 =>
  (if (r172.2 != r173.2) = true then
  j181 true
  else
  (exchangepointref23_SameInts r172.1 r173.1).bind fun r205 =>
  (if ((!r205) || (r174.2 != r175.2)) = true then
  j181 true
  else
  (exchangepointref23_SameInts r174.1 r175.1).bind fun r207 =>
  j181 (!r207))))
  else
  some (.inl (.inr ())))
noncomputable def exchangepointlaw40_PercentileRates (a0 : api_Series) (a1 : (List Int)) (a2 : Int) (a3 : Int) (a4 : Int) (a5 : (List Int)) : Option (Bool) :=
  (if (((decide ((300 : Int) < (a0.fIn.length : Int))) || (decide ((300 : Int) < (a0.fOut.length : Int)))) || (decide ((300 : Int) < (a1.length : Int)))) = true then
  (exchangepointlaw40_awake).bind fun r2 =>
  some r2
  else
  (exchangepointmill_New a5).bind fun r3 =>
  (exchangepointmill_Deck_Series r3 (7 : Int)).bind fun r4 =>
  (exchangepointref40_Copy_3 r4.1).bind fun r5 =>
  (exchangepointmill_Mod a4 (4 : Int)).bind fun r6 =>
  jn (fun m17 : Int × (List Int) × (List Int) =>
  (loop (exchangepointlaw40_PercentileRates_L0 a0 a4 r4 r5 m17) (0 : Int)).bind fun x52 => match x52 with
  | (.inl _) =>
    some false
  | (.inr _) =>
    (exchangepointmill_Mod a2 (1125899906842626 : Int)).bind fun r54 =>
    (exchangepointmill_Mod a3 (86400 : Int)).bind fun r55 =>
    (exchangepointmill_Mod a2 (100 : Int)).bind fun r56 =>
    (loop (exchangepointlaw40_PercentileRates_L1 a2 a3 r54 r55 r56) (0 : Int)).bind fun x87 => match x87 with
    | (.inl _) =>
      some false
    | (.inr _) =>
      (loop (exchangepointlaw40_PercentileRates_L2 a1 a3 a4 r4) (0 : Int)).bind fun x208 => match x208 with
      | (.inl _) =>
        some false
      | (.inr _) =>
        (exchangepointlaw40_awake).bind fun r210 =>
        some r210) (fun j18 =>
  (if (r6 == (0 : Int)) = true then
  chk (decide ((r5.fOut ++ ([(1 : Int)] : List Int)).length ≤ LIM)) <|
  j18 (r5.fSeconds, (r5.fOut ++ ([(1 : Int)] : List Int)), r5.fIn)
  else
  (if (r6 == (1 : Int)) = true then
  (if (decide ((0 : Int) < (r5.fIn.length : Int))) = true then
  (exchangepointmill_Mod a2 (r5.fIn.length : Int)).bind fun r215 =>
  (exchangepointmill_Mod a3 (3 : Int)).bind fun r216 =>
  (idx r5.fIn r215).bind fun x217 =>
  (idx r5.fIn r215).bind fun x218 =>
  j18 (r5.fSeconds, r5.fOut, (r5.fIn.set r215.toNat (w64 (r216 - (2 : Int)))))
  else
  j18 (r5.fSeconds, r5.fOut, r5.fIn))
  else
  (if (r6 == (2 : Int)) = true then
  (exchangepointmill_Mod a3 (3 : Int)).bind fun r220 =>
  j18 (r220, r5.fOut, r5.fIn)
  else
  j18 (r5.fSeconds, r5.fOut, r5.fIn))))))
set_option maxHeartbeats 4000000 in
set_option maxRecDepth 100000 in
theorem exchangepointlaw40_PercentileRates_ac (a0 : api_Series) (a1 : (List Int)) (a2 : Int) (a3 : Int) (a4 : Int) (a5 : (List Int)) (r : Bool) (h : exchangepointlaw40_PercentileRates a0 a1 a2 a3 a4 a5 = some r) : AC Try.prog 5 [(.d (e_api_Series a0)), (.d (.list 1 (a1.map (eI .i64)))), (.d (.int .i64 a2)), (.d (.int .i64 a3)), (.d (.int .i64 a4)), (.d (.list 1 (a5.map (eI .i64))))] [] (.d (.bool r)) [] := by
  refine AC.of_code2 Try.func5 rfl rfl (Nat.le_of_ble_eq_true (by rfl)) fun B hB hN => ?_
  delta exchangepointlaw40_PercentileRates at h
  refine AWp.seq ?_
  refine AWp.region (OpJs.cons (OpJ.box hB (nm := 1006) (by decide) (by simp) rfl (ltN hN rfl) (Opd.tmp 0 (.d (e_api_Series a0))))
  (OpJs.cons (OpJ.assign (ltN hN rfl) (Opd.bool false))
  (OpJs.nil))) (by rfl) (by rfl) ?_
  refine seqQ_n ?_
  refine AWp.ghost (Mat.pat [] [(1, (.d (.list 1 (a1.map (eI .i64))))), (2, (.d (.int .i64 a2))), (3, (.d (.int .i64 a3))), (4, (.d (.int .i64 a4))), (5, (.d (.list 1 (a5.map (eI .i64))))), (6, (.ptr 1006 0 []))] [(1006, some (.box 30 (.d (e_api_Series a0))))] hB (by rfl) (by rfl) (by rfl)) ?_
  refine AWp.seq ?_
  refine AWp.seq ?_
  refine AWp.region (OpJs.cons (OpJ.val (v' := (.ptr 1006 2 [2])) (by rfl) (OpJ.fieldP Try.underlying30 (by rfl) (o := 2) (by rfl) tyS22 (by decide) (obj := (.box 30 (.d (e_api_Series a0)))) (ltN hN rfl) (Opd.tmp 6 (.ptr 1006 0 []))))
  (OpJs.cons (OpJ.loadB (bt := 30) (c := (.d (e_api_Series a0))) (v := (.d (.list 1 (a0.fIn.map (eI .i64))))) tyS22 (At.dst1 (f := (.list 1 (a0.fIn.map (eI .i64)))) (by rfl) (by rfl) (At.here _) (by first | rfl | omega)) (by rfl) (by rfl) rfl (ltN hN rfl) (Opd.tmp 44 (.ptr 1006 2 [2])))
  (OpJs.cons (OpJ.val (v' := (.d (.int .i64 (a0.fIn.length : Int)))) (by simp) (OpJ.lenD Try.underlying22 (ltN hN rfl) (Opd.tmp 45 (.d (.list 1 (a0.fIn.map (eI .i64)))))))
  (OpJs.cons (OpJ.gtr (ltN hN rfl) (Opd.tmp 46 (.d (.int .i64 (a0.fIn.length : Int)))) (Opd.int .i64 (300)))
  (OpJs.cons (OpJ.move (ltN hN rfl) (Opd.tmp 47 (.d (.bool (decide ((300 : Int) < (a0.fIn.length : Int)))))))
  (OpJs.cons (OpJ.opt' (v := (.ptr 1006 3 [3])) (OpJ.val (v' := (.ptr 1006 3 [3])) (by rfl) (OpJ.fieldP Try.underlying30 (by rfl) (o := 3) (by rfl) tyS22 (by decide) (obj := (.box 30 (.d (e_api_Series a0)))) (ltN hN rfl) (Opd.tmp 6 (.ptr 1006 0 [])))) (by rfl) (GuardV.plain _) (ltN hN rfl) (by rfl) (by rfl) (by rfl) (by rfl) (OptL.keep rfl OptL.nil))
  (OpJs.cons (OpJ.opt' (v := (.d (.list 1 (a0.fOut.map (eI .i64))))) (OpJ.loadB (bt := 30) (c := (.d (e_api_Series a0))) (v := (.d (.list 1 (a0.fOut.map (eI .i64))))) tyS22 (At.dst1 (f := (.list 1 (a0.fOut.map (eI .i64)))) (by rfl) (by rfl) (At.here _) (by first | rfl | omega)) (by rfl) (by rfl) rfl (ltN hN rfl) (Opd.tmp 49 (.ptr 1006 3 [3]))) (by rfl) (GuardV.plain _) (ltN hN rfl) (by rfl) (by rfl) (by rfl) (by rfl) (OptL.opt OptL.nil))
  (OpJs.cons (OpJ.opt' (v := (.d (.int .i64 (a0.fOut.length : Int)))) (OpJ.val (v' := (.d (.int .i64 (a0.fOut.length : Int)))) (by simp) (OpJ.lenD Try.underlying22 (ltN hN rfl) (Opd.tmp 50 (.d (.list 1 (a0.fOut.map (eI .i64))))))) (by rfl) (GuardV.plain _) (ltN hN rfl) (by rfl) (by rfl) (by rfl) (by rfl) (OptL.opt OptL.nil))
  (OpJs.cons (OpJ.opt' (v := (.d (.bool (decide ((300 : Int) < (a0.fOut.length : Int)))))) (OpJ.gtr (ltN hN rfl) (Opd.tmp 51 (.d (.int .i64 (a0.fOut.length : Int)))) (Opd.int .i64 (300))) (by rfl) (GuardV.plain _) (ltN hN rfl) (by rfl) (by rfl) (by rfl) (by rfl) (OptL.opt OptL.nil))
  (OpJs.cons (OpJ.pickOr rfl (ltN hN rfl) (Opd.tmp 48 (.d (.bool (decide ((300 : Int) < (a0.fIn.length : Int)))))) (Opd.tmp 52 (.opt ((decide ((300 : Int) < (a0.fIn.length : Int))) == false) (.d (.bool (decide ((300 : Int) < (a0.fOut.length : Int))))))))
  (OpJs.cons (OpJ.move (ltN hN rfl) (Opd.tmp 53 (.d (.bool ((decide ((300 : Int) < (a0.fIn.length : Int))) || (decide ((300 : Int) < (a0.fOut.length : Int))))))))
  (OpJs.cons (OpJ.opt' (v := (.d (.list 1 (a1.map (eI .i64))))) (OpJ.move (ltN hN rfl) (Opd.tmp 1 (.d (.list 1 (a1.map (eI .i64)))))) (by rfl) (GuardV.plain _) (ltN hN rfl) (by rfl) (by rfl) (by rfl) (by rfl) (OptL.keep rfl OptL.nil))
  (OpJs.cons (OpJ.opt' (v := (.d (.int .i64 (a1.length : Int)))) (OpJ.val (v' := (.d (.int .i64 (a1.length : Int)))) (by simp) (OpJ.lenD Try.underlying22 (ltN hN rfl) (Opd.tmp 55 (.d (.list 1 (a1.map (eI .i64))))))) (by rfl) (GuardV.plain _) (ltN hN rfl) (by rfl) (by rfl) (by rfl) (by rfl) (OptL.opt OptL.nil))
  (OpJs.cons (OpJ.opt' (v := (.d (.bool (decide ((300 : Int) < (a1.length : Int)))))) (OpJ.gtr (ltN hN rfl) (Opd.tmp 56 (.d (.int .i64 (a1.length : Int)))) (Opd.int .i64 (300))) (by rfl) (GuardV.plain _) (ltN hN rfl) (by rfl) (by rfl) (by rfl) (by rfl) (OptL.opt OptL.nil))
  (OpJs.cons (OpJ.pickOr rfl (ltN hN rfl) (Opd.tmp 54 (.d (.bool ((decide ((300 : Int) < (a0.fIn.length : Int))) || (decide ((300 : Int) < (a0.fOut.length : Int))))))) (Opd.tmp 57 (.opt (((decide ((300 : Int) < (a0.fIn.length : Int))) || (decide ((300 : Int) < (a0.fOut.length : Int)))) == false) (.d (.bool (decide ((300 : Int) < (a1.length : Int))))))))
  (OpJs.nil)))))))))))))))) (by rfl) (by rfl) ?_
  refine seqQ_n ?_
  refine AWp.ghost (Mat.pat [] [(1, (.d (.list 1 (a1.map (eI .i64))))), (2, (.d (.int .i64 a2))), (3, (.d (.int .i64 a3))), (4, (.d (.int .i64 a4))), (5, (.d (.list 1 (a5.map (eI .i64))))), (6, (.ptr 1006 0 [])), (58, (.d (.bool (((decide ((300 : Int) < (a0.fIn.length : Int))) || (decide ((300 : Int) < (a0.fOut.length : Int)))) || (decide ((300 : Int) < (a1.length : Int)))))))] [(1006, some (.box 30 (.d (e_api_Series a0))))] hB (by rfl) (by rfl) (by rfl)) ?_
  refine AWp.cond (b := (((decide ((300 : Int) < (a0.fIn.length : Int))) || (decide ((300 : Int) < (a0.fOut.length : Int)))) || (decide ((300 : Int) < (a1.length : Int))))) (by rfl) (fun hg1 => ?_) (fun hg1 => ?_)
  · replace h := ite_t hg1 h
    refine AWp.seq ?_
    obtain ⟨r2, hr2, h⟩ := bindS h
    refine AWp.region (OpJs.cons (OpJ.callFn hB fnOk9 (exchangepointlaw40_awake_ac  r2 hr2) [] (by kernel_rfl) (ltN hN rfl) (by kernel_rfl) OpdL.nil)
      (OpJs.cons (OpJ.assign (ltN hN rfl) (Opd.tmp 59 (.d (.bool r2))))
      (OpJs.nil))) (by rfl) (by rfl) ?_
    refine seqQ_n ?_
    refine AWp.ghost (Mat.pat [] [(12, (.d (.bool r2)))] [] hB (by rfl) (by rfl) (by rfl)) ?_
    refine AWp.ret ?_
    refine seqQ_r ?_
    obtain rfl := Option.some.inj h
    exact ⟨.inl rfl, _, _, (Mat.pat [] [(12, (.d (.bool r2)))] [] hB (by rfl) (by rfl) (by rfl)), [(.d (.bool r2))], (Res.tmp (by rfl) (by rfl) Res.nil), rfl, by rfl, by rfl, by rfl⟩
  · replace h := ite_f hg1 h
    refine AWp.skip ?_
    refine seqQ_n ?_
    refine AWp.seq ?_
    obtain ⟨r3, hr3, h⟩ := bindS h
    refine AWp.region (OpJs.cons (OpJ.move (ltN hN rfl) (Opd.tmp 5 (.d (.list 1 (a5.map (eI .i64))))))
      (OpJs.cons (OpJ.callFn hB fnOk11 (exchangepointmill_New_ac a5 r3 hr3) [(1005, 100100)] (by kernel_rfl) (ltN hN rfl) (by kernel_rfl) (OpdL.cons (Opd.tmp 60 (.d (.list 1 (a5.map (eI .i64))))) OpdL.nil))
      (OpJs.cons (OpJ.assign (ltN hN rfl) (Opd.tmp 61 (.ptr 100100 0 [])))
      (OpJs.nil)))) (by rfl) (by rfl) ?_
    refine seqQ_n ?_
    refine AWp.ghost (Mat.pat [] [(1, (.d (.list 1 (a1.map (eI .i64))))), (2, (.d (.int .i64 a2))), (3, (.d (.int .i64 a3))), (4, (.d (.int .i64 a4))), (6, (.ptr 1006 0 [])), (13, (.ptr 100100 0 []))] [(1006, some (.box 30 (.d (e_api_Series a0)))), (100100, some (.box 54 (.d (e_exchangepointmill_Deck r3))))] hB (by rfl) (by rfl) (by rfl)) ?_
    refine AWp.seq ?_
    obtain ⟨r4, hr4, h⟩ := bindS h
    refine AWp.region (OpJs.cons (OpJ.move (ltN hN rfl) (Opd.tmp 13 (.ptr 100100 0 [])))
      (OpJs.cons (OpJ.callFn hB fnOk12 (exchangepointmill_Deck_Series_ac r3 (7 : Int) r4 hr4) [(0, 100100)] (by kernel_rfl) (ltN hN rfl) (by kernel_rfl) (OpdL.cons (Opd.tmp 62 (.ptr 100100 0 [])) (OpdL.cons (Opd.int .i64 (7)) OpdL.nil)))
      (OpJs.cons (OpJ.alloc hB tyZ30 (nm := 1014) (by decide) (ltN hN rfl))
      (OpJs.cons (OpJ.storeB (bt := 30) (c := (.st [(.d (.int .i64 (0 : Int))), (.d (.int .i64 (0 : Int))), .nils, .nils])) (v := (.d (e_api_Series r4.1))) (c' := (.d (e_api_Series r4.1))) tyS30 (SetAt.here _ _) (by rfl) (by rfl) (by simp) rfl (Opd.tmp 14 (.ptr 1014 0 [])) (Opd.tmp 63 (.d (e_api_Series r4.1))))
      (OpJs.nil))))) (by rfl) (by rfl) ?_
    refine seqQ_n ?_
    refine AWp.ghost (Mat.pat [] [(1, (.d (.list 1 (a1.map (eI .i64))))), (2, (.d (.int .i64 a2))), (3, (.d (.int .i64 a3))), (4, (.d (.int .i64 a4))), (6, (.ptr 1006 0 [])), (14, (.ptr 1014 0 []))] [(1006, some (.box 30 (.d (e_api_Series a0)))), (1014, some (.box 30 (.d (e_api_Series r4.1))))] hB (by rfl) (by rfl) (by rfl)) ?_
    refine AWp.seq ?_
    obtain ⟨r5, hr5, h⟩ := bindS h
    refine AWp.region (OpJs.cons (OpJ.loadB (bt := 30) (c := (.d (e_api_Series r4.1))) (v := (.d (e_api_Series r4.1))) tyS30 (At.here _) (by rfl) (by rfl) rfl (ltN hN rfl) (Opd.tmp 14 (.ptr 1014 0 [])))
      (OpJs.cons (OpJ.callFn hB fnOk13 (exchangepointref40_Copy_3_ac r4.1 r5 hr5) [(900000, 100300), (900001, 100301)] (by kernel_rfl) (ltN hN rfl) (by kernel_rfl) (OpdL.cons (Opd.tmp 64 (.d (e_api_Series r4.1))) OpdL.nil))
      (OpJs.cons (OpJ.alloc hB tyZ30 (nm := 1015) (by decide) (ltN hN rfl))
      (OpJs.cons (OpJ.storeB (bt := 30) (c := (.st [(.d (.int .i64 (0 : Int))), (.d (.int .i64 (0 : Int))), .nils, .nils])) (v := (.st [(.d (.int .i64 r5.fPort)), (.d (.int .i64 r5.fSeconds)), (.sref 100300 1 0 r5.fIn.length), (.sref 100301 1 0 r5.fOut.length)])) (c' := (.st [(.d (.int .i64 r5.fPort)), (.d (.int .i64 r5.fSeconds)), (.sref 100300 1 0 r5.fIn.length), (.sref 100301 1 0 r5.fOut.length)])) tyS30 (SetAt.here _ _) (by rfl) (by rfl) (by simp) rfl (Opd.tmp 15 (.ptr 1015 0 [])) (Opd.tmp 65 (.st [(.d (.int .i64 r5.fPort)), (.d (.int .i64 r5.fSeconds)), (.sref 100300 1 0 r5.fIn.length), (.sref 100301 1 0 r5.fOut.length)])))
      (OpJs.nil))))) (by rfl) (by rfl) ?_
    refine seqQ_n ?_
    refine AWp.ghost (Mat.pat [] [(1, (.d (.list 1 (a1.map (eI .i64))))), (2, (.d (.int .i64 a2))), (3, (.d (.int .i64 a3))), (4, (.d (.int .i64 a4))), (6, (.ptr 1006 0 [])), (14, (.ptr 1014 0 [])), (15, (.ptr 1015 0 []))] [(1006, some (.box 30 (.d (e_api_Series a0)))), (1014, some (.box 30 (.d (e_api_Series r4.1)))), (1015, some (.box 30 (.st [(.d (.int .i64 r5.fPort)), (.d (.int .i64 r5.fSeconds)), (.sref 100300 1 0 r5.fIn.length), (.sref 100301 1 0 r5.fOut.length)]))), (100300, some (.row 3 1 (r5.fIn.map (eI .i64)))), (100301, some (.row 3 1 (r5.fOut.map (eI .i64))))] hB (by rfl) (by rfl) (by rfl)) ?_
    refine AWp.seq ?_
    refine AWp.seq ?_
    obtain ⟨r6, hr6, h⟩ := bindS h
    refine AWp.region (OpJs.cons (OpJ.move (ltN hN rfl) (Opd.tmp 4 (.d (.int .i64 a4))))
      (OpJs.cons (OpJ.callFn hB fnOk10 (exchangepointmill_Mod_ac a4 (4 : Int) r6 hr6) [] (by kernel_rfl) (ltN hN rfl) (by kernel_rfl) (OpdL.cons (Opd.tmp 66 (.d (.int .i64 a4))) (OpdL.cons (Opd.int .i64 (4)) OpdL.nil)))
      (OpJs.nil))) (by rfl) (by rfl) ?_
    refine seqQ_n ?_
    refine AWp.ghost (Mat.pat [] [(1, (.d (.list 1 (a1.map (eI .i64))))), (2, (.d (.int .i64 a2))), (3, (.d (.int .i64 a3))), (4, (.d (.int .i64 a4))), (6, (.ptr 1006 0 [])), (14, (.ptr 1014 0 [])), (15, (.ptr 1015 0 [])), (67, (.d (.int .i64 r6)))] [(1006, some (.box 30 (.d (e_api_Series a0)))), (1014, some (.box 30 (.d (e_api_Series r4.1)))), (1015, some (.box 30 (.st [(.d (.int .i64 r5.fPort)), (.d (.int .i64 r5.fSeconds)), (.sref 100300 1 0 r5.fIn.length), (.sref 100301 1 0 r5.fOut.length)]))), (100300, some (.row 3 1 (r5.fIn.map (eI .i64)))), (100301, some (.row 3 1 (r5.fOut.map (eI .i64))))] hB (by rfl) (by rfl) (by rfl)) ?_
    refine AWp.block ?_
    refine AWp.seq ?_
    refine AWp.region (OpJs.cons (OpJ.eqlI (ltN hN rfl) (Opd.tmp 67 (.d (.int .i64 r6))) (Opd.int .i64 (0)))
      (OpJs.cons (OpJ.assign (ltN hN rfl) (Opd.tmp 69 (.d (.bool (r6 == (0 : Int))))))
      (OpJs.nil))) (by rfl) (by rfl) ?_
    refine seqQ_n ?_
    refine AWp.ghost (Mat.pat [] [(1, (.d (.list 1 (a1.map (eI .i64))))), (2, (.d (.int .i64 a2))), (3, (.d (.int .i64 a3))), (4, (.d (.int .i64 a4))), (6, (.ptr 1006 0 [])), (14, (.ptr 1014 0 [])), (15, (.ptr 1015 0 [])), (67, (.d (.int .i64 r6))), (68, (.d (.bool (r6 == (0 : Int)))))] [(1006, some (.box 30 (.d (e_api_Series a0)))), (1014, some (.box 30 (.d (e_api_Series r4.1)))), (1015, some (.box 30 (.st [(.d (.int .i64 r5.fPort)), (.d (.int .i64 r5.fSeconds)), (.sref 100300 1 0 r5.fIn.length), (.sref 100301 1 0 r5.fOut.length)]))), (100300, some (.row 3 1 (r5.fIn.map (eI .i64)))), (100301, some (.row 3 1 (r5.fOut.map (eI .i64))))] hB (by rfl) (by rfl) (by rfl)) ?_
    refine AWp.cut h (fun m17 : Int × (List Int) × (List Int) => ([(1, (.d (.list 1 (a1.map (eI .i64))))), (2, (.d (.int .i64 a2))), (3, (.d (.int .i64 a3))), (4, (.d (.int .i64 a4))), (6, (.ptr 1006 0 [])), (14, (.ptr 1014 0 [])), (15, (.ptr 1015 0 []))] : EL)) (fun m17 : Int × (List Int) × (List Int) => ([(1006, some (.box 30 (.d (e_api_Series a0)))), (1014, some (.box 30 (.d (e_api_Series r4.1)))), (1015, some (.box 30 (.st [(.d (.int .i64 r5.fPort)), (.d (.int .i64 m17.1)), (.sref 100300 1 0 m17.2.2.length), (.sref 13153 1 0 m17.2.1.length)]))), (13153, some (.row 3 1 (m17.2.1.map (eI .i64)))), (100300, some (.row 3 1 (m17.2.2.map (eI .i64))))] : OL)) (fun m17 h E' O' hmat => ?_) (fun j18 hjj18 h => ?_)
    · refine blkQ_n ?_
      refine seqQ_n ?_
      refine AWp.ghost hmat ?_
      refine AWp.seq ?_
      refine AWp.seq ?_
      refine AWp.ghost (Mat.freezeP (n := 100300) (e := 3) (sz := 1) (es := m17.2.2.map (eI .i64)) (Ts := []) (Bs := [(1015, some (.box 30 (.st [(.d (.int .i64 r5.fPort)), (.d (.int .i64 m17.1)), (.d (.list 1 (m17.2.2.map (eI .i64)))), (.sref 13153 1 0 m17.2.1.length)])))]) (by rfl) TwT.nil (TwB.cons (x := (.st [(.d (.int .i64 r5.fPort)), (.d (.int .i64 m17.1)), (.sref 100300 1 0 m17.2.2.length), (.sref 13153 1 0 m17.2.1.length)])) (by rfl) (Tw.st (TwL.cons (Tw.same _) (TwL.cons (Tw.same _) (TwL.cons (FrzL.all (by first | rfl | (simp; done) | (simp; omega))) (TwL.cons (Tw.same _) TwL.nil))))) TwB.nil)) ?_
      refine AWp.ghost (Mat.freezeP (n := 13153) (e := 3) (sz := 1) (es := m17.2.1.map (eI .i64)) (Ts := []) (Bs := [(1015, some (.box 30 (.st [(.d (.int .i64 r5.fPort)), (.d (.int .i64 m17.1)), (.d (.list 1 (m17.2.2.map (eI .i64)))), (.d (.list 1 (m17.2.1.map (eI .i64))))])))]) (by rfl) TwT.nil (TwB.cons (x := (.st [(.d (.int .i64 r5.fPort)), (.d (.int .i64 m17.1)), (.d (.list 1 (m17.2.2.map (eI .i64)))), (.sref 13153 1 0 m17.2.1.length)])) (by rfl) (Tw.st (TwL.cons (Tw.same _) (TwL.cons (Tw.same _) (TwL.cons (Tw.same _) (TwL.cons (FrzL.all (by first | rfl | (simp; done) | (simp; omega))) TwL.nil))))) TwB.nil)) ?_
      refine AWp.region (OpJs.cons (OpJ.loadB (bt := 30) (c := (.d (e_api_Series a0))) (v := (.d (e_api_Series a0))) tyS30 (At.here _) (by rfl) (by rfl) rfl (ltN hN rfl) (Opd.tmp 6 (.ptr 1006 0 [])))
        (OpJs.cons (OpJ.loadB (bt := 30) (c := (.d (e_api_Series r4.1))) (v := (.d (e_api_Series r4.1))) tyS30 (At.here _) (by rfl) (by rfl) rfl (ltN hN rfl) (Opd.tmp 14 (.ptr 1014 0 [])))
        (OpJs.cons (OpJ.loadB (bt := 30) (c := (.st [(.d (.int .i64 r5.fPort)), (.d (.int .i64 m17.1)), (.d (.list 1 (m17.2.2.map (eI .i64)))), (.d (.list 1 (m17.2.1.map (eI .i64))))])) (v := (.st [(.d (.int .i64 r5.fPort)), (.d (.int .i64 m17.1)), (.d (.list 1 (m17.2.2.map (eI .i64)))), (.d (.list 1 (m17.2.1.map (eI .i64))))])) tyS30 (At.here _) (by rfl) (by rfl) rfl (ltN hN rfl) (Opd.tmp 15 (.ptr 1015 0 [])))
        (OpJs.cons (OpJ.buildSlice Try.underlying39 tyS30 tyZD30 (by rfl) (by decide) (by decide) (Opds.cons (Opd.tmp 97 (.d (e_api_Series a0))) (Opds.cons (Opd.tmp 98 (.d (e_api_Series r4.1))) (Opds.cons (Opd.co (Co.st (CoL.cons (Co.d _) (CoL.cons (Co.d _) (CoL.cons (Co.d _) (CoL.cons (Co.d _) CoL.nil))))) (Opd.tmp 99 (.st [(.d (.int .i64 r5.fPort)), (.d (.int .i64 m17.1)), (.d (.list 1 (m17.2.2.map (eI .i64)))), (.d (.list 1 (m17.2.1.map (eI .i64))))]))) Opds.nil))) (by kernel_rfl) (es := ([(e_api_Series a0), (e_api_Series r4.1), (.st [(.int .i64 r5.fPort), (.int .i64 m17.1), (.list 1 (m17.2.2.map (eI .i64))), (.list 1 (m17.2.1.map (eI .i64)))])] : List D)) (by rfl) (by rfl) (by kernel_rfl) (by simp) (ltN hN rfl))
        (OpJs.cons (OpJ.val (v' := (.d (.int .i64 (([a0, r4.1, (api_Series.mk r5.fPort m17.1 m17.2.2 m17.2.1)] : List api_Series).length : Int)))) (by simp) (OpJ.lenD Try.underlying39 (ltN hN rfl) (Opd.tmp 100 (.d (.list 4 (([a0, r4.1, (api_Series.mk r5.fPort m17.1 m17.2.2 m17.2.1)] : List api_Series).map e_api_Series))))))
        (OpJs.cons (OpJ.move (ltN hN rfl) (Opd.int .i64 (0)))
        (OpJs.nil))))))) (by rfl) (by rfl) ?_
      refine seqQ_n ?_
      refine AWp.ghost (Mat.pat [] [(1, (.d (.list 1 (a1.map (eI .i64))))), (2, (.d (.int .i64 a2))), (3, (.d (.int .i64 a3))), (4, (.d (.int .i64 a4))), (14, (.ptr 1014 0 [])), (100, (.d (.list 4 (([a0, r4.1, (api_Series.mk r5.fPort m17.1 m17.2.2 m17.2.1)] : List api_Series).map e_api_Series)))), (101, (.d (.int .i64 (([a0, r4.1, (api_Series.mk r5.fPort m17.1 m17.2.2 m17.2.1)] : List api_Series).length : Int)))), (102, (.d (.int .i64 (0 : Int))))] [(1014, some (.box 30 (.d (e_api_Series r4.1))))] hB (by rfl) (by rfl) (by rfl)) ?_
      refine AWp.block ?_
      obtain ⟨x52, hx53, h⟩ := bindS h
      refine AWp.ghost (Mat.pat [] ((fun s19 : Int => ([(1, (.d (.list 1 (a1.map (eI .i64))))), (2, (.d (.int .i64 a2))), (3, (.d (.int .i64 a3))), (4, (.d (.int .i64 a4))), (14, (.ptr 1014 0 [])), (100, (.d (.list 4 (([a0, r4.1, (api_Series.mk r5.fPort m17.1 m17.2.2 m17.2.1)] : List api_Series).map e_api_Series)))), (101, (.d (.int .i64 (([a0, r4.1, (api_Series.mk r5.fPort m17.1 m17.2.2 m17.2.1)] : List api_Series).length : Int)))), (102, (.d (.int .i64 s19)))] : EL)) (0 : Int)) ((fun s19 : Int => ([(1014, some (.box 30 (.d (e_api_Series r4.1))))] : OL)) (0 : Int)) hB (by rfl) (by rfl) (by rfl)) ?_
      refine AWp.loopS (exchangepointlaw40_PercentileRates_L0 a0 a4 r4 r5 m17) (fun s19 : Int => ([(1, (.d (.list 1 (a1.map (eI .i64))))), (2, (.d (.int .i64 a2))), (3, (.d (.int .i64 a3))), (4, (.d (.int .i64 a4))), (14, (.ptr 1014 0 [])), (100, (.d (.list 4 (([a0, r4.1, (api_Series.mk r5.fPort m17.1 m17.2.2 m17.2.1)] : List api_Series).map e_api_Series)))), (101, (.d (.int .i64 (([a0, r4.1, (api_Series.mk r5.fPort m17.1 m17.2.2 m17.2.1)] : List api_Series).length : Int)))), (102, (.d (.int .i64 s19)))] : EL)) (fun s19 : Int => ([(1014, some (.box 30 (.d (e_api_Series r4.1))))] : OL)) (fun (x : (Unit) ⊕ (Unit)) e E' O' => match x with | (.inl _p) => e = .ret ∧ Mat B E' O' ([(12, (.d (.bool false)))] : EL) ([] : OL) | (.inr _p) => e = .exit 1 ∧ Mat B E' O' ([(1, (.d (.list 1 (a1.map (eI .i64))))), (2, (.d (.int .i64 a2))), (3, (.d (.int .i64 a3))), (4, (.d (.int .i64 a4))), (14, (.ptr 1014 0 []))] : EL) ([(1014, some (.box 30 (.d (e_api_Series r4.1))))] : OL)) hx53 (fun s19 y h => ?_) (fun e E' O' hR => ?_)
      · unfold exchangepointlaw40_PercentileRates_L0 at h
        show AWp _ _ _ _ ([(1, (.d (.list 1 (a1.map (eI .i64))))), (2, (.d (.int .i64 a2))), (3, (.d (.int .i64 a3))), (4, (.d (.int .i64 a4))), (14, (.ptr 1014 0 [])), (100, (.d (.list 4 (([a0, r4.1, (api_Series.mk r5.fPort m17.1 m17.2.2 m17.2.1)] : List api_Series).map e_api_Series)))), (101, (.d (.int .i64 (([a0, r4.1, (api_Series.mk r5.fPort m17.1 m17.2.2 m17.2.1)] : List api_Series).length : Int)))), (102, (.d (.int .i64 s19)))] : EL) ([(1014, some (.box 30 (.d (e_api_Series r4.1))))] : OL)
        refine AWp.seq ?_
        refine AWp.region (OpJs.cons (OpJ.lss (ltN hN rfl) (Opd.tmp 102 (.d (.int .i64 s19))) (Opd.tmp 101 (.d (.int .i64 (([a0, r4.1, (api_Series.mk r5.fPort m17.1 m17.2.2 m17.2.1)] : List api_Series).length : Int)))))
          (OpJs.nil)) (by rfl) (by rfl) ?_
        refine seqQ_n ?_
        refine AWp.ghost (Mat.pat [] [(1, (.d (.list 1 (a1.map (eI .i64))))), (2, (.d (.int .i64 a2))), (3, (.d (.int .i64 a3))), (4, (.d (.int .i64 a4))), (14, (.ptr 1014 0 [])), (100, (.d (.list 4 (([a0, r4.1, (api_Series.mk r5.fPort m17.1 m17.2.2 m17.2.1)] : List api_Series).map e_api_Series)))), (101, (.d (.int .i64 (([a0, r4.1, (api_Series.mk r5.fPort m17.1 m17.2.2 m17.2.1)] : List api_Series).length : Int)))), (102, (.d (.int .i64 s19))), (103, (.d (.bool (decide (s19 < (([a0, r4.1, (api_Series.mk r5.fPort m17.1 m17.2.2 m17.2.1)] : List api_Series).length : Int))))))] [(1014, some (.box 30 (.d (e_api_Series r4.1))))] hB (by rfl) (by rfl) (by rfl)) ?_
        refine AWp.seq ?_
        refine AWp.cond (b := (decide (s19 < (([a0, r4.1, (api_Series.mk r5.fPort m17.1 m17.2.2 m17.2.1)] : List api_Series).length : Int)))) (by rfl) (fun hg42 => ?_) (fun hg42 => ?_)
        · replace h := ite_t hg42 h
          refine AWp.skip ?_
          refine seqQ_n ?_
          refine AWp.seq ?_
          refine AWp.block ?_
          refine AWp.seq ?_
          obtain ⟨x43, hx43, h⟩ := bindS h
          refine AWp.region (OpJs.cons (OpJ.indexD (el := (e_api_Series x43)) Try.underlying39 tyS30 (idx_some hx43).1 (get_map e_api_Series (idx_some hx43).2) (ltN hN rfl) (Opd.tmp 100 (.d (.list 4 (([a0, r4.1, (api_Series.mk r5.fPort m17.1 m17.2.2 m17.2.1)] : List api_Series).map e_api_Series)))) (Opd.tmp 102 (.d (.int .i64 s19))))
            (OpJs.cons (OpJ.loadD tyS30 (by rfl) (by rfl) (ltN hN rfl) (Opd.tmp 104 (.dptr (e_api_Series x43))))
            (OpJs.cons (OpJ.alloc hB tyZ30 (nm := 1017) (by decide) (ltN hN rfl))
            (OpJs.cons (OpJ.storeB (bt := 30) (c := (.st [(.d (.int .i64 (0 : Int))), (.d (.int .i64 (0 : Int))), .nils, .nils])) (v := (.d (e_api_Series x43))) (c' := (.d (e_api_Series x43))) tyS30 (SetAt.here _ _) (by rfl) (by rfl) (by simp) rfl (Opd.tmp 17 (.ptr 1017 0 [])) (Opd.tmp 105 (.d (e_api_Series x43))))
            (OpJs.nil))))) (by rfl) (by rfl) ?_
          refine seqQ_n ?_
          refine AWp.ghost (Mat.pat [] [(1, (.d (.list 1 (a1.map (eI .i64))))), (2, (.d (.int .i64 a2))), (3, (.d (.int .i64 a3))), (4, (.d (.int .i64 a4))), (14, (.ptr 1014 0 [])), (17, (.ptr 1017 0 [])), (100, (.d (.list 4 (([a0, r4.1, (api_Series.mk r5.fPort m17.1 m17.2.2 m17.2.1)] : List api_Series).map e_api_Series)))), (101, (.d (.int .i64 (([a0, r4.1, (api_Series.mk r5.fPort m17.1 m17.2.2 m17.2.1)] : List api_Series).length : Int)))), (102, (.d (.int .i64 s19)))] [(1014, some (.box 30 (.d (e_api_Series r4.1)))), (1017, some (.box 30 (.d (e_api_Series x43))))] hB (by rfl) (by rfl) (by rfl)) ?_
          refine AWp.seq ?_
          refine AWp.seq ?_
          obtain ⟨r44, hr44, h⟩ := bindS h
          obtain ⟨r45, hr45, h⟩ := bindS h
          refine AWp.draws (by kernel_rfl) (OpJs.cons (OpJ.loadB (bt := 30) (c := (.d (e_api_Series x43))) (v := (.d (e_api_Series x43))) tyS30 (At.here _) (by rfl) (by rfl) rfl (ltN hN rfl) (Opd.tmp 17 (.ptr 1017 0 [])))
            (OpJs.cons (OpJ.callFn hB fnOk16 (percentile_Valid_ac x43 r44 hr44) [] (by kernel_rfl) (ltN hN rfl) (by kernel_rfl) (OpdL.cons (Opd.tmp 106 (.d (e_api_Series x43))) OpdL.nil))
            (OpJs.cons (OpJ.loadB (bt := 30) (c := (.d (e_api_Series x43))) (v := (.d (e_api_Series x43))) tyS30 (At.here _) (by rfl) (by rfl) rfl (ltN hN rfl) (Opd.tmp 17 (.ptr 1017 0 [])))
            (OpJs.cons (OpJ.callFn hB fnOk17 (exchangepointref40_Valid_ac x43 r45 hr45) [] (by kernel_rfl) (ltN hN rfl) (by kernel_rfl) (OpdL.cons (Opd.tmp 108 (.d (e_api_Series x43))) OpdL.nil))
            (OpJs.cons (OpJ.neqB Try.underlying4 (ltN hN rfl) (Opd.tmp 107 (.d (.bool r44))) (Opd.tmp 109 (.d (.bool r45))))
            (OpJs.nil)))))) (by kernel_rfl) (by rfl) (by rfl) ?_
          refine seqQ_n ?_
          refine AWp.ghost (Mat.pat [] [(1, (.d (.list 1 (a1.map (eI .i64))))), (2, (.d (.int .i64 a2))), (3, (.d (.int .i64 a3))), (4, (.d (.int .i64 a4))), (14, (.ptr 1014 0 [])), (17, (.ptr 1017 0 [])), (100, (.d (.list 4 (([a0, r4.1, (api_Series.mk r5.fPort m17.1 m17.2.2 m17.2.1)] : List api_Series).map e_api_Series)))), (101, (.d (.int .i64 (([a0, r4.1, (api_Series.mk r5.fPort m17.1 m17.2.2 m17.2.1)] : List api_Series).length : Int)))), (102, (.d (.int .i64 s19))), (110, (.d (.bool (r44 != r45))))] [(1014, some (.box 30 (.d (e_api_Series r4.1)))), (1017, some (.box 30 (.d (e_api_Series x43))))] hB (by rfl) (by rfl) (by rfl)) ?_
          refine AWp.cond (b := (r44 != r45)) (by rfl) (fun hg46 => ?_) (fun hg46 => ?_)
          · replace h := ite_t hg46 h
            refine AWp.seq ?_
            refine AWp.region (OpJs.cons (OpJ.assign (ltN hN rfl) (Opd.bool false))
              (OpJs.nil)) (by rfl) (by rfl) ?_
            refine seqQ_n ?_
            refine AWp.ghost (Mat.pat [] [(12, (.d (.bool false)))] [] hB (by rfl) (by rfl) (by rfl)) ?_
            refine AWp.ret ?_
            refine seqQ_r ?_
            refine blkQ_r ?_
            refine seqQ_r ?_
            obtain rfl := Option.some.inj h
            exact ⟨(fun hc => by cases hc), rfl, (Mat.pat [] ((fun _ : Unit => ([(12, (.d (.bool false)))] : EL)) ()) ((fun _ : Unit => ([] : OL)) ()) hB (by rfl) (by rfl) (by rfl))⟩
          · replace h := ite_f hg46 h
            refine AWp.skip ?_
            refine seqQ_n ?_
            refine AWp.seq ?_
            obtain ⟨r47, hr47, h⟩ := bindS h
            obtain ⟨r48, hr48, h⟩ := bindS h
            refine AWp.draws (by kernel_rfl) (OpJs.cons (OpJ.loadB (bt := 30) (c := (.d (e_api_Series x43))) (v := (.d (e_api_Series x43))) tyS30 (At.here _) (by rfl) (by rfl) rfl (ltN hN rfl) (Opd.tmp 17 (.ptr 1017 0 [])))
              (OpJs.cons (OpJ.move (ltN hN rfl) (Opd.tmp 4 (.d (.int .i64 a4))))
              (OpJs.cons (OpJ.callFn hB fnOk10 (exchangepointmill_Mod_ac a4 (100 : Int) r47 hr47) [] (by kernel_rfl) (ltN hN rfl) (by kernel_rfl) (OpdL.cons (Opd.tmp 113 (.d (.int .i64 a4))) (OpdL.cons (Opd.int .i64 (100)) OpdL.nil)))
              (OpJs.cons (OpJ.add (ltN hN rfl) (Opd.int .i64 (1)) (Opd.tmp 114 (.d (.int .i64 r47))))
              (OpJs.cons (OpJ.callFn hB fnOk18 (percentile_Used_ac x43 (w64 ((1 : Int) + r47)) r48 hr48) [] (by kernel_rfl) (ltN hN rfl) (by kernel_rfl) (OpdL.cons (Opd.tmp 112 (.d (e_api_Series x43))) (OpdL.cons (Opd.tmp 115 (.d (.int .i64 (w64 ((1 : Int) + r47))))) OpdL.nil)))
              (OpJs.cons (OpJ.move (ltN hN rfl) (Opd.tmp 116 (.tup [(.d (.int .i64 r48.1)), (.d (.int .i64 r48.2))])))
              (OpJs.cons (OpJ.extract (v := (.d (.int .i64 r48.1))) (by rfl) rfl (ltN hN rfl) (Opd.tmp 111 (.tup [(.d (.int .i64 r48.1)), (.d (.int .i64 r48.2))])))
              (OpJs.cons (OpJ.extract (v := (.d (.int .i64 r48.2))) (by rfl) rfl (ltN hN rfl) (Opd.tmp 111 (.tup [(.d (.int .i64 r48.1)), (.d (.int .i64 r48.2))])))
              (OpJs.cons (OpJ.assign (ltN hN rfl) (Opd.tmp 117 (.d (.int .i64 r48.1))))
              (OpJs.cons (OpJ.assign (ltN hN rfl) (Opd.tmp 118 (.d (.int .i64 r48.2))))
              (OpJs.nil))))))))))) (by kernel_rfl) (by rfl) (by rfl) ?_
            refine seqQ_n ?_
            refine AWp.ghost (Mat.pat [] [(1, (.d (.list 1 (a1.map (eI .i64))))), (2, (.d (.int .i64 a2))), (3, (.d (.int .i64 a3))), (4, (.d (.int .i64 a4))), (14, (.ptr 1014 0 [])), (17, (.ptr 1017 0 [])), (18, (.d (.int .i64 r48.1))), (19, (.d (.int .i64 r48.2))), (100, (.d (.list 4 (([a0, r4.1, (api_Series.mk r5.fPort m17.1 m17.2.2 m17.2.1)] : List api_Series).map e_api_Series)))), (101, (.d (.int .i64 (([a0, r4.1, (api_Series.mk r5.fPort m17.1 m17.2.2 m17.2.1)] : List api_Series).length : Int)))), (102, (.d (.int .i64 s19)))] [(1014, some (.box 30 (.d (e_api_Series r4.1)))), (1017, some (.box 30 (.d (e_api_Series x43))))] hB (by rfl) (by rfl) (by rfl)) ?_
            refine AWp.seq ?_
            obtain ⟨r49, hr49, h⟩ := bindS h
            obtain ⟨r50, hr50, h⟩ := bindS h
            refine AWp.draws (by kernel_rfl) (OpJs.cons (OpJ.loadB (bt := 30) (c := (.d (e_api_Series x43))) (v := (.d (e_api_Series x43))) tyS30 (At.here _) (by rfl) (by rfl) rfl (ltN hN rfl) (Opd.tmp 17 (.ptr 1017 0 [])))
              (OpJs.cons (OpJ.move (ltN hN rfl) (Opd.tmp 4 (.d (.int .i64 a4))))
              (OpJs.cons (OpJ.callFn hB fnOk10 (exchangepointmill_Mod_ac a4 (100 : Int) r49 hr49) [] (by kernel_rfl) (ltN hN rfl) (by kernel_rfl) (OpdL.cons (Opd.tmp 121 (.d (.int .i64 a4))) (OpdL.cons (Opd.int .i64 (100)) OpdL.nil)))
              (OpJs.cons (OpJ.add (ltN hN rfl) (Opd.int .i64 (1)) (Opd.tmp 122 (.d (.int .i64 r49))))
              (OpJs.cons (OpJ.callFn hB fnOk19 (exchangepointref40_Used_ac x43 (w64 ((1 : Int) + r49)) r50 hr50) [] (by kernel_rfl) (ltN hN rfl) (by kernel_rfl) (OpdL.cons (Opd.tmp 120 (.d (e_api_Series x43))) (OpdL.cons (Opd.tmp 123 (.d (.int .i64 (w64 ((1 : Int) + r49))))) OpdL.nil)))
              (OpJs.cons (OpJ.move (ltN hN rfl) (Opd.tmp 124 (.tup [(.d (.int .i64 r50.1)), (.d (.int .i64 r50.2))])))
              (OpJs.cons (OpJ.extract (v := (.d (.int .i64 r50.1))) (by rfl) rfl (ltN hN rfl) (Opd.tmp 119 (.tup [(.d (.int .i64 r50.1)), (.d (.int .i64 r50.2))])))
              (OpJs.cons (OpJ.extract (v := (.d (.int .i64 r50.2))) (by rfl) rfl (ltN hN rfl) (Opd.tmp 119 (.tup [(.d (.int .i64 r50.1)), (.d (.int .i64 r50.2))])))
              (OpJs.cons (OpJ.assign (ltN hN rfl) (Opd.tmp 125 (.d (.int .i64 r50.1))))
              (OpJs.cons (OpJ.assign (ltN hN rfl) (Opd.tmp 126 (.d (.int .i64 r50.2))))
              (OpJs.nil))))))))))) (by kernel_rfl) (by rfl) (by rfl) ?_
            refine seqQ_n ?_
            refine AWp.ghost (Mat.pat [] [(1, (.d (.list 1 (a1.map (eI .i64))))), (2, (.d (.int .i64 a2))), (3, (.d (.int .i64 a3))), (4, (.d (.int .i64 a4))), (14, (.ptr 1014 0 [])), (18, (.d (.int .i64 r48.1))), (19, (.d (.int .i64 r48.2))), (20, (.d (.int .i64 r50.1))), (21, (.d (.int .i64 r50.2))), (100, (.d (.list 4 (([a0, r4.1, (api_Series.mk r5.fPort m17.1 m17.2.2 m17.2.1)] : List api_Series).map e_api_Series)))), (101, (.d (.int .i64 (([a0, r4.1, (api_Series.mk r5.fPort m17.1 m17.2.2 m17.2.1)] : List api_Series).length : Int)))), (102, (.d (.int .i64 s19)))] [(1014, some (.box 30 (.d (e_api_Series r4.1))))] hB (by rfl) (by rfl) (by rfl)) ?_
            refine AWp.seq ?_
            refine AWp.region (OpJs.cons (OpJ.move (ltN hN rfl) (Opd.tmp 18 (.d (.int .i64 r48.1))))
              (OpJs.cons (OpJ.move (ltN hN rfl) (Opd.tmp 20 (.d (.int .i64 r50.1))))
              (OpJs.cons (OpJ.neqI (ltN hN rfl) (Opd.tmp 127 (.d (.int .i64 r48.1))) (Opd.tmp 128 (.d (.int .i64 r50.1))))
              (OpJs.cons (OpJ.move (ltN hN rfl) (Opd.tmp 129 (.d (.bool (r48.1 != r50.1)))))
              (OpJs.cons (OpJ.opt' (v := (.d (.int .i64 r48.2))) (OpJ.move (ltN hN rfl) (Opd.tmp 19 (.d (.int .i64 r48.2)))) (by rfl) (GuardV.plain _) (ltN hN rfl) (by rfl) (by rfl) (by rfl) (by rfl) (OptL.keep rfl OptL.nil))
              (OpJs.cons (OpJ.opt' (v := (.d (.int .i64 r50.2))) (OpJ.move (ltN hN rfl) (Opd.tmp 21 (.d (.int .i64 r50.2)))) (by rfl) (GuardV.plain _) (ltN hN rfl) (by rfl) (by rfl) (by rfl) (by rfl) (OptL.keep rfl OptL.nil))
              (OpJs.cons (OpJ.opt' (v := (.d (.bool (r48.2 != r50.2)))) (OpJ.neqI (ltN hN rfl) (Opd.tmp 131 (.d (.int .i64 r48.2))) (Opd.tmp 132 (.d (.int .i64 r50.2)))) (by rfl) (GuardV.plain _) (ltN hN rfl) (by rfl) (by rfl) (by rfl) (by rfl) (OptL.opt (OptL.opt OptL.nil)))
              (OpJs.cons (OpJ.pickOr rfl (ltN hN rfl) (Opd.tmp 130 (.d (.bool (r48.1 != r50.1)))) (Opd.tmp 133 (.opt ((r48.1 != r50.1) == false) (.d (.bool (r48.2 != r50.2))))))
              (OpJs.nil))))))))) (by rfl) (by rfl) ?_
            refine seqQ_n ?_
            refine AWp.ghost (Mat.pat [] [(1, (.d (.list 1 (a1.map (eI .i64))))), (2, (.d (.int .i64 a2))), (3, (.d (.int .i64 a3))), (4, (.d (.int .i64 a4))), (14, (.ptr 1014 0 [])), (100, (.d (.list 4 (([a0, r4.1, (api_Series.mk r5.fPort m17.1 m17.2.2 m17.2.1)] : List api_Series).map e_api_Series)))), (101, (.d (.int .i64 (([a0, r4.1, (api_Series.mk r5.fPort m17.1 m17.2.2 m17.2.1)] : List api_Series).length : Int)))), (102, (.d (.int .i64 s19))), (134, (.d (.bool ((r48.1 != r50.1) || (r48.2 != r50.2)))))] [(1014, some (.box 30 (.d (e_api_Series r4.1))))] hB (by rfl) (by rfl) (by rfl)) ?_
            refine AWp.cond (b := ((r48.1 != r50.1) || (r48.2 != r50.2))) (by rfl) (fun hg51 => ?_) (fun hg51 => ?_)
            · replace h := ite_t hg51 h
              refine AWp.seq ?_
              refine AWp.region (OpJs.cons (OpJ.assign (ltN hN rfl) (Opd.bool false))
                (OpJs.nil)) (by rfl) (by rfl) ?_
              refine seqQ_n ?_
              refine AWp.ghost (Mat.pat [] [(12, (.d (.bool false)))] [] hB (by rfl) (by rfl) (by rfl)) ?_
              refine AWp.ret ?_
              refine blkQ_r ?_
              refine seqQ_r ?_
              obtain rfl := Option.some.inj h
              exact ⟨(fun hc => by cases hc), rfl, (Mat.pat [] ((fun _ : Unit => ([(12, (.d (.bool false)))] : EL)) ()) ((fun _ : Unit => ([] : OL)) ()) hB (by rfl) (by rfl) (by rfl))⟩
            · replace h := ite_f hg51 h
              refine AWp.skip ?_
              refine blkQ_n ?_
              refine seqQ_n ?_
              refine AWp.region (OpJs.cons (OpJ.add (ltN hN rfl) (Opd.tmp 102 (.d (.int .i64 s19))) (Opd.int .i64 (1)))
                (OpJs.cons (OpJ.move (ltN hN rfl) (Opd.tmp 135 (.d (.int .i64 (w64 (s19 + (1 : Int)))))))
                (OpJs.nil))) (by rfl) (by rfl) ?_
              obtain rfl := Option.some.inj h
              exact ⟨rfl, (Mat.trans (Mat.pat [] [(1, (.d (.list 1 (a1.map (eI .i64))))), (2, (.d (.int .i64 a2))), (3, (.d (.int .i64 a3))), (4, (.d (.int .i64 a4))), (14, (.ptr 1014 0 [])), (100, (.d (.list 4 (([a0, r4.1, (api_Series.mk r5.fPort m17.1 m17.2.2 m17.2.1)] : List api_Series).map e_api_Series)))), (101, (.d (.int .i64 (([a0, r4.1, (api_Series.mk r5.fPort m17.1 m17.2.2 m17.2.1)] : List api_Series).length : Int)))), (102, (.d (.int .i64 (w64 (s19 + (1 : Int))))))] [(1014, some (.box 30 (.d (e_api_Series r4.1))))] hB (by rfl) (by rfl) (by rfl)) (Mat.pat [] ((fun s19 : Int => ([(1, (.d (.list 1 (a1.map (eI .i64))))), (2, (.d (.int .i64 a2))), (3, (.d (.int .i64 a3))), (4, (.d (.int .i64 a4))), (14, (.ptr 1014 0 [])), (100, (.d (.list 4 (([a0, r4.1, (api_Series.mk r5.fPort m17.1 m17.2.2 m17.2.1)] : List api_Series).map e_api_Series)))), (101, (.d (.int .i64 (([a0, r4.1, (api_Series.mk r5.fPort m17.1 m17.2.2 m17.2.1)] : List api_Series).length : Int)))), (102, (.d (.int .i64 s19)))] : EL)) (w64 (s19 + (1 : Int)))) ((fun s19 : Int => ([(1014, some (.box 30 (.d (e_api_Series r4.1))))] : OL)) (w64 (s19 + (1 : Int)))) hB (by rfl) (by rfl) (by rfl)))⟩
        · replace h := ite_f hg42 h
          refine AWp.exit ?_
          refine seqQ_e ?_
          obtain rfl := Option.some.inj h
          exact ⟨(fun hc => by cases hc), rfl, (Mat.pat [] ((fun _ : Unit => ([(1, (.d (.list 1 (a1.map (eI .i64))))), (2, (.d (.int .i64 a2))), (3, (.d (.int .i64 a3))), (4, (.d (.int .i64 a4))), (14, (.ptr 1014 0 []))] : EL)) ()) ((fun _ : Unit => ([(1014, some (.box 30 (.d (e_api_Series r4.1))))] : OL)) ()) hB (by rfl) (by rfl) (by rfl))⟩
      · rcases x52 with _ | _
        · obtain ⟨rfl, hmat⟩ := hR
          refine blkQ_r ?_
          refine seqQ_r ?_
          obtain rfl := Option.some.inj h
          exact ⟨.inl rfl, _, _, (Mat.trans hmat (Mat.pat [] [(12, (.d (.bool false)))] [] hB (by rfl) (by rfl) (by rfl))), [(.d (.bool false))], (Res.tmp (by rfl) (by rfl) Res.nil), rfl, by rfl, by rfl, by rfl⟩
        · obtain ⟨rfl, hmat⟩ := hR
          refine blkQ_hit ?_
          refine seqQ_n ?_
          refine AWp.ghost hmat ?_
          refine AWp.seq ?_
          refine AWp.seq ?_
          obtain ⟨r54, hr54, h⟩ := bindS h
          obtain ⟨r55, hr55, h⟩ := bindS h
          obtain ⟨r56, hr56, h⟩ := bindS h
          refine AWp.region (OpJs.cons (OpJ.move (ltN hN rfl) (Opd.tmp 2 (.d (.int .i64 a2))))
            (OpJs.cons (OpJ.move (ltN hN rfl) (Opd.tmp 3 (.d (.int .i64 a3))))
            (OpJs.cons (OpJ.buildSlice Try.underlying22 tyS3 tyZD3 (by rfl) (by decide) (by decide) (Opds.cons (Opd.tmp 136 (.d (.int .i64 a2))) (Opds.cons (Opd.tmp 137 (.d (.int .i64 a3))) Opds.nil)) (by kernel_rfl) (es := ([(.int .i64 a2), (.int .i64 a3)] : List D)) (by rfl) (by rfl) (by kernel_rfl) (by simp) (ltN hN rfl))
            (OpJs.cons (OpJ.move (ltN hN rfl) (Opd.tmp 2 (.d (.int .i64 a2))))
            (OpJs.cons (OpJ.callFn hB fnOk10 (exchangepointmill_Mod_ac a2 (1125899906842626 : Int) r54 hr54) [] (by kernel_rfl) (ltN hN rfl) (by kernel_rfl) (OpdL.cons (Opd.tmp 139 (.d (.int .i64 a2))) (OpdL.cons (Opd.int .i64 (1125899906842626)) OpdL.nil)))
            (OpJs.cons (OpJ.move (ltN hN rfl) (Opd.tmp 3 (.d (.int .i64 a3))))
            (OpJs.cons (OpJ.callFn hB fnOk10 (exchangepointmill_Mod_ac a3 (86400 : Int) r55 hr55) [] (by kernel_rfl) (ltN hN rfl) (by kernel_rfl) (OpdL.cons (Opd.tmp 141 (.d (.int .i64 a3))) (OpdL.cons (Opd.int .i64 (86400)) OpdL.nil)))
            (OpJs.cons (OpJ.add (ltN hN rfl) (Opd.int .i64 (1)) (Opd.tmp 142 (.d (.int .i64 r55))))
            (OpJs.cons (OpJ.buildSlice Try.underlying22 tyS3 tyZD3 (by rfl) (by decide) (by decide) (Opds.cons (Opd.tmp 140 (.d (.int .i64 r54))) (Opds.cons (Opd.tmp 143 (.d (.int .i64 (w64 ((1 : Int) + r55))))) Opds.nil)) (by kernel_rfl) (es := ([(.int .i64 r54), (.int .i64 (w64 ((1 : Int) + r55)))] : List D)) (by rfl) (by rfl) (by kernel_rfl) (by simp) (ltN hN rfl))
            (OpJs.cons (OpJ.move (ltN hN rfl) (Opd.tmp 2 (.d (.int .i64 a2))))
            (OpJs.cons (OpJ.callFn hB fnOk10 (exchangepointmill_Mod_ac a2 (100 : Int) r56 hr56) [] (by kernel_rfl) (ltN hN rfl) (by kernel_rfl) (OpdL.cons (Opd.tmp 145 (.d (.int .i64 a2))) (OpdL.cons (Opd.int .i64 (100)) OpdL.nil)))
            (OpJs.cons (OpJ.mul (ltN hN rfl) (Opd.tmp 146 (.d (.int .i64 r56))) (Opd.int .i64 (37500000)))
            (OpJs.cons (OpJ.buildSlice Try.underlying22 tyS3 tyZD3 (by rfl) (by decide) (by decide) (Opds.cons (Opd.tmp 147 (.d (.int .i64 (w64 (r56 * (37500000 : Int)))))) (Opds.cons (Opd.int .i64 (300)) Opds.nil)) (by kernel_rfl) (es := ([(.int .i64 (w64 (r56 * (37500000 : Int)))), (.int .i64 (300 : Int))] : List D)) (by rfl) (by rfl) (by kernel_rfl) (by simp) (ltN hN rfl))
            (OpJs.cons (OpJ.buildSlice Try.underlying42 tyS22 tyZD22 (by rfl) (by decide) (by decide) (Opds.cons (Opd.tmp 138 (.d (.list 1 (([a2, a3] : List Int).map (eI .i64))))) (Opds.cons (Opd.tmp 144 (.d (.list 1 (([r54, (w64 ((1 : Int) + r55))] : List Int).map (eI .i64))))) (Opds.cons (Opd.tmp 148 (.d (.list 1 (([(w64 (r56 * (37500000 : Int))), (300 : Int)] : List Int).map (eI .i64))))) Opds.nil))) (by kernel_rfl) (es := ([(.list 1 (([a2, a3] : List Int).map (eI .i64))), (.list 1 (([r54, (w64 ((1 : Int) + r55))] : List Int).map (eI .i64))), (.list 1 (([(w64 (r56 * (37500000 : Int))), (300 : Int)] : List Int).map (eI .i64)))] : List D)) (by rfl) (by rfl) (by kernel_rfl) (by simp) (ltN hN rfl))
            (OpJs.cons (OpJ.val (v' := (.d (.int .i64 (([([a2, a3] : List Int), ([r54, (w64 ((1 : Int) + r55))] : List Int), ([(w64 (r56 * (37500000 : Int))), (300 : Int)] : List Int)] : List (List Int)).length : Int)))) (by simp) (OpJ.lenD Try.underlying42 (ltN hN rfl) (Opd.tmp 149 (.d (.list 1 (([([a2, a3] : List Int), ([r54, (w64 ((1 : Int) + r55))] : List Int), ([(w64 (r56 * (37500000 : Int))), (300 : Int)] : List Int)] : List (List Int)).map e_LeIi64))))))
            (OpJs.cons (OpJ.move (ltN hN rfl) (Opd.int .i64 (0)))
            (OpJs.nil))))))))))))))))) (by rfl) (by rfl) ?_
          refine seqQ_n ?_
          refine AWp.ghost (Mat.pat [] [(1, (.d (.list 1 (a1.map (eI .i64))))), (3, (.d (.int .i64 a3))), (4, (.d (.int .i64 a4))), (14, (.ptr 1014 0 [])), (149, (.d (.list 1 (([([a2, a3] : List Int), ([r54, (w64 ((1 : Int) + r55))] : List Int), ([(w64 (r56 * (37500000 : Int))), (300 : Int)] : List Int)] : List (List Int)).map e_LeIi64)))), (150, (.d (.int .i64 (([([a2, a3] : List Int), ([r54, (w64 ((1 : Int) + r55))] : List Int), ([(w64 (r56 * (37500000 : Int))), (300 : Int)] : List Int)] : List (List Int)).length : Int)))), (151, (.d (.int .i64 (0 : Int))))] [(1014, some (.box 30 (.d (e_api_Series r4.1))))] hB (by rfl) (by rfl) (by rfl)) ?_
          refine AWp.block ?_
          obtain ⟨x87, hx88, h⟩ := bindS h
          refine AWp.ghost (Mat.pat [] ((fun s57 : Int => ([(1, (.d (.list 1 (a1.map (eI .i64))))), (3, (.d (.int .i64 a3))), (4, (.d (.int .i64 a4))), (14, (.ptr 1014 0 [])), (149, (.d (.list 1 (([([a2, a3] : List Int), ([r54, (w64 ((1 : Int) + r55))] : List Int), ([(w64 (r56 * (37500000 : Int))), (300 : Int)] : List Int)] : List (List Int)).map e_LeIi64)))), (150, (.d (.int .i64 (([([a2, a3] : List Int), ([r54, (w64 ((1 : Int) + r55))] : List Int), ([(w64 (r56 * (37500000 : Int))), (300 : Int)] : List Int)] : List (List Int)).length : Int)))), (151, (.d (.int .i64 s57)))] : EL)) (0 : Int)) ((fun s57 : Int => ([(1014, some (.box 30 (.d (e_api_Series r4.1))))] : OL)) (0 : Int)) hB (by rfl) (by rfl) (by rfl)) ?_
          refine AWp.loopS (exchangepointlaw40_PercentileRates_L1 a2 a3 r54 r55 r56) (fun s57 : Int => ([(1, (.d (.list 1 (a1.map (eI .i64))))), (3, (.d (.int .i64 a3))), (4, (.d (.int .i64 a4))), (14, (.ptr 1014 0 [])), (149, (.d (.list 1 (([([a2, a3] : List Int), ([r54, (w64 ((1 : Int) + r55))] : List Int), ([(w64 (r56 * (37500000 : Int))), (300 : Int)] : List Int)] : List (List Int)).map e_LeIi64)))), (150, (.d (.int .i64 (([([a2, a3] : List Int), ([r54, (w64 ((1 : Int) + r55))] : List Int), ([(w64 (r56 * (37500000 : Int))), (300 : Int)] : List Int)] : List (List Int)).length : Int)))), (151, (.d (.int .i64 s57)))] : EL)) (fun s57 : Int => ([(1014, some (.box 30 (.d (e_api_Series r4.1))))] : OL)) (fun (x : (Unit) ⊕ (Unit)) e E' O' => match x with | (.inl _p) => e = .ret ∧ Mat B E' O' ([(12, (.d (.bool false)))] : EL) ([] : OL) | (.inr _p) => e = .exit 3 ∧ Mat B E' O' ([(1, (.d (.list 1 (a1.map (eI .i64))))), (3, (.d (.int .i64 a3))), (4, (.d (.int .i64 a4))), (14, (.ptr 1014 0 []))] : EL) ([(1014, some (.box 30 (.d (e_api_Series r4.1))))] : OL)) hx88 (fun s57 y h => ?_) (fun e E' O' hR => ?_)
          · unfold exchangepointlaw40_PercentileRates_L1 at h
            show AWp _ _ _ _ ([(1, (.d (.list 1 (a1.map (eI .i64))))), (3, (.d (.int .i64 a3))), (4, (.d (.int .i64 a4))), (14, (.ptr 1014 0 [])), (149, (.d (.list 1 (([([a2, a3] : List Int), ([r54, (w64 ((1 : Int) + r55))] : List Int), ([(w64 (r56 * (37500000 : Int))), (300 : Int)] : List Int)] : List (List Int)).map e_LeIi64)))), (150, (.d (.int .i64 (([([a2, a3] : List Int), ([r54, (w64 ((1 : Int) + r55))] : List Int), ([(w64 (r56 * (37500000 : Int))), (300 : Int)] : List Int)] : List (List Int)).length : Int)))), (151, (.d (.int .i64 s57)))] : EL) ([(1014, some (.box 30 (.d (e_api_Series r4.1))))] : OL)
            refine AWp.seq ?_
            refine AWp.region (OpJs.cons (OpJ.lss (ltN hN rfl) (Opd.tmp 151 (.d (.int .i64 s57))) (Opd.tmp 150 (.d (.int .i64 (([([a2, a3] : List Int), ([r54, (w64 ((1 : Int) + r55))] : List Int), ([(w64 (r56 * (37500000 : Int))), (300 : Int)] : List Int)] : List (List Int)).length : Int)))))
              (OpJs.nil)) (by rfl) (by rfl) ?_
            refine seqQ_n ?_
            refine AWp.ghost (Mat.pat [] [(1, (.d (.list 1 (a1.map (eI .i64))))), (3, (.d (.int .i64 a3))), (4, (.d (.int .i64 a4))), (14, (.ptr 1014 0 [])), (149, (.d (.list 1 (([([a2, a3] : List Int), ([r54, (w64 ((1 : Int) + r55))] : List Int), ([(w64 (r56 * (37500000 : Int))), (300 : Int)] : List Int)] : List (List Int)).map e_LeIi64)))), (150, (.d (.int .i64 (([([a2, a3] : List Int), ([r54, (w64 ((1 : Int) + r55))] : List Int), ([(w64 (r56 * (37500000 : Int))), (300 : Int)] : List Int)] : List (List Int)).length : Int)))), (151, (.d (.int .i64 s57))), (152, (.d (.bool (decide (s57 < (([([a2, a3] : List Int), ([r54, (w64 ((1 : Int) + r55))] : List Int), ([(w64 (r56 * (37500000 : Int))), (300 : Int)] : List Int)] : List (List Int)).length : Int))))))] [(1014, some (.box 30 (.d (e_api_Series r4.1))))] hB (by rfl) (by rfl) (by rfl)) ?_
            refine AWp.seq ?_
            refine AWp.cond (b := (decide (s57 < (([([a2, a3] : List Int), ([r54, (w64 ((1 : Int) + r55))] : List Int), ([(w64 (r56 * (37500000 : Int))), (300 : Int)] : List Int)] : List (List Int)).length : Int)))) (by rfl) (fun hg78 => ?_) (fun hg78 => ?_)
            · replace h := ite_t hg78 h
              refine AWp.skip ?_
              refine seqQ_n ?_
              refine AWp.seq ?_
              refine AWp.block ?_
              refine AWp.seq ?_
              obtain ⟨x79, hx79, h⟩ := bindS h
              refine AWp.region (OpJs.cons (OpJ.indexD (el := (.list 1 (x79.map (eI .i64)))) Try.underlying42 tyS22 (idx_some hx79).1 (get_map e_LeIi64 (idx_some hx79).2) (ltN hN rfl) (Opd.tmp 149 (.d (.list 1 (([([a2, a3] : List Int), ([r54, (w64 ((1 : Int) + r55))] : List Int), ([(w64 (r56 * (37500000 : Int))), (300 : Int)] : List Int)] : List (List Int)).map e_LeIi64)))) (Opd.tmp 151 (.d (.int .i64 s57))))
                (OpJs.cons (OpJ.loadD tyS22 (by rfl) (by rfl) (ltN hN rfl) (Opd.tmp 153 (.dptr (.list 1 (x79.map (eI .i64))))))
                (OpJs.cons (OpJ.assign (ltN hN rfl) (Opd.tmp 154 (.d (.list 1 (x79.map (eI .i64))))))
                (OpJs.nil)))) (by rfl) (by rfl) ?_
              refine seqQ_n ?_
              refine AWp.ghost (Mat.pat [] [(1, (.d (.list 1 (a1.map (eI .i64))))), (3, (.d (.int .i64 a3))), (4, (.d (.int .i64 a4))), (14, (.ptr 1014 0 [])), (23, (.d (.list 1 (x79.map (eI .i64))))), (149, (.d (.list 1 (([([a2, a3] : List Int), ([r54, (w64 ((1 : Int) + r55))] : List Int), ([(w64 (r56 * (37500000 : Int))), (300 : Int)] : List Int)] : List (List Int)).map e_LeIi64)))), (150, (.d (.int .i64 (([([a2, a3] : List Int), ([r54, (w64 ((1 : Int) + r55))] : List Int), ([(w64 (r56 * (37500000 : Int))), (300 : Int)] : List Int)] : List (List Int)).length : Int)))), (151, (.d (.int .i64 s57)))] [(1014, some (.box 30 (.d (e_api_Series r4.1))))] hB (by rfl) (by rfl) (by rfl)) ?_
              refine AWp.seq ?_
              obtain ⟨x80, hx80, h⟩ := bindS h
              obtain ⟨x81, hx81, h⟩ := bindS h
              obtain ⟨r82, hr82, h⟩ := bindS h
              refine AWp.draws (by kernel_rfl) (OpJs.cons (OpJ.move (ltN hN rfl) (Opd.tmp 23 (.d (.list 1 (x79.map (eI .i64))))))
                (OpJs.cons (OpJ.indexD (el := (.int .i64 x80)) Try.underlying22 tyS3 (idx_some hx80).1 (get_map (eI .i64) (idx_some hx80).2) (ltN hN rfl) (Opd.tmp 156 (.d (.list 1 (x79.map (eI .i64))))) (Opd.int .i64 (0)))
                (OpJs.cons (OpJ.loadD tyS3 (by rfl) (by rfl) (ltN hN rfl) (Opd.tmp 157 (.dptr (.int .i64 x80))))
                (OpJs.cons (OpJ.move (ltN hN rfl) (Opd.tmp 23 (.d (.list 1 (x79.map (eI .i64))))))
                (OpJs.cons (OpJ.indexD (el := (.int .i64 x81)) Try.underlying22 tyS3 (idx_some hx81).1 (get_map (eI .i64) (idx_some hx81).2) (ltN hN rfl) (Opd.tmp 159 (.d (.list 1 (x79.map (eI .i64))))) (Opd.int .i64 (1)))
                (OpJs.cons (OpJ.loadD tyS3 (by rfl) (by rfl) (ltN hN rfl) (Opd.tmp 160 (.dptr (.int .i64 x81))))
                (OpJs.cons (OpJ.callFn hB fnOk20 (percentile_Rate_ac x80 x81 r82 hr82) [] (by kernel_rfl) (ltN hN rfl) (by kernel_rfl) (OpdL.cons (Opd.tmp 158 (.d (.int .i64 x80))) (OpdL.cons (Opd.tmp 161 (.d (.int .i64 x81))) OpdL.nil)))
                (OpJs.cons (OpJ.move (ltN hN rfl) (Opd.tmp 162 (.tup [(.d (.int .i64 r82.1)), (.d (.int .i64 r82.2))])))
                (OpJs.cons (OpJ.extract (v := (.d (.int .i64 r82.1))) (by rfl) rfl (ltN hN rfl) (Opd.tmp 155 (.tup [(.d (.int .i64 r82.1)), (.d (.int .i64 r82.2))])))
                (OpJs.cons (OpJ.extract (v := (.d (.int .i64 r82.2))) (by rfl) rfl (ltN hN rfl) (Opd.tmp 155 (.tup [(.d (.int .i64 r82.1)), (.d (.int .i64 r82.2))])))
                (OpJs.cons (OpJ.assign (ltN hN rfl) (Opd.tmp 163 (.d (.int .i64 r82.1))))
                (OpJs.cons (OpJ.assign (ltN hN rfl) (Opd.tmp 164 (.d (.int .i64 r82.2))))
                (OpJs.nil))))))))))))) (by kernel_rfl) (by rfl) (by rfl) ?_
              refine seqQ_n ?_
              refine AWp.ghost (Mat.pat [] [(1, (.d (.list 1 (a1.map (eI .i64))))), (3, (.d (.int .i64 a3))), (4, (.d (.int .i64 a4))), (14, (.ptr 1014 0 [])), (23, (.d (.list 1 (x79.map (eI .i64))))), (24, (.d (.int .i64 r82.1))), (25, (.d (.int .i64 r82.2))), (149, (.d (.list 1 (([([a2, a3] : List Int), ([r54, (w64 ((1 : Int) + r55))] : List Int), ([(w64 (r56 * (37500000 : Int))), (300 : Int)] : List Int)] : List (List Int)).map e_LeIi64)))), (150, (.d (.int .i64 (([([a2, a3] : List Int), ([r54, (w64 ((1 : Int) + r55))] : List Int), ([(w64 (r56 * (37500000 : Int))), (300 : Int)] : List Int)] : List (List Int)).length : Int)))), (151, (.d (.int .i64 s57)))] [(1014, some (.box 30 (.d (e_api_Series r4.1))))] hB (by rfl) (by rfl) (by rfl)) ?_
              refine AWp.seq ?_
              obtain ⟨x83, hx83, h⟩ := bindS h
              obtain ⟨x84, hx84, h⟩ := bindS h
              obtain ⟨r85, hr85, h⟩ := bindS h
              refine AWp.draws (by kernel_rfl) (OpJs.cons (OpJ.move (ltN hN rfl) (Opd.tmp 23 (.d (.list 1 (x79.map (eI .i64))))))
                (OpJs.cons (OpJ.indexD (el := (.int .i64 x83)) Try.underlying22 tyS3 (idx_some hx83).1 (get_map (eI .i64) (idx_some hx83).2) (ltN hN rfl) (Opd.tmp 166 (.d (.list 1 (x79.map (eI .i64))))) (Opd.int .i64 (0)))
                (OpJs.cons (OpJ.loadD tyS3 (by rfl) (by rfl) (ltN hN rfl) (Opd.tmp 167 (.dptr (.int .i64 x83))))
                (OpJs.cons (OpJ.move (ltN hN rfl) (Opd.tmp 23 (.d (.list 1 (x79.map (eI .i64))))))
                (OpJs.cons (OpJ.indexD (el := (.int .i64 x84)) Try.underlying22 tyS3 (idx_some hx84).1 (get_map (eI .i64) (idx_some hx84).2) (ltN hN rfl) (Opd.tmp 169 (.d (.list 1 (x79.map (eI .i64))))) (Opd.int .i64 (1)))
                (OpJs.cons (OpJ.loadD tyS3 (by rfl) (by rfl) (ltN hN rfl) (Opd.tmp 170 (.dptr (.int .i64 x84))))
                (OpJs.cons (OpJ.callFn hB fnOk21 (exchangepointref40_Rate_ac x83 x84 r85 hr85) [] (by kernel_rfl) (ltN hN rfl) (by kernel_rfl) (OpdL.cons (Opd.tmp 168 (.d (.int .i64 x83))) (OpdL.cons (Opd.tmp 171 (.d (.int .i64 x84))) OpdL.nil)))
                (OpJs.cons (OpJ.move (ltN hN rfl) (Opd.tmp 172 (.tup [(.d (.int .i64 r85.1)), (.d (.int .i64 r85.2))])))
                (OpJs.cons (OpJ.extract (v := (.d (.int .i64 r85.1))) (by rfl) rfl (ltN hN rfl) (Opd.tmp 165 (.tup [(.d (.int .i64 r85.1)), (.d (.int .i64 r85.2))])))
                (OpJs.cons (OpJ.extract (v := (.d (.int .i64 r85.2))) (by rfl) rfl (ltN hN rfl) (Opd.tmp 165 (.tup [(.d (.int .i64 r85.1)), (.d (.int .i64 r85.2))])))
                (OpJs.cons (OpJ.assign (ltN hN rfl) (Opd.tmp 173 (.d (.int .i64 r85.1))))
                (OpJs.cons (OpJ.assign (ltN hN rfl) (Opd.tmp 174 (.d (.int .i64 r85.2))))
                (OpJs.nil))))))))))))) (by kernel_rfl) (by rfl) (by rfl) ?_
              refine seqQ_n ?_
              refine AWp.ghost (Mat.pat [] [(1, (.d (.list 1 (a1.map (eI .i64))))), (3, (.d (.int .i64 a3))), (4, (.d (.int .i64 a4))), (14, (.ptr 1014 0 [])), (24, (.d (.int .i64 r82.1))), (25, (.d (.int .i64 r82.2))), (26, (.d (.int .i64 r85.1))), (27, (.d (.int .i64 r85.2))), (149, (.d (.list 1 (([([a2, a3] : List Int), ([r54, (w64 ((1 : Int) + r55))] : List Int), ([(w64 (r56 * (37500000 : Int))), (300 : Int)] : List Int)] : List (List Int)).map e_LeIi64)))), (150, (.d (.int .i64 (([([a2, a3] : List Int), ([r54, (w64 ((1 : Int) + r55))] : List Int), ([(w64 (r56 * (37500000 : Int))), (300 : Int)] : List Int)] : List (List Int)).length : Int)))), (151, (.d (.int .i64 s57)))] [(1014, some (.box 30 (.d (e_api_Series r4.1))))] hB (by rfl) (by rfl) (by rfl)) ?_
              refine AWp.seq ?_
              refine AWp.region (OpJs.cons (OpJ.move (ltN hN rfl) (Opd.tmp 24 (.d (.int .i64 r82.1))))
                (OpJs.cons (OpJ.move (ltN hN rfl) (Opd.tmp 26 (.d (.int .i64 r85.1))))
                (OpJs.cons (OpJ.neqI (ltN hN rfl) (Opd.tmp 175 (.d (.int .i64 r82.1))) (Opd.tmp 176 (.d (.int .i64 r85.1))))
                (OpJs.cons (OpJ.move (ltN hN rfl) (Opd.tmp 177 (.d (.bool (r82.1 != r85.1)))))
                (OpJs.cons (OpJ.opt' (v := (.d (.int .i64 r82.2))) (OpJ.move (ltN hN rfl) (Opd.tmp 25 (.d (.int .i64 r82.2)))) (by rfl) (GuardV.plain _) (ltN hN rfl) (by rfl) (by rfl) (by rfl) (by rfl) (OptL.keep rfl OptL.nil))
                (OpJs.cons (OpJ.opt' (v := (.d (.int .i64 r85.2))) (OpJ.move (ltN hN rfl) (Opd.tmp 27 (.d (.int .i64 r85.2)))) (by rfl) (GuardV.plain _) (ltN hN rfl) (by rfl) (by rfl) (by rfl) (by rfl) (OptL.keep rfl OptL.nil))
                (OpJs.cons (OpJ.opt' (v := (.d (.bool (r82.2 != r85.2)))) (OpJ.neqI (ltN hN rfl) (Opd.tmp 179 (.d (.int .i64 r82.2))) (Opd.tmp 180 (.d (.int .i64 r85.2)))) (by rfl) (GuardV.plain _) (ltN hN rfl) (by rfl) (by rfl) (by rfl) (by rfl) (OptL.opt (OptL.opt OptL.nil)))
                (OpJs.cons (OpJ.pickOr rfl (ltN hN rfl) (Opd.tmp 178 (.d (.bool (r82.1 != r85.1)))) (Opd.tmp 181 (.opt ((r82.1 != r85.1) == false) (.d (.bool (r82.2 != r85.2))))))
                (OpJs.nil))))))))) (by rfl) (by rfl) ?_
              refine seqQ_n ?_
              refine AWp.ghost (Mat.pat [] [(1, (.d (.list 1 (a1.map (eI .i64))))), (3, (.d (.int .i64 a3))), (4, (.d (.int .i64 a4))), (14, (.ptr 1014 0 [])), (149, (.d (.list 1 (([([a2, a3] : List Int), ([r54, (w64 ((1 : Int) + r55))] : List Int), ([(w64 (r56 * (37500000 : Int))), (300 : Int)] : List Int)] : List (List Int)).map e_LeIi64)))), (150, (.d (.int .i64 (([([a2, a3] : List Int), ([r54, (w64 ((1 : Int) + r55))] : List Int), ([(w64 (r56 * (37500000 : Int))), (300 : Int)] : List Int)] : List (List Int)).length : Int)))), (151, (.d (.int .i64 s57))), (182, (.d (.bool ((r82.1 != r85.1) || (r82.2 != r85.2)))))] [(1014, some (.box 30 (.d (e_api_Series r4.1))))] hB (by rfl) (by rfl) (by rfl)) ?_
              refine AWp.cond (b := ((r82.1 != r85.1) || (r82.2 != r85.2))) (by rfl) (fun hg86 => ?_) (fun hg86 => ?_)
              · replace h := ite_t hg86 h
                refine AWp.seq ?_
                refine AWp.region (OpJs.cons (OpJ.assign (ltN hN rfl) (Opd.bool false))
                  (OpJs.nil)) (by rfl) (by rfl) ?_
                refine seqQ_n ?_
                refine AWp.ghost (Mat.pat [] [(12, (.d (.bool false)))] [] hB (by rfl) (by rfl) (by rfl)) ?_
                refine AWp.ret ?_
                refine blkQ_r ?_
                refine seqQ_r ?_
                obtain rfl := Option.some.inj h
                exact ⟨(fun hc => by cases hc), rfl, (Mat.pat [] ((fun _ : Unit => ([(12, (.d (.bool false)))] : EL)) ()) ((fun _ : Unit => ([] : OL)) ()) hB (by rfl) (by rfl) (by rfl))⟩
              · replace h := ite_f hg86 h
                refine AWp.skip ?_
                refine blkQ_n ?_
                refine seqQ_n ?_
                refine AWp.region (OpJs.cons (OpJ.add (ltN hN rfl) (Opd.tmp 151 (.d (.int .i64 s57))) (Opd.int .i64 (1)))
                  (OpJs.cons (OpJ.move (ltN hN rfl) (Opd.tmp 183 (.d (.int .i64 (w64 (s57 + (1 : Int)))))))
                  (OpJs.nil))) (by rfl) (by rfl) ?_
                obtain rfl := Option.some.inj h
                exact ⟨rfl, (Mat.trans (Mat.pat [] [(1, (.d (.list 1 (a1.map (eI .i64))))), (3, (.d (.int .i64 a3))), (4, (.d (.int .i64 a4))), (14, (.ptr 1014 0 [])), (149, (.d (.list 1 (([([a2, a3] : List Int), ([r54, (w64 ((1 : Int) + r55))] : List Int), ([(w64 (r56 * (37500000 : Int))), (300 : Int)] : List Int)] : List (List Int)).map e_LeIi64)))), (150, (.d (.int .i64 (([([a2, a3] : List Int), ([r54, (w64 ((1 : Int) + r55))] : List Int), ([(w64 (r56 * (37500000 : Int))), (300 : Int)] : List Int)] : List (List Int)).length : Int)))), (151, (.d (.int .i64 (w64 (s57 + (1 : Int))))))] [(1014, some (.box 30 (.d (e_api_Series r4.1))))] hB (by rfl) (by rfl) (by rfl)) (Mat.pat [] ((fun s57 : Int => ([(1, (.d (.list 1 (a1.map (eI .i64))))), (3, (.d (.int .i64 a3))), (4, (.d (.int .i64 a4))), (14, (.ptr 1014 0 [])), (149, (.d (.list 1 (([([a2, a3] : List Int), ([r54, (w64 ((1 : Int) + r55))] : List Int), ([(w64 (r56 * (37500000 : Int))), (300 : Int)] : List Int)] : List (List Int)).map e_LeIi64)))), (150, (.d (.int .i64 (([([a2, a3] : List Int), ([r54, (w64 ((1 : Int) + r55))] : List Int), ([(w64 (r56 * (37500000 : Int))), (300 : Int)] : List Int)] : List (List Int)).length : Int)))), (151, (.d (.int .i64 s57)))] : EL)) (w64 (s57 + (1 : Int)))) ((fun s57 : Int => ([(1014, some (.box 30 (.d (e_api_Series r4.1))))] : OL)) (w64 (s57 + (1 : Int)))) hB (by rfl) (by rfl) (by rfl)))⟩
            · replace h := ite_f hg78 h
              refine AWp.exit ?_
              refine seqQ_e ?_
              obtain rfl := Option.some.inj h
              exact ⟨(fun hc => by cases hc), rfl, (Mat.pat [] ((fun _ : Unit => ([(1, (.d (.list 1 (a1.map (eI .i64))))), (3, (.d (.int .i64 a3))), (4, (.d (.int .i64 a4))), (14, (.ptr 1014 0 []))] : EL)) ()) ((fun _ : Unit => ([(1014, some (.box 30 (.d (e_api_Series r4.1))))] : OL)) ()) hB (by rfl) (by rfl) (by rfl))⟩
          · rcases x87 with _ | _
            · obtain ⟨rfl, hmat⟩ := hR
              refine blkQ_r ?_
              refine seqQ_r ?_
              obtain rfl := Option.some.inj h
              exact ⟨.inl rfl, _, _, (Mat.trans hmat (Mat.pat [] [(12, (.d (.bool false)))] [] hB (by rfl) (by rfl) (by rfl))), [(.d (.bool false))], (Res.tmp (by rfl) (by rfl) Res.nil), rfl, by rfl, by rfl, by rfl⟩
            · obtain ⟨rfl, hmat⟩ := hR
              refine blkQ_hit ?_
              refine seqQ_n ?_
              refine AWp.ghost hmat ?_
              refine AWp.seq ?_
              refine AWp.seq ?_
              refine AWp.region (OpJs.cons (OpJ.move (ltN hN rfl) (Opd.tmp 1 (.d (.list 1 (a1.map (eI .i64))))))
                (OpJs.cons (OpJ.val (v' := (.ptr 1014 2 [2])) (by rfl) (OpJ.fieldP Try.underlying30 (by rfl) (o := 2) (by rfl) tyS22 (by decide) (obj := (.box 30 (.d (e_api_Series r4.1)))) (ltN hN rfl) (Opd.tmp 14 (.ptr 1014 0 []))))
                (OpJs.cons (OpJ.loadB (bt := 30) (c := (.d (e_api_Series r4.1))) (v := (.d (.list 1 (r4.1.fIn.map (eI .i64))))) tyS22 (At.dst1 (f := (.list 1 (r4.1.fIn.map (eI .i64)))) (by rfl) (by rfl) (At.here _) (by first | rfl | omega)) (by rfl) (by rfl) rfl (ltN hN rfl) (Opd.tmp 185 (.ptr 1014 2 [2])))
                (OpJs.cons (OpJ.val (v' := (.ptr 1014 3 [3])) (by rfl) (OpJ.fieldP Try.underlying30 (by rfl) (o := 3) (by rfl) tyS22 (by decide) (obj := (.box 30 (.d (e_api_Series r4.1)))) (ltN hN rfl) (Opd.tmp 14 (.ptr 1014 0 []))))
                (OpJs.cons (OpJ.loadB (bt := 30) (c := (.d (e_api_Series r4.1))) (v := (.d (.list 1 (r4.1.fOut.map (eI .i64))))) tyS22 (At.dst1 (f := (.list 1 (r4.1.fOut.map (eI .i64)))) (by rfl) (by rfl) (At.here _) (by first | rfl | omega)) (by rfl) (by rfl) rfl (ltN hN rfl) (Opd.tmp 187 (.ptr 1014 3 [3])))
                (OpJs.cons (OpJ.buildSlice Try.underlying42 tyS22 tyZD22 (by rfl) (by decide) (by decide) (Opds.cons (Opd.tmp 184 (.d (.list 1 (a1.map (eI .i64))))) (Opds.cons (Opd.tmp 186 (.d (.list 1 (r4.1.fIn.map (eI .i64))))) (Opds.cons (Opd.tmp 188 (.d (.list 1 (r4.1.fOut.map (eI .i64))))) Opds.nil))) (by kernel_rfl) (es := ([(.list 1 (a1.map (eI .i64))), (.list 1 (r4.1.fIn.map (eI .i64))), (.list 1 (r4.1.fOut.map (eI .i64)))] : List D)) (by rfl) (by rfl) (by kernel_rfl) (by simp) (ltN hN rfl))
                (OpJs.cons (OpJ.val (v' := (.d (.int .i64 (([a1, r4.1.fIn, r4.1.fOut] : List (List Int)).length : Int)))) (by simp) (OpJ.lenD Try.underlying42 (ltN hN rfl) (Opd.tmp 189 (.d (.list 1 (([a1, r4.1.fIn, r4.1.fOut] : List (List Int)).map e_LeIi64))))))
                (OpJs.cons (OpJ.move (ltN hN rfl) (Opd.int .i64 (0)))
                (OpJs.nil))))))))) (by rfl) (by rfl) ?_
              refine seqQ_n ?_
              refine AWp.ghost (Mat.pat [] [(3, (.d (.int .i64 a3))), (4, (.d (.int .i64 a4))), (189, (.d (.list 1 (([a1, r4.1.fIn, r4.1.fOut] : List (List Int)).map e_LeIi64)))), (190, (.d (.int .i64 (([a1, r4.1.fIn, r4.1.fOut] : List (List Int)).length : Int)))), (191, (.d (.int .i64 (0 : Int))))] [] hB (by rfl) (by rfl) (by rfl)) ?_
              refine AWp.block ?_
              obtain ⟨x208, hx209, h⟩ := bindS h
              refine AWp.ghost (Mat.pat [] ((fun s89 : Int => ([(3, (.d (.int .i64 a3))), (4, (.d (.int .i64 a4))), (189, (.d (.list 1 (([a1, r4.1.fIn, r4.1.fOut] : List (List Int)).map e_LeIi64)))), (190, (.d (.int .i64 (([a1, r4.1.fIn, r4.1.fOut] : List (List Int)).length : Int)))), (191, (.d (.int .i64 s89)))] : EL)) (0 : Int)) ((fun s89 : Int => ([] : OL)) (0 : Int)) hB (by rfl) (by rfl) (by rfl)) ?_
              refine AWp.loopS (exchangepointlaw40_PercentileRates_L2 a1 a3 a4 r4) (fun s89 : Int => ([(3, (.d (.int .i64 a3))), (4, (.d (.int .i64 a4))), (189, (.d (.list 1 (([a1, r4.1.fIn, r4.1.fOut] : List (List Int)).map e_LeIi64)))), (190, (.d (.int .i64 (([a1, r4.1.fIn, r4.1.fOut] : List (List Int)).length : Int)))), (191, (.d (.int .i64 s89)))] : EL)) (fun s89 : Int => ([] : OL)) (fun (x : (Unit) ⊕ (Unit)) e E' O' => match x with | (.inl _p) => e = .ret ∧ Mat B E' O' ([(12, (.d (.bool false)))] : EL) ([] : OL) | (.inr _p) => e = .exit 5 ∧ Mat B E' O' ([] : EL) ([] : OL)) hx209 (fun s89 y h => ?_) (fun e E' O' hR => ?_)
              · unfold exchangepointlaw40_PercentileRates_L2 at h
                show AWp _ _ _ _ ([(3, (.d (.int .i64 a3))), (4, (.d (.int .i64 a4))), (189, (.d (.list 1 (([a1, r4.1.fIn, r4.1.fOut] : List (List Int)).map e_LeIi64)))), (190, (.d (.int .i64 (([a1, r4.1.fIn, r4.1.fOut] : List (List Int)).length : Int)))), (191, (.d (.int .i64 s89)))] : EL) ([] : OL)
                refine AWp.seq ?_
                refine AWp.region (OpJs.cons (OpJ.lss (ltN hN rfl) (Opd.tmp 191 (.d (.int .i64 s89))) (Opd.tmp 190 (.d (.int .i64 (([a1, r4.1.fIn, r4.1.fOut] : List (List Int)).length : Int)))))
                  (OpJs.nil)) (by rfl) (by rfl) ?_
                refine seqQ_n ?_
                refine AWp.ghost (Mat.pat [] [(3, (.d (.int .i64 a3))), (4, (.d (.int .i64 a4))), (189, (.d (.list 1 (([a1, r4.1.fIn, r4.1.fOut] : List (List Int)).map e_LeIi64)))), (190, (.d (.int .i64 (([a1, r4.1.fIn, r4.1.fOut] : List (List Int)).length : Int)))), (191, (.d (.int .i64 s89))), (192, (.d (.bool (decide (s89 < (([a1, r4.1.fIn, r4.1.fOut] : List (List Int)).length : Int))))))] [] hB (by rfl) (by rfl) (by rfl)) ?_
                refine AWp.seq ?_
                refine AWp.cond (b := (decide (s89 < (([a1, r4.1.fIn, r4.1.fOut] : List (List Int)).length : Int)))) (by rfl) (fun hg170 => ?_) (fun hg170 => ?_)
                · replace h := ite_t hg170 h
                  refine AWp.skip ?_
                  refine seqQ_n ?_
                  refine AWp.seq ?_
                  refine AWp.block ?_
                  refine AWp.seq ?_
                  obtain ⟨x171, hx171, h⟩ := bindS h
                  refine AWp.region (OpJs.cons (OpJ.indexD (el := (.list 1 (x171.map (eI .i64)))) Try.underlying42 tyS22 (idx_some hx171).1 (get_map e_LeIi64 (idx_some hx171).2) (ltN hN rfl) (Opd.tmp 189 (.d (.list 1 (([a1, r4.1.fIn, r4.1.fOut] : List (List Int)).map e_LeIi64)))) (Opd.tmp 191 (.d (.int .i64 s89))))
                    (OpJs.cons (OpJ.loadD tyS22 (by rfl) (by rfl) (ltN hN rfl) (Opd.tmp 193 (.dptr (.list 1 (x171.map (eI .i64))))))
                    (OpJs.cons (OpJ.assign (ltN hN rfl) (Opd.tmp 194 (.d (.list 1 (x171.map (eI .i64))))))
                    (OpJs.nil)))) (by rfl) (by rfl) ?_
                  refine seqQ_n ?_
                  refine AWp.ghost (Mat.pat [] [(3, (.d (.int .i64 a3))), (4, (.d (.int .i64 a4))), (29, (.d (.list 1 (x171.map (eI .i64))))), (189, (.d (.list 1 (([a1, r4.1.fIn, r4.1.fOut] : List (List Int)).map e_LeIi64)))), (190, (.d (.int .i64 (([a1, r4.1.fIn, r4.1.fOut] : List (List Int)).length : Int)))), (191, (.d (.int .i64 s89)))] [] hB (by rfl) (by rfl) (by rfl)) ?_
                  refine AWp.seq ?_
                  obtain ⟨r172, hr172, h⟩ := bindS h
                  refine AWp.region (OpJs.cons (OpJ.move (ltN hN rfl) (Opd.tmp 29 (.d (.list 1 (x171.map (eI .i64))))))
                    (OpJs.cons (OpJ.callFn hB fnOk22 (percentile_Rates_ac x171 (300 : Int) r172 hr172) [] (by kernel_rfl) (ltN hN rfl) (by kernel_rfl) (OpdL.cons (Opd.tmp 196 (.d (.list 1 (x171.map (eI .i64))))) (OpdL.cons (Opd.int .i64 (300)) OpdL.nil)))
                    (OpJs.cons (OpJ.move (ltN hN rfl) (Opd.tmp 197 (.tup [(.d (.list 1 (r172.1.map (eI .i64)))), (.d (.int .i64 r172.2))])))
                    (OpJs.cons (OpJ.extract (v := (.d (.list 1 (r172.1.map (eI .i64))))) (by rfl) rfl (ltN hN rfl) (Opd.tmp 195 (.tup [(.d (.list 1 (r172.1.map (eI .i64)))), (.d (.int .i64 r172.2))])))
                    (OpJs.cons (OpJ.extract (v := (.d (.int .i64 r172.2))) (by rfl) rfl (ltN hN rfl) (Opd.tmp 195 (.tup [(.d (.list 1 (r172.1.map (eI .i64)))), (.d (.int .i64 r172.2))])))
                    (OpJs.cons (OpJ.assign (ltN hN rfl) (Opd.tmp 198 (.d (.list 1 (r172.1.map (eI .i64))))))
                    (OpJs.cons (OpJ.assign (ltN hN rfl) (Opd.tmp 199 (.d (.int .i64 r172.2))))
                    (OpJs.nil)))))))) (by rfl) (by rfl) ?_
                  refine seqQ_n ?_
                  refine AWp.ghost (Mat.pat [] [(3, (.d (.int .i64 a3))), (4, (.d (.int .i64 a4))), (29, (.d (.list 1 (x171.map (eI .i64))))), (30, (.d (.list 1 (r172.1.map (eI .i64))))), (31, (.d (.int .i64 r172.2))), (189, (.d (.list 1 (([a1, r4.1.fIn, r4.1.fOut] : List (List Int)).map e_LeIi64)))), (190, (.d (.int .i64 (([a1, r4.1.fIn, r4.1.fOut] : List (List Int)).length : Int)))), (191, (.d (.int .i64 s89)))] [] hB (by rfl) (by rfl) (by rfl)) ?_
                  refine AWp.seq ?_
                  obtain ⟨r173, hr173, h⟩ := bindS h
                  refine AWp.region (OpJs.cons (OpJ.move (ltN hN rfl) (Opd.tmp 29 (.d (.list 1 (x171.map (eI .i64))))))
                    (OpJs.cons (OpJ.callFn hB fnOk23 (exchangepointref40_Rates_ac x171 (300 : Int) r173 hr173) [] (by kernel_rfl) (ltN hN rfl) (by kernel_rfl) (OpdL.cons (Opd.tmp 201 (.d (.list 1 (x171.map (eI .i64))))) (OpdL.cons (Opd.int .i64 (300)) OpdL.nil)))
                    (OpJs.cons (OpJ.move (ltN hN rfl) (Opd.tmp 202 (.tup [(.d (.list 1 (r173.1.map (eI .i64)))), (.d (.int .i64 r173.2))])))
                    (OpJs.cons (OpJ.extract (v := (.d (.list 1 (r173.1.map (eI .i64))))) (by rfl) rfl (ltN hN rfl) (Opd.tmp 200 (.tup [(.d (.list 1 (r173.1.map (eI .i64)))), (.d (.int .i64 r173.2))])))
                    (OpJs.cons (OpJ.extract (v := (.d (.int .i64 r173.2))) (by rfl) rfl (ltN hN rfl) (Opd.tmp 200 (.tup [(.d (.list 1 (r173.1.map (eI .i64)))), (.d (.int .i64 r173.2))])))
                    (OpJs.cons (OpJ.assign (ltN hN rfl) (Opd.tmp 203 (.d (.list 1 (r173.1.map (eI .i64))))))
                    (OpJs.cons (OpJ.assign (ltN hN rfl) (Opd.tmp 204 (.d (.int .i64 r173.2))))
                    (OpJs.nil)))))))) (by rfl) (by rfl) ?_
                  refine seqQ_n ?_
                  refine AWp.ghost (Mat.pat [] [(3, (.d (.int .i64 a3))), (4, (.d (.int .i64 a4))), (29, (.d (.list 1 (x171.map (eI .i64))))), (30, (.d (.list 1 (r172.1.map (eI .i64))))), (31, (.d (.int .i64 r172.2))), (32, (.d (.list 1 (r173.1.map (eI .i64))))), (33, (.d (.int .i64 r173.2))), (189, (.d (.list 1 (([a1, r4.1.fIn, r4.1.fOut] : List (List Int)).map e_LeIi64)))), (190, (.d (.int .i64 (([a1, r4.1.fIn, r4.1.fOut] : List (List Int)).length : Int)))), (191, (.d (.int .i64 s89)))] [] hB (by rfl) (by rfl) (by rfl)) ?_
                  refine AWp.seq ?_
                  obtain ⟨r174, hr174, h⟩ := bindS h
                  refine AWp.region (OpJs.cons (OpJ.move (ltN hN rfl) (Opd.tmp 29 (.d (.list 1 (x171.map (eI .i64))))))
                    (OpJs.cons (OpJ.move (ltN hN rfl) (Opd.tmp 3 (.d (.int .i64 a3))))
                    (OpJs.cons (OpJ.callFn hB fnOk22 (percentile_Rates_ac x171 a3 r174 hr174) [] (by kernel_rfl) (ltN hN rfl) (by kernel_rfl) (OpdL.cons (Opd.tmp 206 (.d (.list 1 (x171.map (eI .i64))))) (OpdL.cons (Opd.tmp 207 (.d (.int .i64 a3))) OpdL.nil)))
                    (OpJs.cons (OpJ.move (ltN hN rfl) (Opd.tmp 208 (.tup [(.d (.list 1 (r174.1.map (eI .i64)))), (.d (.int .i64 r174.2))])))
                    (OpJs.cons (OpJ.extract (v := (.d (.list 1 (r174.1.map (eI .i64))))) (by rfl) rfl (ltN hN rfl) (Opd.tmp 205 (.tup [(.d (.list 1 (r174.1.map (eI .i64)))), (.d (.int .i64 r174.2))])))
                    (OpJs.cons (OpJ.extract (v := (.d (.int .i64 r174.2))) (by rfl) rfl (ltN hN rfl) (Opd.tmp 205 (.tup [(.d (.list 1 (r174.1.map (eI .i64)))), (.d (.int .i64 r174.2))])))
                    (OpJs.cons (OpJ.assign (ltN hN rfl) (Opd.tmp 209 (.d (.list 1 (r174.1.map (eI .i64))))))
                    (OpJs.cons (OpJ.assign (ltN hN rfl) (Opd.tmp 210 (.d (.int .i64 r174.2))))
                    (OpJs.nil))))))))) (by rfl) (by rfl) ?_
                  refine seqQ_n ?_
                  refine AWp.ghost (Mat.pat [] [(3, (.d (.int .i64 a3))), (4, (.d (.int .i64 a4))), (29, (.d (.list 1 (x171.map (eI .i64))))), (30, (.d (.list 1 (r172.1.map (eI .i64))))), (31, (.d (.int .i64 r172.2))), (32, (.d (.list 1 (r173.1.map (eI .i64))))), (33, (.d (.int .i64 r173.2))), (34, (.d (.list 1 (r174.1.map (eI .i64))))), (35, (.d (.int .i64 r174.2))), (189, (.d (.list 1 (([a1, r4.1.fIn, r4.1.fOut] : List (List Int)).map e_LeIi64)))), (190, (.d (.int .i64 (([a1, r4.1.fIn, r4.1.fOut] : List (List Int)).length : Int)))), (191, (.d (.int .i64 s89)))] [] hB (by rfl) (by rfl) (by rfl)) ?_
                  refine AWp.seq ?_
                  obtain ⟨r175, hr175, h⟩ := bindS h
                  refine AWp.region (OpJs.cons (OpJ.move (ltN hN rfl) (Opd.tmp 29 (.d (.list 1 (x171.map (eI .i64))))))
                    (OpJs.cons (OpJ.move (ltN hN rfl) (Opd.tmp 3 (.d (.int .i64 a3))))
                    (OpJs.cons (OpJ.callFn hB fnOk23 (exchangepointref40_Rates_ac x171 a3 r175 hr175) [] (by kernel_rfl) (ltN hN rfl) (by kernel_rfl) (OpdL.cons (Opd.tmp 212 (.d (.list 1 (x171.map (eI .i64))))) (OpdL.cons (Opd.tmp 213 (.d (.int .i64 a3))) OpdL.nil)))
                    (OpJs.cons (OpJ.move (ltN hN rfl) (Opd.tmp 214 (.tup [(.d (.list 1 (r175.1.map (eI .i64)))), (.d (.int .i64 r175.2))])))
                    (OpJs.cons (OpJ.extract (v := (.d (.list 1 (r175.1.map (eI .i64))))) (by rfl) rfl (ltN hN rfl) (Opd.tmp 211 (.tup [(.d (.list 1 (r175.1.map (eI .i64)))), (.d (.int .i64 r175.2))])))
                    (OpJs.cons (OpJ.extract (v := (.d (.int .i64 r175.2))) (by rfl) rfl (ltN hN rfl) (Opd.tmp 211 (.tup [(.d (.list 1 (r175.1.map (eI .i64)))), (.d (.int .i64 r175.2))])))
                    (OpJs.cons (OpJ.assign (ltN hN rfl) (Opd.tmp 215 (.d (.list 1 (r175.1.map (eI .i64))))))
                    (OpJs.cons (OpJ.assign (ltN hN rfl) (Opd.tmp 216 (.d (.int .i64 r175.2))))
                    (OpJs.nil))))))))) (by rfl) (by rfl) ?_
                  refine seqQ_n ?_
                  refine AWp.ghost (Mat.pat [] [(3, (.d (.int .i64 a3))), (4, (.d (.int .i64 a4))), (29, (.d (.list 1 (x171.map (eI .i64))))), (30, (.d (.list 1 (r172.1.map (eI .i64))))), (31, (.d (.int .i64 r172.2))), (32, (.d (.list 1 (r173.1.map (eI .i64))))), (33, (.d (.int .i64 r173.2))), (34, (.d (.list 1 (r174.1.map (eI .i64))))), (35, (.d (.int .i64 r174.2))), (36, (.d (.list 1 (r175.1.map (eI .i64))))), (37, (.d (.int .i64 r175.2))), (189, (.d (.list 1 (([a1, r4.1.fIn, r4.1.fOut] : List (List Int)).map e_LeIi64)))), (190, (.d (.int .i64 (([a1, r4.1.fIn, r4.1.fOut] : List (List Int)).length : Int)))), (191, (.d (.int .i64 s89)))] [] hB (by rfl) (by rfl) (by rfl)) ?_
                  refine AWp.seq ?_
                  refine AWp.seq ?_
                  refine AWp.cut h (fun m180 : Bool => ([(3, (.d (.int .i64 a3))), (4, (.d (.int .i64 a4))), (29, (.d (.list 1 (x171.map (eI .i64))))), (189, (.d (.list 1 (([a1, r4.1.fIn, r4.1.fOut] : List (List Int)).map e_LeIi64)))), (190, (.d (.int .i64 (([a1, r4.1.fIn, r4.1.fOut] : List (List Int)).length : Int)))), (191, (.d (.int .i64 s89))), (236, (.d (.bool m180)))] : EL)) (fun m180 : Bool => ([] : OL)) (fun m180 h E' O' hmat => ?_) (fun j181 hjj181 h => ?_)
                  · refine seqQ_n ?_
                    refine AWp.ghost hmat ?_
                    refine AWp.cond (b := m180) (by rfl) (fun hg182 => ?_) (fun hg182 => ?_)
                    · replace h := ite_t hg182 h
                      refine AWp.seq ?_
                      refine AWp.region (OpJs.cons (OpJ.assign (ltN hN rfl) (Opd.bool false))
                        (OpJs.nil)) (by rfl) (by rfl) ?_
                      refine seqQ_n ?_
                      refine AWp.ghost (Mat.pat [] [(12, (.d (.bool false)))] [] hB (by rfl) (by rfl) (by rfl)) ?_
                      refine AWp.ret ?_
                      refine seqQ_r ?_
                      refine blkQ_r ?_
                      refine seqQ_r ?_
                      obtain rfl := Option.some.inj h
                      exact ⟨(fun hc => by cases hc), rfl, (Mat.pat [] ((fun _ : Unit => ([(12, (.d (.bool false)))] : EL)) ()) ((fun _ : Unit => ([] : OL)) ()) hB (by rfl) (by rfl) (by rfl))⟩
                    · replace h := ite_f hg182 h
                      refine AWp.skip ?_
                      refine seqQ_n ?_
                      refine AWp.seq ?_
                      obtain ⟨r183, hr183, h⟩ := bindS h
                      refine AWp.region (OpJs.cons (OpJ.move (ltN hN rfl) (Opd.tmp 4 (.d (.int .i64 a4))))
                        (OpJs.cons (OpJ.move (ltN hN rfl) (Opd.tmp 4 (.d (.int .i64 a4))))
                        (OpJs.cons (OpJ.callFn hB fnOk10 (exchangepointmill_Mod_ac a4 (103 : Int) r183 hr183) [] (by kernel_rfl) (ltN hN rfl) (by kernel_rfl) (OpdL.cons (Opd.tmp 238 (.d (.int .i64 a4))) (OpdL.cons (Opd.int .i64 (103)) OpdL.nil)))
                        (OpJs.cons (OpJ.sub (ltN hN rfl) (Opd.tmp 239 (.d (.int .i64 r183))) (Opd.int .i64 (1)))
                        (OpJs.cons (OpJ.buildSlice Try.underlying22 tyS3 tyZD3 (by rfl) (by decide) (by decide) (Opds.cons (Opd.tmp 237 (.d (.int .i64 a4))) (Opds.cons (Opd.tmp 240 (.d (.int .i64 (w64 (r183 - (1 : Int)))))) (Opds.cons (Opd.int .i64 (95)) Opds.nil))) (by kernel_rfl) (es := ([(.int .i64 a4), (.int .i64 (w64 (r183 - (1 : Int)))), (.int .i64 (95 : Int))] : List D)) (by rfl) (by rfl) (by kernel_rfl) (by simp) (ltN hN rfl))
                        (OpJs.cons (OpJ.val (v' := (.d (.int .i64 (([a4, (w64 (r183 - (1 : Int))), (95 : Int)] : List Int).length : Int)))) (by simp) (OpJ.lenD Try.underlying22 (ltN hN rfl) (Opd.tmp 241 (.d (.list 1 (([a4, (w64 (r183 - (1 : Int))), (95 : Int)] : List Int).map (eI .i64)))))))
                        (OpJs.cons (OpJ.move (ltN hN rfl) (Opd.int .i64 (0)))
                        (OpJs.nil)))))))) (by rfl) (by rfl) ?_
                      refine seqQ_n ?_
                      refine AWp.ghost (Mat.pat [] [(3, (.d (.int .i64 a3))), (4, (.d (.int .i64 a4))), (29, (.d (.list 1 (x171.map (eI .i64))))), (189, (.d (.list 1 (([a1, r4.1.fIn, r4.1.fOut] : List (List Int)).map e_LeIi64)))), (190, (.d (.int .i64 (([a1, r4.1.fIn, r4.1.fOut] : List (List Int)).length : Int)))), (191, (.d (.int .i64 s89))), (241, (.d (.list 1 (([a4, (w64 (r183 - (1 : Int))), (95 : Int)] : List Int).map (eI .i64))))), (242, (.d (.int .i64 (([a4, (w64 (r183 - (1 : Int))), (95 : Int)] : List Int).length : Int)))), (243, (.d (.int .i64 (0 : Int))))] [] hB (by rfl) (by rfl) (by rfl)) ?_
                      refine AWp.block ?_
                      obtain ⟨x202, hx203, h⟩ := bindS h
                      refine AWp.ghost (Mat.pat [] ((fun s184 : Int => ([(3, (.d (.int .i64 a3))), (4, (.d (.int .i64 a4))), (29, (.d (.list 1 (x171.map (eI .i64))))), (189, (.d (.list 1 (([a1, r4.1.fIn, r4.1.fOut] : List (List Int)).map e_LeIi64)))), (190, (.d (.int .i64 (([a1, r4.1.fIn, r4.1.fOut] : List (List Int)).length : Int)))), (191, (.d (.int .i64 s89))), (241, (.d (.list 1 (([a4, (w64 (r183 - (1 : Int))), (95 : Int)] : List Int).map (eI .i64))))), (242, (.d (.int .i64 (([a4, (w64 (r183 - (1 : Int))), (95 : Int)] : List Int).length : Int)))), (243, (.d (.int .i64 s184)))] : EL)) (0 : Int)) ((fun s184 : Int => ([] : OL)) (0 : Int)) hB (by rfl) (by rfl) (by rfl)) ?_
                      refine AWp.loopS (exchangepointlaw40_PercentileRates_L3 a4 x171 r183) (fun s184 : Int => ([(3, (.d (.int .i64 a3))), (4, (.d (.int .i64 a4))), (29, (.d (.list 1 (x171.map (eI .i64))))), (189, (.d (.list 1 (([a1, r4.1.fIn, r4.1.fOut] : List (List Int)).map e_LeIi64)))), (190, (.d (.int .i64 (([a1, r4.1.fIn, r4.1.fOut] : List (List Int)).length : Int)))), (191, (.d (.int .i64 s89))), (241, (.d (.list 1 (([a4, (w64 (r183 - (1 : Int))), (95 : Int)] : List Int).map (eI .i64))))), (242, (.d (.int .i64 (([a4, (w64 (r183 - (1 : Int))), (95 : Int)] : List Int).length : Int)))), (243, (.d (.int .i64 s184)))] : EL)) (fun s184 : Int => ([] : OL)) (fun (x : (Unit) ⊕ (Unit)) e E' O' => match x with | (.inl _p) => e = .ret ∧ Mat B E' O' ([(12, (.d (.bool false)))] : EL) ([] : OL) | (.inr _p) => e = .exit 7 ∧ Mat B E' O' ([(3, (.d (.int .i64 a3))), (4, (.d (.int .i64 a4))), (189, (.d (.list 1 (([a1, r4.1.fIn, r4.1.fOut] : List (List Int)).map e_LeIi64)))), (190, (.d (.int .i64 (([a1, r4.1.fIn, r4.1.fOut] : List (List Int)).length : Int)))), (191, (.d (.int .i64 s89)))] : EL) ([] : OL)) hx203 (fun s184 y h => ?_) (fun e E' O' hR => ?_)
                      · unfold exchangepointlaw40_PercentileRates_L3 at h
                        show AWp _ _ _ _ ([(3, (.d (.int .i64 a3))), (4, (.d (.int .i64 a4))), (29, (.d (.list 1 (x171.map (eI .i64))))), (189, (.d (.list 1 (([a1, r4.1.fIn, r4.1.fOut] : List (List Int)).map e_LeIi64)))), (190, (.d (.int .i64 (([a1, r4.1.fIn, r4.1.fOut] : List (List Int)).length : Int)))), (191, (.d (.int .i64 s89))), (241, (.d (.list 1 (([a4, (w64 (r183 - (1 : Int))), (95 : Int)] : List Int).map (eI .i64))))), (242, (.d (.int .i64 (([a4, (w64 (r183 - (1 : Int))), (95 : Int)] : List Int).length : Int)))), (243, (.d (.int .i64 s184)))] : EL) ([] : OL)
                        refine AWp.seq ?_
                        refine AWp.region (OpJs.cons (OpJ.lss (ltN hN rfl) (Opd.tmp 243 (.d (.int .i64 s184))) (Opd.tmp 242 (.d (.int .i64 (([a4, (w64 (r183 - (1 : Int))), (95 : Int)] : List Int).length : Int)))))
                          (OpJs.nil)) (by rfl) (by rfl) ?_
                        refine seqQ_n ?_
                        refine AWp.ghost (Mat.pat [] [(3, (.d (.int .i64 a3))), (4, (.d (.int .i64 a4))), (29, (.d (.list 1 (x171.map (eI .i64))))), (189, (.d (.list 1 (([a1, r4.1.fIn, r4.1.fOut] : List (List Int)).map e_LeIi64)))), (190, (.d (.int .i64 (([a1, r4.1.fIn, r4.1.fOut] : List (List Int)).length : Int)))), (191, (.d (.int .i64 s89))), (241, (.d (.list 1 (([a4, (w64 (r183 - (1 : Int))), (95 : Int)] : List Int).map (eI .i64))))), (242, (.d (.int .i64 (([a4, (w64 (r183 - (1 : Int))), (95 : Int)] : List Int).length : Int)))), (243, (.d (.int .i64 s184))), (244, (.d (.bool (decide (s184 < (([a4, (w64 (r183 - (1 : Int))), (95 : Int)] : List Int).length : Int))))))] [] hB (by rfl) (by rfl) (by rfl)) ?_
                        refine AWp.seq ?_
                        refine AWp.cond (b := (decide (s184 < (([a4, (w64 (r183 - (1 : Int))), (95 : Int)] : List Int).length : Int)))) (by rfl) (fun hg197 => ?_) (fun hg197 => ?_)
                        · replace h := ite_t hg197 h
                          refine AWp.skip ?_
                          refine seqQ_n ?_
                          refine AWp.seq ?_
                          refine AWp.block ?_
                          refine AWp.seq ?_
                          obtain ⟨x198, hx198, h⟩ := bindS h
                          refine AWp.region (OpJs.cons (OpJ.indexD (el := (.int .i64 x198)) Try.underlying22 tyS3 (idx_some hx198).1 (get_map (eI .i64) (idx_some hx198).2) (ltN hN rfl) (Opd.tmp 241 (.d (.list 1 (([a4, (w64 (r183 - (1 : Int))), (95 : Int)] : List Int).map (eI .i64))))) (Opd.tmp 243 (.d (.int .i64 s184))))
                            (OpJs.cons (OpJ.loadD tyS3 (by rfl) (by rfl) (ltN hN rfl) (Opd.tmp 245 (.dptr (.int .i64 x198))))
                            (OpJs.cons (OpJ.assign (ltN hN rfl) (Opd.tmp 246 (.d (.int .i64 x198))))
                            (OpJs.nil)))) (by rfl) (by rfl) ?_
                          refine seqQ_n ?_
                          refine AWp.ghost (Mat.pat [] [(3, (.d (.int .i64 a3))), (4, (.d (.int .i64 a4))), (29, (.d (.list 1 (x171.map (eI .i64))))), (39, (.d (.int .i64 x198))), (189, (.d (.list 1 (([a1, r4.1.fIn, r4.1.fOut] : List (List Int)).map e_LeIi64)))), (190, (.d (.int .i64 (([a1, r4.1.fIn, r4.1.fOut] : List (List Int)).length : Int)))), (191, (.d (.int .i64 s89))), (241, (.d (.list 1 (([a4, (w64 (r183 - (1 : Int))), (95 : Int)] : List Int).map (eI .i64))))), (242, (.d (.int .i64 (([a4, (w64 (r183 - (1 : Int))), (95 : Int)] : List Int).length : Int)))), (243, (.d (.int .i64 s184)))] [] hB (by rfl) (by rfl) (by rfl)) ?_
                          refine AWp.seq ?_
                          obtain ⟨r199, hr199, h⟩ := bindS h
                          refine AWp.region (OpJs.cons (OpJ.move (ltN hN rfl) (Opd.tmp 29 (.d (.list 1 (x171.map (eI .i64))))))
                            (OpJs.cons (OpJ.move (ltN hN rfl) (Opd.tmp 39 (.d (.int .i64 x198))))
                            (OpJs.cons (OpJ.callFn hB fnOk8 (percentile_Percentile_ac x171 x198 r199 hr199) [] (by kernel_rfl) (ltN hN rfl) (by kernel_rfl) (OpdL.cons (Opd.tmp 248 (.d (.list 1 (x171.map (eI .i64))))) (OpdL.cons (Opd.tmp 249 (.d (.int .i64 x198))) OpdL.nil)))
                            (OpJs.cons (OpJ.move (ltN hN rfl) (Opd.tmp 250 (.tup [(.d (.int .i64 r199.1)), (.d (.int .i64 r199.2))])))
                            (OpJs.cons (OpJ.extract (v := (.d (.int .i64 r199.1))) (by rfl) rfl (ltN hN rfl) (Opd.tmp 247 (.tup [(.d (.int .i64 r199.1)), (.d (.int .i64 r199.2))])))
                            (OpJs.cons (OpJ.extract (v := (.d (.int .i64 r199.2))) (by rfl) rfl (ltN hN rfl) (Opd.tmp 247 (.tup [(.d (.int .i64 r199.1)), (.d (.int .i64 r199.2))])))
                            (OpJs.cons (OpJ.assign (ltN hN rfl) (Opd.tmp 251 (.d (.int .i64 r199.1))))
                            (OpJs.cons (OpJ.assign (ltN hN rfl) (Opd.tmp 252 (.d (.int .i64 r199.2))))
                            (OpJs.nil))))))))) (by rfl) (by rfl) ?_
                          refine seqQ_n ?_
                          refine AWp.ghost (Mat.pat [] [(3, (.d (.int .i64 a3))), (4, (.d (.int .i64 a4))), (29, (.d (.list 1 (x171.map (eI .i64))))), (39, (.d (.int .i64 x198))), (40, (.d (.int .i64 r199.1))), (41, (.d (.int .i64 r199.2))), (189, (.d (.list 1 (([a1, r4.1.fIn, r4.1.fOut] : List (List Int)).map e_LeIi64)))), (190, (.d (.int .i64 (([a1, r4.1.fIn, r4.1.fOut] : List (List Int)).length : Int)))), (191, (.d (.int .i64 s89))), (241, (.d (.list 1 (([a4, (w64 (r183 - (1 : Int))), (95 : Int)] : List Int).map (eI .i64))))), (242, (.d (.int .i64 (([a4, (w64 (r183 - (1 : Int))), (95 : Int)] : List Int).length : Int)))), (243, (.d (.int .i64 s184)))] [] hB (by rfl) (by rfl) (by rfl)) ?_
                          refine AWp.seq ?_
                          obtain ⟨r200, hr200, h⟩ := bindS h
                          refine AWp.region (OpJs.cons (OpJ.move (ltN hN rfl) (Opd.tmp 29 (.d (.list 1 (x171.map (eI .i64))))))
                            (OpJs.cons (OpJ.move (ltN hN rfl) (Opd.tmp 39 (.d (.int .i64 x198))))
                            (OpJs.cons (OpJ.callFn hB fnOk25 (exchangepointref40_Percentile_ac x171 x198 r200 hr200) [] (by kernel_rfl) (ltN hN rfl) (by kernel_rfl) (OpdL.cons (Opd.tmp 254 (.d (.list 1 (x171.map (eI .i64))))) (OpdL.cons (Opd.tmp 255 (.d (.int .i64 x198))) OpdL.nil)))
                            (OpJs.cons (OpJ.move (ltN hN rfl) (Opd.tmp 256 (.tup [(.d (.int .i64 r200.1)), (.d (.int .i64 r200.2))])))
                            (OpJs.cons (OpJ.extract (v := (.d (.int .i64 r200.1))) (by rfl) rfl (ltN hN rfl) (Opd.tmp 253 (.tup [(.d (.int .i64 r200.1)), (.d (.int .i64 r200.2))])))
                            (OpJs.cons (OpJ.extract (v := (.d (.int .i64 r200.2))) (by rfl) rfl (ltN hN rfl) (Opd.tmp 253 (.tup [(.d (.int .i64 r200.1)), (.d (.int .i64 r200.2))])))
                            (OpJs.cons (OpJ.assign (ltN hN rfl) (Opd.tmp 257 (.d (.int .i64 r200.1))))
                            (OpJs.cons (OpJ.assign (ltN hN rfl) (Opd.tmp 258 (.d (.int .i64 r200.2))))
                            (OpJs.nil))))))))) (by rfl) (by rfl) ?_
                          refine seqQ_n ?_
                          refine AWp.ghost (Mat.pat [] [(3, (.d (.int .i64 a3))), (4, (.d (.int .i64 a4))), (29, (.d (.list 1 (x171.map (eI .i64))))), (40, (.d (.int .i64 r199.1))), (41, (.d (.int .i64 r199.2))), (42, (.d (.int .i64 r200.1))), (43, (.d (.int .i64 r200.2))), (189, (.d (.list 1 (([a1, r4.1.fIn, r4.1.fOut] : List (List Int)).map e_LeIi64)))), (190, (.d (.int .i64 (([a1, r4.1.fIn, r4.1.fOut] : List (List Int)).length : Int)))), (191, (.d (.int .i64 s89))), (241, (.d (.list 1 (([a4, (w64 (r183 - (1 : Int))), (95 : Int)] : List Int).map (eI .i64))))), (242, (.d (.int .i64 (([a4, (w64 (r183 - (1 : Int))), (95 : Int)] : List Int).length : Int)))), (243, (.d (.int .i64 s184)))] [] hB (by rfl) (by rfl) (by rfl)) ?_
                          refine AWp.seq ?_
                          refine AWp.region (OpJs.cons (OpJ.move (ltN hN rfl) (Opd.tmp 40 (.d (.int .i64 r199.1))))
                            (OpJs.cons (OpJ.move (ltN hN rfl) (Opd.tmp 42 (.d (.int .i64 r200.1))))
                            (OpJs.cons (OpJ.neqI (ltN hN rfl) (Opd.tmp 259 (.d (.int .i64 r199.1))) (Opd.tmp 260 (.d (.int .i64 r200.1))))
                            (OpJs.cons (OpJ.move (ltN hN rfl) (Opd.tmp 261 (.d (.bool (r199.1 != r200.1)))))
                            (OpJs.cons (OpJ.opt' (v := (.d (.int .i64 r199.2))) (OpJ.move (ltN hN rfl) (Opd.tmp 41 (.d (.int .i64 r199.2)))) (by rfl) (GuardV.plain _) (ltN hN rfl) (by rfl) (by rfl) (by rfl) (by rfl) (OptL.keep rfl OptL.nil))
                            (OpJs.cons (OpJ.opt' (v := (.d (.int .i64 r200.2))) (OpJ.move (ltN hN rfl) (Opd.tmp 43 (.d (.int .i64 r200.2)))) (by rfl) (GuardV.plain _) (ltN hN rfl) (by rfl) (by rfl) (by rfl) (by rfl) (OptL.keep rfl OptL.nil))
                            (OpJs.cons (OpJ.opt' (v := (.d (.bool (r199.2 != r200.2)))) (OpJ.neqI (ltN hN rfl) (Opd.tmp 263 (.d (.int .i64 r199.2))) (Opd.tmp 264 (.d (.int .i64 r200.2)))) (by rfl) (GuardV.plain _) (ltN hN rfl) (by rfl) (by rfl) (by rfl) (by rfl) (OptL.opt (OptL.opt OptL.nil)))
                            (OpJs.cons (OpJ.pickOr rfl (ltN hN rfl) (Opd.tmp 262 (.d (.bool (r199.1 != r200.1)))) (Opd.tmp 265 (.opt ((r199.1 != r200.1) == false) (.d (.bool (r199.2 != r200.2))))))
                            (OpJs.nil))))))))) (by rfl) (by rfl) ?_
                          refine seqQ_n ?_
                          refine AWp.ghost (Mat.pat [] [(3, (.d (.int .i64 a3))), (4, (.d (.int .i64 a4))), (29, (.d (.list 1 (x171.map (eI .i64))))), (189, (.d (.list 1 (([a1, r4.1.fIn, r4.1.fOut] : List (List Int)).map e_LeIi64)))), (190, (.d (.int .i64 (([a1, r4.1.fIn, r4.1.fOut] : List (List Int)).length : Int)))), (191, (.d (.int .i64 s89))), (241, (.d (.list 1 (([a4, (w64 (r183 - (1 : Int))), (95 : Int)] : List Int).map (eI .i64))))), (242, (.d (.int .i64 (([a4, (w64 (r183 - (1 : Int))), (95 : Int)] : List Int).length : Int)))), (243, (.d (.int .i64 s184))), (266, (.d (.bool ((r199.1 != r200.1) || (r199.2 != r200.2)))))] [] hB (by rfl) (by rfl) (by rfl)) ?_
                          refine AWp.cond (b := ((r199.1 != r200.1) || (r199.2 != r200.2))) (by rfl) (fun hg201 => ?_) (fun hg201 => ?_)
                          · replace h := ite_t hg201 h
                            refine AWp.seq ?_
                            refine AWp.region (OpJs.cons (OpJ.assign (ltN hN rfl) (Opd.bool false))
                              (OpJs.nil)) (by rfl) (by rfl) ?_
                            refine seqQ_n ?_
                            refine AWp.ghost (Mat.pat [] [(12, (.d (.bool false)))] [] hB (by rfl) (by rfl) (by rfl)) ?_
                            refine AWp.ret ?_
                            refine blkQ_r ?_
                            refine seqQ_r ?_
                            obtain rfl := Option.some.inj h
                            exact ⟨(fun hc => by cases hc), rfl, (Mat.pat [] ((fun _ : Unit => ([(12, (.d (.bool false)))] : EL)) ()) ((fun _ : Unit => ([] : OL)) ()) hB (by rfl) (by rfl) (by rfl))⟩
                          · replace h := ite_f hg201 h
                            refine AWp.skip ?_
                            refine blkQ_n ?_
                            refine seqQ_n ?_
                            refine AWp.region (OpJs.cons (OpJ.add (ltN hN rfl) (Opd.tmp 243 (.d (.int .i64 s184))) (Opd.int .i64 (1)))
                              (OpJs.cons (OpJ.move (ltN hN rfl) (Opd.tmp 267 (.d (.int .i64 (w64 (s184 + (1 : Int)))))))
                              (OpJs.nil))) (by rfl) (by rfl) ?_
                            obtain rfl := Option.some.inj h
                            exact ⟨rfl, (Mat.trans (Mat.pat [] [(3, (.d (.int .i64 a3))), (4, (.d (.int .i64 a4))), (29, (.d (.list 1 (x171.map (eI .i64))))), (189, (.d (.list 1 (([a1, r4.1.fIn, r4.1.fOut] : List (List Int)).map e_LeIi64)))), (190, (.d (.int .i64 (([a1, r4.1.fIn, r4.1.fOut] : List (List Int)).length : Int)))), (191, (.d (.int .i64 s89))), (241, (.d (.list 1 (([a4, (w64 (r183 - (1 : Int))), (95 : Int)] : List Int).map (eI .i64))))), (242, (.d (.int .i64 (([a4, (w64 (r183 - (1 : Int))), (95 : Int)] : List Int).length : Int)))), (243, (.d (.int .i64 (w64 (s184 + (1 : Int))))))] [] hB (by rfl) (by rfl) (by rfl)) (Mat.pat [] ((fun s184 : Int => ([(3, (.d (.int .i64 a3))), (4, (.d (.int .i64 a4))), (29, (.d (.list 1 (x171.map (eI .i64))))), (189, (.d (.list 1 (([a1, r4.1.fIn, r4.1.fOut] : List (List Int)).map e_LeIi64)))), (190, (.d (.int .i64 (([a1, r4.1.fIn, r4.1.fOut] : List (List Int)).length : Int)))), (191, (.d (.int .i64 s89))), (241, (.d (.list 1 (([a4, (w64 (r183 - (1 : Int))), (95 : Int)] : List Int).map (eI .i64))))), (242, (.d (.int .i64 (([a4, (w64 (r183 - (1 : Int))), (95 : Int)] : List Int).length : Int)))), (243, (.d (.int .i64 s184)))] : EL)) (w64 (s184 + (1 : Int)))) ((fun s184 : Int => ([] : OL)) (w64 (s184 + (1 : Int)))) hB (by rfl) (by rfl) (by rfl)))⟩
                        · replace h := ite_f hg197 h
                          refine AWp.exit ?_
                          refine seqQ_e ?_
                          obtain rfl := Option.some.inj h
                          exact ⟨(fun hc => by cases hc), rfl, (Mat.pat [] ((fun _ : Unit => ([(3, (.d (.int .i64 a3))), (4, (.d (.int .i64 a4))), (189, (.d (.list 1 (([a1, r4.1.fIn, r4.1.fOut] : List (List Int)).map e_LeIi64)))), (190, (.d (.int .i64 (([a1, r4.1.fIn, r4.1.fOut] : List (List Int)).length : Int)))), (191, (.d (.int .i64 s89)))] : EL)) ()) ((fun _ : Unit => ([] : OL)) ()) hB (by rfl) (by rfl) (by rfl))⟩
                      · rcases x202 with _ | _
                        · obtain ⟨rfl, hmat⟩ := hR
                          refine blkQ_r ?_
                          refine blkQ_r ?_
                          refine seqQ_r ?_
                          obtain rfl := Option.some.inj h
                          exact ⟨(fun hc => by cases hc), rfl, (Mat.trans hmat (Mat.pat [] ((fun _ : Unit => ([(12, (.d (.bool false)))] : EL)) ()) ((fun _ : Unit => ([] : OL)) ()) hB (by rfl) (by rfl) (by rfl)))⟩
                        · obtain ⟨rfl, hmat⟩ := hR
                          refine blkQ_hit ?_
                          refine blkQ_n ?_
                          refine seqQ_n ?_
                          refine AWp.ghost hmat ?_
                          refine AWp.region (OpJs.cons (OpJ.add (ltN hN rfl) (Opd.tmp 191 (.d (.int .i64 s89))) (Opd.int .i64 (1)))
                            (OpJs.cons (OpJ.move (ltN hN rfl) (Opd.tmp 268 (.d (.int .i64 (w64 (s89 + (1 : Int)))))))
                            (OpJs.nil))) (by rfl) (by rfl) ?_
                          obtain rfl := Option.some.inj h
                          exact ⟨rfl, (Mat.trans (Mat.pat [] [(3, (.d (.int .i64 a3))), (4, (.d (.int .i64 a4))), (189, (.d (.list 1 (([a1, r4.1.fIn, r4.1.fOut] : List (List Int)).map e_LeIi64)))), (190, (.d (.int .i64 (([a1, r4.1.fIn, r4.1.fOut] : List (List Int)).length : Int)))), (191, (.d (.int .i64 (w64 (s89 + (1 : Int))))))] [] hB (by rfl) (by rfl) (by rfl)) (Mat.pat [] ((fun s89 : Int => ([(3, (.d (.int .i64 a3))), (4, (.d (.int .i64 a4))), (189, (.d (.list 1 (([a1, r4.1.fIn, r4.1.fOut] : List (List Int)).map e_LeIi64)))), (190, (.d (.int .i64 (([a1, r4.1.fIn, r4.1.fOut] : List (List Int)).length : Int)))), (191, (.d (.int .i64 s89)))] : EL)) (w64 (s89 + (1 : Int)))) ((fun s89 : Int => ([] : OL)) (w64 (s89 + (1 : Int)))) hB (by rfl) (by rfl) (by rfl)))⟩
                  · rcases Bool.eq_false_or_eq_true (r172.2 != r173.2) with hg204 | hg204
                    · replace h := ite_t hg204 h
                      refine AWp.region (OpJs.cons (OpJ.move (ltN hN rfl) (Opd.tmp 31 (.d (.int .i64 r172.2))))
                        (OpJs.cons (OpJ.move (ltN hN rfl) (Opd.tmp 33 (.d (.int .i64 r173.2))))
                        (OpJs.cons (OpJ.neqI (ltN hN rfl) (Opd.tmp 217 (.d (.int .i64 r172.2))) (Opd.tmp 218 (.d (.int .i64 r173.2))))
                        (OpJs.cons (OpJ.val (v' := .d (.bool true)) (by rw [hg204]) (OpJ.move (ltN hN rfl) (Opd.tmp 219 (.d (.bool (r172.2 != r173.2))))))
                        (OpJs.cons (OpJ.skipU (ltN hN rfl) (by rfl))
                        (OpJs.cons (OpJ.skipU (ltN hN rfl) (by rfl))
                        (OpJs.cons (OpJ.skipU (ltN hN rfl) (by rfl))
                        (OpJs.cons (OpJ.skipU (ltN hN rfl) (by rfl))
                        (OpJs.cons (OpJ.pickT (ltN hN rfl) (Opd.tmp 220 (.d (.bool true))) (Opd.bool true))
                        (OpJs.cons (OpJ.move (ltN hN rfl) (Opd.tmp 225 (.d (.bool true))))
                        (OpJs.cons (OpJ.skipU (ltN hN rfl) (by rfl))
                        (OpJs.cons (OpJ.skipU (ltN hN rfl) (by rfl))
                        (OpJs.cons (OpJ.skipU (ltN hN rfl) (by rfl))
                        (OpJs.cons (OpJ.pickT (ltN hN rfl) (Opd.tmp 226 (.d (.bool true))) (Opd.bool true))
                        (OpJs.cons (OpJ.move (ltN hN rfl) (Opd.tmp 230 (.d (.bool true))))
                        (OpJs.cons (OpJ.skipU (ltN hN rfl) (by rfl))
                        (OpJs.cons (OpJ.skipU (ltN hN rfl) (by rfl))
                        (OpJs.cons (OpJ.skipU (ltN hN rfl) (by rfl))
                        (OpJs.cons (OpJ.skipU (ltN hN rfl) (by rfl))
                        (OpJs.cons (OpJ.pickT (ltN hN rfl) (Opd.tmp 231 (.d (.bool true))) (Opd.bool true))
                        (OpJs.nil))))))))))))))))))))) (by rfl) (by rfl) ?_
                      exact hjj181 _ h _ _ (Mat.trans (Mat.pat [] [(3, (.d (.int .i64 a3))), (4, (.d (.int .i64 a4))), (29, (.d (.list 1 (x171.map (eI .i64))))), (189, (.d (.list 1 (([a1, r4.1.fIn, r4.1.fOut] : List (List Int)).map e_LeIi64)))), (190, (.d (.int .i64 (([a1, r4.1.fIn, r4.1.fOut] : List (List Int)).length : Int)))), (191, (.d (.int .i64 s89))), (236, (.d (.bool true)))] [] hB (by rfl) (by rfl) (by rfl)) (Mat.pat [] ((fun m180 : Bool => ([(3, (.d (.int .i64 a3))), (4, (.d (.int .i64 a4))), (29, (.d (.list 1 (x171.map (eI .i64))))), (189, (.d (.list 1 (([a1, r4.1.fIn, r4.1.fOut] : List (List Int)).map e_LeIi64)))), (190, (.d (.int .i64 (([a1, r4.1.fIn, r4.1.fOut] : List (List Int)).length : Int)))), (191, (.d (.int .i64 s89))), (236, (.d (.bool m180)))] : EL)) true) ((fun m180 : Bool => ([] : OL)) true) hB (by rfl) (by rfl) (by rfl)))
                    · replace h := ite_f hg204 h
                      obtain ⟨r205, hr205, h⟩ := bindS h
                      rcases Bool.eq_false_or_eq_true ((!r205) || (r174.2 != r175.2)) with hg206 | hg206
                      · replace h := ite_t hg206 h
                        refine AWp.region (OpJs.cons (OpJ.move (ltN hN rfl) (Opd.tmp 31 (.d (.int .i64 r172.2))))
                          (OpJs.cons (OpJ.move (ltN hN rfl) (Opd.tmp 33 (.d (.int .i64 r173.2))))
                          (OpJs.cons (OpJ.neqI (ltN hN rfl) (Opd.tmp 217 (.d (.int .i64 r172.2))) (Opd.tmp 218 (.d (.int .i64 r173.2))))
                          (OpJs.cons (OpJ.val (v' := .d (.bool false)) (by rw [hg204]) (OpJ.move (ltN hN rfl) (Opd.tmp 219 (.d (.bool (r172.2 != r173.2))))))
                          (OpJs.cons (OpJ.guarded (by rfl) (OpJ.move (ltN hN rfl) (Opd.tmp 30 (.d (.list 1 (r172.1.map (eI .i64)))))))
                          (OpJs.cons (OpJ.guarded (by rfl) (OpJ.move (ltN hN rfl) (Opd.tmp 32 (.d (.list 1 (r173.1.map (eI .i64)))))))
                          (OpJs.cons (OpJ.guarded (by rfl) (OpJ.callFn hB fnOk24 (exchangepointref23_SameInts_ac r172.1 r173.1 r205 hr205) [] (by kernel_rfl) (ltN hN rfl) (by kernel_rfl) (OpdL.cons (Opd.tmp 221 (.d (.list 1 (r172.1.map (eI .i64))))) (OpdL.cons (Opd.tmp 222 (.d (.list 1 (r173.1.map (eI .i64))))) OpdL.nil))))
                          (OpJs.cons (OpJ.guarded (by rfl) (OpJ.not (ltN hN rfl) (Opd.tmp 223 (.d (.bool r205)))))
                          (OpJs.cons (OpJ.pickF (ltN hN rfl) (Opd.tmp 220 (.d (.bool false))) (Opd.tmp 224 (.d (.bool (!r205)))))
                          (OpJs.cons (OpJ.move (ltN hN rfl) (Opd.tmp 225 (.d (.bool (!r205)))))
                          (OpJs.cons (OpJ.opt' (v := (.d (.int .i64 r174.2))) (OpJ.move (ltN hN rfl) (Opd.tmp 35 (.d (.int .i64 r174.2)))) (by rfl) (GuardV.plain _) (ltN hN rfl) (by rfl) (by rfl) (by rfl) (by rfl) (OptL.keep rfl OptL.nil))
                          (OpJs.cons (OpJ.opt' (v := (.d (.int .i64 r175.2))) (OpJ.move (ltN hN rfl) (Opd.tmp 37 (.d (.int .i64 r175.2)))) (by rfl) (GuardV.plain _) (ltN hN rfl) (by rfl) (by rfl) (by rfl) (by rfl) (OptL.keep rfl OptL.nil))
                          (OpJs.cons (OpJ.opt' (v := (.d (.bool (r174.2 != r175.2)))) (OpJ.neqI (ltN hN rfl) (Opd.tmp 227 (.d (.int .i64 r174.2))) (Opd.tmp 228 (.d (.int .i64 r175.2)))) (by rfl) (GuardV.plain _) (ltN hN rfl) (by rfl) (by rfl) (by rfl) (by rfl) (OptL.opt (OptL.opt OptL.nil)))
                          (OpJs.cons (OpJ.pickOr rfl (ltN hN rfl) (Opd.tmp 226 (.d (.bool (!r205)))) (Opd.tmp 229 (.opt ((!r205) == false) (.d (.bool (r174.2 != r175.2))))))
                          (OpJs.cons (OpJ.val (v' := .d (.bool true)) (by rw [hg206]) (OpJ.move (ltN hN rfl) (Opd.tmp 230 (.d (.bool ((!r205) || (r174.2 != r175.2)))))))
                          (OpJs.cons (OpJ.skipU (ltN hN rfl) (by rfl))
                          (OpJs.cons (OpJ.skipU (ltN hN rfl) (by rfl))
                          (OpJs.cons (OpJ.skipU (ltN hN rfl) (by rfl))
                          (OpJs.cons (OpJ.skipU (ltN hN rfl) (by rfl))
                          (OpJs.cons (OpJ.pickT (ltN hN rfl) (Opd.tmp 231 (.d (.bool true))) (Opd.bool true))
                          (OpJs.nil))))))))))))))))))))) (by rfl) (by rfl) ?_
                        exact hjj181 _ h _ _ (Mat.trans (Mat.pat [] [(3, (.d (.int .i64 a3))), (4, (.d (.int .i64 a4))), (29, (.d (.list 1 (x171.map (eI .i64))))), (189, (.d (.list 1 (([a1, r4.1.fIn, r4.1.fOut] : List (List Int)).map e_LeIi64)))), (190, (.d (.int .i64 (([a1, r4.1.fIn, r4.1.fOut] : List (List Int)).length : Int)))), (191, (.d (.int .i64 s89))), (236, (.d (.bool true)))] [] hB (by rfl) (by rfl) (by rfl)) (Mat.pat [] ((fun m180 : Bool => ([(3, (.d (.int .i64 a3))), (4, (.d (.int .i64 a4))), (29, (.d (.list 1 (x171.map (eI .i64))))), (189, (.d (.list 1 (([a1, r4.1.fIn, r4.1.fOut] : List (List Int)).map e_LeIi64)))), (190, (.d (.int .i64 (([a1, r4.1.fIn, r4.1.fOut] : List (List Int)).length : Int)))), (191, (.d (.int .i64 s89))), (236, (.d (.bool m180)))] : EL)) true) ((fun m180 : Bool => ([] : OL)) true) hB (by rfl) (by rfl) (by rfl)))
                      · replace h := ite_f hg206 h
                        obtain ⟨r207, hr207, h⟩ := bindS h
                        refine AWp.region (OpJs.cons (OpJ.move (ltN hN rfl) (Opd.tmp 31 (.d (.int .i64 r172.2))))
                          (OpJs.cons (OpJ.move (ltN hN rfl) (Opd.tmp 33 (.d (.int .i64 r173.2))))
                          (OpJs.cons (OpJ.neqI (ltN hN rfl) (Opd.tmp 217 (.d (.int .i64 r172.2))) (Opd.tmp 218 (.d (.int .i64 r173.2))))
                          (OpJs.cons (OpJ.val (v' := .d (.bool false)) (by rw [hg204]) (OpJ.move (ltN hN rfl) (Opd.tmp 219 (.d (.bool (r172.2 != r173.2))))))
                          (OpJs.cons (OpJ.guarded (by rfl) (OpJ.move (ltN hN rfl) (Opd.tmp 30 (.d (.list 1 (r172.1.map (eI .i64)))))))
                          (OpJs.cons (OpJ.guarded (by rfl) (OpJ.move (ltN hN rfl) (Opd.tmp 32 (.d (.list 1 (r173.1.map (eI .i64)))))))
                          (OpJs.cons (OpJ.guarded (by rfl) (OpJ.callFn hB fnOk24 (exchangepointref23_SameInts_ac r172.1 r173.1 r205 hr205) [] (by kernel_rfl) (ltN hN rfl) (by kernel_rfl) (OpdL.cons (Opd.tmp 221 (.d (.list 1 (r172.1.map (eI .i64))))) (OpdL.cons (Opd.tmp 222 (.d (.list 1 (r173.1.map (eI .i64))))) OpdL.nil))))
                          (OpJs.cons (OpJ.guarded (by rfl) (OpJ.not (ltN hN rfl) (Opd.tmp 223 (.d (.bool r205)))))
                          (OpJs.cons (OpJ.pickF (ltN hN rfl) (Opd.tmp 220 (.d (.bool false))) (Opd.tmp 224 (.d (.bool (!r205)))))
                          (OpJs.cons (OpJ.move (ltN hN rfl) (Opd.tmp 225 (.d (.bool (!r205)))))
                          (OpJs.cons (OpJ.opt' (v := (.d (.int .i64 r174.2))) (OpJ.move (ltN hN rfl) (Opd.tmp 35 (.d (.int .i64 r174.2)))) (by rfl) (GuardV.plain _) (ltN hN rfl) (by rfl) (by rfl) (by rfl) (by rfl) (OptL.keep rfl OptL.nil))
                          (OpJs.cons (OpJ.opt' (v := (.d (.int .i64 r175.2))) (OpJ.move (ltN hN rfl) (Opd.tmp 37 (.d (.int .i64 r175.2)))) (by rfl) (GuardV.plain _) (ltN hN rfl) (by rfl) (by rfl) (by rfl) (by rfl) (OptL.keep rfl OptL.nil))
                          (OpJs.cons (OpJ.opt' (v := (.d (.bool (r174.2 != r175.2)))) (OpJ.neqI (ltN hN rfl) (Opd.tmp 227 (.d (.int .i64 r174.2))) (Opd.tmp 228 (.d (.int .i64 r175.2)))) (by rfl) (GuardV.plain _) (ltN hN rfl) (by rfl) (by rfl) (by rfl) (by rfl) (OptL.opt (OptL.opt OptL.nil)))
                          (OpJs.cons (OpJ.pickOr rfl (ltN hN rfl) (Opd.tmp 226 (.d (.bool (!r205)))) (Opd.tmp 229 (.opt ((!r205) == false) (.d (.bool (r174.2 != r175.2))))))
                          (OpJs.cons (OpJ.val (v' := .d (.bool false)) (by rw [hg206]) (OpJ.move (ltN hN rfl) (Opd.tmp 230 (.d (.bool ((!r205) || (r174.2 != r175.2)))))))
                          (OpJs.cons (OpJ.guarded (by rfl) (OpJ.move (ltN hN rfl) (Opd.tmp 34 (.d (.list 1 (r174.1.map (eI .i64)))))))
                          (OpJs.cons (OpJ.guarded (by rfl) (OpJ.move (ltN hN rfl) (Opd.tmp 36 (.d (.list 1 (r175.1.map (eI .i64)))))))
                          (OpJs.cons (OpJ.guarded (by rfl) (OpJ.callFn hB fnOk24 (exchangepointref23_SameInts_ac r174.1 r175.1 r207 hr207) [] (by kernel_rfl) (ltN hN rfl) (by kernel_rfl) (OpdL.cons (Opd.tmp 232 (.d (.list 1 (r174.1.map (eI .i64))))) (OpdL.cons (Opd.tmp 233 (.d (.list 1 (r175.1.map (eI .i64))))) OpdL.nil))))
                          (OpJs.cons (OpJ.guarded (by rfl) (OpJ.not (ltN hN rfl) (Opd.tmp 234 (.d (.bool r207)))))
                          (OpJs.cons (OpJ.pickF (ltN hN rfl) (Opd.tmp 231 (.d (.bool false))) (Opd.tmp 235 (.d (.bool (!r207)))))
                          (OpJs.nil))))))))))))))))))))) (by rfl) (by rfl) ?_
                        exact hjj181 _ h _ _ (Mat.trans (Mat.pat [] [(3, (.d (.int .i64 a3))), (4, (.d (.int .i64 a4))), (29, (.d (.list 1 (x171.map (eI .i64))))), (189, (.d (.list 1 (([a1, r4.1.fIn, r4.1.fOut] : List (List Int)).map e_LeIi64)))), (190, (.d (.int .i64 (([a1, r4.1.fIn, r4.1.fOut] : List (List Int)).length : Int)))), (191, (.d (.int .i64 s89))), (236, (.d (.bool (!r207))))] [] hB (by rfl) (by rfl) (by rfl)) (Mat.pat [] ((fun m180 : Bool => ([(3, (.d (.int .i64 a3))), (4, (.d (.int .i64 a4))), (29, (.d (.list 1 (x171.map (eI .i64))))), (189, (.d (.list 1 (([a1, r4.1.fIn, r4.1.fOut] : List (List Int)).map e_LeIi64)))), (190, (.d (.int .i64 (([a1, r4.1.fIn, r4.1.fOut] : List (List Int)).length : Int)))), (191, (.d (.int .i64 s89))), (236, (.d (.bool m180)))] : EL)) (!r207)) ((fun m180 : Bool => ([] : OL)) (!r207)) hB (by rfl) (by rfl) (by rfl)))
                · replace h := ite_f hg170 h
                  refine AWp.exit ?_
                  refine seqQ_e ?_
                  obtain rfl := Option.some.inj h
                  exact ⟨(fun hc => by cases hc), rfl, (Mat.pat [] ((fun _ : Unit => ([] : EL)) ()) ((fun _ : Unit => ([] : OL)) ()) hB (by rfl) (by rfl) (by rfl))⟩
              · rcases x208 with _ | _
                · obtain ⟨rfl, hmat⟩ := hR
                  refine blkQ_r ?_
                  refine seqQ_r ?_
                  obtain rfl := Option.some.inj h
                  exact ⟨.inl rfl, _, _, (Mat.trans hmat (Mat.pat [] [(12, (.d (.bool false)))] [] hB (by rfl) (by rfl) (by rfl))), [(.d (.bool false))], (Res.tmp (by rfl) (by rfl) Res.nil), rfl, by rfl, by rfl, by rfl⟩
                · obtain ⟨rfl, hmat⟩ := hR
                  refine blkQ_hit ?_
                  refine seqQ_n ?_
                  refine AWp.ghost hmat ?_
                  refine AWp.seq ?_
                  obtain ⟨r210, hr210, h⟩ := bindS h
                  refine AWp.region (OpJs.cons (OpJ.callFn hB fnOk9 (exchangepointlaw40_awake_ac  r210 hr210) [] (by kernel_rfl) (ltN hN rfl) (by kernel_rfl) OpdL.nil)
                    (OpJs.cons (OpJ.assign (ltN hN rfl) (Opd.tmp 269 (.d (.bool r210))))
                    (OpJs.nil))) (by rfl) (by rfl) ?_
                  refine seqQ_n ?_
                  refine AWp.ghost (Mat.pat [] [(12, (.d (.bool r210)))] [] hB (by rfl) (by rfl) (by rfl)) ?_
                  refine AWp.ret ?_
                  obtain rfl := Option.some.inj h
                  exact ⟨.inl rfl, _, _, (Mat.pat [] [(12, (.d (.bool r210)))] [] hB (by rfl) (by rfl) (by rfl)), [(.d (.bool r210))], (Res.tmp (by rfl) (by rfl) Res.nil), rfl, by rfl, by rfl, by rfl⟩
    · refine AWp.cond (b := (r6 == (0 : Int))) (by rfl) (fun hg211 => ?_) (fun hg211 => ?_)
      · replace h := ite_t hg211 h
        obtain ⟨hc212, h⟩ := chk_some h
        refine AWp.region (OpJs.cons (OpJ.val (v' := (.ptr 1015 3 [3])) (by rfl) (OpJ.fieldP Try.underlying30 (by rfl) (o := 3) (by rfl) tyS22 (by decide) (obj := (.box 30 (.st [(.d (.int .i64 r5.fPort)), (.d (.int .i64 r5.fSeconds)), (.sref 100300 1 0 r5.fIn.length), (.sref 100301 1 0 r5.fOut.length)]))) (ltN hN rfl) (Opd.tmp 15 (.ptr 1015 0 []))))
          (OpJs.cons (OpJ.loadB (bt := 30) (c := (.st [(.d (.int .i64 r5.fPort)), (.d (.int .i64 r5.fSeconds)), (.sref 100300 1 0 r5.fIn.length), (.sref 100301 1 0 r5.fOut.length)])) (v := (.sref 100301 1 0 r5.fOut.length)) tyS22 (At.st1 (f := (.sref 100301 1 0 r5.fOut.length)) (by rfl) (by rfl) (At.here _) (by first | rfl | omega)) (by rfl) (by rfl) rfl (ltN hN rfl) (Opd.tmp 70 (.ptr 1015 3 [3])))
          (OpJs.cons (OpJ.buildSlice Try.underlying22 tyS3 tyZD3 (by rfl) (by decide) (by decide) (Opds.cons (Opd.int .i64 (1)) Opds.nil) (by kernel_rfl) (es := ([(.int .i64 (1 : Int))] : List D)) (by rfl) (by rfl) (by kernel_rfl) (by simp) (ltN hN rfl))
          (OpJs.cons (OpJ.append hB Try.underlying22 tyE3 (nm := 1073) (by decide) (es := r5.fOut.map (eI .i64)) (ys := ([(1 : Int)] : List Int).map (eI .i64)) (es' := (r5.fOut ++ ([(1 : Int)] : List Int)).map (eI .i64)) (len := (r5.fOut ++ ([(1 : Int)] : List Int)).length) (by simp) (by simp) (map_sz (f := (eI .i64)) (fun _ => rfl)) (by rw [List.length_map]; exact lim_mulN hc212 (by decide)) (by rw [List.length_map]; exact lim_leN hc212) (ltN hN rfl) (by simp) (Opd.tmp 71 (.sref 100301 1 0 r5.fOut.length)) (Opd.tmp 72 (.d (.list 1 (([(1 : Int)] : List Int).map (eI .i64))))))
          (OpJs.cons (OpJ.val (v' := (.ptr 1015 3 [3])) (by rfl) (OpJ.fieldP Try.underlying30 (by rfl) (o := 3) (by rfl) tyS22 (by decide) (obj := (.box 30 (.st [(.d (.int .i64 r5.fPort)), (.d (.int .i64 r5.fSeconds)), (.sref 100300 1 0 r5.fIn.length), (.sref 100301 1 0 r5.fOut.length)]))) (ltN hN rfl) (Opd.tmp 15 (.ptr 1015 0 []))))
          (OpJs.cons (OpJ.storeB (bt := 30) (c := (.st [(.d (.int .i64 r5.fPort)), (.d (.int .i64 r5.fSeconds)), (.sref 100300 1 0 r5.fIn.length), (.sref 100301 1 0 r5.fOut.length)])) (v := (.sref 1073 1 0 ((r5.fOut ++ ([(1 : Int)] : List Int)).length))) (c' := (.st [(.d (.int .i64 r5.fPort)), (.d (.int .i64 r5.fSeconds)), (.sref 100300 1 0 r5.fIn.length), (.sref 1073 1 0 ((r5.fOut ++ ([(1 : Int)] : List Int)).length))])) tyS22 (SetAt.st1 (f := (.sref 100301 1 0 r5.fOut.length)) (by rfl) (by rfl) (SetAt.here _ _) (by rfl) (by rfl) (by first | rfl | omega)) (by rfl) (by rfl) (by simp) rfl (Opd.tmp 74 (.ptr 1015 3 [3])) (Opd.tmp 73 (.sref 1073 1 0 ((r5.fOut ++ ([(1 : Int)] : List Int)).length))))
          (OpJs.nil))))))) (by rfl) (by rfl) ?_
        exact hjj18 _ h _ _ (Mat.trans (Mat.pat [] [(1, (.d (.list 1 (a1.map (eI .i64))))), (2, (.d (.int .i64 a2))), (3, (.d (.int .i64 a3))), (4, (.d (.int .i64 a4))), (6, (.ptr 1006 0 [])), (14, (.ptr 1014 0 [])), (15, (.ptr 1015 0 []))] [(1006, some (.box 30 (.d (e_api_Series a0)))), (1014, some (.box 30 (.d (e_api_Series r4.1)))), (1015, some (.box 30 (.st [(.d (.int .i64 r5.fPort)), (.d (.int .i64 r5.fSeconds)), (.sref 100300 1 0 r5.fIn.length), (.sref 1073 1 0 ((r5.fOut ++ ([(1 : Int)] : List Int)).length))]))), (1073, some (.row 3 1 ((r5.fOut ++ ([(1 : Int)] : List Int)).map (eI .i64)))), (100300, some (.row 3 1 (r5.fIn.map (eI .i64))))] hB (by rfl) (by rfl) (by rfl)) (Mat.pat [(13153, 1073)] ((fun m17 : Int × (List Int) × (List Int) => ([(1, (.d (.list 1 (a1.map (eI .i64))))), (2, (.d (.int .i64 a2))), (3, (.d (.int .i64 a3))), (4, (.d (.int .i64 a4))), (6, (.ptr 1006 0 [])), (14, (.ptr 1014 0 [])), (15, (.ptr 1015 0 []))] : EL)) (r5.fSeconds, (r5.fOut ++ ([(1 : Int)] : List Int)), r5.fIn)) ((fun m17 : Int × (List Int) × (List Int) => ([(1006, some (.box 30 (.d (e_api_Series a0)))), (1014, some (.box 30 (.d (e_api_Series r4.1)))), (1015, some (.box 30 (.st [(.d (.int .i64 r5.fPort)), (.d (.int .i64 m17.1)), (.sref 100300 1 0 m17.2.2.length), (.sref 13153 1 0 m17.2.1.length)]))), (13153, some (.row 3 1 (m17.2.1.map (eI .i64)))), (100300, some (.row 3 1 (m17.2.2.map (eI .i64))))] : OL)) (r5.fSeconds, (r5.fOut ++ ([(1 : Int)] : List Int)), r5.fIn)) hB (by rfl) (by rfl) (by rfl)))
      · replace h := ite_f hg211 h
        refine AWp.seq ?_
        refine AWp.region (OpJs.cons (OpJ.eqlI (ltN hN rfl) (Opd.tmp 67 (.d (.int .i64 r6))) (Opd.int .i64 (1)))
          (OpJs.cons (OpJ.assign (ltN hN rfl) (Opd.tmp 76 (.d (.bool (r6 == (1 : Int))))))
          (OpJs.nil))) (by rfl) (by rfl) ?_
        refine seqQ_n ?_
        refine AWp.ghost (Mat.pat [] [(1, (.d (.list 1 (a1.map (eI .i64))))), (2, (.d (.int .i64 a2))), (3, (.d (.int .i64 a3))), (4, (.d (.int .i64 a4))), (6, (.ptr 1006 0 [])), (14, (.ptr 1014 0 [])), (15, (.ptr 1015 0 [])), (67, (.d (.int .i64 r6))), (75, (.d (.bool (r6 == (1 : Int)))))] [(1006, some (.box 30 (.d (e_api_Series a0)))), (1014, some (.box 30 (.d (e_api_Series r4.1)))), (1015, some (.box 30 (.st [(.d (.int .i64 r5.fPort)), (.d (.int .i64 r5.fSeconds)), (.sref 100300 1 0 r5.fIn.length), (.sref 100301 1 0 r5.fOut.length)]))), (100300, some (.row 3 1 (r5.fIn.map (eI .i64)))), (100301, some (.row 3 1 (r5.fOut.map (eI .i64))))] hB (by rfl) (by rfl) (by rfl)) ?_
        refine AWp.cond (b := (r6 == (1 : Int))) (by rfl) (fun hg213 => ?_) (fun hg213 => ?_)
        · replace h := ite_t hg213 h
          refine AWp.seq ?_
          refine AWp.region (OpJs.cons (OpJ.val (v' := (.ptr 1015 2 [2])) (by rfl) (OpJ.fieldP Try.underlying30 (by rfl) (o := 2) (by rfl) tyS22 (by decide) (obj := (.box 30 (.st [(.d (.int .i64 r5.fPort)), (.d (.int .i64 r5.fSeconds)), (.sref 100300 1 0 r5.fIn.length), (.sref 100301 1 0 r5.fOut.length)]))) (ltN hN rfl) (Opd.tmp 15 (.ptr 1015 0 []))))
            (OpJs.cons (OpJ.loadB (bt := 30) (c := (.st [(.d (.int .i64 r5.fPort)), (.d (.int .i64 r5.fSeconds)), (.sref 100300 1 0 r5.fIn.length), (.sref 100301 1 0 r5.fOut.length)])) (v := (.sref 100300 1 0 r5.fIn.length)) tyS22 (At.st1 (f := (.sref 100300 1 0 r5.fIn.length)) (by rfl) (by rfl) (At.here _) (by first | rfl | omega)) (by rfl) (by rfl) rfl (ltN hN rfl) (Opd.tmp 77 (.ptr 1015 2 [2])))
            (OpJs.cons (OpJ.lenS (obj := (.row 3 1 (r5.fIn.map (eI .i64)))) Try.underlying22 (ltN hN rfl) (Opd.tmp 78 (.sref 100300 1 0 r5.fIn.length)))
            (OpJs.cons (OpJ.gtr (ltN hN rfl) (Opd.tmp 79 (.d (.int .i64 (r5.fIn.length : Int)))) (Opd.int .i64 (0)))
            (OpJs.nil))))) (by rfl) (by rfl) ?_
          refine seqQ_n ?_
          refine AWp.ghost (Mat.pat [] [(1, (.d (.list 1 (a1.map (eI .i64))))), (2, (.d (.int .i64 a2))), (3, (.d (.int .i64 a3))), (4, (.d (.int .i64 a4))), (6, (.ptr 1006 0 [])), (14, (.ptr 1014 0 [])), (15, (.ptr 1015 0 [])), (80, (.d (.bool (decide ((0 : Int) < (r5.fIn.length : Int))))))] [(1006, some (.box 30 (.d (e_api_Series a0)))), (1014, some (.box 30 (.d (e_api_Series r4.1)))), (1015, some (.box 30 (.st [(.d (.int .i64 r5.fPort)), (.d (.int .i64 r5.fSeconds)), (.sref 100300 1 0 r5.fIn.length), (.sref 100301 1 0 r5.fOut.length)]))), (100300, some (.row 3 1 (r5.fIn.map (eI .i64)))), (100301, some (.row 3 1 (r5.fOut.map (eI .i64))))] hB (by rfl) (by rfl) (by rfl)) ?_
          refine AWp.cond (b := (decide ((0 : Int) < (r5.fIn.length : Int)))) (by rfl) (fun hg214 => ?_) (fun hg214 => ?_)
          · replace h := ite_t hg214 h
            obtain ⟨r215, hr215, h⟩ := bindS h
            obtain ⟨r216, hr216, h⟩ := bindS h
            obtain ⟨x217, hx217, h⟩ := bindS h
            obtain ⟨x218, hx218, h⟩ := bindS h
            refine AWp.draws (by kernel_rfl) (OpJs.cons (OpJ.val (v' := (.ptr 1015 2 [2])) (by rfl) (OpJ.fieldP Try.underlying30 (by rfl) (o := 2) (by rfl) tyS22 (by decide) (obj := (.box 30 (.st [(.d (.int .i64 r5.fPort)), (.d (.int .i64 r5.fSeconds)), (.sref 100300 1 0 r5.fIn.length), (.sref 100301 1 0 r5.fOut.length)]))) (ltN hN rfl) (Opd.tmp 15 (.ptr 1015 0 []))))
              (OpJs.cons (OpJ.loadB (bt := 30) (c := (.st [(.d (.int .i64 r5.fPort)), (.d (.int .i64 r5.fSeconds)), (.sref 100300 1 0 r5.fIn.length), (.sref 100301 1 0 r5.fOut.length)])) (v := (.sref 100300 1 0 r5.fIn.length)) tyS22 (At.st1 (f := (.sref 100300 1 0 r5.fIn.length)) (by rfl) (by rfl) (At.here _) (by first | rfl | omega)) (by rfl) (by rfl) rfl (ltN hN rfl) (Opd.tmp 81 (.ptr 1015 2 [2])))
              (OpJs.cons (OpJ.move (ltN hN rfl) (Opd.tmp 2 (.d (.int .i64 a2))))
              (OpJs.cons (OpJ.val (v' := (.ptr 1015 2 [2])) (by rfl) (OpJ.fieldP Try.underlying30 (by rfl) (o := 2) (by rfl) tyS22 (by decide) (obj := (.box 30 (.st [(.d (.int .i64 r5.fPort)), (.d (.int .i64 r5.fSeconds)), (.sref 100300 1 0 r5.fIn.length), (.sref 100301 1 0 r5.fOut.length)]))) (ltN hN rfl) (Opd.tmp 15 (.ptr 1015 0 []))))
              (OpJs.cons (OpJ.loadB (bt := 30) (c := (.st [(.d (.int .i64 r5.fPort)), (.d (.int .i64 r5.fSeconds)), (.sref 100300 1 0 r5.fIn.length), (.sref 100301 1 0 r5.fOut.length)])) (v := (.sref 100300 1 0 r5.fIn.length)) tyS22 (At.st1 (f := (.sref 100300 1 0 r5.fIn.length)) (by rfl) (by rfl) (At.here _) (by first | rfl | omega)) (by rfl) (by rfl) rfl (ltN hN rfl) (Opd.tmp 84 (.ptr 1015 2 [2])))
              (OpJs.cons (OpJ.lenS (obj := (.row 3 1 (r5.fIn.map (eI .i64)))) Try.underlying22 (ltN hN rfl) (Opd.tmp 85 (.sref 100300 1 0 r5.fIn.length)))
              (OpJs.cons (OpJ.callFn hB fnOk10 (exchangepointmill_Mod_ac a2 (r5.fIn.length : Int) r215 hr215) [] (by kernel_rfl) (ltN hN rfl) (by kernel_rfl) (OpdL.cons (Opd.tmp 83 (.d (.int .i64 a2))) (OpdL.cons (Opd.tmp 86 (.d (.int .i64 (r5.fIn.length : Int)))) OpdL.nil)))
              (OpJs.cons (OpJ.move (ltN hN rfl) (Opd.tmp 3 (.d (.int .i64 a3))))
              (OpJs.cons (OpJ.callFn hB fnOk10 (exchangepointmill_Mod_ac a3 (3 : Int) r216 hr216) [] (by kernel_rfl) (ltN hN rfl) (by kernel_rfl) (OpdL.cons (Opd.tmp 88 (.d (.int .i64 a3))) (OpdL.cons (Opd.int .i64 (3)) OpdL.nil)))
              (OpJs.cons (OpJ.sub (ltN hN rfl) (Opd.tmp 89 (.d (.int .i64 r216))) (Opd.int .i64 (2)))
              (OpJs.cons (OpJ.val (v' := (.ptr 100300 (r215.toNat * 1) [r215.toNat])) (by simp) (OpJ.indexS Try.underlying22 tyS3 (obj := (.row 3 1 (r5.fIn.map (eI .i64)))) (idx_some hx217).1 (by have := idx_lt hx217; first | (simpa using this) | ((try simp only [List.length_map] at this); (try simp only [List.length_map]); omega)) (ltN hN rfl) (Opd.tmp 82 (.sref 100300 1 0 r5.fIn.length)) (Opd.tmp 87 (.d (.int .i64 r215)))))
              (OpJs.cons (OpJ.storeR (e := 3) (sz := 1) (es := r5.fIn.map (eI .i64)) (es' := (r5.fIn.set r215.toNat (w64 (r216 - (2 : Int)))).map (eI .i64)) tyS3 (get_map (eI .i64) (idx_some hx218).2) (o := 0) (v := (.int .i64 (w64 (r216 - (2 : Int))))) (el' := (.int .i64 (w64 (r216 - (2 : Int))))) (SetAt.here _ _) (by rfl) (map_set _ _ _ _) (by rfl) (by rfl) (Opd.tmp 91 (.ptr 100300 (r215.toNat * 1) [r215.toNat])) (Opd.tmp 90 (.d (.int .i64 (w64 (r216 - (2 : Int)))))))
              (OpJs.nil))))))))))))) (by kernel_rfl) (by rfl) (by rfl) ?_
            exact hjj18 _ h _ _ (Mat.trans (Mat.pat [] [(1, (.d (.list 1 (a1.map (eI .i64))))), (2, (.d (.int .i64 a2))), (3, (.d (.int .i64 a3))), (4, (.d (.int .i64 a4))), (6, (.ptr 1006 0 [])), (14, (.ptr 1014 0 [])), (15, (.ptr 1015 0 []))] [(1006, some (.box 30 (.d (e_api_Series a0)))), (1014, some (.box 30 (.d (e_api_Series r4.1)))), (1015, some (.box 30 (.st [(.d (.int .i64 r5.fPort)), (.d (.int .i64 r5.fSeconds)), (.sref 100300 1 0 r5.fIn.length), (.sref 100301 1 0 r5.fOut.length)]))), (100300, some (.row 3 1 ((r5.fIn.set r215.toNat (w64 (r216 - (2 : Int)))).map (eI .i64)))), (100301, some (.row 3 1 (r5.fOut.map (eI .i64))))] hB (by rfl) (by rfl) (by rfl)) (Mat.trans (Mat.lenP (Ts := []) (Bs := [(1015, some (.box 30 (.st [(.d (.int .i64 r5.fPort)), (.d (.int .i64 r5.fSeconds)), (.sref 100300 1 0 ((r5.fIn.set r215.toNat (w64 (r216 - (2 : Int)))).length)), (.sref 100301 1 0 r5.fOut.length)])))]) TwT.nil (TwB.cons (x := (.st [(.d (.int .i64 r5.fPort)), (.d (.int .i64 r5.fSeconds)), (.sref 100300 1 0 r5.fIn.length), (.sref 100301 1 0 r5.fOut.length)])) (by rfl) (Tw.st (TwL.cons (Tw.same _) (TwL.cons (Tw.same _) (TwL.cons (Tw.leaf ⟨_, _, _, _, _, rfl, rfl, (by first | rfl | (simp; done) | (simp; omega))⟩) (TwL.cons (Tw.same _) TwL.nil))))) TwB.nil)) (Mat.pat [(13153, 100301)] ((fun m17 : Int × (List Int) × (List Int) => ([(1, (.d (.list 1 (a1.map (eI .i64))))), (2, (.d (.int .i64 a2))), (3, (.d (.int .i64 a3))), (4, (.d (.int .i64 a4))), (6, (.ptr 1006 0 [])), (14, (.ptr 1014 0 [])), (15, (.ptr 1015 0 []))] : EL)) (r5.fSeconds, r5.fOut, (r5.fIn.set r215.toNat (w64 (r216 - (2 : Int)))))) ((fun m17 : Int × (List Int) × (List Int) => ([(1006, some (.box 30 (.d (e_api_Series a0)))), (1014, some (.box 30 (.d (e_api_Series r4.1)))), (1015, some (.box 30 (.st [(.d (.int .i64 r5.fPort)), (.d (.int .i64 m17.1)), (.sref 100300 1 0 m17.2.2.length), (.sref 13153 1 0 m17.2.1.length)]))), (13153, some (.row 3 1 (m17.2.1.map (eI .i64)))), (100300, some (.row 3 1 (m17.2.2.map (eI .i64))))] : OL)) (r5.fSeconds, r5.fOut, (r5.fIn.set r215.toNat (w64 (r216 - (2 : Int)))))) hB (by rfl) (by rfl) (by rfl))))
          · replace h := ite_f hg214 h
            refine AWp.skip ?_
            exact hjj18 _ h _ _ (Mat.pat [(13153, 100301)] ((fun m17 : Int × (List Int) × (List Int) => ([(1, (.d (.list 1 (a1.map (eI .i64))))), (2, (.d (.int .i64 a2))), (3, (.d (.int .i64 a3))), (4, (.d (.int .i64 a4))), (6, (.ptr 1006 0 [])), (14, (.ptr 1014 0 [])), (15, (.ptr 1015 0 []))] : EL)) (r5.fSeconds, r5.fOut, r5.fIn)) ((fun m17 : Int × (List Int) × (List Int) => ([(1006, some (.box 30 (.d (e_api_Series a0)))), (1014, some (.box 30 (.d (e_api_Series r4.1)))), (1015, some (.box 30 (.st [(.d (.int .i64 r5.fPort)), (.d (.int .i64 m17.1)), (.sref 100300 1 0 m17.2.2.length), (.sref 13153 1 0 m17.2.1.length)]))), (13153, some (.row 3 1 (m17.2.1.map (eI .i64)))), (100300, some (.row 3 1 (m17.2.2.map (eI .i64))))] : OL)) (r5.fSeconds, r5.fOut, r5.fIn)) hB (by rfl) (by rfl) (by rfl))
        · replace h := ite_f hg213 h
          refine AWp.seq ?_
          refine AWp.region (OpJs.cons (OpJ.eqlI (ltN hN rfl) (Opd.tmp 67 (.d (.int .i64 r6))) (Opd.int .i64 (2)))
            (OpJs.cons (OpJ.assign (ltN hN rfl) (Opd.tmp 93 (.d (.bool (r6 == (2 : Int))))))
            (OpJs.nil))) (by rfl) (by rfl) ?_
          refine seqQ_n ?_
          refine AWp.ghost (Mat.pat [] [(1, (.d (.list 1 (a1.map (eI .i64))))), (2, (.d (.int .i64 a2))), (3, (.d (.int .i64 a3))), (4, (.d (.int .i64 a4))), (6, (.ptr 1006 0 [])), (14, (.ptr 1014 0 [])), (15, (.ptr 1015 0 [])), (92, (.d (.bool (r6 == (2 : Int)))))] [(1006, some (.box 30 (.d (e_api_Series a0)))), (1014, some (.box 30 (.d (e_api_Series r4.1)))), (1015, some (.box 30 (.st [(.d (.int .i64 r5.fPort)), (.d (.int .i64 r5.fSeconds)), (.sref 100300 1 0 r5.fIn.length), (.sref 100301 1 0 r5.fOut.length)]))), (100300, some (.row 3 1 (r5.fIn.map (eI .i64)))), (100301, some (.row 3 1 (r5.fOut.map (eI .i64))))] hB (by rfl) (by rfl) (by rfl)) ?_
          refine AWp.cond (b := (r6 == (2 : Int))) (by rfl) (fun hg219 => ?_) (fun hg219 => ?_)
          · replace h := ite_t hg219 h
            obtain ⟨r220, hr220, h⟩ := bindS h
            refine AWp.region (OpJs.cons (OpJ.move (ltN hN rfl) (Opd.tmp 3 (.d (.int .i64 a3))))
              (OpJs.cons (OpJ.callFn hB fnOk10 (exchangepointmill_Mod_ac a3 (3 : Int) r220 hr220) [] (by kernel_rfl) (ltN hN rfl) (by kernel_rfl) (OpdL.cons (Opd.tmp 94 (.d (.int .i64 a3))) (OpdL.cons (Opd.int .i64 (3)) OpdL.nil)))
              (OpJs.cons (OpJ.val (v' := (.ptr 1015 1 [1])) (by rfl) (OpJ.fieldP Try.underlying30 (by rfl) (o := 1) (by rfl) tyS3 (by decide) (obj := (.box 30 (.st [(.d (.int .i64 r5.fPort)), (.d (.int .i64 r5.fSeconds)), (.sref 100300 1 0 r5.fIn.length), (.sref 100301 1 0 r5.fOut.length)]))) (ltN hN rfl) (Opd.tmp 15 (.ptr 1015 0 []))))
              (OpJs.cons (OpJ.storeB (bt := 30) (c := (.st [(.d (.int .i64 r5.fPort)), (.d (.int .i64 r5.fSeconds)), (.sref 100300 1 0 r5.fIn.length), (.sref 100301 1 0 r5.fOut.length)])) (v := (.d (.int .i64 r220))) (c' := (.st [(.d (.int .i64 r5.fPort)), (.d (.int .i64 r220)), (.sref 100300 1 0 r5.fIn.length), (.sref 100301 1 0 r5.fOut.length)])) tyS3 (SetAt.st1 (f := (.d (.int .i64 r5.fSeconds))) (by rfl) (by rfl) (SetAt.here _ _) (by rfl) (by rfl) (by first | rfl | omega)) (by rfl) (by rfl) (by simp) rfl (Opd.tmp 96 (.ptr 1015 1 [1])) (Opd.tmp 95 (.d (.int .i64 r220))))
              (OpJs.nil))))) (by rfl) (by rfl) ?_
            exact hjj18 _ h _ _ (Mat.trans (Mat.pat [] [(1, (.d (.list 1 (a1.map (eI .i64))))), (2, (.d (.int .i64 a2))), (3, (.d (.int .i64 a3))), (4, (.d (.int .i64 a4))), (6, (.ptr 1006 0 [])), (14, (.ptr 1014 0 [])), (15, (.ptr 1015 0 []))] [(1006, some (.box 30 (.d (e_api_Series a0)))), (1014, some (.box 30 (.d (e_api_Series r4.1)))), (1015, some (.box 30 (.st [(.d (.int .i64 r5.fPort)), (.d (.int .i64 r220)), (.sref 100300 1 0 r5.fIn.length), (.sref 100301 1 0 r5.fOut.length)]))), (100300, some (.row 3 1 (r5.fIn.map (eI .i64)))), (100301, some (.row 3 1 (r5.fOut.map (eI .i64))))] hB (by rfl) (by rfl) (by rfl)) (Mat.pat [(13153, 100301)] ((fun m17 : Int × (List Int) × (List Int) => ([(1, (.d (.list 1 (a1.map (eI .i64))))), (2, (.d (.int .i64 a2))), (3, (.d (.int .i64 a3))), (4, (.d (.int .i64 a4))), (6, (.ptr 1006 0 [])), (14, (.ptr 1014 0 [])), (15, (.ptr 1015 0 []))] : EL)) (r220, r5.fOut, r5.fIn)) ((fun m17 : Int × (List Int) × (List Int) => ([(1006, some (.box 30 (.d (e_api_Series a0)))), (1014, some (.box 30 (.d (e_api_Series r4.1)))), (1015, some (.box 30 (.st [(.d (.int .i64 r5.fPort)), (.d (.int .i64 m17.1)), (.sref 100300 1 0 m17.2.2.length), (.sref 13153 1 0 m17.2.1.length)]))), (13153, some (.row 3 1 (m17.2.1.map (eI .i64)))), (100300, some (.row 3 1 (m17.2.2.map (eI .i64))))] : OL)) (r220, r5.fOut, r5.fIn)) hB (by rfl) (by rfl) (by rfl)))
          · replace h := ite_f hg219 h
            refine AWp.skip ?_
            exact hjj18 _ h _ _ (Mat.pat [(13153, 100301)] ((fun m17 : Int × (List Int) × (List Int) => ([(1, (.d (.list 1 (a1.map (eI .i64))))), (2, (.d (.int .i64 a2))), (3, (.d (.int .i64 a3))), (4, (.d (.int .i64 a4))), (6, (.ptr 1006 0 [])), (14, (.ptr 1014 0 [])), (15, (.ptr 1015 0 []))] : EL)) (r5.fSeconds, r5.fOut, r5.fIn)) ((fun m17 : Int × (List Int) × (List Int) => ([(1006, some (.box 30 (.d (e_api_Series a0)))), (1014, some (.box 30 (.d (e_api_Series r4.1)))), (1015, some (.box 30 (.st [(.d (.int .i64 r5.fPort)), (.d (.int .i64 m17.1)), (.sref 100300 1 0 m17.2.2.length), (.sref 13153 1 0 m17.2.1.length)]))), (13153, some (.row 3 1 (m17.2.1.map (eI .i64)))), (100300, some (.row 3 1 (m17.2.2.map (eI .i64))))] : OL)) (r5.fSeconds, r5.fOut, r5.fIn)) hB (by rfl) (by rfl) (by rfl))


end Go.Proofs.Ytgbfjigliajbkaa
