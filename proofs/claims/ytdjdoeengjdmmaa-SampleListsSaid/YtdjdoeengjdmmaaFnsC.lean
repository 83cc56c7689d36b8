/- Printed by gen.py: the Go functions as plain functions, and that the code does what they say. -/
import Derived.Test.YtdjdoeengjdmmaaChecked
import Derived.Test.YtdjdoeengjdmmaaVcR
import Derived.KernelRfl
import Derived.Test.YtdjdoeengjdmmaaFnsB
namespace Go.Proofs.Ytdjdoeengjdmmaa
open Go Go.Vc
noncomputable def exchangepointref37_Valid_L0 (a0 : (List api_Sample)) (s1 : Int) : Option (((Unit) ⊕ (Unit)) ⊕ (Int)) :=
  (if (decide (s1 < (a0.length : Int))) = true then
  (idx a0 s1).bind fun x23 =>
  jn (fun m26 : Bool =>
  (if (!m26) = true then
  some (.inl (.inl ()))
  else
  some (.inr (w64 (s1 + (1 : Int)))))) (fun j27 =>
  (if (decide ((0 : Int) < s1)) = true then
  (idx a0 (w64 (s1 - (1 : Int)))).bind fun x30 =>
  j27 (((((((((((((((decide ((0 : Int) ≤ x23.fTick)) && (decide (x23.fTick ≤ (1073741824 : Int)))) && (decide ((0 : Int) ≤ x23.fSeq))) && (decide (x23.fSeq ≤ (1099511627776 : Int)))) && (decide ((0 : Int) ≤ x23.fPool))) && (decide (x23.fPool ≤ (1099511627776 : Int)))) && (decide ((1 : Int) ≤ x23.fIn))) && (decide (x23.fIn ≤ (999 : Int)))) && (decide ((1 : Int) ≤ x23.fOut))) && (decide (x23.fOut ≤ (999 : Int)))) && (decide ((0 : Int) ≤ x23.fBytes))) && (decide (x23.fBytes ≤ (65535 : Int)))) && (decide (x30.fSeq < x23.fSeq))) && (decide ((w64 (x23.fSeq - x30.fSeq)) ≤ (w64 (x23.fPool - x30.fPool))))) && (decide (x30.fTick ≤ x23.fTick)))
  else
  j27 ((((((((((((decide ((0 : Int) ≤ x23.fTick)) && (decide (x23.fTick ≤ (1073741824 : Int)))) && (decide ((0 : Int) ≤ x23.fSeq))) && (decide (x23.fSeq ≤ (1099511627776 : Int)))) && (decide ((0 : Int) ≤ x23.fPool))) && (decide (x23.fPool ≤ (1099511627776 : Int)))) && (decide ((1 : Int) ≤ x23.fIn))) && (decide (x23.fIn ≤ (999 : Int)))) && (decide ((1 : Int) ≤ x23.fOut))) && (decide (x23.fOut ≤ (999 : Int)))) && (decide ((0 : Int) ≤ x23.fBytes))) && (decide (x23.fBytes ≤ (65535 : Int))))))
  else
  some (.inl (.inr ())))
noncomputable def exchangepointref37_Valid (a0 : (List api_Sample)) : Option (Bool) :=
  (loop (exchangepointref37_Valid_L0 a0) (0 : Int)).bind fun x31 => match x31 with
  | (.inl _) =>
    some false
  | (.inr _) =>
    some (decide ((a0.length : Int) ≤ (1000 : Int)))
set_option maxHeartbeats 4000000 in
set_option maxRecDepth 100000 in
theorem exchangepointref37_Valid_ac (a0 : (List api_Sample)) (r : Bool) (h : exchangepointref37_Valid a0 = some r) : AC Try.prog 17 [(.d (.list 6 (a0.map e_api_Sample)))] [] (.d (.bool r)) [] := by
  refine AC.of_code2 Try.func17 rfl rfl (Nat.le_of_ble_eq_true (by rfl)) fun B hB hN => ?_
  delta exchangepointref37_Valid at h
  refine AWp.seq ?_
  refine AWp.region (OpJs.cons (OpJ.assign (ltN hN rfl) (Opd.bool false))
  (OpJs.nil)) (by rfl) (by rfl) ?_
  refine seqQ_n ?_
  refine AWp.ghost (Mat.pat [] [(0, (.d (.list 6 (a0.map e_api_Sample))))] [] hB (by rfl) (by rfl) (by rfl)) ?_
  refine AWp.seq ?_
  refine AWp.seq ?_
  refine AWp.region (OpJs.cons (OpJ.move (ltN hN rfl) (Opd.tmp 0 (.d (.list 6 (a0.map e_api_Sample)))))
  (OpJs.cons (OpJ.val (v' := (.d (.int .i64 (a0.length : Int)))) (by simp) (OpJ.lenD Try.underlying31 (ltN hN rfl) (Opd.tmp 7 (.d (.list 6 (a0.map e_api_Sample))))))
  (OpJs.cons (OpJ.move (ltN hN rfl) (Opd.int .i64 (0)))
  (OpJs.nil)))) (by rfl) (by rfl) ?_
  refine seqQ_n ?_
  refine AWp.ghost (Mat.pat [] [(0, (.d (.list 6 (a0.map e_api_Sample)))), (7, (.d (.list 6 (a0.map e_api_Sample)))), (8, (.d (.int .i64 (a0.length : Int)))), (9, (.d (.int .i64 (0 : Int))))] [] hB (by rfl) (by rfl) (by rfl)) ?_
  refine AWp.block ?_
  obtain ⟨x31, hx32, h⟩ := bindS h
  refine AWp.ghost (Mat.pat [] ((fun s1 : Int => ([(0, (.d (.list 6 (a0.map e_api_Sample)))), (7, (.d (.list 6 (a0.map e_api_Sample)))), (8, (.d (.int .i64 (a0.length : Int)))), (9, (.d (.int .i64 s1)))] : EL)) (0 : Int)) ((fun s1 : Int => ([] : OL)) (0 : Int)) hB (by rfl) (by rfl) (by rfl)) ?_
  refine AWp.loopS (exchangepointref37_Valid_L0 a0) (fun s1 : Int => ([(0, (.d (.list 6 (a0.map e_api_Sample)))), (7, (.d (.list 6 (a0.map e_api_Sample)))), (8, (.d (.int .i64 (a0.length : Int)))), (9, (.d (.int .i64 s1)))] : EL)) (fun s1 : Int => ([] : OL)) (fun (x : (Unit) ⊕ (Unit)) e E' O' => match x with | (.inl _p) => e = .ret ∧ Mat B E' O' ([(2, (.d (.bool false)))] : EL) ([] : OL) | (.inr _p) => e = .exit 0 ∧ Mat B E' O' ([(0, (.d (.list 6 (a0.map e_api_Sample))))] : EL) ([] : OL)) hx32 (fun s1 y h => ?_) (fun e E' O' hR => ?_)
  · unfold exchangepointref37_Valid_L0 at h
    show AWp _ _ _ _ ([(0, (.d (.list 6 (a0.map e_api_Sample)))), (7, (.d (.list 6 (a0.map e_api_Sample)))), (8, (.d (.int .i64 (a0.length : Int)))), (9, (.d (.int .i64 s1)))] : EL) ([] : OL)
    refine AWp.seq ?_
    refine AWp.region (OpJs.cons (OpJ.lss (ltN hN rfl) (Opd.tmp 9 (.d (.int .i64 s1))) (Opd.tmp 8 (.d (.int .i64 (a0.length : Int)))))
      (OpJs.nil)) (by rfl) (by rfl) ?_
    refine seqQ_n ?_
    refine AWp.ghost (Mat.pat [] [(0, (.d (.list 6 (a0.map e_api_Sample)))), (7, (.d (.list 6 (a0.map e_api_Sample)))), (8, (.d (.int .i64 (a0.length : Int)))), (9, (.d (.int .i64 s1))), (10, (.d (.bool (decide (s1 < (a0.length : Int))))))] [] hB (by rfl) (by rfl) (by rfl)) ?_
    refine AWp.seq ?_
    refine AWp.cond (b := (decide (s1 < (a0.length : Int)))) (by rfl) (fun hg22 => ?_) (fun hg22 => ?_)
    · replace h := ite_t hg22 h
      refine AWp.skip ?_
      refine seqQ_n ?_
      refine AWp.seq ?_
      refine AWp.block ?_
      refine AWp.seq ?_
      obtain ⟨x23, hx23, h⟩ := bindS h
      refine AWp.region (OpJs.cons (OpJ.move (ltN hN rfl) (Opd.tmp 9 (.d (.int .i64 s1))))
        (OpJs.cons (OpJ.indexD (el := (e_api_Sample x23)) Try.underlying31 tyS36 (idx_some hx23).1 (get_map e_api_Sample (idx_some hx23).2) (ltN hN rfl) (Opd.tmp 7 (.d (.list 6 (a0.map e_api_Sample)))) (Opd.tmp 9 (.d (.int .i64 s1))))
        (OpJs.cons (OpJ.loadD tyS36 (by rfl) (by rfl) (ltN hN rfl) (Opd.tmp 12 (.dptr (e_api_Sample x23))))
        (OpJs.cons (OpJ.alloc hB tyZ36 (nm := 1004) (by decide) (ltN hN rfl))
        (OpJs.cons (OpJ.assign (ltN hN rfl) (Opd.tmp 11 (.d (.int .i64 s1))))
        (OpJs.cons (OpJ.storeB (bt := 36) (c := (.d (.st [(.int .i64 (0 : Int)), (.int .i64 (0 : Int)), (.int .i64 (0 : Int)), (.int .i64 (0 : Int)), (.int .i64 (0 : Int)), (.int .i64 (0 : Int))]))) (v := (.d (e_api_Sample x23))) (c' := (.d (e_api_Sample x23))) tyS36 (SetAt.here _ _) (by rfl) (by rfl) (by simp) rfl (Opd.tmp 4 (.ptr 1004 0 [])) (Opd.tmp 13 (.d (e_api_Sample x23))))
        (OpJs.nil))))))) (by rfl) (by rfl) ?_
      refine seqQ_n ?_
      refine AWp.ghost (Mat.pat [] [(0, (.d (.list 6 (a0.map e_api_Sample)))), (3, (.d (.int .i64 s1))), (4, (.ptr 1004 0 [])), (7, (.d (.list 6 (a0.map e_api_Sample)))), (8, (.d (.int .i64 (a0.length : Int)))), (9, (.d (.int .i64 s1)))] [(1004, some (.box 36 (.d (e_api_Sample x23))))] hB (by rfl) (by rfl) (by rfl)) ?_
      refine AWp.seq ?_
      refine AWp.region (OpJs.cons (OpJ.val (v' := (.ptr 1004 0 [0])) (by rfl) (OpJ.fieldP Try.underlying36 (by rfl) (o := 0) (by rfl) tyS3 (by decide) (obj := (.box 36 (.d (e_api_Sample x23)))) (ltN hN rfl) (Opd.tmp 4 (.ptr 1004 0 []))))
        (OpJs.cons (OpJ.loadB (bt := 36) (c := (.d (e_api_Sample x23))) (v := (.d (.int .i64 x23.fTick))) tyS3 (At.dst1 (f := (.int .i64 x23.fTick)) (by rfl) (by rfl) (At.here _) (by first | rfl | omega)) (by rfl) (by rfl) rfl (ltN hN rfl) (Opd.tmp 14 (.ptr 1004 0 [0])))
        (OpJs.cons (OpJ.geq (ltN hN rfl) (Opd.tmp 15 (.d (.int .i64 x23.fTick))) (Opd.int .i64 (0)))
        (OpJs.cons (OpJ.move (ltN hN rfl) (Opd.tmp 16 (.d (.bool (decide ((0 : Int) ≤ x23.fTick))))))
        (OpJs.cons (OpJ.opt' (v := (.ptr 1004 0 [0])) (OpJ.val (v' := (.ptr 1004 0 [0])) (by rfl) (OpJ.fieldP Try.underlying36 (by rfl) (o := 0) (by rfl) tyS3 (by decide) (obj := (.box 36 (.d (e_api_Sample x23)))) (ltN hN rfl) (Opd.tmp 4 (.ptr 1004 0 [])))) (by rfl) (GuardV.plain _) (ltN hN rfl) (by rfl) (by rfl) (by rfl) (by rfl) (OptL.keep rfl OptL.nil))
        (OpJs.cons (OpJ.opt' (v := (.d (.int .i64 x23.fTick))) (OpJ.loadB (bt := 36) (c := (.d (e_api_Sample x23))) (v := (.d (.int .i64 x23.fTick))) tyS3 (At.dst1 (f := (.int .i64 x23.fTick)) (by rfl) (by rfl) (At.here _) (by first | rfl | omega)) (by rfl) (by rfl) rfl (ltN hN rfl) (Opd.tmp 18 (.ptr 1004 0 [0]))) (by rfl) (GuardV.plain _) (ltN hN rfl) (by rfl) (by rfl) (by rfl) (by rfl) (OptL.opt OptL.nil))
        (OpJs.cons (OpJ.opt' (v := (.d (.bool (decide (x23.fTick ≤ (1073741824 : Int)))))) (OpJ.leq (ltN hN rfl) (Opd.tmp 19 (.d (.int .i64 x23.fTick))) (Opd.int .i64 (1073741824))) (by rfl) (GuardV.plain _) (ltN hN rfl) (by rfl) (by rfl) (by rfl) (by rfl) (OptL.opt OptL.nil))
        (OpJs.cons (OpJ.pickAnd rfl (ltN hN rfl) (Opd.tmp 17 (.d (.bool (decide ((0 : Int) ≤ x23.fTick))))) (Opd.tmp 20 (.opt ((decide ((0 : Int) ≤ x23.fTick)) == true) (.d (.bool (decide (x23.fTick ≤ (1073741824 : Int))))))))
        (OpJs.cons (OpJ.move (ltN hN rfl) (Opd.tmp 21 (.d (.bool ((decide ((0 : Int) ≤ x23.fTick)) && (decide (x23.fTick ≤ (1073741824 : Int))))))))
        (OpJs.cons (OpJ.opt' (v := (.ptr 1004 1 [1])) (OpJ.val (v' := (.ptr 1004 1 [1])) (by rfl) (OpJ.fieldP Try.underlying36 (by rfl) (o := 1) (by rfl) tyS3 (by decide) (obj := (.box 36 (.d (e_api_Sample x23)))) (ltN hN rfl) (Opd.tmp 4 (.ptr 1004 0 [])))) (by rfl) (GuardV.plain _) (ltN hN rfl) (by rfl) (by rfl) (by rfl) (by rfl) (OptL.keep rfl OptL.nil))
        (OpJs.cons (OpJ.opt' (v := (.d (.int .i64 x23.fSeq))) (OpJ.loadB (bt := 36) (c := (.d (e_api_Sample x23))) (v := (.d (.int .i64 x23.fSeq))) tyS3 (At.dst1 (f := (.int .i64 x23.fSeq)) (by rfl) (by rfl) (At.here _) (by first | rfl | omega)) (by rfl) (by rfl) rfl (ltN hN rfl) (Opd.tmp 23 (.ptr 1004 1 [1]))) (by rfl) (GuardV.plain _) (ltN hN rfl) (by rfl) (by rfl) (by rfl) (by rfl) (OptL.opt OptL.nil))
        (OpJs.cons (OpJ.opt' (v := (.d (.bool (decide ((0 : Int) ≤ x23.fSeq))))) (OpJ.geq (ltN hN rfl) (Opd.tmp 24 (.d (.int .i64 x23.fSeq))) (Opd.int .i64 (0))) (by rfl) (GuardV.plain _) (ltN hN rfl) (by rfl) (by rfl) (by rfl) (by rfl) (OptL.opt OptL.nil))
        (OpJs.cons (OpJ.pickAnd rfl (ltN hN rfl) (Opd.tmp 22 (.d (.bool ((decide ((0 : Int) ≤ x23.fTick)) && (decide (x23.fTick ≤ (1073741824 : Int))))))) (Opd.tmp 25 (.opt (((decide ((0 : Int) ≤ x23.fTick)) && (decide (x23.fTick ≤ (1073741824 : Int)))) == true) (.d (.bool (decide ((0 : Int) ≤ x23.fSeq)))))))
        (OpJs.cons (OpJ.move (ltN hN rfl) (Opd.tmp 26 (.d (.bool (((decide ((0 : Int) ≤ x23.fTick)) && (decide (x23.fTick ≤ (1073741824 : Int)))) && (decide ((0 : Int) ≤ x23.fSeq)))))))
        (OpJs.cons (OpJ.opt' (v := (.ptr 1004 1 [1])) (OpJ.val (v' := (.ptr 1004 1 [1])) (by rfl) (OpJ.fieldP Try.underlying36 (by rfl) (o := 1) (by rfl) tyS3 (by decide) (obj := (.box 36 (.d (e_api_Sample x23)))) (ltN hN rfl) (Opd.tmp 4 (.ptr 1004 0 [])))) (by rfl) (GuardV.plain _) (ltN hN rfl) (by rfl) (by rfl) (by rfl) (by rfl) (OptL.keep rfl OptL.nil))
        (OpJs.cons (OpJ.opt' (v := (.d (.int .i64 x23.fSeq))) (OpJ.loadB (bt := 36) (c := (.d (e_api_Sample x23))) (v := (.d (.int .i64 x23.fSeq))) tyS3 (At.dst1 (f := (.int .i64 x23.fSeq)) (by rfl) (by rfl) (At.here _) (by first | rfl | omega)) (by rfl) (by rfl) rfl (ltN hN rfl) (Opd.tmp 28 (.ptr 1004 1 [1]))) (by rfl) (GuardV.plain _) (ltN hN rfl) (by rfl) (by rfl) (by rfl) (by rfl) (OptL.opt OptL.nil))
        (OpJs.cons (OpJ.opt' (v := (.d (.bool (decide (x23.fSeq ≤ (1099511627776 : Int)))))) (OpJ.leq (ltN hN rfl) (Opd.tmp 29 (.d (.int .i64 x23.fSeq))) (Opd.int .i64 (1099511627776))) (by rfl) (GuardV.plain _) (ltN hN rfl) (by rfl) (by rfl) (by rfl) (by rfl) (OptL.opt OptL.nil))
        (OpJs.cons (OpJ.pickAnd rfl (ltN hN rfl) (Opd.tmp 27 (.d (.bool (((decide ((0 : Int) ≤ x23.fTick)) && (decide (x23.fTick ≤ (1073741824 : Int)))) && (decide ((0 : Int) ≤ x23.fSeq)))))) (Opd.tmp 30 (.opt ((((decide ((0 : Int) ≤ x23.fTick)) && (decide (x23.fTick ≤ (1073741824 : Int)))) && (decide ((0 : Int) ≤ x23.fSeq))) == true) (.d (.bool (decide (x23.fSeq ≤ (1099511627776 : Int))))))))
        (OpJs.cons (OpJ.move (ltN hN rfl) (Opd.tmp 31 (.d (.bool ((((decide ((0 : Int) ≤ x23.fTick)) && (decide (x23.fTick ≤ (1073741824 : Int)))) && (decide ((0 : Int) ≤ x23.fSeq))) && (decide (x23.fSeq ≤ (1099511627776 : Int))))))))
        (OpJs.cons (OpJ.opt' (v := (.ptr 1004 2 [2])) (OpJ.val (v' := (.ptr 1004 2 [2])) (by rfl) (OpJ.fieldP Try.underlying36 (by rfl) (o := 2) (by rfl) tyS3 (by decide) (obj := (.box 36 (.d (e_api_Sample x23)))) (ltN hN rfl) (Opd.tmp 4 (.ptr 1004 0 [])))) (by rfl) (GuardV.plain _) (ltN hN rfl) (by rfl) (by rfl) (by rfl) (by rfl) (OptL.keep rfl OptL.nil))
        (OpJs.cons (OpJ.opt' (v := (.d (.int .i64 x23.fPool))) (OpJ.loadB (bt := 36) (c := (.d (e_api_Sample x23))) (v := (.d (.int .i64 x23.fPool))) tyS3 (At.dst1 (f := (.int .i64 x23.fPool)) (by rfl) (by rfl) (At.here _) (by first | rfl | omega)) (by rfl) (by rfl) rfl (ltN hN rfl) (Opd.tmp 33 (.ptr 1004 2 [2]))) (by rfl) (GuardV.plain _) (ltN hN rfl) (by rfl) (by rfl) (by rfl) (by rfl) (OptL.opt OptL.nil))
        (OpJs.cons (OpJ.opt' (v := (.d (.bool (decide ((0 : Int) ≤ x23.fPool))))) (OpJ.geq (ltN hN rfl) (Opd.tmp 34 (.d (.int .i64 x23.fPool))) (Opd.int .i64 (0))) (by rfl) (GuardV.plain _) (ltN hN rfl) (by rfl) (by rfl) (by rfl) (by rfl) (OptL.opt OptL.nil))
        (OpJs.cons (OpJ.pickAnd rfl (ltN hN rfl) (Opd.tmp 32 (.d (.bool ((((decide ((0 : Int) ≤ x23.fTick)) && (decide (x23.fTick ≤ (1073741824 : Int)))) && (decide ((0 : Int) ≤ x23.fSeq))) && (decide (x23.fSeq ≤ (1099511627776 : Int))))))) (Opd.tmp 35 (.opt (((((decide ((0 : Int) ≤ x23.fTick)) && (decide (x23.fTick ≤ (1073741824 : Int)))) && (decide ((0 : Int) ≤ x23.fSeq))) && (decide (x23.fSeq ≤ (1099511627776 : Int)))) == true) (.d (.bool (decide ((0 : Int) ≤ x23.fPool)))))))
        (OpJs.cons (OpJ.move (ltN hN rfl) (Opd.tmp 36 (.d (.bool (((((decide ((0 : Int) ≤ x23.fTick)) && (decide (x23.fTick ≤ (1073741824 : Int)))) && (decide ((0 : Int) ≤ x23.fSeq))) && (decide (x23.fSeq ≤ (1099511627776 : Int)))) && (decide ((0 : Int) ≤ x23.fPool)))))))
        (OpJs.cons (OpJ.opt' (v := (.ptr 1004 2 [2])) (OpJ.val (v' := (.ptr 1004 2 [2])) (by rfl) (OpJ.fieldP Try.underlying36 (by rfl) (o := 2) (by rfl) tyS3 (by decide) (obj := (.box 36 (.d (e_api_Sample x23)))) (ltN hN rfl) (Opd.tmp 4 (.ptr 1004 0 [])))) (by rfl) (GuardV.plain _) (ltN hN rfl) (by rfl) (by rfl) (by rfl) (by rfl) (OptL.keep rfl OptL.nil))
        (OpJs.cons (OpJ.opt' (v := (.d (.int .i64 x23.fPool))) (OpJ.loadB (bt := 36) (c := (.d (e_api_Sample x23))) (v := (.d (.int .i64 x23.fPool))) tyS3 (At.dst1 (f := (.int .i64 x23.fPool)) (by rfl) (by rfl) (At.here _) (by first | rfl | omega)) (by rfl) (by rfl) rfl (ltN hN rfl) (Opd.tmp 38 (.ptr 1004 2 [2]))) (by rfl) (GuardV.plain _) (ltN hN rfl) (by rfl) (by rfl) (by rfl) (by rfl) (OptL.opt OptL.nil))
        (OpJs.cons (OpJ.opt' (v := (.d (.bool (decide (x23.fPool ≤ (1099511627776 : Int)))))) (OpJ.leq (ltN hN rfl) (Opd.tmp 39 (.d (.int .i64 x23.fPool))) (Opd.int .i64 (1099511627776))) (by rfl) (GuardV.plain _) (ltN hN rfl) (by rfl) (by rfl) (by rfl) (by rfl) (OptL.opt OptL.nil))
        (OpJs.cons (OpJ.pickAnd rfl (ltN hN rfl) (Opd.tmp 37 (.d (.bool (((((decide ((0 : Int) ≤ x23.fTick)) && (decide (x23.fTick ≤ (1073741824 : Int)))) && (decide ((0 : Int) ≤ x23.fSeq))) && (decide (x23.fSeq ≤ (1099511627776 : Int)))) && (decide ((0 : Int) ≤ x23.fPool)))))) (Opd.tmp 40 (.opt ((((((decide ((0 : Int) ≤ x23.fTick)) && (decide (x23.fTick ≤ (1073741824 : Int)))) && (decide ((0 : Int) ≤ x23.fSeq))) && (decide (x23.fSeq ≤ (1099511627776 : Int)))) && (decide ((0 : Int) ≤ x23.fPool))) == true) (.d (.bool (decide (x23.fPool ≤ (1099511627776 : Int))))))))
        (OpJs.cons (OpJ.move (ltN hN rfl) (Opd.tmp 41 (.d (.bool ((((((decide ((0 : Int) ≤ x23.fTick)) && (decide (x23.fTick ≤ (1073741824 : Int)))) && (decide ((0 : Int) ≤ x23.fSeq))) && (decide (x23.fSeq ≤ (1099511627776 : Int)))) && (decide ((0 : Int) ≤ x23.fPool))) && (decide (x23.fPool ≤ (1099511627776 : Int))))))))
        (OpJs.cons (OpJ.opt' (v := (.ptr 1004 3 [3])) (OpJ.val (v' := (.ptr 1004 3 [3])) (by rfl) (OpJ.fieldP Try.underlying36 (by rfl) (o := 3) (by rfl) tyS3 (by decide) (obj := (.box 36 (.d (e_api_Sample x23)))) (ltN hN rfl) (Opd.tmp 4 (.ptr 1004 0 [])))) (by rfl) (GuardV.plain _) (ltN hN rfl) (by rfl) (by rfl) (by rfl) (by rfl) (OptL.keep rfl OptL.nil))
        (OpJs.cons (OpJ.opt' (v := (.d (.int .i64 x23.fIn))) (OpJ.loadB (bt := 36) (c := (.d (e_api_Sample x23))) (v := (.d (.int .i64 x23.fIn))) tyS3 (At.dst1 (f := (.int .i64 x23.fIn)) (by rfl) (by rfl) (At.here _) (by first | rfl | omega)) (by rfl) (by rfl) rfl (ltN hN rfl) (Opd.tmp 43 (.ptr 1004 3 [3]))) (by rfl) (GuardV.plain _) (ltN hN rfl) (by rfl) (by rfl) (by rfl) (by rfl) (OptL.opt OptL.nil))
        (OpJs.cons (OpJ.opt' (v := (.d (.bool (decide ((1 : Int) ≤ x23.fIn))))) (OpJ.geq (ltN hN rfl) (Opd.tmp 44 (.d (.int .i64 x23.fIn))) (Opd.int .i64 (1))) (by rfl) (GuardV.plain _) (ltN hN rfl) (by rfl) (by rfl) (by rfl) (by rfl) (OptL.opt OptL.nil))
        (OpJs.cons (OpJ.pickAnd rfl (ltN hN rfl) (Opd.tmp 42 (.d (.bool ((((((decide ((0 : Int) ≤ x23.fTick)) && (decide (x23.fTick ≤ (1073741824 : Int)))) && (decide ((0 : Int) ≤ x23.fSeq))) && (decide (x23.fSeq ≤ (1099511627776 : Int)))) && (decide ((0 : Int) ≤ x23.fPool))) && (decide (x23.fPool ≤ (1099511627776 : Int))))))) (Opd.tmp 45 (.opt (((((((decide ((0 : Int) ≤ x23.fTick)) && (decide (x23.fTick ≤ (1073741824 : Int)))) && (decide ((0 : Int) ≤ x23.fSeq))) && (decide (x23.fSeq ≤ (1099511627776 : Int)))) && (decide ((0 : Int) ≤ x23.fPool))) && (decide (x23.fPool ≤ (1099511627776 : Int)))) == true) (.d (.bool (decide ((1 : Int) ≤ x23.fIn)))))))
        (OpJs.cons (OpJ.move (ltN hN rfl) (Opd.tmp 46 (.d (.bool (((((((decide ((0 : Int) ≤ x23.fTick)) && (decide (x23.fTick ≤ (1073741824 : Int)))) && (decide ((0 : Int) ≤ x23.fSeq))) && (decide (x23.fSeq ≤ (1099511627776 : Int)))) && (decide ((0 : Int) ≤ x23.fPool))) && (decide (x23.fPool ≤ (1099511627776 : Int)))) && (decide ((1 : Int) ≤ x23.fIn)))))))
        (OpJs.cons (OpJ.opt' (v := (.ptr 1004 3 [3])) (OpJ.val (v' := (.ptr 1004 3 [3])) (by rfl) (OpJ.fieldP Try.underlying36 (by rfl) (o := 3) (by rfl) tyS3 (by decide) (obj := (.box 36 (.d (e_api_Sample x23)))) (ltN hN rfl) (Opd.tmp 4 (.ptr 1004 0 [])))) (by rfl) (GuardV.plain _) (ltN hN rfl) (by rfl) (by rfl) (by rfl) (by rfl) (OptL.keep rfl OptL.nil))
        (OpJs.cons (OpJ.opt' (v := (.d (.int .i64 x23.fIn))) (OpJ.loadB (bt := 36) (c := (.d (e_api_Sample x23))) (v := (.d (.int .i64 x23.fIn))) tyS3 (At.dst1 (f := (.int .i64 x23.fIn)) (by rfl) (by rfl) (At.here _) (by first | rfl | omega)) (by rfl) (by rfl) rfl (ltN hN rfl) (Opd.tmp 48 (.ptr 1004 3 [3]))) (by rfl) (GuardV.plain _) (ltN hN rfl) (by rfl) (by rfl) (by rfl) (by rfl) (OptL.opt OptL.nil))
        (OpJs.cons (OpJ.opt' (v := (.d (.bool (decide (x23.fIn ≤ (999 : Int)))))) (OpJ.leq (ltN hN rfl) (Opd.tmp 49 (.d (.int .i64 x23.fIn))) (Opd.int .i64 (999))) (by rfl) (GuardV.plain _) (ltN hN rfl) (by rfl) (by rfl) (by rfl) (by rfl) (OptL.opt OptL.nil))
        (OpJs.cons (OpJ.pickAnd rfl (ltN hN rfl) (Opd.tmp 47 (.d (.bool (((((((decide ((0 : Int) ≤ x23.fTick)) && (decide (x23.fTick ≤ (1073741824 : Int)))) && (decide ((0 : Int) ≤ x23.fSeq))) && (decide (x23.fSeq ≤ (1099511627776 : Int)))) && (decide ((0 : Int) ≤ x23.fPool))) && (decide (x23.fPool ≤ (1099511627776 : Int)))) && (decide ((1 : Int) ≤ x23.fIn)))))) (Opd.tmp 50 (.opt ((((((((decide ((0 : Int) ≤ x23.fTick)) && (decide (x23.fTick ≤ (1073741824 : Int)))) && (decide ((0 : Int) ≤ x23.fSeq))) && (decide (x23.fSeq ≤ (1099511627776 : Int)))) && (decide ((0 : Int) ≤ x23.fPool))) && (decide (x23.fPool ≤ (1099511627776 : Int)))) && (decide ((1 : Int) ≤ x23.fIn))) == true) (.d (.bool (decide (x23.fIn ≤ (999 : Int))))))))
        (OpJs.cons (OpJ.move (ltN hN rfl) (Opd.tmp 51 (.d (.bool ((((((((decide ((0 : Int) ≤ x23.fTick)) && (decide (x23.fTick ≤ (1073741824 : Int)))) && (decide ((0 : Int) ≤ x23.fSeq))) && (decide (x23.fSeq ≤ (1099511627776 : Int)))) && (decide ((0 : Int) ≤ x23.fPool))) && (decide (x23.fPool ≤ (1099511627776 : Int)))) && (decide ((1 : Int) ≤ x23.fIn))) && (decide (x23.fIn ≤ (999 : Int))))))))
        (OpJs.cons (OpJ.opt' (v := (.ptr 1004 4 [4])) (OpJ.val (v' := (.ptr 1004 4 [4])) (by rfl) (OpJ.fieldP Try.underlying36 (by rfl) (o := 4) (by rfl) tyS3 (by decide) (obj := (.box 36 (.d (e_api_Sample x23)))) (ltN hN rfl) (Opd.tmp 4 (.ptr 1004 0 [])))) (by rfl) (GuardV.plain _) (ltN hN rfl) (by rfl) (by rfl) (by rfl) (by rfl) (OptL.keep rfl OptL.nil))
        (OpJs.cons (OpJ.opt' (v := (.d (.int .i64 x23.fOut))) (OpJ.loadB (bt := 36) (c := (.d (e_api_Sample x23))) (v := (.d (.int .i64 x23.fOut))) tyS3 (At.dst1 (f := (.int .i64 x23.fOut)) (by rfl) (by rfl) (At.here _) (by first | rfl | omega)) (by rfl) (by rfl) rfl (ltN hN rfl) (Opd.tmp 53 (.ptr 1004 4 [4]))) (by rfl) (GuardV.plain _) (ltN hN rfl) (by rfl) (by rfl) (by rfl) (by rfl) (OptL.opt OptL.nil))
        (OpJs.cons (OpJ.opt' (v := (.d (.bool (decide ((1 : Int) ≤ x23.fOut))))) (OpJ.geq (ltN hN rfl) (Opd.tmp 54 (.d (.int .i64 x23.fOut))) (Opd.int .i64 (1))) (by rfl) (GuardV.plain _) (ltN hN rfl) (by rfl) (by rfl) (by rfl) (by rfl) (OptL.opt OptL.nil))
        (OpJs.cons (OpJ.pickAnd rfl (ltN hN rfl) (Opd.tmp 52 (.d (.bool ((((((((decide ((0 : Int) ≤ x23.fTick)) && (decide (x23.fTick ≤ (1073741824 : Int)))) && (decide ((0 : Int) ≤ x23.fSeq))) && (decide (x23.fSeq ≤ (1099511627776 : Int)))) && (decide ((0 : Int) ≤ x23.fPool))) && (decide (x23.fPool ≤ (1099511627776 : Int)))) && (decide ((1 : Int) ≤ x23.fIn))) && (decide (x23.fIn ≤ (999 : Int))))))) (Opd.tmp 55 (.opt (((((((((decide ((0 : Int) ≤ x23.fTick)) && (decide (x23.fTick ≤ (1073741824 : Int)))) && (decide ((0 : Int) ≤ x23.fSeq))) && (decide (x23.fSeq ≤ (1099511627776 : Int)))) && (decide ((0 : Int) ≤ x23.fPool))) && (decide (x23.fPool ≤ (1099511627776 : Int)))) && (decide ((1 : Int) ≤ x23.fIn))) && (decide (x23.fIn ≤ (999 : Int)))) == true) (.d (.bool (decide ((1 : Int) ≤ x23.fOut)))))))
        (OpJs.cons (OpJ.move (ltN hN rfl) (Opd.tmp 56 (.d (.bool (((((((((decide ((0 : Int) ≤ x23.fTick)) && (decide (x23.fTick ≤ (1073741824 : Int)))) && (decide ((0 : Int) ≤ x23.fSeq))) && (decide (x23.fSeq ≤ (1099511627776 : Int)))) && (decide ((0 : Int) ≤ x23.fPool))) && (decide (x23.fPool ≤ (1099511627776 : Int)))) && (decide ((1 : Int) ≤ x23.fIn))) && (decide (x23.fIn ≤ (999 : Int)))) && (decide ((1 : Int) ≤ x23.fOut)))))))
        (OpJs.cons (OpJ.opt' (v := (.ptr 1004 4 [4])) (OpJ.val (v' := (.ptr 1004 4 [4])) (by rfl) (OpJ.fieldP Try.underlying36 (by rfl) (o := 4) (by rfl) tyS3 (by decide) (obj := (.box 36 (.d (e_api_Sample x23)))) (ltN hN rfl) (Opd.tmp 4 (.ptr 1004 0 [])))) (by rfl) (GuardV.plain _) (ltN hN rfl) (by rfl) (by rfl) (by rfl) (by rfl) (OptL.keep rfl OptL.nil))
        (OpJs.cons (OpJ.opt' (v := (.d (.int .i64 x23.fOut))) (OpJ.loadB (bt := 36) (c := (.d (e_api_Sample x23))) (v := (.d (.int .i64 x23.fOut))) tyS3 (At.dst1 (f := (.int .i64 x23.fOut)) (by rfl) (by rfl) (At.here _) (by first | rfl | omega)) (by rfl) (by rfl) rfl (ltN hN rfl) (Opd.tmp 58 (.ptr 1004 4 [4]))) (by rfl) (GuardV.plain _) (ltN hN rfl) (by rfl) (by rfl) (by rfl) (by rfl) (OptL.opt OptL.nil))
        (OpJs.cons (OpJ.opt' (v := (.d (.bool (decide (x23.fOut ≤ (999 : Int)))))) (OpJ.leq (ltN hN rfl) (Opd.tmp 59 (.d (.int .i64 x23.fOut))) (Opd.int .i64 (999))) (by rfl) (GuardV.plain _) (ltN hN rfl) (by rfl) (by rfl) (by rfl) (by rfl) (OptL.opt OptL.nil))
        (OpJs.cons (OpJ.pickAnd rfl (ltN hN rfl) (Opd.tmp 57 (.d (.bool (((((((((decide ((0 : Int) ≤ x23.fTick)) && (decide (x23.fTick ≤ (1073741824 : Int)))) && (decide ((0 : Int) ≤ x23.fSeq))) && (decide (x23.fSeq ≤ (1099511627776 : Int)))) && (decide ((0 : Int) ≤ x23.fPool))) && (decide (x23.fPool ≤ (1099511627776 : Int)))) && (decide ((1 : Int) ≤ x23.fIn))) && (decide (x23.fIn ≤ (999 : Int)))) && (decide ((1 : Int) ≤ x23.fOut)))))) (Opd.tmp 60 (.opt ((((((((((decide ((0 : Int) ≤ x23.fTick)) && (decide (x23.fTick ≤ (1073741824 : Int)))) && (decide ((0 : Int) ≤ x23.fSeq))) && (decide (x23.fSeq ≤ (1099511627776 : Int)))) && (decide ((0 : Int) ≤ x23.fPool))) && (decide (x23.fPool ≤ (1099511627776 : Int)))) && (decide ((1 : Int) ≤ x23.fIn))) && (decide (x23.fIn ≤ (999 : Int)))) && (decide ((1 : Int) ≤ x23.fOut))) == true) (.d (.bool (decide (x23.fOut ≤ (999 : Int))))))))
        (OpJs.cons (OpJ.move (ltN hN rfl) (Opd.tmp 61 (.d (.bool ((((((((((decide ((0 : Int) ≤ x23.fTick)) && (decide (x23.fTick ≤ (1073741824 : Int)))) && (decide ((0 : Int) ≤ x23.fSeq))) && (decide (x23.fSeq ≤ (1099511627776 : Int)))) && (decide ((0 : Int) ≤ x23.fPool))) && (decide (x23.fPool ≤ (1099511627776 : Int)))) && (decide ((1 : Int) ≤ x23.fIn))) && (decide (x23.fIn ≤ (999 : Int)))) && (decide ((1 : Int) ≤ x23.fOut))) && (decide (x23.fOut ≤ (999 : Int))))))))
        (OpJs.cons (OpJ.opt' (v := (.ptr 1004 5 [5])) (OpJ.val (v' := (.ptr 1004 5 [5])) (by rfl) (OpJ.fieldP Try.underlying36 (by rfl) (o := 5) (by rfl) tyS3 (by decide) (obj := (.box 36 (.d (e_api_Sample x23)))) (ltN hN rfl) (Opd.tmp 4 (.ptr 1004 0 [])))) (by rfl) (GuardV.plain _) (ltN hN rfl) (by rfl) (by rfl) (by rfl) (by rfl) (OptL.keep rfl OptL.nil))
        (OpJs.cons (OpJ.opt' (v := (.d (.int .i64 x23.fBytes))) (OpJ.loadB (bt := 36) (c := (.d (e_api_Sample x23))) (v := (.d (.int .i64 x23.fBytes))) tyS3 (At.dst1 (f := (.int .i64 x23.fBytes)) (by rfl) (by rfl) (At.here _) (by first | rfl | omega)) (by rfl) (by rfl) rfl (ltN hN rfl) (Opd.tmp 63 (.ptr 1004 5 [5]))) (by rfl) (GuardV.plain _) (ltN hN rfl) (by rfl) (by rfl) (by rfl) (by rfl) (OptL.opt OptL.nil))
        (OpJs.cons (OpJ.opt' (v := (.d (.bool (decide ((0 : Int) ≤ x23.fBytes))))) (OpJ.geq (ltN hN rfl) (Opd.tmp 64 (.d (.int .i64 x23.fBytes))) (Opd.int .i64 (0))) (by rfl) (GuardV.plain _) (ltN hN rfl) (by rfl) (by rfl) (by rfl) (by rfl) (OptL.opt OptL.nil))
        (OpJs.cons (OpJ.pickAnd rfl (ltN hN rfl) (Opd.tmp 62 (.d (.bool ((((((((((decide ((0 : Int) ≤ x23.fTick)) && (decide (x23.fTick ≤ (1073741824 : Int)))) && (decide ((0 : Int) ≤ x23.fSeq))) && (decide (x23.fSeq ≤ (1099511627776 : Int)))) && (decide ((0 : Int) ≤ x23.fPool))) && (decide (x23.fPool ≤ (1099511627776 : Int)))) && (decide ((1 : Int) ≤ x23.fIn))) && (decide (x23.fIn ≤ (999 : Int)))) && (decide ((1 : Int) ≤ x23.fOut))) && (decide (x23.fOut ≤ (999 : Int))))))) (Opd.tmp 65 (.opt (((((((((((decide ((0 : Int) ≤ x23.fTick)) && (decide (x23.fTick ≤ (1073741824 : Int)))) && (decide ((0 : Int) ≤ x23.fSeq))) && (decide (x23.fSeq ≤ (1099511627776 : Int)))) && (decide ((0 : Int) ≤ x23.fPool))) && (decide (x23.fPool ≤ (1099511627776 : Int)))) && (decide ((1 : Int) ≤ x23.fIn))) && (decide (x23.fIn ≤ (999 : Int)))) && (decide ((1 : Int) ≤ x23.fOut))) && (decide (x23.fOut ≤ (999 : Int)))) == true) (.d (.bool (decide ((0 : Int) ≤ x23.fBytes)))))))
        (OpJs.cons (OpJ.move (ltN hN rfl) (Opd.tmp 66 (.d (.bool (((((((((((decide ((0 : Int) ≤ x23.fTick)) && (decide (x23.fTick ≤ (1073741824 : Int)))) && (decide ((0 : Int) ≤ x23.fSeq))) && (decide (x23.fSeq ≤ (1099511627776 : Int)))) && (decide ((0 : Int) ≤ x23.fPool))) && (decide (x23.fPool ≤ (1099511627776 : Int)))) && (decide ((1 : Int) ≤ x23.fIn))) && (decide (x23.fIn ≤ (999 : Int)))) && (decide ((1 : Int) ≤ x23.fOut))) && (decide (x23.fOut ≤ (999 : Int)))) && (decide ((0 : Int) ≤ x23.fBytes)))))))
        (OpJs.cons (OpJ.opt' (v := (.ptr 1004 5 [5])) (OpJ.val (v' := (.ptr 1004 5 [5])) (by rfl) (OpJ.fieldP Try.underlying36 (by rfl) (o := 5) (by rfl) tyS3 (by decide) (obj := (.box 36 (.d (e_api_Sample x23)))) (ltN hN rfl) (Opd.tmp 4 (.ptr 1004 0 [])))) (by rfl) (GuardV.plain _) (ltN hN rfl) (by rfl) (by rfl) (by rfl) (by rfl) (OptL.keep rfl OptL.nil))
        (OpJs.cons (OpJ.opt' (v := (.d (.int .i64 x23.fBytes))) (OpJ.loadB (bt := 36) (c := (.d (e_api_Sample x23))) (v := (.d (.int .i64 x23.fBytes))) tyS3 (At.dst1 (f := (.int .i64 x23.fBytes)) (by rfl) (by rfl) (At.here _) (by first | rfl | omega)) (by rfl) (by rfl) rfl (ltN hN rfl) (Opd.tmp 68 (.ptr 1004 5 [5]))) (by rfl) (GuardV.plain _) (ltN hN rfl) (by rfl) (by rfl) (by rfl) (by rfl) (OptL.opt OptL.nil))
        (OpJs.cons (OpJ.opt' (v := (.d (.bool (decide (x23.fBytes ≤ (65535 : Int)))))) (OpJ.leq (ltN hN rfl) (Opd.tmp 69 (.d (.int .i64 x23.fBytes))) (Opd.int .i64 (65535))) (by rfl) (GuardV.plain _) (ltN hN rfl) (by rfl) (by rfl) (by rfl) (by rfl) (OptL.opt OptL.nil))
        (OpJs.cons (OpJ.pickAnd rfl (ltN hN rfl) (Opd.tmp 67 (.d (.bool (((((((((((decide ((0 : Int) ≤ x23.fTick)) && (decide (x23.fTick ≤ (1073741824 : Int)))) && (decide ((0 : Int) ≤ x23.fSeq))) && (decide (x23.fSeq ≤ (1099511627776 : Int)))) && (decide ((0 : Int) ≤ x23.fPool))) && (decide (x23.fPool ≤ (1099511627776 : Int)))) && (decide ((1 : Int) ≤ x23.fIn))) && (decide (x23.fIn ≤ (999 : Int)))) && (decide ((1 : Int) ≤ x23.fOut))) && (decide (x23.fOut ≤ (999 : Int)))) && (decide ((0 : Int) ≤ x23.fBytes)))))) (Opd.tmp 70 (.opt ((((((((((((decide ((0 : Int) ≤ x23.fTick)) && (decide (x23.fTick ≤ (1073741824 : Int)))) && (decide ((0 : Int) ≤ x23.fSeq))) && (decide (x23.fSeq ≤ (1099511627776 : Int)))) && (decide ((0 : Int) ≤ x23.fPool))) && (decide (x23.fPool ≤ (1099511627776 : Int)))) && (decide ((1 : Int) ≤ x23.fIn))) && (decide (x23.fIn ≤ (999 : Int)))) && (decide ((1 : Int) ≤ x23.fOut))) && (decide (x23.fOut ≤ (999 : Int)))) && (decide ((0 : Int) ≤ x23.fBytes))) == true) (.d (.bool (decide (x23.fBytes ≤ (65535 : Int))))))))
        (OpJs.cons (OpJ.assign (ltN hN rfl) (Opd.tmp 71 (.d (.bool ((((((((((((decide ((0 : Int) ≤ x23.fTick)) && (decide (x23.fTick ≤ (1073741824 : Int)))) && (decide ((0 : Int) ≤ x23.fSeq))) && (decide (x23.fSeq ≤ (1099511627776 : Int)))) && (decide ((0 : Int) ≤ x23.fPool))) && (decide (x23.fPool ≤ (1099511627776 : Int)))) && (decide ((1 : Int) ≤ x23.fIn))) && (decide (x23.fIn ≤ (999 : Int)))) && (decide ((1 : Int) ≤ x23.fOut))) && (decide (x23.fOut ≤ (999 : Int)))) && (decide ((0 : Int) ≤ x23.fBytes))) && (decide (x23.fBytes ≤ (65535 : Int))))))))
        (OpJs.nil)))))))))))))))))))))))))))))))))))))))))))))))))))))))))))) (by rfl) (by rfl) ?_
      refine seqQ_n ?_
      refine AWp.ghost (Mat.pat [] [(0, (.d (.list 6 (a0.map e_api_Sample)))), (3, (.d (.int .i64 s1))), (4, (.ptr 1004 0 [])), (5, (.d (.bool ((((((((((((decide ((0 : Int) ≤ x23.fTick)) && (decide (x23.fTick ≤ (1073741824 : Int)))) && (decide ((0 : Int) ≤ x23.fSeq))) && (decide (x23.fSeq ≤ (1099511627776 : Int)))) && (decide ((0 : Int) ≤ x23.fPool))) && (decide (x23.fPool ≤ (1099511627776 : Int)))) && (decide ((1 : Int) ≤ x23.fIn))) && (decide (x23.fIn ≤ (999 : Int)))) && (decide ((1 : Int) ≤ x23.fOut))) && (decide (x23.fOut ≤ (999 : Int)))) && (decide ((0 : Int) ≤ x23.fBytes))) && (decide (x23.fBytes ≤ (65535 : Int))))))), (7, (.d (.list 6 (a0.map e_api_Sample)))), (8, (.d (.int .i64 (a0.length : Int)))), (9, (.d (.int .i64 s1)))] [(1004, some (.box 36 (.d (e_api_Sample x23))))] hB (by rfl) (by rfl) (by rfl)) ?_
      refine AWp.seq ?_
      refine AWp.seq ?_
      refine AWp.region (OpJs.cons (OpJ.move (ltN hN rfl) (Opd.tmp 3 (.d (.int .i64 s1))))
        (OpJs.cons (OpJ.gtr (ltN hN rfl) (Opd.tmp 72 (.d (.int .i64 s1))) (Opd.int .i64 (0)))
        (OpJs.nil))) (by rfl) (by rfl) ?_
      refine seqQ_n ?_
      refine AWp.ghost (Mat.pat [] [(0, (.d (.list 6 (a0.map e_api_Sample)))), (3, (.d (.int .i64 s1))), (4, (.ptr 1004 0 [])), (5, (.d (.bool ((((((((((((decide ((0 : Int) ≤ x23.fTick)) && (decide (x23.fTick ≤ (1073741824 : Int)))) && (decide ((0 : Int) ≤ x23.fSeq))) && (decide (x23.fSeq ≤ (1099511627776 : Int)))) && (decide ((0 : Int) ≤ x23.fPool))) && (decide (x23.fPool ≤ (1099511627776 : Int)))) && (decide ((1 : Int) ≤ x23.fIn))) && (decide (x23.fIn ≤ (999 : Int)))) && (decide ((1 : Int) ≤ x23.fOut))) && (decide (x23.fOut ≤ (999 : Int)))) && (decide ((0 : Int) ≤ x23.fBytes))) && (decide (x23.fBytes ≤ (65535 : Int))))))), (7, (.d (.list 6 (a0.map e_api_Sample)))), (8, (.d (.int .i64 (a0.length : Int)))), (9, (.d (.int .i64 s1))), (73, (.d (.bool (decide ((0 : Int) < s1)))))] [(1004, some (.box 36 (.d (e_api_Sample x23))))] hB (by rfl) (by rfl) (by rfl)) ?_
      refine AWp.cut h (fun m26 : Bool => ([(0, (.d (.list 6 (a0.map e_api_Sample)))), (5, (.d (.bool m26))), (7, (.d (.list 6 (a0.map e_api_Sample)))), (8, (.d (.int .i64 (a0.length : Int)))), (9, (.d (.int .i64 s1)))] : EL)) (fun m26 : Bool => ([] : OL)) (fun m26 h E' O' hmat => ?_) (fun j27 hjj27 h => ?_)
      · refine seqQ_n ?_
        refine AWp.ghost hmat ?_
        refine AWp.seq ?_
        refine AWp.region (OpJs.cons (OpJ.move (ltN hN rfl) (Opd.tmp 5 (.d (.bool m26))))
          (OpJs.cons (OpJ.not (ltN hN rfl) (Opd.tmp 107 (.d (.bool m26))))
          (OpJs.nil))) (by rfl) (by rfl) ?_
        refine seqQ_n ?_
        refine AWp.ghost (Mat.pat [] [(0, (.d (.list 6 (a0.map e_api_Sample)))), (7, (.d (.list 6 (a0.map e_api_Sample)))), (8, (.d (.int .i64 (a0.length : Int)))), (9, (.d (.int .i64 s1))), (108, (.d (.bool (!m26))))] [] hB (by rfl) (by rfl) (by rfl)) ?_
        refine AWp.cond (b := (!m26)) (by rfl) (fun hg28 => ?_) (fun hg28 => ?_)
        · replace h := ite_t hg28 h
          refine AWp.seq ?_
          refine AWp.region (OpJs.cons (OpJ.assign (ltN hN rfl) (Opd.bool false))
            (OpJs.nil)) (by rfl) (by rfl) ?_
          refine seqQ_n ?_
          refine AWp.ghost (Mat.pat [] [(2, (.d (.bool false)))] [] hB (by rfl) (by rfl) (by rfl)) ?_
          refine AWp.ret ?_
          refine blkQ_r ?_
          refine seqQ_r ?_
          obtain rfl := Option.some.inj h
          exact ⟨(fun hc => by cases hc), rfl, (Mat.pat [] ((fun _ : Unit => ([(2, (.d (.bool false)))] : EL)) ()) ((fun _ : Unit => ([] : OL)) ()) hB (by rfl) (by rfl) (by rfl))⟩
        · replace h := ite_f hg28 h
          refine AWp.skip ?_
          refine blkQ_n ?_
          refine seqQ_n ?_
          refine AWp.region (OpJs.cons (OpJ.add (ltN hN rfl) (Opd.tmp 9 (.d (.int .i64 s1))) (Opd.int .i64 (1)))
            (OpJs.cons (OpJ.move (ltN hN rfl) (Opd.tmp 109 (.d (.int .i64 (w64 (s1 + (1 : Int)))))))
            (OpJs.nil))) (by rfl) (by rfl) ?_
          obtain rfl := Option.some.inj h
          exact ⟨rfl, (Mat.trans (Mat.pat [] [(0, (.d (.list 6 (a0.map e_api_Sample)))), (7, (.d (.list 6 (a0.map e_api_Sample)))), (8, (.d (.int .i64 (a0.length : Int)))), (9, (.d (.int .i64 (w64 (s1 + (1 : Int))))))] [] hB (by rfl) (by rfl) (by rfl)) (Mat.pat [] ((fun s1 : Int => ([(0, (.d (.list 6 (a0.map e_api_Sample)))), (7, (.d (.list 6 (a0.map e_api_Sample)))), (8, (.d (.int .i64 (a0.length : Int)))), (9, (.d (.int .i64 s1)))] : EL)) (w64 (s1 + (1 : Int)))) ((fun s1 : Int => ([] : OL)) (w64 (s1 + (1 : Int)))) hB (by rfl) (by rfl) (by rfl)))⟩
      · refine AWp.cond (b := (decide ((0 : Int) < s1))) (by rfl) (fun hg29 => ?_) (fun hg29 => ?_)
        · replace h := ite_t hg29 h
          refine AWp.seq ?_
          obtain ⟨x30, hx30, h⟩ := bindS h
          refine AWp.region (OpJs.cons (OpJ.move (ltN hN rfl) (Opd.tmp 0 (.d (.list 6 (a0.map e_api_Sample)))))
            (OpJs.cons (OpJ.move (ltN hN rfl) (Opd.tmp 3 (.d (.int .i64 s1))))
            (OpJs.cons (OpJ.sub (ltN hN rfl) (Opd.tmp 75 (.d (.int .i64 s1))) (Opd.int .i64 (1)))
            (OpJs.cons (OpJ.indexD (el := (e_api_Sample x30)) Try.underlying31 tyS36 (idx_some hx30).1 (get_map e_api_Sample (idx_some hx30).2) (ltN hN rfl) (Opd.tmp 74 (.d (.list 6 (a0.map e_api_Sample)))) (Opd.tmp 76 (.d (.int .i64 (w64 (s1 - (1 : Int)))))))
            (OpJs.cons (OpJ.loadD tyS36 (by rfl) (by rfl) (ltN hN rfl) (Opd.tmp 77 (.dptr (e_api_Sample x30))))
            (OpJs.cons (OpJ.alloc hB tyZ36 (nm := 1006) (by decide) (ltN hN rfl))
            (OpJs.cons (OpJ.storeB (bt := 36) (c := (.d (.st [(.int .i64 (0 : Int)), (.int .i64 (0 : Int)), (.int .i64 (0 : Int)), (.int .i64 (0 : Int)), (.int .i64 (0 : Int)), (.int .i64 (0 : Int))]))) (v := (.d (e_api_Sample x30))) (c' := (.d (e_api_Sample x30))) tyS36 (SetAt.here _ _) (by rfl) (by rfl) (by simp) rfl (Opd.tmp 6 (.ptr 1006 0 [])) (Opd.tmp 78 (.d (e_api_Sample x30))))
            (OpJs.nil)))))))) (by rfl) (by rfl) ?_
          refine seqQ_n ?_
          refine AWp.ghost (Mat.pat [] [(0, (.d (.list 6 (a0.map e_api_Sample)))), (4, (.ptr 1004 0 [])), (5, (.d (.bool ((((((((((((decide ((0 : Int) ≤ x23.fTick)) && (decide (x23.fTick ≤ (1073741824 : Int)))) && (decide ((0 : Int) ≤ x23.fSeq))) && (decide (x23.fSeq ≤ (1099511627776 : Int)))) && (decide ((0 : Int) ≤ x23.fPool))) && (decide (x23.fPool ≤ (1099511627776 : Int)))) && (decide ((1 : Int) ≤ x23.fIn))) && (decide (x23.fIn ≤ (999 : Int)))) && (decide ((1 : Int) ≤ x23.fOut))) && (decide (x23.fOut ≤ (999 : Int)))) && (decide ((0 : Int) ≤ x23.fBytes))) && (decide (x23.fBytes ≤ (65535 : Int))))))), (6, (.ptr 1006 0 [])), (7, (.d (.list 6 (a0.map e_api_Sample)))), (8, (.d (.int .i64 (a0.length : Int)))), (9, (.d (.int .i64 s1)))] [(1004, some (.box 36 (.d (e_api_Sample x23)))), (1006, some (.box 36 (.d (e_api_Sample x30))))] hB (by rfl) (by rfl) (by rfl)) ?_
          refine AWp.region (OpJs.cons (OpJ.move (ltN hN rfl) (Opd.tmp 5 (.d (.bool ((((((((((((decide ((0 : Int) ≤ x23.fTick)) && (decide (x23.fTick ≤ (1073741824 : Int)))) && (decide ((0 : Int) ≤ x23.fSeq))) && (decide (x23.fSeq ≤ (1099511627776 : Int)))) && (decide ((0 : Int) ≤ x23.fPool))) && (decide (x23.fPool ≤ (1099511627776 : Int)))) && (decide ((1 : Int) ≤ x23.fIn))) && (decide (x23.fIn ≤ (999 : Int)))) && (decide ((1 : Int) ≤ x23.fOut))) && (decide (x23.fOut ≤ (999 : Int)))) && (decide ((0 : Int) ≤ x23.fBytes))) && (decide (x23.fBytes ≤ (65535 : Int))))))))
            (OpJs.cons (OpJ.move (ltN hN rfl) (Opd.tmp 79 (.d (.bool ((((((((((((decide ((0 : Int) ≤ x23.fTick)) && (decide (x23.fTick ≤ (1073741824 : Int)))) && (decide ((0 : Int) ≤ x23.fSeq))) && (decide (x23.fSeq ≤ (1099511627776 : Int)))) && (decide ((0 : Int) ≤ x23.fPool))) && (decide (x23.fPool ≤ (1099511627776 : Int)))) && (decide ((1 : Int) ≤ x23.fIn))) && (decide (x23.fIn ≤ (999 : Int)))) && (decide ((1 : Int) ≤ x23.fOut))) && (decide (x23.fOut ≤ (999 : Int)))) && (decide ((0 : Int) ≤ x23.fBytes))) && (decide (x23.fBytes ≤ (65535 : Int))))))))
            (OpJs.cons (OpJ.opt' (v := (.ptr 1004 1 [1])) (OpJ.val (v' := (.ptr 1004 1 [1])) (by rfl) (OpJ.fieldP Try.underlying36 (by rfl) (o := 1) (by rfl) tyS3 (by decide) (obj := (.box 36 (.d (e_api_Sample x23)))) (ltN hN rfl) (Opd.tmp 4 (.ptr 1004 0 [])))) (by rfl) (GuardV.plain _) (ltN hN rfl) (by rfl) (by rfl) (by rfl) (by rfl) (OptL.keep rfl OptL.nil))
            (OpJs.cons (OpJ.opt' (v := (.d (.int .i64 x23.fSeq))) (OpJ.loadB (bt := 36) (c := (.d (e_api_Sample x23))) (v := (.d (.int .i64 x23.fSeq))) tyS3 (At.dst1 (f := (.int .i64 x23.fSeq)) (by rfl) (by rfl) (At.here _) (by first | rfl | omega)) (by rfl) (by rfl) rfl (ltN hN rfl) (Opd.tmp 81 (.ptr 1004 1 [1]))) (by rfl) (GuardV.plain _) (ltN hN rfl) (by rfl) (by rfl) (by rfl) (by rfl) (OptL.opt OptL.nil))
            (OpJs.cons (OpJ.opt' (v := (.ptr 1006 1 [1])) (OpJ.val (v' := (.ptr 1006 1 [1])) (by rfl) (OpJ.fieldP Try.underlying36 (by rfl) (o := 1) (by rfl) tyS3 (by decide) (obj := (.box 36 (.d (e_api_Sample x30)))) (ltN hN rfl) (Opd.tmp 6 (.ptr 1006 0 [])))) (by rfl) (GuardV.plain _) (ltN hN rfl) (by rfl) (by rfl) (by rfl) (by rfl) (OptL.keep rfl OptL.nil))
            (OpJs.cons (OpJ.opt' (v := (.d (.int .i64 x30.fSeq))) (OpJ.loadB (bt := 36) (c := (.d (e_api_Sample x30))) (v := (.d (.int .i64 x30.fSeq))) tyS3 (At.dst1 (f := (.int .i64 x30.fSeq)) (by rfl) (by rfl) (At.here _) (by first | rfl | omega)) (by rfl) (by rfl) rfl (ltN hN rfl) (Opd.tmp 83 (.ptr 1006 1 [1]))) (by rfl) (GuardV.plain _) (ltN hN rfl) (by rfl) (by rfl) (by rfl) (by rfl) (OptL.opt OptL.nil))
            (OpJs.cons (OpJ.opt' (v := (.d (.bool (decide (x30.fSeq < x23.fSeq))))) (OpJ.gtr (ltN hN rfl) (Opd.tmp 82 (.d (.int .i64 x23.fSeq))) (Opd.tmp 84 (.d (.int .i64 x30.fSeq)))) (by rfl) (GuardV.plain _) (ltN hN rfl) (by rfl) (by rfl) (by rfl) (by rfl) (OptL.opt (OptL.opt OptL.nil)))
            (OpJs.cons (OpJ.pickAnd rfl (ltN hN rfl) (Opd.tmp 80 (.d (.bool ((((((((((((decide ((0 : Int) ≤ x23.fTick)) && (decide (x23.fTick ≤ (1073741824 : Int)))) && (decide ((0 : Int) ≤ x23.fSeq))) && (decide (x23.fSeq ≤ (1099511627776 : Int)))) && (decide ((0 : Int) ≤ x23.fPool))) && (decide (x23.fPool ≤ (1099511627776 : Int)))) && (decide ((1 : Int) ≤ x23.fIn))) && (decide (x23.fIn ≤ (999 : Int)))) && (decide ((1 : Int) ≤ x23.fOut))) && (decide (x23.fOut ≤ (999 : Int)))) && (decide ((0 : Int) ≤ x23.fBytes))) && (decide (x23.fBytes ≤ (65535 : Int))))))) (Opd.tmp 85 (.opt (((((((((((((decide ((0 : Int) ≤ x23.fTick)) && (decide (x23.fTick ≤ (1073741824 : Int)))) && (decide ((0 : Int) ≤ x23.fSeq))) && (decide (x23.fSeq ≤ (1099511627776 : Int)))) && (decide ((0 : Int) ≤ x23.fPool))) && (decide (x23.fPool ≤ (1099511627776 : Int)))) && (decide ((1 : Int) ≤ x23.fIn))) && (decide (x23.fIn ≤ (999 : Int)))) && (decide ((1 : Int) ≤ x23.fOut))) && (decide (x23.fOut ≤ (999 : Int)))) && (decide ((0 : Int) ≤ x23.fBytes))) && (decide (x23.fBytes ≤ (65535 : Int)))) == true) (.d (.bool (decide (x30.fSeq < x23.fSeq)))))))
            (OpJs.cons (OpJ.move (ltN hN rfl) (Opd.tmp 86 (.d (.bool (((((((((((((decide ((0 : Int) ≤ x23.fTick)) && (decide (x23.fTick ≤ (1073741824 : Int)))) && (decide ((0 : Int) ≤ x23.fSeq))) && (decide (x23.fSeq ≤ (1099511627776 : Int)))) && (decide ((0 : Int) ≤ x23.fPool))) && (decide (x23.fPool ≤ (1099511627776 : Int)))) && (decide ((1 : Int) ≤ x23.fIn))) && (decide (x23.fIn ≤ (999 : Int)))) && (decide ((1 : Int) ≤ x23.fOut))) && (decide (x23.fOut ≤ (999 : Int)))) && (decide ((0 : Int) ≤ x23.fBytes))) && (decide (x23.fBytes ≤ (65535 : Int)))) && (decide (x30.fSeq < x23.fSeq)))))))
            (OpJs.cons (OpJ.opt' (v := (.ptr 1004 2 [2])) (OpJ.val (v' := (.ptr 1004 2 [2])) (by rfl) (OpJ.fieldP Try.underlying36 (by rfl) (o := 2) (by rfl) tyS3 (by decide) (obj := (.box 36 (.d (e_api_Sample x23)))) (ltN hN rfl) (Opd.tmp 4 (.ptr 1004 0 [])))) (by rfl) (GuardV.plain _) (ltN hN rfl) (by rfl) (by rfl) (by rfl) (by rfl) (OptL.keep rfl OptL.nil))
            (OpJs.cons (OpJ.opt' (v := (.d (.int .i64 x23.fPool))) (OpJ.loadB (bt := 36) (c := (.d (e_api_Sample x23))) (v := (.d (.int .i64 x23.fPool))) tyS3 (At.dst1 (f := (.int .i64 x23.fPool)) (by rfl) (by rfl) (At.here _) (by first | rfl | omega)) (by rfl) (by rfl) rfl (ltN hN rfl) (Opd.tmp 88 (.ptr 1004 2 [2]))) (by rfl) (GuardV.plain _) (ltN hN rfl) (by rfl) (by rfl) (by rfl) (by rfl) (OptL.opt OptL.nil))
            (OpJs.cons (OpJ.opt' (v := (.ptr 1006 2 [2])) (OpJ.val (v' := (.ptr 1006 2 [2])) (by rfl) (OpJ.fieldP Try.underlying36 (by rfl) (o := 2) (by rfl) tyS3 (by decide) (obj := (.box 36 (.d (e_api_Sample x30)))) (ltN hN rfl) (Opd.tmp 6 (.ptr 1006 0 [])))) (by rfl) (GuardV.plain _) (ltN hN rfl) (by rfl) (by rfl) (by rfl) (by rfl) (OptL.keep rfl OptL.nil))
            (OpJs.cons (OpJ.opt' (v := (.d (.int .i64 x30.fPool))) (OpJ.loadB (bt := 36) (c := (.d (e_api_Sample x30))) (v := (.d (.int .i64 x30.fPool))) tyS3 (At.dst1 (f := (.int .i64 x30.fPool)) (by rfl) (by rfl) (At.here _) (by first | rfl | omega)) (by rfl) (by rfl) rfl (ltN hN rfl) (Opd.tmp 90 (.ptr 1006 2 [2]))) (by rfl) (GuardV.plain _) (ltN hN rfl) (by rfl) (by rfl) (by rfl) (by rfl) (OptL.opt OptL.nil))
            (OpJs.cons (OpJ.opt' (v := (.d (.int .i64 (w64 (x23.fPool - x30.fPool))))) (OpJ.sub (ltN hN rfl) (Opd.tmp 89 (.d (.int .i64 x23.fPool))) (Opd.tmp 91 (.d (.int .i64 x30.fPool)))) (by rfl) (GuardV.plain _) (ltN hN rfl) (by rfl) (by rfl) (by rfl) (by rfl) (OptL.opt (OptL.opt OptL.nil)))
            (OpJs.cons (OpJ.opt' (v := (.ptr 1004 1 [1])) (OpJ.val (v' := (.ptr 1004 1 [1])) (by rfl) (OpJ.fieldP Try.underlying36 (by rfl) (o := 1) (by rfl) tyS3 (by decide) (obj := (.box 36 (.d (e_api_Sample x23)))) (ltN hN rfl) (Opd.tmp 4 (.ptr 1004 0 [])))) (by rfl) (GuardV.plain _) (ltN hN rfl) (by rfl) (by rfl) (by rfl) (by rfl) (OptL.keep rfl OptL.nil))
            (OpJs.cons (OpJ.opt' (v := (.d (.int .i64 x23.fSeq))) (OpJ.loadB (bt := 36) (c := (.d (e_api_Sample x23))) (v := (.d (.int .i64 x23.fSeq))) tyS3 (At.dst1 (f := (.int .i64 x23.fSeq)) (by rfl) (by rfl) (At.here _) (by first | rfl | omega)) (by rfl) (by rfl) rfl (ltN hN rfl) (Opd.tmp 93 (.ptr 1004 1 [1]))) (by rfl) (GuardV.plain _) (ltN hN rfl) (by rfl) (by rfl) (by rfl) (by rfl) (OptL.opt OptL.nil))
            (OpJs.cons (OpJ.opt' (v := (.ptr 1006 1 [1])) (OpJ.val (v' := (.ptr 1006 1 [1])) (by rfl) (OpJ.fieldP Try.underlying36 (by rfl) (o := 1) (by rfl) tyS3 (by decide) (obj := (.box 36 (.d (e_api_Sample x30)))) (ltN hN rfl) (Opd.tmp 6 (.ptr 1006 0 [])))) (by rfl) (GuardV.plain _) (ltN hN rfl) (by rfl) (by rfl) (by rfl) (by rfl) (OptL.keep rfl OptL.nil))
            (OpJs.cons (OpJ.opt' (v := (.d (.int .i64 x30.fSeq))) (OpJ.loadB (bt := 36) (c := (.d (e_api_Sample x30))) (v := (.d (.int .i64 x30.fSeq))) tyS3 (At.dst1 (f := (.int .i64 x30.fSeq)) (by rfl) (by rfl) (At.here _) (by first | rfl | omega)) (by rfl) (by rfl) rfl (ltN hN rfl) (Opd.tmp 95 (.ptr 1006 1 [1]))) (by rfl) (GuardV.plain _) (ltN hN rfl) (by rfl) (by rfl) (by rfl) (by rfl) (OptL.opt OptL.nil))
            (OpJs.cons (OpJ.opt' (v := (.d (.int .i64 (w64 (x23.fSeq - x30.fSeq))))) (OpJ.sub (ltN hN rfl) (Opd.tmp 94 (.d (.int .i64 x23.fSeq))) (Opd.tmp 96 (.d (.int .i64 x30.fSeq)))) (by rfl) (GuardV.plain _) (ltN hN rfl) (by rfl) (by rfl) (by rfl) (by rfl) (OptL.opt (OptL.opt OptL.nil)))
            (OpJs.cons (OpJ.opt' (v := (.d (.bool (decide ((w64 (x23.fSeq - x30.fSeq)) ≤ (w64 (x23.fPool - x30.fPool))))))) (OpJ.geq (ltN hN rfl) (Opd.tmp 92 (.d (.int .i64 (w64 (x23.fPool - x30.fPool))))) (Opd.tmp 97 (.d (.int .i64 (w64 (x23.fSeq - x30.fSeq)))))) (by rfl) (GuardV.plain _) (ltN hN rfl) (by rfl) (by rfl) (by rfl) (by rfl) (OptL.opt (OptL.opt OptL.nil)))
            (OpJs.cons (OpJ.pickAnd rfl (ltN hN rfl) (Opd.tmp 87 (.d (.bool (((((((((((((decide ((0 : Int) ≤ x23.fTick)) && (decide (x23.fTick ≤ (1073741824 : Int)))) && (decide ((0 : Int) ≤ x23.fSeq))) && (decide (x23.fSeq ≤ (1099511627776 : Int)))) && (decide ((0 : Int) ≤ x23.fPool))) && (decide (x23.fPool ≤ (1099511627776 : Int)))) && (decide ((1 : Int) ≤ x23.fIn))) && (decide (x23.fIn ≤ (999 : Int)))) && (decide ((1 : Int) ≤ x23.fOut))) && (decide (x23.fOut ≤ (999 : Int)))) && (decide ((0 : Int) ≤ x23.fBytes))) && (decide (x23.fBytes ≤ (65535 : Int)))) && (decide (x30.fSeq < x23.fSeq)))))) (Opd.tmp 98 (.opt ((((((((((((((decide ((0 : Int) ≤ x23.fTick)) && (decide (x23.fTick ≤ (1073741824 : Int)))) && (decide ((0 : Int) ≤ x23.fSeq))) && (decide (x23.fSeq ≤ (1099511627776 : Int)))) && (decide ((0 : Int) ≤ x23.fPool))) && (decide (x23.fPool ≤ (1099511627776 : Int)))) && (decide ((1 : Int) ≤ x23.fIn))) && (decide (x23.fIn ≤ (999 : Int)))) && (decide ((1 : Int) ≤ x23.fOut))) && (decide (x23.fOut ≤ (999 : Int)))) && (decide ((0 : Int) ≤ x23.fBytes))) && (decide (x23.fBytes ≤ (65535 : Int)))) && (decide (x30.fSeq < x23.fSeq))) == true) (.d (.bool (decide ((w64 (x23.fSeq - x30.fSeq)) ≤ (w64 (x23.fPool - x30.fPool)))))))))
            (OpJs.cons (OpJ.move (ltN hN rfl) (Opd.tmp 99 (.d (.bool ((((((((((((((decide ((0 : Int) ≤ x23.fTick)) && (decide (x23.fTick ≤ (1073741824 : Int)))) && (decide ((0 : Int) ≤ x23.fSeq))) && (decide (x23.fSeq ≤ (1099511627776 : Int)))) && (decide ((0 : Int) ≤ x23.fPool))) && (decide (x23.fPool ≤ (1099511627776 : Int)))) && (decide ((1 : Int) ≤ x23.fIn))) && (decide (x23.fIn ≤ (999 : Int)))) && (decide ((1 : Int) ≤ x23.fOut))) && (decide (x23.fOut ≤ (999 : Int)))) && (decide ((0 : Int) ≤ x23.fBytes))) && (decide (x23.fBytes ≤ (65535 : Int)))) && (decide (x30.fSeq < x23.fSeq))) && (decide ((w64 (x23.fSeq - x30.fSeq)) ≤ (w64 (x23.fPool - x30.fPool)))))))))
            (OpJs.cons (OpJ.opt' (v := (.ptr 1004 0 [0])) (OpJ.val (v' := (.ptr 1004 0 [0])) (by rfl) (OpJ.fieldP Try.underlying36 (by rfl) (o := 0) (by rfl) tyS3 (by decide) (obj := (.box 36 (.d (e_api_Sample x23)))) (ltN hN rfl) (Opd.tmp 4 (.ptr 1004 0 [])))) (by rfl) (GuardV.plain _) (ltN hN rfl) (by rfl) (by rfl) (by rfl) (by rfl) (OptL.keep rfl OptL.nil))
            (OpJs.cons (OpJ.opt' (v := (.d (.int .i64 x23.fTick))) (OpJ.loadB (bt := 36) (c := (.d (e_api_Sample x23))) (v := (.d (.int .i64 x23.fTick))) tyS3 (At.dst1 (f := (.int .i64 x23.fTick)) (by rfl) (by rfl) (At.here _) (by first | rfl | omega)) (by rfl) (by rfl) rfl (ltN hN rfl) (Opd.tmp 101 (.ptr 1004 0 [0]))) (by rfl) (GuardV.plain _) (ltN hN rfl) (by rfl) (by rfl) (by rfl) (by rfl) (OptL.opt OptL.nil))
            (OpJs.cons (OpJ.opt' (v := (.ptr 1006 0 [0])) (OpJ.val (v' := (.ptr 1006 0 [0])) (by rfl) (OpJ.fieldP Try.underlying36 (by rfl) (o := 0) (by rfl) tyS3 (by decide) (obj := (.box 36 (.d (e_api_Sample x30)))) (ltN hN rfl) (Opd.tmp 6 (.ptr 1006 0 [])))) (by rfl) (GuardV.plain _) (ltN hN rfl) (by rfl) (by rfl) (by rfl) (by rfl) (OptL.keep rfl OptL.nil))
            (OpJs.cons (OpJ.opt' (v := (.d (.int .i64 x30.fTick))) (OpJ.loadB (bt := 36) (c := (.d (e_api_Sample x30))) (v := (.d (.int .i64 x30.fTick))) tyS3 (At.dst1 (f := (.int .i64 x30.fTick)) (by rfl) (by rfl) (At.here _) (by first | rfl | omega)) (by rfl) (by rfl) rfl (ltN hN rfl) (Opd.tmp 103 (.ptr 1006 0 [0]))) (by rfl) (GuardV.plain _) (ltN hN rfl) (by rfl) (by rfl) (by rfl) (by rfl) (OptL.opt OptL.nil))
            (OpJs.cons (OpJ.opt' (v := (.d (.bool (decide (x30.fTick ≤ x23.fTick))))) (OpJ.geq (ltN hN rfl) (Opd.tmp 102 (.d (.int .i64 x23.fTick))) (Opd.tmp 104 (.d (.int .i64 x30.fTick)))) (by rfl) (GuardV.plain _) (ltN hN rfl) (by rfl) (by rfl) (by rfl) (by rfl) (OptL.opt (OptL.opt OptL.nil)))
            (OpJs.cons (OpJ.pickAnd rfl (ltN hN rfl) (Opd.tmp 100 (.d (.bool ((((((((((((((decide ((0 : Int) ≤ x23.fTick)) && (decide (x23.fTick ≤ (1073741824 : Int)))) && (decide ((0 : Int) ≤ x23.fSeq))) && (decide (x23.fSeq ≤ (1099511627776 : Int)))) && (decide ((0 : Int) ≤ x23.fPool))) && (decide (x23.fPool ≤ (1099511627776 : Int)))) && (decide ((1 : Int) ≤ x23.fIn))) && (decide (x23.fIn ≤ (999 : Int)))) && (decide ((1 : Int) ≤ x23.fOut))) && (decide (x23.fOut ≤ (999 : Int)))) && (decide ((0 : Int) ≤ x23.fBytes))) && (decide (x23.fBytes ≤ (65535 : Int)))) && (decide (x30.fSeq < x23.fSeq))) && (decide ((w64 (x23.fSeq - x30.fSeq)) ≤ (w64 (x23.fPool - x30.fPool)))))))) (Opd.tmp 105 (.opt (((((((((((((((decide ((0 : Int) ≤ x23.fTick)) && (decide (x23.fTick ≤ (1073741824 : Int)))) && (decide ((0 : Int) ≤ x23.fSeq))) && (decide (x23.fSeq ≤ (1099511627776 : Int)))) && (decide ((0 : Int) ≤ x23.fPool))) && (decide (x23.fPool ≤ (1099511627776 : Int)))) && (decide ((1 : Int) ≤ x23.fIn))) && (decide (x23.fIn ≤ (999 : Int)))) && (decide ((1 : Int) ≤ x23.fOut))) && (decide (x23.fOut ≤ (999 : Int)))) && (decide ((0 : Int) ≤ x23.fBytes))) && (decide (x23.fBytes ≤ (65535 : Int)))) && (decide (x30.fSeq < x23.fSeq))) && (decide ((w64 (x23.fSeq - x30.fSeq)) ≤ (w64 (x23.fPool - x30.fPool))))) == true) (.d (.bool (decide (x30.fTick ≤ x23.fTick)))))))
            (OpJs.cons (OpJ.assign (ltN hN rfl) (Opd.tmp 106 (.d (.bool (((((((((((((((decide ((0 : Int) ≤ x23.fTick)) && (decide (x23.fTick ≤ (1073741824 : Int)))) && (decide ((0 : Int) ≤ x23.fSeq))) && (decide (x23.fSeq ≤ (1099511627776 : Int)))) && (decide ((0 : Int) ≤ x23.fPool))) && (decide (x23.fPool ≤ (1099511627776 : Int)))) && (decide ((1 : Int) ≤ x23.fIn))) && (decide (x23.fIn ≤ (999 : Int)))) && (decide ((1 : Int) ≤ x23.fOut))) && (decide (x23.fOut ≤ (999 : Int)))) && (decide ((0 : Int) ≤ x23.fBytes))) && (decide (x23.fBytes ≤ (65535 : Int)))) && (decide (x30.fSeq < x23.fSeq))) && (decide ((w64 (x23.fSeq - x30.fSeq)) ≤ (w64 (x23.fPool - x30.fPool))))) && (decide (x30.fTick ≤ x23.fTick)))))))
            (OpJs.nil)))))))))))))))))))))))))))))) (by rfl) (by rfl) ?_
          exact hjj27 _ h _ _ (Mat.trans (Mat.pat [] [(0, (.d (.list 6 (a0.map e_api_Sample)))), (5, (.d (.bool (((((((((((((((decide ((0 : Int) ≤ x23.fTick)) && (decide (x23.fTick ≤ (1073741824 : Int)))) && (decide ((0 : Int) ≤ x23.fSeq))) && (decide (x23.fSeq ≤ (1099511627776 : Int)))) && (decide ((0 : Int) ≤ x23.fPool))) && (decide (x23.fPool ≤ (1099511627776 : Int)))) && (decide ((1 : Int) ≤ x23.fIn))) && (decide (x23.fIn ≤ (999 : Int)))) && (decide ((1 : Int) ≤ x23.fOut))) && (decide (x23.fOut ≤ (999 : Int)))) && (decide ((0 : Int) ≤ x23.fBytes))) && (decide (x23.fBytes ≤ (65535 : Int)))) && (decide (x30.fSeq < x23.fSeq))) && (decide ((w64 (x23.fSeq - x30.fSeq)) ≤ (w64 (x23.fPool - x30.fPool))))) && (decide (x30.fTick ≤ x23.fTick)))))), (7, (.d (.list 6 (a0.map e_api_Sample)))), (8, (.d (.int .i64 (a0.length : Int)))), (9, (.d (.int .i64 s1)))] [] hB (by rfl) (by rfl) (by rfl)) (Mat.pat [] ((fun m26 : Bool => ([(0, (.d (.list 6 (a0.map e_api_Sample)))), (5, (.d (.bool m26))), (7, (.d (.list 6 (a0.map e_api_Sample)))), (8, (.d (.int .i64 (a0.length : Int)))), (9, (.d (.int .i64 s1)))] : EL)) (((((((((((((((decide ((0 : Int) ≤ x23.fTick)) && (decide (x23.fTick ≤ (1073741824 : Int)))) && (decide ((0 : Int) ≤ x23.fSeq))) && (decide (x23.fSeq ≤ (1099511627776 : Int)))) && (decide ((0 : Int) ≤ x23.fPool))) && (decide (x23.fPool ≤ (1099511627776 : Int)))) && (decide ((1 : Int) ≤ x23.fIn))) && (decide (x23.fIn ≤ (999 : Int)))) && (decide ((1 : Int) ≤ x23.fOut))) && (decide (x23.fOut ≤ (999 : Int)))) && (decide ((0 : Int) ≤ x23.fBytes))) && (decide (x23.fBytes ≤ (65535 : Int)))) && (decide (x30.fSeq < x23.fSeq))) && (decide ((w64 (x23.fSeq - x30.fSeq)) ≤ (w64 (x23.fPool - x30.fPool))))) && (decide (x30.fTick ≤ x23.fTick)))) ((fun m26 : Bool => ([] : OL)) (((((((((((((((decide ((0 : Int) ≤ x23.fTick)) && (decide (x23.fTick ≤ (1073741824 : Int)))) && (decide ((0 : Int) ≤ x23.fSeq))) && (decide (x23.fSeq ≤ (1099511627776 : Int)))) && (decide ((0 : Int) ≤ x23.fPool))) && (decide (x23.fPool ≤ (1099511627776 : Int)))) && (decide ((1 : Int) ≤ x23.fIn))) && (decide (x23.fIn ≤ (999 : Int)))) && (decide ((1 : Int) ≤ x23.fOut))) && (decide (x23.fOut ≤ (999 : Int)))) && (decide ((0 : Int) ≤ x23.fBytes))) && (decide (x23.fBytes ≤ (65535 : Int)))) && (decide (x30.fSeq < x23.fSeq))) && (decide ((w64 (x23.fSeq - x30.fSeq)) ≤ (w64 (x23.fPool - x30.fPool))))) && (decide (x30.fTick ≤ x23.fTick)))) hB (by rfl) (by rfl) (by rfl)))
        · replace h := ite_f hg29 h
          refine AWp.skip ?_
          exact hjj27 _ h _ _ (Mat.pat [] ((fun m26 : Bool => ([(0, (.d (.list 6 (a0.map e_api_Sample)))), (5, (.d (.bool m26))), (7, (.d (.list 6 (a0.map e_api_Sample)))), (8, (.d (.int .i64 (a0.length : Int)))), (9, (.d (.int .i64 s1)))] : EL)) ((((((((((((decide ((0 : Int) ≤ x23.fTick)) && (decide (x23.fTick ≤ (1073741824 : Int)))) && (decide ((0 : Int) ≤ x23.fSeq))) && (decide (x23.fSeq ≤ (1099511627776 : Int)))) && (decide ((0 : Int) ≤ x23.fPool))) && (decide (x23.fPool ≤ (1099511627776 : Int)))) && (decide ((1 : Int) ≤ x23.fIn))) && (decide (x23.fIn ≤ (999 : Int)))) && (decide ((1 : Int) ≤ x23.fOut))) && (decide (x23.fOut ≤ (999 : Int)))) && (decide ((0 : Int) ≤ x23.fBytes))) && (decide (x23.fBytes ≤ (65535 : Int))))) ((fun m26 : Bool => ([] : OL)) ((((((((((((decide ((0 : Int) ≤ x23.fTick)) && (decide (x23.fTick ≤ (1073741824 : Int)))) && (decide ((0 : Int) ≤ x23.fSeq))) && (decide (x23.fSeq ≤ (1099511627776 : Int)))) && (decide ((0 : Int) ≤ x23.fPool))) && (decide (x23.fPool ≤ (1099511627776 : Int)))) && (decide ((1 : Int) ≤ x23.fIn))) && (decide (x23.fIn ≤ (999 : Int)))) && (decide ((1 : Int) ≤ x23.fOut))) && (decide (x23.fOut ≤ (999 : Int)))) && (decide ((0 : Int) ≤ x23.fBytes))) && (decide (x23.fBytes ≤ (65535 : Int))))) hB (by rfl) (by rfl) (by rfl))
    · replace h := ite_f hg22 h
      refine AWp.exit ?_
      refine seqQ_e ?_
      obtain rfl := Option.some.inj h
      exact ⟨(fun hc => by cases hc), rfl, (Mat.pat [] ((fun _ : Unit => ([(0, (.d (.list 6 (a0.map e_api_Sample))))] : EL)) ()) ((fun _ : Unit => ([] : OL)) ()) hB (by rfl) (by rfl) (by rfl))⟩
  · rcases x31 with _ | _
    · obtain ⟨rfl, hmat⟩ := hR
      refine blkQ_r ?_
      refine seqQ_r ?_
      obtain rfl := Option.some.inj h
      exact ⟨.inl rfl, _, _, (Mat.trans hmat (Mat.pat [] [(2, (.d (.bool false)))] [] hB (by rfl) (by rfl) (by rfl))), [(.d (.bool false))], (Res.tmp (by rfl) (by rfl) Res.nil), rfl, by rfl, by rfl, by rfl⟩
    · obtain ⟨rfl, hmat⟩ := hR
      refine blkQ_hit ?_
      refine seqQ_n ?_
      refine AWp.ghost hmat ?_
      refine AWp.seq ?_
      refine AWp.region (OpJs.cons (OpJ.move (ltN hN rfl) (Opd.tmp 0 (.d (.list 6 (a0.map e_api_Sample)))))
        (OpJs.cons (OpJ.val (v' := (.d (.int .i64 (a0.length : Int)))) (by simp) (OpJ.lenD Try.underlying31 (ltN hN rfl) (Opd.tmp 110 (.d (.list 6 (a0.map e_api_Sample))))))
        (OpJs.cons (OpJ.leq (ltN hN rfl) (Opd.tmp 111 (.d (.int .i64 (a0.length : Int)))) (Opd.int .i64 (1000)))
        (OpJs.cons (OpJ.assign (ltN hN rfl) (Opd.tmp 112 (.d (.bool (decide ((a0.length : Int) ≤ (1000 : Int)))))))
        (OpJs.nil))))) (by rfl) (by rfl) ?_
      refine seqQ_n ?_
      refine AWp.ghost (Mat.pat [] [(2, (.d (.bool (decide ((a0.length : Int) ≤ (1000 : Int))))))] [] hB (by rfl) (by rfl) (by rfl)) ?_
      refine AWp.ret ?_
      obtain rfl := Option.some.inj h
      exact ⟨.inl rfl, _, _, (Mat.pat [] [(2, (.d (.bool (decide ((a0.length : Int) ≤ (1000 : Int))))))] [] hB (by rfl) (by rfl) (by rfl)), [(.d (.bool (decide ((a0.length : Int) ≤ (1000 : Int)))))], (Res.tmp (by rfl) (by rfl) Res.nil), rfl, by rfl, by rfl, by rfl⟩

noncomputable def clone_List (a0 : (List api_Sample)) : Option ((List api_Sample)) :=
  chk (decide (a0.length ≤ LIM)) <|
  some a0
set_option maxHeartbeats 4000000 in
set_option maxRecDepth 100000 in
theorem clone_List_ac (a0 : (List api_Sample)) (r : (List api_Sample)) (h : clone_List a0 = some r) : AC Try.prog 29 [(.d (.list 6 (a0.map e_api_Sample)))] [] (.d (.list 6 (r.map e_api_Sample))) [] := by
  refine AC.of_code2 Try.func29 rfl rfl (Nat.le_of_ble_eq_true (by rfl)) fun B hB hN => ?_
  delta clone_List at h
  refine AWp.seq ?_
  refine AWp.region (OpJs.cons (OpJ.assign (ltN hN rfl) Opd.nils)
  (OpJs.nil)) (by rfl) (by rfl) ?_
  refine seqQ_n ?_
  refine AWp.ghost (Mat.pat [] [(0, (.d (.list 6 (a0.map e_api_Sample))))] [] hB (by rfl) (by rfl) (by rfl)) ?_
  refine AWp.seq ?_
  obtain ⟨hc1, h⟩ := chk_some h
  refine AWp.region (OpJs.cons (OpJ.move (ltN hN rfl) (Opd.tmp 0 (.d (.list 6 (a0.map e_api_Sample)))))
  (OpJs.cons (OpJ.appendN hB Try.underlying31 tyE36 (nm := 1004) (by decide) (ys := a0.map e_api_Sample) (len := a0.length) (by simp) (map_sz (f := e_api_Sample) (fun _ => rfl)) (by rw [List.length_map]; exact lim_mulN hc1 (by decide)) (by rw [List.length_map]; exact lim_leN hc1) (ltN hN rfl) Opd.nils (Opd.tmp 3 (.d (.list 6 (a0.map e_api_Sample)))))
  (OpJs.cons (OpJ.assign (ltN hN rfl) (Opd.tmp 4 (.sref 1004 6 0 a0.length)))
  (OpJs.nil)))) (by rfl) (by rfl) ?_
  refine seqQ_n ?_
  refine AWp.ghost (Mat.pat [] [(2, (.sref 1004 6 0 a0.length))] [(1004, some (.row 36 6 (a0.map e_api_Sample)))] hB (by rfl) (by rfl) (by rfl)) ?_
  refine AWp.ret ?_
  obtain rfl := Option.some.inj h
  exact ⟨.inl rfl, _, _, (Mat.trans (Mat.freezeAll (n := 1004) (k := 2) (by rfl) (by rfl) (by first | (simp; done) | (simp; omega))) (Mat.pat [] [(2, (.d (.list 6 (a0.map e_api_Sample))))] [] hB (by rfl) (by rfl) (by rfl))), [(.d (.list 6 (a0.map e_api_Sample)))], (Res.tmp (by rfl) (by rfl) Res.nil), rfl, by rfl, by rfl, by rfl⟩

noncomputable def clone_List_2 (a0 : (List api_Sample)) : Option ((List api_Sample)) :=
  chk (decide (a0.length ≤ LIM)) <|
  some a0
set_option maxHeartbeats 4000000 in
set_option maxRecDepth 100000 in
theorem clone_List_2_ac (a0 : (List api_Sample)) (r : (List api_Sample)) (h : clone_List_2 a0 = some r) : AC Try.prog 29 [(.d (.list 6 (a0.map e_api_Sample)))] [] (.sref 900000 6 0 r.length) [(900000, some (.row 36 6 (r.map e_api_Sample)))] := by
  refine AC.of_code2 Try.func29 rfl rfl (Nat.le_of_ble_eq_true (by rfl)) fun B hB hN => ?_
  delta clone_List_2 at h
  refine AWp.seq ?_
  refine AWp.region (OpJs.cons (OpJ.assign (ltN hN rfl) Opd.nils)
  (OpJs.nil)) (by rfl) (by rfl) ?_
  refine seqQ_n ?_
  refine AWp.ghost (Mat.pat [] [(0, (.d (.list 6 (a0.map e_api_Sample))))] [] hB (by rfl) (by rfl) (by rfl)) ?_
  refine AWp.seq ?_
  obtain ⟨hc1, h⟩ := chk_some h
  refine AWp.region (OpJs.cons (OpJ.move (ltN hN rfl) (Opd.tmp 0 (.d (.list 6 (a0.map e_api_Sample)))))
  (OpJs.cons (OpJ.appendN hB Try.underlying31 tyE36 (nm := 1004) (by decide) (ys := a0.map e_api_Sample) (len := a0.length) (by simp) (map_sz (f := e_api_Sample) (fun _ => rfl)) (by rw [List.length_map]; exact lim_mulN hc1 (by decide)) (by rw [List.length_map]; exact lim_leN hc1) (ltN hN rfl) Opd.nils (Opd.tmp 3 (.d (.list 6 (a0.map e_api_Sample)))))
  (OpJs.cons (OpJ.assign (ltN hN rfl) (Opd.tmp 4 (.sref 1004 6 0 a0.length)))
  (OpJs.nil)))) (by rfl) (by rfl) ?_
  refine seqQ_n ?_
  refine AWp.ghost (Mat.pat [] [(2, (.sref 1004 6 0 a0.length))] [(1004, some (.row 36 6 (a0.map e_api_Sample)))] hB (by rfl) (by rfl) (by rfl)) ?_
  refine AWp.ret ?_
  obtain rfl := Option.some.inj h
  exact ⟨.inl rfl, _, _, (Mat.pat [(900000, 1004)] [(2, (.sref 900000 6 0 a0.length))] [(900000, some (.row 36 6 (a0.map e_api_Sample)))] hB (by rfl) (by rfl) (by rfl)), [(.sref 900000 6 0 a0.length)], (Res.tmp (by rfl) (by rfl) Res.nil), rfl, by rfl, by rfl, by rfl⟩

noncomputable def sample_Between_1 (a0 : api_Sample) (a1 : Int) (a2 : Int) : Option (Bool × Int × Int) :=
  some (((decide (a0.fTick < a1)) || (decide (a2 ≤ a0.fTick))), a1, a2)
set_option maxHeartbeats 4000000 in
set_option maxRecDepth 100000 in
theorem sample_Between_1_ac (a0 : api_Sample) (a1 : Int) (a2 : Int) (r : Bool × Int × Int) (h : sample_Between_1 a0 a1 a2 = some r) : AC Try.prog 30 [(.d (e_api_Sample a0)), (.ptr 0 0 []), (.ptr 1 0 [])] [(0, (.box 3 (.d (.int .i64 a1)))), (1, (.box 3 (.d (.int .i64 a2))))] (.d (.bool r.1)) [(0, some (.box 3 (.d (.int .i64 r.2.1)))), (1, some (.box 3 (.d (.int .i64 r.2.2))))] := by
  refine AC.of_code2 Try.func30 rfl rfl (Nat.le_of_ble_eq_true (by rfl)) fun B hB hN => ?_
  delta sample_Between_1 at h
  refine AWp.seq ?_
  refine AWp.region (OpJs.cons (OpJ.box hB (nm := 1003) (by decide) (by simp) rfl (ltN hN rfl) (Opd.tmp 0 (.d (e_api_Sample a0))))
  (OpJs.cons (OpJ.assign (ltN hN rfl) (Opd.bool false))
  (OpJs.nil))) (by rfl) (by rfl) ?_
  refine seqQ_n ?_
  refine AWp.ghost (Mat.pat [] [(1, (.ptr 0 0 [])), (2, (.ptr 1 0 [])), (3, (.ptr 1003 0 []))] [(0, some (.box 3 (.d (.int .i64 a1)))), (1, some (.box 3 (.d (.int .i64 a2)))), (1003, some (.box 36 (.d (e_api_Sample a0))))] hB (by rfl) (by rfl) (by rfl)) ?_
  refine AWp.seq ?_
  refine AWp.region (OpJs.cons (OpJ.val (v' := (.ptr 1003 0 [0])) (by rfl) (OpJ.fieldP Try.underlying36 (by rfl) (o := 0) (by rfl) tyS3 (by decide) (obj := (.box 36 (.d (e_api_Sample a0)))) (ltN hN rfl) (Opd.tmp 3 (.ptr 1003 0 []))))
  (OpJs.cons (OpJ.loadB (bt := 36) (c := (.d (e_api_Sample a0))) (v := (.d (.int .i64 a0.fTick))) tyS3 (At.dst1 (f := (.int .i64 a0.fTick)) (by rfl) (by rfl) (At.here _) (by first | rfl | omega)) (by rfl) (by rfl) rfl (ltN hN rfl) (Opd.tmp 5 (.ptr 1003 0 [0])))
  (OpJs.cons (OpJ.loadB (bt := 3) (c := (.d (.int .i64 a1))) (v := (.d (.int .i64 a1))) tyS3 (At.here _) (by rfl) (by rfl) rfl (ltN hN rfl) (Opd.tmp 1 (.ptr 0 0 [])))
  (OpJs.cons (OpJ.lss (ltN hN rfl) (Opd.tmp 6 (.d (.int .i64 a0.fTick))) (Opd.tmp 7 (.d (.int .i64 a1))))
  (OpJs.cons (OpJ.move (ltN hN rfl) (Opd.tmp 8 (.d (.bool (decide (a0.fTick < a1))))))
  (OpJs.cons (OpJ.opt' (v := (.ptr 1003 0 [0])) (OpJ.val (v' := (.ptr 1003 0 [0])) (by rfl) (OpJ.fieldP Try.underlying36 (by rfl) (o := 0) (by rfl) tyS3 (by decide) (obj := (.box 36 (.d (e_api_Sample a0)))) (ltN hN rfl) (Opd.tmp 3 (.ptr 1003 0 [])))) (by rfl) (GuardV.plain _) (ltN hN rfl) (by rfl) (by rfl) (by rfl) (by rfl) (OptL.keep rfl OptL.nil))
  (OpJs.cons (OpJ.opt' (v := (.d (.int .i64 a0.fTick))) (OpJ.loadB (bt := 36) (c := (.d (e_api_Sample a0))) (v := (.d (.int .i64 a0.fTick))) tyS3 (At.dst1 (f := (.int .i64 a0.fTick)) (by rfl) (by rfl) (At.here _) (by first | rfl | omega)) (by rfl) (by rfl) rfl (ltN hN rfl) (Opd.tmp 10 (.ptr 1003 0 [0]))) (by rfl) (GuardV.plain _) (ltN hN rfl) (by rfl) (by rfl) (by rfl) (by rfl) (OptL.opt OptL.nil))
  (OpJs.cons (OpJ.opt' (v := (.d (.int .i64 a2))) (OpJ.loadB (bt := 3) (c := (.d (.int .i64 a2))) (v := (.d (.int .i64 a2))) tyS3 (At.here _) (by rfl) (by rfl) rfl (ltN hN rfl) (Opd.tmp 2 (.ptr 1 0 []))) (by rfl) (GuardV.plain _) (ltN hN rfl) (by rfl) (by rfl) (by rfl) (by rfl) (OptL.keep rfl OptL.nil))
  (OpJs.cons (OpJ.opt' (v := (.d (.bool (decide (a2 ≤ a0.fTick))))) (OpJ.geq (ltN hN rfl) (Opd.tmp 11 (.d (.int .i64 a0.fTick))) (Opd.tmp 12 (.d (.int .i64 a2)))) (by rfl) (GuardV.plain _) (ltN hN rfl) (by rfl) (by rfl) (by rfl) (by rfl) (OptL.opt (OptL.opt OptL.nil)))
  (OpJs.cons (OpJ.pickOr rfl (ltN hN rfl) (Opd.tmp 9 (.d (.bool (decide (a0.fTick < a1))))) (Opd.tmp 13 (.opt ((decide (a0.fTick < a1)) == false) (.d (.bool (decide (a2 ≤ a0.fTick)))))))
  (OpJs.cons (OpJ.assign (ltN hN rfl) (Opd.tmp 14 (.d (.bool ((decide (a0.fTick < a1)) || (decide (a2 ≤ a0.fTick)))))))
  (OpJs.nil)))))))))))) (by rfl) (by rfl) ?_
  refine seqQ_n ?_
  refine AWp.ghost (Mat.pat [] [(4, (.d (.bool ((decide (a0.fTick < a1)) || (decide (a2 ≤ a0.fTick))))))] [(0, some (.box 3 (.d (.int .i64 a1)))), (1, some (.box 3 (.d (.int .i64 a2))))] hB (by rfl) (by rfl) (by rfl)) ?_
  refine AWp.ret ?_
  obtain rfl := Option.some.inj h
  exact ⟨.inl rfl, _, _, (Mat.pat [] [(4, (.d (.bool ((decide (a0.fTick < a1)) || (decide (a2 ≤ a0.fTick))))))] [(0, some (.box 3 (.d (.int .i64 a1)))), (1, some (.box 3 (.d (.int .i64 a2))))] hB (by rfl) (by rfl) (by rfl)), [(.d (.bool ((decide (a0.fTick < a1)) || (decide (a2 ≤ a0.fTick)))))], (Res.tmp (by rfl) (by rfl) Res.nil), rfl, by rfl, by rfl, by rfl⟩

noncomputable def slices_IndexFunc_L0 (a0 : (List api_Sample)) (s1 : Int × Int × Int) : Option (((Int × Int × Int) ⊕ (Int × Int)) ⊕ (Int × Int × Int)) :=
  (if (decide (s1.1 < (a0.length : Int))) = true then
  (idx a0 s1.1).bind fun x15 =>
  (idx a0 s1.1).bind fun x16 =>
  (sample_Between_1 x16 s1.2.2 s1.2.1).bind fun r17 =>
  (if r17.1 = true then
  some (.inl (.inl (s1.1, r17.2.2, r17.2.1)))
  else
  some (.inr ((w64 (s1.1 + (1 : Int))), r17.2.2, r17.2.1)))
  else
  some (.inl (.inr (s1.2.1, s1.2.2))))
noncomputable def slices_IndexFunc (a0 : (List api_Sample)) (a1 : Int) (a2 : Int) : Option (Int × (List api_Sample) × Int × Int) :=
  (loop (slices_IndexFunc_L0 a0) ((0 : Int), a2, a1)).bind fun x19 => match x19 with
  | (.inl p12) =>
    some (p12.1, a0, p12.2.2, p12.2.1)
  | (.inr p13) =>
    some ((-1 : Int), a0, p13.2, p13.1)
set_option maxHeartbeats 4000000 in
set_option maxRecDepth 100000 in
theorem slices_IndexFunc_ac (a0 : (List api_Sample)) (a1 : Int) (a2 : Int) (r : Int × (List api_Sample) × Int × Int) (h : slices_IndexFunc a0 a1 a2 = some r) : AC Try.prog 32 [(.sref 0 6 0 a0.length), (.func 30 [(.ptr 1 0 []), (.ptr 2 0 [])])] [(0, (.row 36 6 (a0.map e_api_Sample))), (1, (.box 3 (.d (.int .i64 a1)))), (2, (.box 3 (.d (.int .i64 a2))))] (.d (.int .i64 r.1)) [(0, some (.row 36 6 (r.2.1.map e_api_Sample))), (1, some (.box 3 (.d (.int .i64 r.2.2.1)))), (2, some (.box 3 (.d (.int .i64 r.2.2.2))))] := by
  refine AC.of_code2 Try.func32 rfl rfl (Nat.le_of_ble_eq_true (by rfl)) fun B hB hN => ?_
  delta slices_IndexFunc at h
  refine AWp.seq ?_
  refine AWp.region (OpJs.cons (OpJ.assign (ltN hN rfl) (Opd.int .i64 (0)))
  (OpJs.nil)) (by rfl) (by rfl) ?_
  refine seqQ_n ?_
  refine AWp.ghost (Mat.pat [] [(0, (.sref 0 6 0 a0.length)), (1, (.func 30 [(.ptr 1 0 []), (.ptr 2 0 [])]))] [(0, some (.row 36 6 (a0.map e_api_Sample))), (1, some (.box 3 (.d (.int .i64 a1)))), (2, some (.box 3 (.d (.int .i64 a2))))] hB (by rfl) (by rfl) (by rfl)) ?_
  refine AWp.seq ?_
  refine AWp.seq ?_
  refine AWp.region (OpJs.cons (OpJ.move (ltN hN rfl) (Opd.tmp 0 (.sref 0 6 0 a0.length)))
  (OpJs.cons (OpJ.lenS (obj := (.row 36 6 (a0.map e_api_Sample))) Try.underlying31 (ltN hN rfl) (Opd.tmp 6 (.sref 0 6 0 a0.length)))
  (OpJs.cons (OpJ.move (ltN hN rfl) (Opd.int .i64 (0)))
  (OpJs.nil)))) (by rfl) (by rfl) ?_
  refine seqQ_n ?_
  refine AWp.ghost (Mat.pat [] [(0, (.sref 0 6 0 a0.length)), (1, (.func 30 [(.ptr 1 0 []), (.ptr 2 0 [])])), (7, (.d (.int .i64 (a0.length : Int)))), (8, (.d (.int .i64 (0 : Int))))] [(0, some (.row 36 6 (a0.map e_api_Sample))), (1, some (.box 3 (.d (.int .i64 a1)))), (2, some (.box 3 (.d (.int .i64 a2))))] hB (by rfl) (by rfl) (by rfl)) ?_
  refine AWp.block ?_
  obtain ⟨x19, hx20, h⟩ := bindS h
  refine AWp.ghost (Mat.pat [] ((fun s1 : Int × Int × Int => ([(0, (.sref 0 6 0 a0.length)), (1, (.func 30 [(.ptr 1 0 []), (.ptr 2 0 [])])), (7, (.d (.int .i64 (a0.length : Int)))), (8, (.d (.int .i64 s1.1)))] : EL)) ((0 : Int), a2, a1)) ((fun s1 : Int × Int × Int => ([(0, some (.row 36 6 (a0.map e_api_Sample))), (1, some (.box 3 (.d (.int .i64 s1.2.2)))), (2, some (.box 3 (.d (.int .i64 s1.2.1))))] : OL)) ((0 : Int), a2, a1)) hB (by rfl) (by rfl) (by rfl)) ?_
  refine AWp.loopS (slices_IndexFunc_L0 a0) (fun s1 : Int × Int × Int => ([(0, (.sref 0 6 0 a0.length)), (1, (.func 30 [(.ptr 1 0 []), (.ptr 2 0 [])])), (7, (.d (.int .i64 (a0.length : Int)))), (8, (.d (.int .i64 s1.1)))] : EL)) (fun s1 : Int × Int × Int => ([(0, some (.row 36 6 (a0.map e_api_Sample))), (1, some (.box 3 (.d (.int .i64 s1.2.2)))), (2, some (.box 3 (.d (.int .i64 s1.2.1))))] : OL)) (fun (x : (Int × Int × Int) ⊕ (Int × Int)) e E' O' => match x with | (.inl p12) => e = .ret ∧ Mat B E' O' ([(4, (.d (.int .i64 p12.1)))] : EL) ([(0, some (.row 36 6 (a0.map e_api_Sample))), (1, some (.box 3 (.d (.int .i64 p12.2.2)))), (2, some (.box 3 (.d (.int .i64 p12.2.1))))] : OL) | (.inr p13) => e = .exit 0 ∧ Mat B E' O' ([] : EL) ([(0, some (.row 36 6 (a0.map e_api_Sample))), (1, some (.box 3 (.d (.int .i64 p13.2)))), (2, some (.box 3 (.d (.int .i64 p13.1))))] : OL)) hx20 (fun s1 y h => ?_) (fun e E' O' hR => ?_)
  · unfold slices_IndexFunc_L0 at h
    show AWp _ _ _ _ ([(0, (.sref 0 6 0 a0.length)), (1, (.func 30 [(.ptr 1 0 []), (.ptr 2 0 [])])), (7, (.d (.int .i64 (a0.length : Int)))), (8, (.d (.int .i64 s1.1)))] : EL) ([(0, some (.row 36 6 (a0.map e_api_Sample))), (1, some (.box 3 (.d (.int .i64 s1.2.2)))), (2, some (.box 3 (.d (.int .i64 s1.2.1))))] : OL)
    refine AWp.seq ?_
    refine AWp.region (OpJs.cons (OpJ.lss (ltN hN rfl) (Opd.tmp 8 (.d (.int .i64 s1.1))) (Opd.tmp 7 (.d (.int .i64 (a0.length : Int)))))
      (OpJs.nil)) (by rfl) (by rfl) ?_
    refine seqQ_n ?_
    refine AWp.ghost (Mat.pat [] [(0, (.sref 0 6 0 a0.length)), (1, (.func 30 [(.ptr 1 0 []), (.ptr 2 0 [])])), (7, (.d (.int .i64 (a0.length : Int)))), (8, (.d (.int .i64 s1.1))), (9, (.d (.bool (decide (s1.1 < (a0.length : Int))))))] [(0, some (.row 36 6 (a0.map e_api_Sample))), (1, some (.box 3 (.d (.int .i64 s1.2.2)))), (2, some (.box 3 (.d (.int .i64 s1.2.1))))] hB (by rfl) (by rfl) (by rfl)) ?_
    refine AWp.seq ?_
    refine AWp.cond (b := (decide (s1.1 < (a0.length : Int)))) (by rfl) (fun hg14 => ?_) (fun hg14 => ?_)
    · replace h := ite_t hg14 h
      refine AWp.skip ?_
      refine seqQ_n ?_
      refine AWp.seq ?_
      refine AWp.block ?_
      refine AWp.seq ?_
      refine AWp.region (OpJs.cons (OpJ.move (ltN hN rfl) (Opd.tmp 8 (.d (.int .i64 s1.1))))
        (OpJs.cons (OpJ.assign (ltN hN rfl) (Opd.tmp 10 (.d (.int .i64 s1.1))))
        (OpJs.nil))) (by rfl) (by rfl) ?_
      refine seqQ_n ?_
      refine AWp.ghost (Mat.pat [] [(0, (.sref 0 6 0 a0.length)), (1, (.func 30 [(.ptr 1 0 []), (.ptr 2 0 [])])), (5, (.d (.int .i64 s1.1))), (7, (.d (.int .i64 (a0.length : Int)))), (8, (.d (.int .i64 s1.1)))] [(0, some (.row 36 6 (a0.map e_api_Sample))), (1, some (.box 3 (.d (.int .i64 s1.2.2)))), (2, some (.box 3 (.d (.int .i64 s1.2.1))))] hB (by rfl) (by rfl) (by rfl)) ?_
      refine AWp.seq ?_
      obtain ⟨x15, hx15, h⟩ := bindS h
      obtain ⟨x16, hx16, h⟩ := bindS h
      obtain ⟨r17, hr17, h⟩ := bindS h
      refine AWp.region (OpJs.cons (OpJ.move (ltN hN rfl) (Opd.tmp 1 (.func 30 [(.ptr 1 0 []), (.ptr 2 0 [])])))
        (OpJs.cons (OpJ.move (ltN hN rfl) (Opd.tmp 0 (.sref 0 6 0 a0.length)))
        (OpJs.cons (OpJ.move (ltN hN rfl) (Opd.tmp 5 (.d (.int .i64 s1.1))))
        (OpJs.cons (OpJ.val (v' := (.ptr 0 (s1.1.toNat * 6) [s1.1.toNat])) (by simp) (OpJ.indexS Try.underlying31 tyS36 (obj := (.row 36 6 (a0.map e_api_Sample))) (idx_some hx15).1 (by have := idx_lt hx15; simpa using this) (ltN hN rfl) (Opd.tmp 12 (.sref 0 6 0 a0.length)) (Opd.tmp 13 (.d (.int .i64 s1.1)))))
        (OpJs.cons (OpJ.loadR (e := 36) (sz := 6) (es := a0.map e_api_Sample) tyS36 (get_map e_api_Sample (idx_some hx16).2) (o := 0) (v := (e_api_Sample x16)) (At.here _) (by rfl) (by rfl) (by rfl) (ltN hN rfl) (Opd.tmp 14 (.ptr 0 (s1.1.toNat * 6) [s1.1.toNat])))
        (OpJs.cons (OpJ.callVal (args := [(.d (e_api_Sample x16))]) (caps := [(.ptr 0 0 []), (.ptr 1 0 [])]) hB fnOk30 [(0, 1), (1, 2)] (sample_Between_1_ac x16 s1.2.2 s1.2.1 r17 hr17) (by kernel_rfl) (ltN hN rfl) (by kernel_rfl) (by kernel_rfl) (OpdL.cons (Opd.tmp 15 (.d (e_api_Sample x16))) OpdL.nil))
        (OpJs.nil))))))) (by rfl) (by rfl) ?_
      refine seqQ_n ?_
      refine AWp.ghost (Mat.pat [] [(0, (.sref 0 6 0 a0.length)), (1, (.func 30 [(.ptr 1 0 []), (.ptr 2 0 [])])), (5, (.d (.int .i64 s1.1))), (7, (.d (.int .i64 (a0.length : Int)))), (8, (.d (.int .i64 s1.1))), (16, (.d (.bool r17.1)))] [(0, some (.row 36 6 (a0.map e_api_Sample))), (1, some (.box 3 (.d (.int .i64 r17.2.1)))), (2, some (.box 3 (.d (.int .i64 r17.2.2))))] hB (by rfl) (by rfl) (by rfl)) ?_
      refine AWp.cond (b := r17.1) (by rfl) (fun hg18 => ?_) (fun hg18 => ?_)
      · replace h := ite_t hg18 h
        refine AWp.seq ?_
        refine AWp.region (OpJs.cons (OpJ.move (ltN hN rfl) (Opd.tmp 5 (.d (.int .i64 s1.1))))
          (OpJs.cons (OpJ.assign (ltN hN rfl) (Opd.tmp 17 (.d (.int .i64 s1.1))))
          (OpJs.nil))) (by rfl) (by rfl) ?_
        refine seqQ_n ?_
        refine AWp.ghost (Mat.pat [] [(4, (.d (.int .i64 s1.1)))] [(0, some (.row 36 6 (a0.map e_api_Sample))), (1, some (.box 3 (.d (.int .i64 r17.2.1)))), (2, some (.box 3 (.d (.int .i64 r17.2.2))))] hB (by rfl) (by rfl) (by rfl)) ?_
        refine AWp.ret ?_
        refine blkQ_r ?_
        refine seqQ_r ?_
        obtain rfl := Option.some.inj h
        exact ⟨(fun hc => by cases hc), rfl, (Mat.pat [] ((fun p12 : Int × Int × Int => ([(4, (.d (.int .i64 p12.1)))] : EL)) (s1.1, r17.2.2, r17.2.1)) ((fun p12 : Int × Int × Int => ([(0, some (.row 36 6 (a0.map e_api_Sample))), (1, some (.box 3 (.d (.int .i64 p12.2.2)))), (2, some (.box 3 (.d (.int .i64 p12.2.1))))] : OL)) (s1.1, r17.2.2, r17.2.1)) hB (by rfl) (by rfl) (by rfl))⟩
      · replace h := ite_f hg18 h
        refine AWp.skip ?_
        refine blkQ_n ?_
        refine seqQ_n ?_
        refine AWp.region (OpJs.cons (OpJ.add (ltN hN rfl) (Opd.tmp 8 (.d (.int .i64 s1.1))) (Opd.int .i64 (1)))
          (OpJs.cons (OpJ.move (ltN hN rfl) (Opd.tmp 18 (.d (.int .i64 (w64 (s1.1 + (1 : Int)))))))
          (OpJs.nil))) (by rfl) (by rfl) ?_
        obtain rfl := Option.some.inj h
        exact ⟨rfl, (Mat.trans (Mat.pat [] [(0, (.sref 0 6 0 a0.length)), (1, (.func 30 [(.ptr 1 0 []), (.ptr 2 0 [])])), (7, (.d (.int .i64 (a0.length : Int)))), (8, (.d (.int .i64 (w64 (s1.1 + (1 : Int))))))] [(0, some (.row 36 6 (a0.map e_api_Sample))), (1, some (.box 3 (.d (.int .i64 r17.2.1)))), (2, some (.box 3 (.d (.int .i64 r17.2.2))))] hB (by rfl) (by rfl) (by rfl)) (Mat.pat [] ((fun s1 : Int × Int × Int => ([(0, (.sref 0 6 0 a0.length)), (1, (.func 30 [(.ptr 1 0 []), (.ptr 2 0 [])])), (7, (.d (.int .i64 (a0.length : Int)))), (8, (.d (.int .i64 s1.1)))] : EL)) ((w64 (s1.1 + (1 : Int))), r17.2.2, r17.2.1)) ((fun s1 : Int × Int × Int => ([(0, some (.row 36 6 (a0.map e_api_Sample))), (1, some (.box 3 (.d (.int .i64 s1.2.2)))), (2, some (.box 3 (.d (.int .i64 s1.2.1))))] : OL)) ((w64 (s1.1 + (1 : Int))), r17.2.2, r17.2.1)) hB (by rfl) (by rfl) (by rfl)))⟩
    · replace h := ite_f hg14 h
      refine AWp.exit ?_
      refine seqQ_e ?_
      obtain rfl := Option.some.inj h
      exact ⟨(fun hc => by cases hc), rfl, (Mat.pat [] ((fun p13 : Int × Int => ([] : EL)) (s1.2.1, s1.2.2)) ((fun p13 : Int × Int => ([(0, some (.row 36 6 (a0.map e_api_Sample))), (1, some (.box 3 (.d (.int .i64 p13.2)))), (2, some (.box 3 (.d (.int .i64 p13.1))))] : OL)) (s1.2.1, s1.2.2)) hB (by rfl) (by rfl) (by rfl))⟩
  · rcases x19 with p12 | p13
    · obtain ⟨rfl, hmat⟩ := hR
      refine blkQ_r ?_
      refine seqQ_r ?_
      obtain rfl := Option.some.inj h
      exact ⟨.inl rfl, _, _, (Mat.trans hmat (Mat.pat [] [(4, (.d (.int .i64 p12.1)))] [(0, some (.row 36 6 (a0.map e_api_Sample))), (1, some (.box 3 (.d (.int .i64 p12.2.2)))), (2, some (.box 3 (.d (.int .i64 p12.2.1))))] hB (by rfl) (by rfl) (by rfl))), [(.d (.int .i64 p12.1))], (Res.tmp (by rfl) (by rfl) Res.nil), rfl, by rfl, by rfl, by rfl⟩
    · obtain ⟨rfl, hmat⟩ := hR
      refine blkQ_hit ?_
      refine seqQ_n ?_
      refine AWp.ghost hmat ?_
      refine AWp.seq ?_
      refine AWp.region (OpJs.cons (OpJ.assign (ltN hN rfl) (Opd.int .i64 (-1)))
        (OpJs.nil)) (by rfl) (by rfl) ?_
      refine seqQ_n ?_
      refine AWp.ghost (Mat.pat [] [(4, (.d (.int .i64 (-1 : Int))))] [(0, some (.row 36 6 (a0.map e_api_Sample))), (1, some (.box 3 (.d (.int .i64 p13.2)))), (2, some (.box 3 (.d (.int .i64 p13.1))))] hB (by rfl) (by rfl) (by rfl)) ?_
      refine AWp.ret ?_
      obtain rfl := Option.some.inj h
      exact ⟨.inl rfl, _, _, (Mat.pat [] [(4, (.d (.int .i64 (-1 : Int))))] [(0, some (.row 36 6 (a0.map e_api_Sample))), (1, some (.box 3 (.d (.int .i64 p13.2)))), (2, some (.box 3 (.d (.int .i64 p13.1))))] hB (by rfl) (by rfl) (by rfl)), [(.d (.int .i64 (-1 : Int)))], (Res.tmp (by rfl) (by rfl) Res.nil), rfl, by rfl, by rfl, by rfl⟩

noncomputable def slices_DeleteFunc_L0 (s4 : Int × Int × Int × Int × (List api_Sample)) : Option (((Int × Int × Int × (List api_Sample))) ⊕ (Int × Int × Int × Int × (List api_Sample))) :=
  (if (decide (s4.2.1 < (s4.2.2.2.2.length : Int))) = true then
  (idx s4.2.2.2.2 s4.2.1).bind fun x31 =>
  (idx s4.2.2.2.2 s4.2.1).bind fun x32 =>
  (sample_Between_1 x32 s4.2.2.2.1 s4.2.2.1).bind fun r33 =>
  jn (fun m37 : Int × (List api_Sample) =>
  some (.inr (m37.1, (w64 (s4.2.1 + (1 : Int))), r33.2.2, r33.2.1, m37.2))) (fun j38 =>
  (if (!r33.1) = true then
  (idx s4.2.2.2.2 s4.1).bind fun x40 =>
  (idx s4.2.2.2.2 s4.1).bind fun x41 =>
  j38 ((w64 (s4.1 + (1 : Int))), (s4.2.2.2.2.set s4.1.toNat x32))
  else
  j38 (s4.1, s4.2.2.2.2)))
  else
  some (.inl (s4.1, s4.2.2.1, s4.2.2.2.1, s4.2.2.2.2)))
noncomputable def slices_DeleteFunc (a0 : (List api_Sample)) (a1 : Int) (a2 : Int) : Option ((List api_Sample) × Int × Int) :=
  (slices_IndexFunc a0 a1 a2).bind fun r1 =>
  chk (decide (r1.2.1.length = a0.length)) <|
  (if (r1.1 == (-1 : Int)) = true then
  some (((r1.2.1.drop 0).take a0.length), r1.2.2.1, r1.2.2.2)
  else
  (loop (slices_DeleteFunc_L0) (r1.1, (w64 (r1.1 + (1 : Int))), r1.2.2.2, r1.2.2.1, r1.2.1)).bind fun p29 =>
  chk ((decide (0 ≤ p29.1) && decide (p29.1.toNat ≤ p29.2.2.2.length) && decide (p29.2.2.2.length ≤ p29.2.2.2.length))) <|
  chk (decide (p29.1.toNat + (p29.2.2.2.length - p29.1.toNat) ≤ p29.2.2.2.length)) <|
  chk ((decide (0 ≤ p29.1) && decide (0 ≤ p29.1.toNat) && decide (p29.1.toNat ≤ p29.2.2.2.length))) <|
  some ((((p29.2.2.2.take p29.1.toNat ++ List.replicate (p29.2.2.2.length - p29.1.toNat) (api_Sample.mk (0 : Int) (0 : Int) (0 : Int) (0 : Int) (0 : Int) (0 : Int)) ++ p29.2.2.2.drop (p29.1.toNat + (p29.2.2.2.length - p29.1.toNat))).drop 0).take p29.1.toNat), p29.2.2.1, p29.2.1))
set_option maxHeartbeats 4000000 in
set_option maxRecDepth 100000 in
theorem slices_DeleteFunc_ac (a0 : (List api_Sample)) (a1 : Int) (a2 : Int) (r : (List api_Sample) × Int × Int) (h : slices_DeleteFunc a0 a1 a2 = some r) : AC Try.prog 28 [(.sref 0 6 0 a0.length), (.func 30 [(.ptr 1 0 []), (.ptr 2 0 [])])] [(0, (.row 36 6 (a0.map e_api_Sample))), (1, (.box 3 (.d (.int .i64 a1)))), (2, (.box 3 (.d (.int .i64 a2))))] (.d (.list 6 (r.1.map e_api_Sample))) [(0, none), (1, some (.box 3 (.d (.int .i64 r.2.1)))), (2, some (.box 3 (.d (.int .i64 r.2.2))))] := by
  refine AC.of_code2 Try.func28 rfl rfl (Nat.le_of_ble_eq_true (by rfl)) fun B hB hN => ?_
  delta slices_DeleteFunc at h
  refine AWp.seq ?_
  refine AWp.region (OpJs.cons (OpJ.assign (ltN hN rfl) Opd.nils)
  (OpJs.nil)) (by rfl) (by rfl) ?_
  refine seqQ_n ?_
  refine AWp.ghost (Mat.pat [] [(0, (.sref 0 6 0 a0.length)), (1, (.func 30 [(.ptr 1 0 []), (.ptr 2 0 [])]))] [(0, some (.row 36 6 (a0.map e_api_Sample))), (1, some (.box 3 (.d (.int .i64 a1)))), (2, some (.box 3 (.d (.int .i64 a2))))] hB (by rfl) (by rfl) (by rfl)) ?_
  refine AWp.seq ?_
  obtain ⟨r1, hr1, h⟩ := bindS h
  obtain ⟨hc2, h⟩ := chk_some h
  have hc2_o := of_decide_eq_true hc2
  refine AWp.region (OpJs.cons (OpJ.move (ltN hN rfl) (Opd.tmp 0 (.sref 0 6 0 a0.length)))
  (OpJs.cons (OpJ.move (ltN hN rfl) (Opd.tmp 1 (.func 30 [(.ptr 1 0 []), (.ptr 2 0 [])])))
  (OpJs.cons (OpJ.callFn hB fnOk32 (slices_IndexFunc_ac a0 a1 a2 r1 hr1) [(0, 0), (1, 1), (2, 2)] (by kernel_rfl) (ltN hN rfl) (by kernel_rfl) (OpdL.cons (Opd.tmp 8 (.sref 0 6 0 a0.length)) (OpdL.cons (Opd.tmp 9 (.func 30 [(.ptr 1 0 []), (.ptr 2 0 [])])) OpdL.nil)))
  (OpJs.cons (OpJ.assign (ltN hN rfl) (Opd.tmp 10 (.d (.int .i64 r1.1))))
  (OpJs.nil))))) (by rfl) (by rfl) ?_
  refine seqQ_n ?_
  refine AWp.ghost (Mat.pat [] [(0, (.sref 0 6 0 a0.length)), (1, (.func 30 [(.ptr 1 0 []), (.ptr 2 0 [])])), (5, (.d (.int .i64 r1.1)))] [(0, some (.row 36 6 (r1.2.1.map e_api_Sample))), (1, some (.box 3 (.d (.int .i64 r1.2.2.1)))), (2, some (.box 3 (.d (.int .i64 r1.2.2.2))))] hB (by rfl) (by rfl) (by rfl)) ?_
  refine AWp.seq ?_
  refine AWp.seq ?_
  refine AWp.region (OpJs.cons (OpJ.move (ltN hN rfl) (Opd.tmp 5 (.d (.int .i64 r1.1))))
  (OpJs.cons (OpJ.eqlI (ltN hN rfl) (Opd.tmp 11 (.d (.int .i64 r1.1))) (Opd.int .i64 (-1)))
  (OpJs.nil))) (by rfl) (by rfl) ?_
  refine seqQ_n ?_
  refine AWp.ghost (Mat.pat [] [(0, (.sref 0 6 0 a0.length)), (1, (.func 30 [(.ptr 1 0 []), (.ptr 2 0 [])])), (5, (.d (.int .i64 r1.1))), (12, (.d (.bool (r1.1 == (-1 : Int)))))] [(0, some (.row 36 6 (r1.2.1.map e_api_Sample))), (1, some (.box 3 (.d (.int .i64 r1.2.2.1)))), (2, some (.box 3 (.d (.int .i64 r1.2.2.2))))] hB (by rfl) (by rfl) (by rfl)) ?_
  refine AWp.cond (b := (r1.1 == (-1 : Int))) (by rfl) (fun hg3 => ?_) (fun hg3 => ?_)
  · replace h := ite_t hg3 h
    refine AWp.seq ?_
    refine AWp.region (OpJs.cons (OpJ.move (ltN hN rfl) (Opd.tmp 0 (.sref 0 6 0 a0.length)))
      (OpJs.cons (OpJ.assign (ltN hN rfl) (Opd.tmp 13 (.sref 0 6 0 a0.length)))
      (OpJs.nil))) (by rfl) (by rfl) ?_
    refine seqQ_n ?_
    refine AWp.ghost (Mat.pat [] [(4, (.sref 0 6 0 a0.length))] [(0, some (.row 36 6 (r1.2.1.map e_api_Sample))), (1, some (.box 3 (.d (.int .i64 r1.2.2.1)))), (2, some (.box 3 (.d (.int .i64 r1.2.2.2))))] hB (by rfl) (by rfl) (by rfl)) ?_
    refine AWp.ret ?_
    refine seqQ_r ?_
    obtain rfl := Option.some.inj h
    exact ⟨.inl rfl, _, _, (Mat.trans (Mat.freeze (n := 0) (k := 4) (fs := ((r1.2.1.drop 0).take a0.length).map e_api_Sample) (by rfl) (by rfl) (by simp only [List.length_map, List.length_append, List.length_take, List.length_drop, List.length_replicate, List.length_set]; omega) (by simp [List.map_take, List.map_drop])) (Mat.pat [] [(4, (.d (.list 6 (((r1.2.1.drop 0).take a0.length).map e_api_Sample))))] [(1, some (.box 3 (.d (.int .i64 r1.2.2.1)))), (2, some (.box 3 (.d (.int .i64 r1.2.2.2))))] hB (by rfl) (by rfl) (by rfl))), [(.d (.list 6 (((r1.2.1.drop 0).take a0.length).map e_api_Sample)))], (Res.tmp (by rfl) (by rfl) Res.nil), rfl, by rfl, by rfl, by rfl⟩
  · replace h := ite_f hg3 h
    refine AWp.skip ?_
    refine seqQ_n ?_
    refine AWp.seq ?_
    refine AWp.seq ?_
    refine AWp.region (OpJs.cons (OpJ.move (ltN hN rfl) (Opd.tmp 5 (.d (.int .i64 r1.1))))
      (OpJs.cons (OpJ.add (ltN hN rfl) (Opd.tmp 14 (.d (.int .i64 r1.1))) (Opd.int .i64 (1)))
      (OpJs.cons (OpJ.assign (ltN hN rfl) (Opd.tmp 15 (.d (.int .i64 (w64 (r1.1 + (1 : Int)))))))
      (OpJs.nil)))) (by rfl) (by rfl) ?_
    refine seqQ_n ?_
    refine AWp.ghost (Mat.pat [] [(0, (.sref 0 6 0 a0.length)), (1, (.func 30 [(.ptr 1 0 []), (.ptr 2 0 [])])), (5, (.d (.int .i64 r1.1))), (6, (.d (.int .i64 (w64 (r1.1 + (1 : Int))))))] [(0, some (.row 36 6 (r1.2.1.map e_api_Sample))), (1, some (.box 3 (.d (.int .i64 r1.2.2.1)))), (2, some (.box 3 (.d (.int .i64 r1.2.2.2))))] hB (by rfl) (by rfl) (by rfl)) ?_
    refine AWp.block ?_
    obtain ⟨p29, hx43, h⟩ := bindS h
    refine AWp.ghost (Mat.trans (Mat.val (k := 0) (v := (.sref 0 6 0 a0.length)) (v' := (.sref 0 6 0 r1.2.1.length)) (by rfl) (by first | (simp; done) | (simp; omega))) (Mat.pat [] ((fun s4 : Int × Int × Int × Int × (List api_Sample) => ([(0, (.sref 0 6 0 s4.2.2.2.2.length)), (1, (.func 30 [(.ptr 1 0 []), (.ptr 2 0 [])])), (5, (.d (.int .i64 s4.1))), (6, (.d (.int .i64 s4.2.1)))] : EL)) (r1.1, (w64 (r1.1 + (1 : Int))), r1.2.2.2, r1.2.2.1, r1.2.1)) ((fun s4 : Int × Int × Int × Int × (List api_Sample) => ([(0, some (.row 36 6 (s4.2.2.2.2.map e_api_Sample))), (1, some (.box 3 (.d (.int .i64 s4.2.2.2.1)))), (2, some (.box 3 (.d (.int .i64 s4.2.2.1))))] : OL)) (r1.1, (w64 (r1.1 + (1 : Int))), r1.2.2.2, r1.2.2.1, r1.2.1)) hB (by rfl) (by rfl) (by rfl))) ?_
    refine AWp.loopS (slices_DeleteFunc_L0) (fun s4 : Int × Int × Int × Int × (List api_Sample) => ([(0, (.sref 0 6 0 s4.2.2.2.2.length)), (1, (.func 30 [(.ptr 1 0 []), (.ptr 2 0 [])])), (5, (.d (.int .i64 s4.1))), (6, (.d (.int .i64 s4.2.1)))] : EL)) (fun s4 : Int × Int × Int × Int × (List api_Sample) => ([(0, some (.row 36 6 (s4.2.2.2.2.map e_api_Sample))), (1, some (.box 3 (.d (.int .i64 s4.2.2.2.1)))), (2, some (.box 3 (.d (.int .i64 s4.2.2.1))))] : OL)) (fun (p29 : (Int × Int × Int × (List api_Sample))) e E' O' => e = .exit 0 ∧ Mat B E' O' ([(0, (.sref 0 6 0 p29.2.2.2.length)), (5, (.d (.int .i64 p29.1)))] : EL) ([(0, some (.row 36 6 (p29.2.2.2.map e_api_Sample))), (1, some (.box 3 (.d (.int .i64 p29.2.2.1)))), (2, some (.box 3 (.d (.int .i64 p29.2.1))))] : OL)) hx43 (fun s4 y h => ?_) (fun e E' O' hR => ?_)
    · unfold slices_DeleteFunc_L0 at h
      show AWp _ _ _ _ ([(0, (.sref 0 6 0 s4.2.2.2.2.length)), (1, (.func 30 [(.ptr 1 0 []), (.ptr 2 0 [])])), (5, (.d (.int .i64 s4.1))), (6, (.d (.int .i64 s4.2.1)))] : EL) ([(0, some (.row 36 6 (s4.2.2.2.2.map e_api_Sample))), (1, some (.box 3 (.d (.int .i64 s4.2.2.2.1)))), (2, some (.box 3 (.d (.int .i64 s4.2.2.1))))] : OL)
      refine AWp.seq ?_
      refine AWp.seq ?_
      refine AWp.region (OpJs.cons (OpJ.move (ltN hN rfl) (Opd.tmp 6 (.d (.int .i64 s4.2.1))))
        (OpJs.cons (OpJ.move (ltN hN rfl) (Opd.tmp 0 (.sref 0 6 0 s4.2.2.2.2.length)))
        (OpJs.cons (OpJ.lenS (obj := (.row 36 6 (s4.2.2.2.2.map e_api_Sample))) Try.underlying31 (ltN hN rfl) (Opd.tmp 17 (.sref 0 6 0 s4.2.2.2.2.length)))
        (OpJs.cons (OpJ.lss (ltN hN rfl) (Opd.tmp 16 (.d (.int .i64 s4.2.1))) (Opd.tmp 18 (.d (.int .i64 (s4.2.2.2.2.length : Int)))))
        (OpJs.nil))))) (by rfl) (by rfl) ?_
      refine seqQ_n ?_
      refine AWp.ghost (Mat.pat [] [(0, (.sref 0 6 0 s4.2.2.2.2.length)), (1, (.func 30 [(.ptr 1 0 []), (.ptr 2 0 [])])), (5, (.d (.int .i64 s4.1))), (6, (.d (.int .i64 s4.2.1))), (19, (.d (.bool (decide (s4.2.1 < (s4.2.2.2.2.length : Int))))))] [(0, some (.row 36 6 (s4.2.2.2.2.map e_api_Sample))), (1, some (.box 3 (.d (.int .i64 s4.2.2.2.1)))), (2, some (.box 3 (.d (.int .i64 s4.2.2.1))))] hB (by rfl) (by rfl) (by rfl)) ?_
      refine AWp.cond (b := (decide (s4.2.1 < (s4.2.2.2.2.length : Int)))) (by rfl) (fun hg30 => ?_) (fun hg30 => ?_)
      · replace h := ite_t hg30 h
        refine AWp.skip ?_
        refine seqQ_n ?_
        refine AWp.seq ?_
        refine AWp.block ?_
        refine AWp.seq ?_
        obtain ⟨x31, hx31, h⟩ := bindS h
        obtain ⟨x32, hx32, h⟩ := bindS h
        refine AWp.region (OpJs.cons (OpJ.move (ltN hN rfl) (Opd.tmp 0 (.sref 0 6 0 s4.2.2.2.2.length)))
          (OpJs.cons (OpJ.move (ltN hN rfl) (Opd.tmp 6 (.d (.int .i64 s4.2.1))))
          (OpJs.cons (OpJ.val (v' := (.ptr 0 (s4.2.1.toNat * 6) [s4.2.1.toNat])) (by simp) (OpJ.indexS Try.underlying31 tyS36 (obj := (.row 36 6 (s4.2.2.2.2.map e_api_Sample))) (idx_some hx31).1 (by have := idx_lt hx31; simpa using this) (ltN hN rfl) (Opd.tmp 22 (.sref 0 6 0 s4.2.2.2.2.length)) (Opd.tmp 23 (.d (.int .i64 s4.2.1)))))
          (OpJs.cons (OpJ.loadR (e := 36) (sz := 6) (es := s4.2.2.2.2.map e_api_Sample) tyS36 (get_map e_api_Sample (idx_some hx32).2) (o := 0) (v := (e_api_Sample x32)) (At.here _) (by rfl) (by rfl) (by rfl) (ltN hN rfl) (Opd.tmp 24 (.ptr 0 (s4.2.1.toNat * 6) [s4.2.1.toNat])))
          (OpJs.cons (OpJ.alloc hB tyZ36 (nm := 1007) (by decide) (ltN hN rfl))
          (OpJs.cons (OpJ.storeB (bt := 36) (c := (.d (.st [(.int .i64 (0 : Int)), (.int .i64 (0 : Int)), (.int .i64 (0 : Int)), (.int .i64 (0 : Int)), (.int .i64 (0 : Int)), (.int .i64 (0 : Int))]))) (v := (.d (e_api_Sample x32))) (c' := (.d (e_api_Sample x32))) tyS36 (SetAt.here _ _) (by rfl) (by rfl) (by simp) rfl (Opd.tmp 7 (.ptr 1007 0 [])) (Opd.tmp 25 (.d (e_api_Sample x32))))
          (OpJs.nil))))))) (by rfl) (by rfl) ?_
        refine seqQ_n ?_
        refine AWp.ghost (Mat.pat [] [(0, (.sref 0 6 0 s4.2.2.2.2.length)), (1, (.func 30 [(.ptr 1 0 []), (.ptr 2 0 [])])), (5, (.d (.int .i64 s4.1))), (6, (.d (.int .i64 s4.2.1))), (7, (.ptr 1007 0 []))] [(0, some (.row 36 6 (s4.2.2.2.2.map e_api_Sample))), (1, some (.box 3 (.d (.int .i64 s4.2.2.2.1)))), (2, some (.box 3 (.d (.int .i64 s4.2.2.1)))), (1007, some (.box 36 (.d (e_api_Sample x32))))] hB (by rfl) (by rfl) (by rfl)) ?_
        refine AWp.seq ?_
        obtain ⟨r33, hr33, h⟩ := bindS h
        refine AWp.region (OpJs.cons (OpJ.move (ltN hN rfl) (Opd.tmp 1 (.func 30 [(.ptr 1 0 []), (.ptr 2 0 [])])))
          (OpJs.cons (OpJ.loadB (bt := 36) (c := (.d (e_api_Sample x32))) (v := (.d (e_api_Sample x32))) tyS36 (At.here _) (by rfl) (by rfl) rfl (ltN hN rfl) (Opd.tmp 7 (.ptr 1007 0 [])))
          (OpJs.cons (OpJ.callVal (args := [(.d (e_api_Sample x32))]) (caps := [(.ptr 0 0 []), (.ptr 1 0 [])]) hB fnOk30 [(0, 1), (1, 2)] (sample_Between_1_ac x32 s4.2.2.2.1 s4.2.2.1 r33 hr33) (by kernel_rfl) (ltN hN rfl) (by kernel_rfl) (by kernel_rfl) (OpdL.cons (Opd.tmp 27 (.d (e_api_Sample x32))) OpdL.nil))
          (OpJs.cons (OpJ.not (ltN hN rfl) (Opd.tmp 28 (.d (.bool r33.1))))
          (OpJs.nil))))) (by rfl) (by rfl) ?_
        refine seqQ_n ?_
        refine AWp.ghost (Mat.pat [] [(0, (.sref 0 6 0 s4.2.2.2.2.length)), (1, (.func 30 [(.ptr 1 0 []), (.ptr 2 0 [])])), (5, (.d (.int .i64 s4.1))), (6, (.d (.int .i64 s4.2.1))), (7, (.ptr 1007 0 [])), (29, (.d (.bool (!r33.1))))] [(0, some (.row 36 6 (s4.2.2.2.2.map e_api_Sample))), (1, some (.box 3 (.d (.int .i64 r33.2.1)))), (2, some (.box 3 (.d (.int .i64 r33.2.2)))), (1007, some (.box 36 (.d (e_api_Sample x32))))] hB (by rfl) (by rfl) (by rfl)) ?_
        refine AWp.cut h (fun m37 : Int × (List api_Sample) => ([(0, (.sref 0 6 0 m37.2.length)), (1, (.func 30 [(.ptr 1 0 []), (.ptr 2 0 [])])), (5, (.d (.int .i64 m37.1))), (6, (.d (.int .i64 s4.2.1)))] : EL)) (fun m37 : Int × (List api_Sample) => ([(0, some (.row 36 6 (m37.2.map e_api_Sample))), (1, some (.box 3 (.d (.int .i64 r33.2.1)))), (2, some (.box 3 (.d (.int .i64 r33.2.2))))] : OL)) (fun m37 h E' O' hmat => ?_) (fun j38 hjj38 h => ?_)
        · refine blkQ_n ?_
          refine seqQ_n ?_
          refine AWp.ghost hmat ?_
          refine AWp.region (OpJs.cons (OpJ.move (ltN hN rfl) (Opd.tmp 6 (.d (.int .i64 s4.2.1))))
            (OpJs.cons (OpJ.add (ltN hN rfl) (Opd.tmp 20 (.d (.int .i64 s4.2.1))) (Opd.int .i64 (1)))
            (OpJs.cons (OpJ.assign (ltN hN rfl) (Opd.tmp 21 (.d (.int .i64 (w64 (s4.2.1 + (1 : Int)))))))
            (OpJs.nil)))) (by rfl) (by rfl) ?_
          obtain rfl := Option.some.inj h
          exact ⟨rfl, (Mat.trans (Mat.pat [] [(0, (.sref 0 6 0 m37.2.length)), (1, (.func 30 [(.ptr 1 0 []), (.ptr 2 0 [])])), (5, (.d (.int .i64 m37.1))), (6, (.d (.int .i64 (w64 (s4.2.1 + (1 : Int))))))] [(0, some (.row 36 6 (m37.2.map e_api_Sample))), (1, some (.box 3 (.d (.int .i64 r33.2.1)))), (2, some (.box 3 (.d (.int .i64 r33.2.2))))] hB (by rfl) (by rfl) (by rfl)) (Mat.pat [] ((fun s4 : Int × Int × Int × Int × (List api_Sample) => ([(0, (.sref 0 6 0 s4.2.2.2.2.length)), (1, (.func 30 [(.ptr 1 0 []), (.ptr 2 0 [])])), (5, (.d (.int .i64 s4.1))), (6, (.d (.int .i64 s4.2.1)))] : EL)) (m37.1, (w64 (s4.2.1 + (1 : Int))), r33.2.2, r33.2.1, m37.2)) ((fun s4 : Int × Int × Int × Int × (List api_Sample) => ([(0, some (.row 36 6 (s4.2.2.2.2.map e_api_Sample))), (1, some (.box 3 (.d (.int .i64 s4.2.2.2.1)))), (2, some (.box 3 (.d (.int .i64 s4.2.2.1))))] : OL)) (m37.1, (w64 (s4.2.1 + (1 : Int))), r33.2.2, r33.2.1, m37.2)) hB (by rfl) (by rfl) (by rfl)))⟩
        · refine AWp.cond (b := (!r33.1)) (by rfl) (fun hg39 => ?_) (fun hg39 => ?_)
          · replace h := ite_t hg39 h
            refine AWp.seq ?_
            obtain ⟨x40, hx40, h⟩ := bindS h
            obtain ⟨x41, hx41, h⟩ := bindS h
            refine AWp.region (OpJs.cons (OpJ.move (ltN hN rfl) (Opd.tmp 0 (.sref 0 6 0 s4.2.2.2.2.length)))
              (OpJs.cons (OpJ.move (ltN hN rfl) (Opd.tmp 5 (.d (.int .i64 s4.1))))
              (OpJs.cons (OpJ.loadB (bt := 36) (c := (.d (e_api_Sample x32))) (v := (.d (e_api_Sample x32))) tyS36 (At.here _) (by rfl) (by rfl) rfl (ltN hN rfl) (Opd.tmp 7 (.ptr 1007 0 [])))
              (OpJs.cons (OpJ.val (v' := (.ptr 0 (s4.1.toNat * 6) [s4.1.toNat])) (by simp) (OpJ.indexS Try.underlying31 tyS36 (obj := (.row 36 6 (s4.2.2.2.2.map e_api_Sample))) (idx_some hx40).1 (by have := idx_lt hx40; simpa using this) (ltN hN rfl) (Opd.tmp 30 (.sref 0 6 0 s4.2.2.2.2.length)) (Opd.tmp 31 (.d (.int .i64 s4.1)))))
              (OpJs.cons (OpJ.storeR (e := 36) (sz := 6) (es := s4.2.2.2.2.map e_api_Sample) (es' := (s4.2.2.2.2.set s4.1.toNat x32).map e_api_Sample) tyS36 (get_map e_api_Sample (idx_some hx41).2) (o := 0) (v := (e_api_Sample x32)) (el' := (e_api_Sample x32)) (SetAt.here _ _) (by rfl) (map_set _ _ _ _) (by rfl) (by rfl) (Opd.tmp 33 (.ptr 0 (s4.1.toNat * 6) [s4.1.toNat])) (Opd.tmp 32 (.d (e_api_Sample x32))))
              (OpJs.nil)))))) (by rfl) (by rfl) ?_
            refine seqQ_n ?_
            refine AWp.ghost (Mat.pat [] [(0, (.sref 0 6 0 s4.2.2.2.2.length)), (1, (.func 30 [(.ptr 1 0 []), (.ptr 2 0 [])])), (5, (.d (.int .i64 s4.1))), (6, (.d (.int .i64 s4.2.1)))] [(0, some (.row 36 6 ((s4.2.2.2.2.set s4.1.toNat x32).map e_api_Sample))), (1, some (.box 3 (.d (.int .i64 r33.2.1)))), (2, some (.box 3 (.d (.int .i64 r33.2.2))))] hB (by rfl) (by rfl) (by rfl)) ?_
            refine AWp.region (OpJs.cons (OpJ.move (ltN hN rfl) (Opd.tmp 5 (.d (.int .i64 s4.1))))
              (OpJs.cons (OpJ.add (ltN hN rfl) (Opd.tmp 34 (.d (.int .i64 s4.1))) (Opd.int .i64 (1)))
              (OpJs.cons (OpJ.assign (ltN hN rfl) (Opd.tmp 35 (.d (.int .i64 (w64 (s4.1 + (1 : Int)))))))
              (OpJs.nil)))) (by rfl) (by rfl) ?_
            exact hjj38 _ h _ _ (Mat.trans (Mat.pat [] [(0, (.sref 0 6 0 s4.2.2.2.2.length)), (1, (.func 30 [(.ptr 1 0 []), (.ptr 2 0 [])])), (5, (.d (.int .i64 (w64 (s4.1 + (1 : Int)))))), (6, (.d (.int .i64 s4.2.1)))] [(0, some (.row 36 6 ((s4.2.2.2.2.set s4.1.toNat x32).map e_api_Sample))), (1, some (.box 3 (.d (.int .i64 r33.2.1)))), (2, some (.box 3 (.d (.int .i64 r33.2.2))))] hB (by rfl) (by rfl) (by rfl)) (Mat.trans (Mat.val (k := 0) (v := (.sref 0 6 0 s4.2.2.2.2.length)) (v' := (.sref 0 6 0 ((s4.2.2.2.2.set s4.1.toNat x32).length))) (by rfl) (by first | (simp; done) | (simp; omega))) (Mat.pat [] ((fun m37 : Int × (List api_Sample) => ([(0, (.sref 0 6 0 m37.2.length)), (1, (.func 30 [(.ptr 1 0 []), (.ptr 2 0 [])])), (5, (.d (.int .i64 m37.1))), (6, (.d (.int .i64 s4.2.1)))] : EL)) ((w64 (s4.1 + (1 : Int))), (s4.2.2.2.2.set s4.1.toNat x32))) ((fun m37 : Int × (List api_Sample) => ([(0, some (.row 36 6 (m37.2.map e_api_Sample))), (1, some (.box 3 (.d (.int .i64 r33.2.1)))), (2, some (.box 3 (.d (.int .i64 r33.2.2))))] : OL)) ((w64 (s4.1 + (1 : Int))), (s4.2.2.2.2.set s4.1.toNat x32))) hB (by rfl) (by rfl) (by rfl))))
          · replace h := ite_f hg39 h
            refine AWp.skip ?_
            exact hjj38 _ h _ _ (Mat.pat [] ((fun m37 : Int × (List api_Sample) => ([(0, (.sref 0 6 0 m37.2.length)), (1, (.func 30 [(.ptr 1 0 []), (.ptr 2 0 [])])), (5, (.d (.int .i64 m37.1))), (6, (.d (.int .i64 s4.2.1)))] : EL)) (s4.1, s4.2.2.2.2)) ((fun m37 : Int × (List api_Sample) => ([(0, some (.row 36 6 (m37.2.map e_api_Sample))), (1, some (.box 3 (.d (.int .i64 r33.2.1)))), (2, some (.box 3 (.d (.int .i64 r33.2.2))))] : OL)) (s4.1, s4.2.2.2.2)) hB (by rfl) (by rfl) (by rfl))
      · replace h := ite_f hg30 h
        refine AWp.exit ?_
        refine seqQ_e ?_
        obtain rfl := Option.some.inj h
        exact ⟨(fun hc => by cases hc), rfl, (Mat.pat [] ((fun p29 : Int × Int × Int × (List api_Sample) => ([(0, (.sref 0 6 0 p29.2.2.2.length)), (5, (.d (.int .i64 p29.1)))] : EL)) (s4.1, s4.2.2.1, s4.2.2.2.1, s4.2.2.2.2)) ((fun p29 : Int × Int × Int × (List api_Sample) => ([(0, some (.row 36 6 (p29.2.2.2.map e_api_Sample))), (1, some (.box 3 (.d (.int .i64 p29.2.2.1)))), (2, some (.box 3 (.d (.int .i64 p29.2.1))))] : OL)) (s4.1, s4.2.2.1, s4.2.2.2.1, s4.2.2.2.2)) hB (by rfl) (by rfl) (by rfl))⟩
    · obtain ⟨rfl, hmat⟩ := hR
      refine blkQ_hit ?_
      refine seqQ_n ?_
      refine AWp.ghost hmat ?_
      refine AWp.seq ?_
      obtain ⟨hc44, h⟩ := chk_some h
      have hc44_o := hc44
      simp only [Bool.and_eq_true, decide_eq_true_eq] at hc44_o
      obtain ⟨hc45, h⟩ := chk_some h
      have hc45_o := hc45
      simp only [Bool.and_eq_true, decide_eq_true_eq] at hc45_o
      refine AWp.region (OpJs.cons (OpJ.move (ltN hN rfl) (Opd.tmp 0 (.sref 0 6 0 p29.2.2.2.length)))
        (OpJs.cons (OpJ.move (ltN hN rfl) (Opd.tmp 5 (.d (.int .i64 p29.1))))
        (OpJs.cons (OpJ.cutS Try.underlying31 tyS36 (obj := (.row 36 6 (p29.2.2.2.map e_api_Sample))) (l := p29.1.toNat) (h := p29.2.2.2.length) (off' := p29.1.toNat) (len' := (p29.2.2.2.length - p29.1.toNat)) (.inr ⟨_, _, _, rfl, (Opd.tmp 37 (.d (.int .i64 p29.1))), (of_decide_eq_true (and_l2 (and_l2 hc44))), rfl⟩) (.inl ⟨rfl, rfl, rfl⟩) (of_decide_eq_true (and_r2 (and_l2 hc44))) (of_decide_eq_true (and_r2 hc44)) (by simp) (by simp) (ltN hN rfl) (Opd.tmp 36 (.sref 0 6 0 p29.2.2.2.length)))
        (OpJs.cons (OpJ.clearS (e := 36) (z := (.st [(.int .i64 (0 : Int)), (.int .i64 (0 : Int)), (.int .i64 (0 : Int)), (.int .i64 (0 : Int)), (.int .i64 (0 : Int)), (.int .i64 (0 : Int))])) (es := p29.2.2.2.map e_api_Sample) (es' := (p29.2.2.2.take p29.1.toNat ++ List.replicate (p29.2.2.2.length - p29.1.toNat) (api_Sample.mk (0 : Int) (0 : Int) (0 : Int) (0 : Int) (0 : Int) (0 : Int)) ++ p29.2.2.2.drop (p29.1.toNat + (p29.2.2.2.length - p29.1.toNat))).map e_api_Sample) Try.underlying31 tyZD36 (by rfl) (by decide) (by rw [List.length_map]; exact of_decide_eq_true hc45) (by simp only [List.map_append, List.map_take, List.map_drop, List.map_replicate]; rfl) (Opd.tmp 38 (.sref 0 6 p29.1.toNat (p29.2.2.2.length - p29.1.toNat))))
        (OpJs.nil))))) (by rfl) (by rfl) ?_
      refine seqQ_n ?_
      refine AWp.ghost (Mat.pat [] [(0, (.sref 0 6 0 p29.2.2.2.length)), (5, (.d (.int .i64 p29.1)))] [(0, some (.row 36 6 ((p29.2.2.2.take p29.1.toNat ++ List.replicate (p29.2.2.2.length - p29.1.toNat) (api_Sample.mk (0 : Int) (0 : Int) (0 : Int) (0 : Int) (0 : Int) (0 : Int)) ++ p29.2.2.2.drop (p29.1.toNat + (p29.2.2.2.length - p29.1.toNat))).map e_api_Sample))), (1, some (.box 3 (.d (.int .i64 p29.2.2.1)))), (2, some (.box 3 (.d (.int .i64 p29.2.1))))] hB (by rfl) (by rfl) (by rfl)) ?_
      refine AWp.seq ?_
      obtain ⟨hc46, h⟩ := chk_some h
      have hc46_o := hc46
      simp only [Bool.and_eq_true, decide_eq_true_eq] at hc46_o
      refine AWp.region (OpJs.cons (OpJ.move (ltN hN rfl) (Opd.tmp 0 (.sref 0 6 0 p29.2.2.2.length)))
        (OpJs.cons (OpJ.move (ltN hN rfl) (Opd.tmp 5 (.d (.int .i64 p29.1))))
        (OpJs.cons (OpJ.cutS Try.underlying31 tyS36 (obj := (.row 36 6 ((p29.2.2.2.take p29.1.toNat ++ List.replicate (p29.2.2.2.length - p29.1.toNat) (api_Sample.mk (0 : Int) (0 : Int) (0 : Int) (0 : Int) (0 : Int) (0 : Int)) ++ p29.2.2.2.drop (p29.1.toNat + (p29.2.2.2.length - p29.1.toNat))).map e_api_Sample))) (l := 0) (h := p29.1.toNat) (off' := 0) (len' := p29.1.toNat) (.inl ⟨rfl, rfl, rfl⟩) (.inr ⟨_, _, _, rfl, (Opd.tmp 40 (.d (.int .i64 p29.1))), (of_decide_eq_true (and_l2 (and_l2 hc46))), rfl⟩) (of_decide_eq_true (and_r2 (and_l2 hc46))) (of_decide_eq_true (and_r2 hc46)) (by simp) (by simp) (ltN hN rfl) (Opd.tmp 39 (.sref 0 6 0 p29.2.2.2.length)))
        (OpJs.cons (OpJ.assign (ltN hN rfl) (Opd.tmp 41 (.sref 0 6 0 p29.1.toNat)))
        (OpJs.nil))))) (by rfl) (by rfl) ?_
      refine seqQ_n ?_
      refine AWp.ghost (Mat.pat [] [(4, (.sref 0 6 0 p29.1.toNat))] [(0, some (.row 36 6 ((p29.2.2.2.take p29.1.toNat ++ List.replicate (p29.2.2.2.length - p29.1.toNat) (api_Sample.mk (0 : Int) (0 : Int) (0 : Int) (0 : Int) (0 : Int) (0 : Int)) ++ p29.2.2.2.drop (p29.1.toNat + (p29.2.2.2.length - p29.1.toNat))).map e_api_Sample))), (1, some (.box 3 (.d (.int .i64 p29.2.2.1)))), (2, some (.box 3 (.d (.int .i64 p29.2.1))))] hB (by rfl) (by rfl) (by rfl)) ?_
      refine AWp.ret ?_
      obtain rfl := Option.some.inj h
      exact ⟨.inl rfl, _, _, (Mat.trans (Mat.freeze (n := 0) (k := 4) (fs := (((p29.2.2.2.take p29.1.toNat ++ List.replicate (p29.2.2.2.length - p29.1.toNat) (api_Sample.mk (0 : Int) (0 : Int) (0 : Int) (0 : Int) (0 : Int) (0 : Int)) ++ p29.2.2.2.drop (p29.1.toNat + (p29.2.2.2.length - p29.1.toNat))).drop 0).take p29.1.toNat).map e_api_Sample) (by rfl) (by rfl) (by simp only [List.length_map, List.length_append, List.length_take, List.length_drop, List.length_replicate, List.length_set]; omega) (by simp [List.map_take, List.map_drop])) (Mat.pat [] [(4, (.d (.list 6 ((((p29.2.2.2.take p29.1.toNat ++ List.replicate (p29.2.2.2.length - p29.1.toNat) (api_Sample.mk (0 : Int) (0 : Int) (0 : Int) (0 : Int) (0 : Int) (0 : Int)) ++ p29.2.2.2.drop (p29.1.toNat + (p29.2.2.2.length - p29.1.toNat))).drop 0).take p29.1.toNat).map e_api_Sample))))] [(1, some (.box 3 (.d (.int .i64 p29.2.2.1)))), (2, some (.box 3 (.d (.int .i64 p29.2.1))))] hB (by rfl) (by rfl) (by rfl))), [(.d (.list 6 ((((p29.2.2.2.take p29.1.toNat ++ List.replicate (p29.2.2.2.length - p29.1.toNat) (api_Sample.mk (0 : Int) (0 : Int) (0 : Int) (0 : Int) (0 : Int) (0 : Int)) ++ p29.2.2.2.drop (p29.1.toNat + (p29.2.2.2.length - p29.1.toNat))).drop 0).take p29.1.toNat).map e_api_Sample)))], (Res.tmp (by rfl) (by rfl) Res.nil), rfl, by rfl, by rfl, by rfl⟩

noncomputable def sample_Between (a0 : (List api_Sample)) (a1 : Int) (a2 : Int) : Option ((List api_Sample)) :=
  (clone_List_2 a0).bind fun r1 =>
  (slices_DeleteFunc r1 a1 a2).bind fun r2 =>
  some r2.1
set_option maxHeartbeats 4000000 in
set_option maxRecDepth 100000 in
theorem sample_Between_ac (a0 : (List api_Sample)) (a1 : Int) (a2 : Int) (r : (List api_Sample)) (h : sample_Between a0 a1 a2 = some r) : AC Try.prog 18 [(.d (.list 6 (a0.map e_api_Sample))), (.d (.int .i64 a1)), (.d (.int .i64 a2))] [] (.d (.list 6 (r.map e_api_Sample))) [] := by
  refine AC.of_code2 Try.func18 rfl rfl (Nat.le_of_ble_eq_true (by rfl)) fun B hB hN => ?_
  delta sample_Between at h
  refine AWp.seq ?_
  refine AWp.region (OpJs.cons (OpJ.box hB (nm := 1004) (by decide) (by simp) rfl (ltN hN rfl) (Opd.tmp 1 (.d (.int .i64 a1))))
  (OpJs.cons (OpJ.box hB (nm := 1005) (by decide) (by simp) rfl (ltN hN rfl) (Opd.tmp 2 (.d (.int .i64 a2))))
  (OpJs.cons (OpJ.assign (ltN hN rfl) Opd.nils)
  (OpJs.nil)))) (by rfl) (by rfl) ?_
  refine seqQ_n ?_
  refine AWp.ghost (Mat.pat [] [(0, (.d (.list 6 (a0.map e_api_Sample)))), (4, (.ptr 1004 0 [])), (5, (.ptr 1005 0 []))] [(1004, some (.box 3 (.d (.int .i64 a1)))), (1005, some (.box 3 (.d (.int .i64 a2))))] hB (by rfl) (by rfl) (by rfl)) ?_
  refine AWp.seq ?_
  obtain ⟨r1, hr1, h⟩ := bindS h
  obtain ⟨r2, hr2, h⟩ := bindS h
  refine AWp.region (OpJs.cons (OpJ.move (ltN hN rfl) (Opd.tmp 0 (.d (.list 6 (a0.map e_api_Sample)))))
  (OpJs.cons (OpJ.callFn hB fnOk29 (clone_List_2_ac a0 r1 hr1) [(900000, 100080)] (by kernel_rfl) (ltN hN rfl) (by kernel_rfl) (OpdL.cons (Opd.tmp 7 (.d (.list 6 (a0.map e_api_Sample)))) OpdL.nil))
  (OpJs.cons (OpJ.makeF (OpdL.cons (Opd.tmp 4 (.ptr 1004 0 [])) (OpdL.cons (Opd.tmp 5 (.ptr 1005 0 [])) OpdL.nil)) rfl rfl (ltN hN rfl))
  (OpJs.cons (OpJ.callFn hB fnOk28 (slices_DeleteFunc_ac r1 a1 a2 r2 hr2) [(0, 100080), (1, 1004), (2, 1005)] (by kernel_rfl) (ltN hN rfl) (by kernel_rfl) (OpdL.cons (Opd.tmp 8 (.sref 100080 6 0 r1.length)) (OpdL.cons (Opd.tmp 9 (.func 30 [(.ptr 1004 0 []), (.ptr 1005 0 [])])) OpdL.nil)))
  (OpJs.cons (OpJ.assign (ltN hN rfl) (Opd.tmp 10 (.d (.list 6 (r2.1.map e_api_Sample)))))
  (OpJs.nil)))))) (by rfl) (by rfl) ?_
  refine seqQ_n ?_
  refine AWp.ghost (Mat.pat [] [(6, (.d (.list 6 (r2.1.map e_api_Sample))))] [] hB (by rfl) (by rfl) (by rfl)) ?_
  refine AWp.ret ?_
  obtain rfl := Option.some.inj h
  exact ⟨.inl rfl, _, _, (Mat.pat [] [(6, (.d (.list 6 (r2.1.map e_api_Sample))))] [] hB (by rfl) (by rfl) (by rfl)), [(.d (.list 6 (r2.1.map e_api_Sample)))], (Res.tmp (by rfl) (by rfl) Res.nil), rfl, by rfl, by rfl, by rfl⟩

noncomputable def exchangepointref37_Between_L0 (a0 : (List api_Sample)) (a1 : Int) (a2 : Int) (s1 : Int × (List api_Sample)) : Option ((((List api_Sample))) ⊕ (Int × (List api_Sample))) :=
  (if (decide (s1.1 < (a0.length : Int))) = true then
  (idx a0 s1.1).bind fun x20 =>
  jn (fun m23 : (List api_Sample) =>
  some (.inr ((w64 (s1.1 + (1 : Int))), m23))) (fun j24 =>
  (if ((decide (a1 ≤ x20.fTick)) && (decide (x20.fTick < a2))) = true then
  chk (decide ((s1.2 ++ ([x20] : List api_Sample)).length ≤ LIM)) <|
  j24 (s1.2 ++ ([x20] : List api_Sample))
  else
  j24 s1.2))
  else
  some (.inl s1.2))
noncomputable def exchangepointref37_Between (a0 : (List api_Sample)) (a1 : Int) (a2 : Int) : Option ((List api_Sample)) :=
  (loop (exchangepointref37_Between_L0 a0 a1 a2) ((0 : Int), ([] : List api_Sample))).bind fun p18 =>
  some p18
set_option maxHeartbeats 4000000 in
set_option maxRecDepth 100000 in
theorem exchangepointref37_Between_ac (a0 : (List api_Sample)) (a1 : Int) (a2 : Int) (r : (List api_Sample)) (h : exchangepointref37_Between a0 a1 a2 = some r) : AC Try.prog 19 [(.d (.list 6 (a0.map e_api_Sample))), (.d (.int .i64 a1)), (.d (.int .i64 a2))] [] (.d (.list 6 (r.map e_api_Sample))) [] := by
  refine AC.of_code2 Try.func19 rfl rfl (Nat.le_of_ble_eq_true (by rfl)) fun B hB hN => ?_
  delta exchangepointref37_Between at h
  refine AWp.seq ?_
  refine AWp.region (OpJs.cons (OpJ.assign (ltN hN rfl) Opd.nils)
  (OpJs.nil)) (by rfl) (by rfl) ?_
  refine seqQ_n ?_
  refine AWp.ghost (Mat.pat [] [(0, (.d (.list 6 (a0.map e_api_Sample)))), (1, (.d (.int .i64 a1))), (2, (.d (.int .i64 a2)))] [] hB (by rfl) (by rfl) (by rfl)) ?_
  refine AWp.seq ?_
  refine AWp.region (OpJs.cons (OpJ.assign (ltN hN rfl) Opd.nils)
  (OpJs.nil)) (by rfl) (by rfl) ?_
  refine seqQ_n ?_
  refine AWp.ghost (Mat.pat [] [(0, (.d (.list 6 (a0.map e_api_Sample)))), (1, (.d (.int .i64 a1))), (2, (.d (.int .i64 a2))), (7, .nils)] [] hB (by rfl) (by rfl) (by rfl)) ?_
  refine AWp.seq ?_
  refine AWp.seq ?_
  refine AWp.region (OpJs.cons (OpJ.move (ltN hN rfl) (Opd.tmp 0 (.d (.list 6 (a0.map e_api_Sample)))))
  (OpJs.cons (OpJ.val (v' := (.d (.int .i64 (a0.length : Int)))) (by simp) (OpJ.lenD Try.underlying31 (ltN hN rfl) (Opd.tmp 10 (.d (.list 6 (a0.map e_api_Sample))))))
  (OpJs.cons (OpJ.move (ltN hN rfl) (Opd.int .i64 (0)))
  (OpJs.nil)))) (by rfl) (by rfl) ?_
  refine seqQ_n ?_
  refine AWp.ghost (Mat.pat [] [(1, (.d (.int .i64 a1))), (2, (.d (.int .i64 a2))), (7, .nils), (10, (.d (.list 6 (a0.map e_api_Sample)))), (11, (.d (.int .i64 (a0.length : Int)))), (12, (.d (.int .i64 (0 : Int))))] [] hB (by rfl) (by rfl) (by rfl)) ?_
  refine AWp.block ?_
  obtain ⟨p18, hx28, h⟩ := bindS h
  refine AWp.ghost (Mat.trans (Mat.begin (n := 3007) (e := 36) (sz := 6) (k := 7) hB (by decide) (by rfl) (by decide) (by rfl)) (Mat.pat [] ((fun s1 : Int × (List api_Sample) => ([(1, (.d (.int .i64 a1))), (2, (.d (.int .i64 a2))), (7, (.sref 3007 6 0 s1.2.length)), (10, (.d (.list 6 (a0.map e_api_Sample)))), (11, (.d (.int .i64 (a0.length : Int)))), (12, (.d (.int .i64 s1.1)))] : EL)) ((0 : Int), ([] : List api_Sample))) ((fun s1 : Int × (List api_Sample) => ([(3007, some (.row 36 6 (s1.2.map e_api_Sample)))] : OL)) ((0 : Int), ([] : List api_Sample))) hB (by rfl) (by rfl) (by rfl))) ?_
  refine AWp.loopS (exchangepointref37_Between_L0 a0 a1 a2) (fun s1 : Int × (List api_Sample) => ([(1, (.d (.int .i64 a1))), (2, (.d (.int .i64 a2))), (7, (.sref 3007 6 0 s1.2.length)), (10, (.d (.list 6 (a0.map e_api_Sample)))), (11, (.d (.int .i64 (a0.length : Int)))), (12, (.d (.int .i64 s1.1)))] : EL)) (fun s1 : Int × (List api_Sample) => ([(3007, some (.row 36 6 (s1.2.map e_api_Sample)))] : OL)) (fun (p18 : ((List api_Sample))) e E' O' => e = .exit 0 ∧ Mat B E' O' ([(7, (.sref 3007 6 0 p18.length))] : EL) ([(3007, some (.row 36 6 (p18.map e_api_Sample)))] : OL)) hx28 (fun s1 y h => ?_) (fun e E' O' hR => ?_)
  · unfold exchangepointref37_Between_L0 at h
    show AWp _ _ _ _ ([(1, (.d (.int .i64 a1))), (2, (.d (.int .i64 a2))), (7, (.sref 3007 6 0 s1.2.length)), (10, (.d (.list 6 (a0.map e_api_Sample)))), (11, (.d (.int .i64 (a0.length : Int)))), (12, (.d (.int .i64 s1.1)))] : EL) ([(3007, some (.row 36 6 (s1.2.map e_api_Sample)))] : OL)
    refine AWp.seq ?_
    refine AWp.region (OpJs.cons (OpJ.lss (ltN hN rfl) (Opd.tmp 12 (.d (.int .i64 s1.1))) (Opd.tmp 11 (.d (.int .i64 (a0.length : Int)))))
      (OpJs.nil)) (by rfl) (by rfl) ?_
    refine seqQ_n ?_
    refine AWp.ghost (Mat.pat [] [(1, (.d (.int .i64 a1))), (2, (.d (.int .i64 a2))), (7, (.sref 3007 6 0 s1.2.length)), (10, (.d (.list 6 (a0.map e_api_Sample)))), (11, (.d (.int .i64 (a0.length : Int)))), (12, (.d (.int .i64 s1.1))), (13, (.d (.bool (decide (s1.1 < (a0.length : Int))))))] [(3007, some (.row 36 6 (s1.2.map e_api_Sample)))] hB (by rfl) (by rfl) (by rfl)) ?_
    refine AWp.seq ?_
    refine AWp.cond (b := (decide (s1.1 < (a0.length : Int)))) (by rfl) (fun hg19 => ?_) (fun hg19 => ?_)
    · replace h := ite_t hg19 h
      refine AWp.skip ?_
      refine seqQ_n ?_
      refine AWp.seq ?_
      refine AWp.block ?_
      refine AWp.seq ?_
      obtain ⟨x20, hx20, h⟩ := bindS h
      refine AWp.region (OpJs.cons (OpJ.indexD (el := (e_api_Sample x20)) Try.underlying31 tyS36 (idx_some hx20).1 (get_map e_api_Sample (idx_some hx20).2) (ltN hN rfl) (Opd.tmp 10 (.d (.list 6 (a0.map e_api_Sample)))) (Opd.tmp 12 (.d (.int .i64 s1.1))))
        (OpJs.cons (OpJ.loadD tyS36 (by rfl) (by rfl) (ltN hN rfl) (Opd.tmp 14 (.dptr (e_api_Sample x20))))
        (OpJs.cons (OpJ.alloc hB tyZ36 (nm := 1009) (by decide) (ltN hN rfl))
        (OpJs.cons (OpJ.storeB (bt := 36) (c := (.d (.st [(.int .i64 (0 : Int)), (.int .i64 (0 : Int)), (.int .i64 (0 : Int)), (.int .i64 (0 : Int)), (.int .i64 (0 : Int)), (.int .i64 (0 : Int))]))) (v := (.d (e_api_Sample x20))) (c' := (.d (e_api_Sample x20))) tyS36 (SetAt.here _ _) (by rfl) (by rfl) (by simp) rfl (Opd.tmp 9 (.ptr 1009 0 [])) (Opd.tmp 15 (.d (e_api_Sample x20))))
        (OpJs.nil))))) (by rfl) (by rfl) ?_
      refine seqQ_n ?_
      refine AWp.ghost (Mat.pat [] [(1, (.d (.int .i64 a1))), (2, (.d (.int .i64 a2))), (7, (.sref 3007 6 0 s1.2.length)), (9, (.ptr 1009 0 [])), (10, (.d (.list 6 (a0.map e_api_Sample)))), (11, (.d (.int .i64 (a0.length : Int)))), (12, (.d (.int .i64 s1.1)))] [(1009, some (.box 36 (.d (e_api_Sample x20)))), (3007, some (.row 36 6 (s1.2.map e_api_Sample)))] hB (by rfl) (by rfl) (by rfl)) ?_
      refine AWp.seq ?_
      refine AWp.region (OpJs.cons (OpJ.val (v' := (.ptr 1009 0 [0])) (by rfl) (OpJ.fieldP Try.underlying36 (by rfl) (o := 0) (by rfl) tyS3 (by decide) (obj := (.box 36 (.d (e_api_Sample x20)))) (ltN hN rfl) (Opd.tmp 9 (.ptr 1009 0 []))))
        (OpJs.cons (OpJ.loadB (bt := 36) (c := (.d (e_api_Sample x20))) (v := (.d (.int .i64 x20.fTick))) tyS3 (At.dst1 (f := (.int .i64 x20.fTick)) (by rfl) (by rfl) (At.here _) (by first | rfl | omega)) (by rfl) (by rfl) rfl (ltN hN rfl) (Opd.tmp 16 (.ptr 1009 0 [0])))
        (OpJs.cons (OpJ.move (ltN hN rfl) (Opd.tmp 1 (.d (.int .i64 a1))))
        (OpJs.cons (OpJ.geq (ltN hN rfl) (Opd.tmp 17 (.d (.int .i64 x20.fTick))) (Opd.tmp 18 (.d (.int .i64 a1))))
        (OpJs.cons (OpJ.move (ltN hN rfl) (Opd.tmp 19 (.d (.bool (decide (a1 ≤ x20.fTick))))))
        (OpJs.cons (OpJ.opt' (v := (.ptr 1009 0 [0])) (OpJ.val (v' := (.ptr 1009 0 [0])) (by rfl) (OpJ.fieldP Try.underlying36 (by rfl) (o := 0) (by rfl) tyS3 (by decide) (obj := (.box 36 (.d (e_api_Sample x20)))) (ltN hN rfl) (Opd.tmp 9 (.ptr 1009 0 [])))) (by rfl) (GuardV.plain _) (ltN hN rfl) (by rfl) (by rfl) (by rfl) (by rfl) (OptL.keep rfl OptL.nil))
        (OpJs.cons (OpJ.opt' (v := (.d (.int .i64 x20.fTick))) (OpJ.loadB (bt := 36) (c := (.d (e_api_Sample x20))) (v := (.d (.int .i64 x20.fTick))) tyS3 (At.dst1 (f := (.int .i64 x20.fTick)) (by rfl) (by rfl) (At.here _) (by first | rfl | omega)) (by rfl) (by rfl) rfl (ltN hN rfl) (Opd.tmp 21 (.ptr 1009 0 [0]))) (by rfl) (GuardV.plain _) (ltN hN rfl) (by rfl) (by rfl) (by rfl) (by rfl) (OptL.opt OptL.nil))
        (OpJs.cons (OpJ.opt' (v := (.d (.int .i64 a2))) (OpJ.move (ltN hN rfl) (Opd.tmp 2 (.d (.int .i64 a2)))) (by rfl) (GuardV.plain _) (ltN hN rfl) (by rfl) (by rfl) (by rfl) (by rfl) (OptL.keep rfl OptL.nil))
        (OpJs.cons (OpJ.opt' (v := (.d (.bool (decide (x20.fTick < a2))))) (OpJ.lss (ltN hN rfl) (Opd.tmp 22 (.d (.int .i64 x20.fTick))) (Opd.tmp 23 (.d (.int .i64 a2)))) (by rfl) (GuardV.plain _) (ltN hN rfl) (by rfl) (by rfl) (by rfl) (by rfl) (OptL.opt (OptL.opt OptL.nil)))
        (OpJs.cons (OpJ.pickAnd rfl (ltN hN rfl) (Opd.tmp 20 (.d (.bool (decide (a1 ≤ x20.fTick))))) (Opd.tmp 24 (.opt ((decide (a1 ≤ x20.fTick)) == true) (.d (.bool (decide (x20.fTick < a2)))))))
        (OpJs.nil))))))))))) (by rfl) (by rfl) ?_
      refine seqQ_n ?_
      refine AWp.ghost (Mat.pat [] [(1, (.d (.int .i64 a1))), (2, (.d (.int .i64 a2))), (7, (.sref 3007 6 0 s1.2.length)), (9, (.ptr 1009 0 [])), (10, (.d (.list 6 (a0.map e_api_Sample)))), (11, (.d (.int .i64 (a0.length : Int)))), (12, (.d (.int .i64 s1.1))), (25, (.d (.bool ((decide (a1 ≤ x20.fTick)) && (decide (x20.fTick < a2))))))] [(1009, some (.box 36 (.d (e_api_Sample x20)))), (3007, some (.row 36 6 (s1.2.map e_api_Sample)))] hB (by rfl) (by rfl) (by rfl)) ?_
      refine AWp.cut h (fun m23 : (List api_Sample) => ([(1, (.d (.int .i64 a1))), (2, (.d (.int .i64 a2))), (7, (.sref 3007 6 0 m23.length)), (10, (.d (.list 6 (a0.map e_api_Sample)))), (11, (.d (.int .i64 (a0.length : Int)))), (12, (.d (.int .i64 s1.1)))] : EL)) (fun m23 : (List api_Sample) => ([(3007, some (.row 36 6 (m23.map e_api_Sample)))] : OL)) (fun m23 h E' O' hmat => ?_) (fun j24 hjj24 h => ?_)
      · refine blkQ_n ?_
        refine seqQ_n ?_
        refine AWp.ghost hmat ?_
        refine AWp.region (OpJs.cons (OpJ.add (ltN hN rfl) (Opd.tmp 12 (.d (.int .i64 s1.1))) (Opd.int .i64 (1)))
          (OpJs.cons (OpJ.move (ltN hN rfl) (Opd.tmp 30 (.d (.int .i64 (w64 (s1.1 + (1 : Int)))))))
          (OpJs.nil))) (by rfl) (by rfl) ?_
        obtain rfl := Option.some.inj h
        exact ⟨rfl, (Mat.trans (Mat.pat [] [(1, (.d (.int .i64 a1))), (2, (.d (.int .i64 a2))), (7, (.sref 3007 6 0 m23.length)), (10, (.d (.list 6 (a0.map e_api_Sample)))), (11, (.d (.int .i64 (a0.length : Int)))), (12, (.d (.int .i64 (w64 (s1.1 + (1 : Int))))))] [(3007, some (.row 36 6 (m23.map e_api_Sample)))] hB (by rfl) (by rfl) (by rfl)) (Mat.pat [] ((fun s1 : Int × (List api_Sample) => ([(1, (.d (.int .i64 a1))), (2, (.d (.int .i64 a2))), (7, (.sref 3007 6 0 s1.2.length)), (10, (.d (.list 6 (a0.map e_api_Sample)))), (11, (.d (.int .i64 (a0.length : Int)))), (12, (.d (.int .i64 s1.1)))] : EL)) ((w64 (s1.1 + (1 : Int))), m23)) ((fun s1 : Int × (List api_Sample) => ([(3007, some (.row 36 6 (s1.2.map e_api_Sample)))] : OL)) ((w64 (s1.1 + (1 : Int))), m23)) hB (by rfl) (by rfl) (by rfl)))⟩
      · refine AWp.cond (b := ((decide (a1 ≤ x20.fTick)) && (decide (x20.fTick < a2)))) (by rfl) (fun hg25 => ?_) (fun hg25 => ?_)
        · replace h := ite_t hg25 h
          obtain ⟨hc26, h⟩ := chk_some h
          refine AWp.region (OpJs.cons (OpJ.move (ltN hN rfl) (Opd.tmp 7 (.sref 3007 6 0 s1.2.length)))
            (OpJs.cons (OpJ.loadB (bt := 36) (c := (.d (e_api_Sample x20))) (v := (.d (e_api_Sample x20))) tyS36 (At.here _) (by rfl) (by rfl) rfl (ltN hN rfl) (Opd.tmp 9 (.ptr 1009 0 [])))
            (OpJs.cons (OpJ.buildSlice Try.underlying31 tyS36 tyZD36 (by rfl) (by decide) (by decide) (Opds.cons (Opd.tmp 27 (.d (e_api_Sample x20))) Opds.nil) (by kernel_rfl) (es := ([(e_api_Sample x20)] : List D)) (by rfl) (by rfl) (by kernel_rfl) (by simp) (ltN hN rfl))
            (OpJs.cons (OpJ.append hB Try.underlying31 tyE36 (nm := 1029) (by decide) (es := s1.2.map e_api_Sample) (ys := ([x20] : List api_Sample).map e_api_Sample) (es' := (s1.2 ++ ([x20] : List api_Sample)).map e_api_Sample) (len := (s1.2 ++ ([x20] : List api_Sample)).length) (by simp) (by simp) (map_sz (f := e_api_Sample) (fun _ => rfl)) (by rw [List.length_map]; exact lim_mulN hc26 (by decide)) (by rw [List.length_map]; exact lim_leN hc26) (ltN hN rfl) (by simp) (Opd.tmp 26 (.sref 3007 6 0 s1.2.length)) (Opd.tmp 28 (.d (.list 6 (([x20] : List api_Sample).map e_api_Sample)))))
            (OpJs.cons (OpJ.assign (ltN hN rfl) (Opd.tmp 29 (.sref 1029 6 0 ((s1.2 ++ ([x20] : List api_Sample)).length))))
            (OpJs.nil)))))) (by rfl) (by rfl) ?_
          exact hjj24 _ h _ _ (Mat.trans (Mat.pat [] [(1, (.d (.int .i64 a1))), (2, (.d (.int .i64 a2))), (7, (.sref 1029 6 0 ((s1.2 ++ ([x20] : List api_Sample)).length))), (10, (.d (.list 6 (a0.map e_api_Sample)))), (11, (.d (.int .i64 (a0.length : Int)))), (12, (.d (.int .i64 s1.1)))] [(1029, some (.row 36 6 ((s1.2 ++ ([x20] : List api_Sample)).map e_api_Sample)))] hB (by rfl) (by rfl) (by rfl)) (Mat.pat [(3007, 1029)] ((fun m23 : (List api_Sample) => ([(1, (.d (.int .i64 a1))), (2, (.d (.int .i64 a2))), (7, (.sref 3007 6 0 m23.length)), (10, (.d (.list 6 (a0.map e_api_Sample)))), (11, (.d (.int .i64 (a0.length : Int)))), (12, (.d (.int .i64 s1.1)))] : EL)) (s1.2 ++ ([x20] : List api_Sample))) ((fun m23 : (List api_Sample) => ([(3007, some (.row 36 6 (m23.map e_api_Sample)))] : OL)) (s1.2 ++ ([x20] : List api_Sample))) hB (by rfl) (by rfl) (by rfl)))
        · replace h := ite_f hg25 h
          refine AWp.skip ?_
          exact hjj24 _ h _ _ (Mat.pat [] ((fun m23 : (List api_Sample) => ([(1, (.d (.int .i64 a1))), (2, (.d (.int .i64 a2))), (7, (.sref 3007 6 0 m23.length)), (10, (.d (.list 6 (a0.map e_api_Sample)))), (11, (.d (.int .i64 (a0.length : Int)))), (12, (.d (.int .i64 s1.1)))] : EL)) s1.2) ((fun m23 : (List api_Sample) => ([(3007, some (.row 36 6 (m23.map e_api_Sample)))] : OL)) s1.2) hB (by rfl) (by rfl) (by rfl))
    · replace h := ite_f hg19 h
      refine AWp.exit ?_
      refine seqQ_e ?_
      obtain rfl := Option.some.inj h
      exact ⟨(fun hc => by cases hc), rfl, (Mat.pat [] ((fun p18 : (List api_Sample) => ([(7, (.sref 3007 6 0 p18.length))] : EL)) s1.2) ((fun p18 : (List api_Sample) => ([(3007, some (.row 36 6 (p18.map e_api_Sample)))] : OL)) s1.2) hB (by rfl) (by rfl) (by rfl))⟩
  · obtain ⟨rfl, hmat⟩ := hR
    refine blkQ_hit ?_
    refine seqQ_n ?_
    refine AWp.ghost hmat ?_
    refine AWp.seq ?_
    refine AWp.region (OpJs.cons (OpJ.move (ltN hN rfl) (Opd.tmp 7 (.sref 3007 6 0 p18.length)))
      (OpJs.cons (OpJ.assign (ltN hN rfl) (Opd.tmp 31 (.sref 3007 6 0 p18.length)))
      (OpJs.nil))) (by rfl) (by rfl) ?_
    refine seqQ_n ?_
    refine AWp.ghost (Mat.pat [] [(6, (.sref 3007 6 0 p18.length))] [(3007, some (.row 36 6 (p18.map e_api_Sample)))] hB (by rfl) (by rfl) (by rfl)) ?_
    refine AWp.ret ?_
    obtain rfl := Option.some.inj h
    exact ⟨.inl rfl, _, _, (Mat.trans (Mat.freezeAll (n := 3007) (k := 6) (by rfl) (by rfl) (by first | (simp; done) | (simp; omega))) (Mat.pat [] [(6, (.d (.list 6 (p18.map e_api_Sample))))] [] hB (by rfl) (by rfl) (by rfl))), [(.d (.list 6 (p18.map e_api_Sample)))], (Res.tmp (by rfl) (by rfl) Res.nil), rfl, by rfl, by rfl, by rfl⟩

noncomputable def exchangepointref37_Lost (a0 : (List api_Sample)) : Option (Int) :=
  (if ((a0.length : Int) == (0 : Int)) = true then
  some (0 : Int)
  else
  (idx a0 (w64 ((a0.length : Int) - (1 : Int)))).bind fun x2 =>
  (idx a0 (0 : Int)).bind fun x3 =>
  some (w64 ((w64 ((w64 (x2.fSeq - x3.fSeq)) + (1 : Int))) - (a0.length : Int))))
set_option maxHeartbeats 4000000 in
set_option maxRecDepth 100000 in
theorem exchangepointref37_Lost_ac (a0 : (List api_Sample)) (r : Int) (h : exchangepointref37_Lost a0 = some r) : AC Try.prog 21 [(.d (.list 6 (a0.map e_api_Sample)))] [] (.d (.int .i64 r)) [] := by
  refine AC.of_code2 Try.func21 rfl rfl (Nat.le_of_ble_eq_true (by rfl)) fun B hB hN => ?_
  delta exchangepointref37_Lost at h
  refine AWp.seq ?_
  refine AWp.region (OpJs.cons (OpJ.assign (ltN hN rfl) (Opd.int .i64 (0)))
  (OpJs.nil)) (by rfl) (by rfl) ?_
  refine seqQ_n ?_
  refine AWp.ghost (Mat.pat [] [(0, (.d (.list 6 (a0.map e_api_Sample))))] [] hB (by rfl) (by rfl) (by rfl)) ?_
  refine AWp.seq ?_
  refine AWp.seq ?_
  refine AWp.region (OpJs.cons (OpJ.move (ltN hN rfl) (Opd.tmp 0 (.d (.list 6 (a0.map e_api_Sample)))))
  (OpJs.cons (OpJ.val (v' := (.d (.int .i64 (a0.length : Int)))) (by simp) (OpJ.lenD Try.underlying31 (ltN hN rfl) (Opd.tmp 3 (.d (.list 6 (a0.map e_api_Sample))))))
  (OpJs.cons (OpJ.eqlI (ltN hN rfl) (Opd.tmp 4 (.d (.int .i64 (a0.length : Int)))) (Opd.int .i64 (0)))
  (OpJs.nil)))) (by rfl) (by rfl) ?_
  refine seqQ_n ?_
  refine AWp.ghost (Mat.pat [] [(0, (.d (.list 6 (a0.map e_api_Sample)))), (5, (.d (.bool ((a0.length : Int) == (0 : Int)))))] [] hB (by rfl) (by rfl) (by rfl)) ?_
  refine AWp.cond (b := ((a0.length : Int) == (0 : Int))) (by rfl) (fun hg1 => ?_) (fun hg1 => ?_)
  · replace h := ite_t hg1 h
    refine AWp.seq ?_
    refine AWp.region (OpJs.cons (OpJ.assign (ltN hN rfl) (Opd.int .i64 (0)))
      (OpJs.nil)) (by rfl) (by rfl) ?_
    refine seqQ_n ?_
    refine AWp.ghost (Mat.pat [] [(2, (.d (.int .i64 (0 : Int))))] [] hB (by rfl) (by rfl) (by rfl)) ?_
    refine AWp.ret ?_
    refine seqQ_r ?_
    obtain rfl := Option.some.inj h
    exact ⟨.inl rfl, _, _, (Mat.pat [] [(2, (.d (.int .i64 (0 : Int))))] [] hB (by rfl) (by rfl) (by rfl)), [(.d (.int .i64 (0 : Int)))], (Res.tmp (by rfl) (by rfl) Res.nil), rfl, by rfl, by rfl, by rfl⟩
  · replace h := ite_f hg1 h
    refine AWp.skip ?_
    refine seqQ_n ?_
    refine AWp.seq ?_
    obtain ⟨x2, hx2, h⟩ := bindS h
    obtain ⟨x3, hx3, h⟩ := bindS h
    refine AWp.draws (by kernel_rfl) (OpJs.cons (OpJ.move (ltN hN rfl) (Opd.tmp 0 (.d (.list 6 (a0.map e_api_Sample)))))
      (OpJs.cons (OpJ.move (ltN hN rfl) (Opd.tmp 0 (.d (.list 6 (a0.map e_api_Sample)))))
      (OpJs.cons (OpJ.val (v' := (.d (.int .i64 (a0.length : Int)))) (by simp) (OpJ.lenD Try.underlying31 (ltN hN rfl) (Opd.tmp 7 (.d (.list 6 (a0.map e_api_Sample))))))
      (OpJs.cons (OpJ.sub (ltN hN rfl) (Opd.tmp 8 (.d (.int .i64 (a0.length : Int)))) (Opd.int .i64 (1)))
      (OpJs.cons (OpJ.indexD (el := (e_api_Sample x2)) Try.underlying31 tyS36 (idx_some hx2).1 (get_map e_api_Sample (idx_some hx2).2) (ltN hN rfl) (Opd.tmp 6 (.d (.list 6 (a0.map e_api_Sample)))) (Opd.tmp 9 (.d (.int .i64 (w64 ((a0.length : Int) - (1 : Int)))))))
      (OpJs.cons (OpJ.fieldD Try.underlying36 (by rfl) (o := 1) (by rfl) tyS3 (by decide) (ds := [(.int .i64 x2.fTick), (.int .i64 x2.fSeq), (.int .i64 x2.fPool), (.int .i64 x2.fIn), (.int .i64 x2.fOut), (.int .i64 x2.fBytes)]) (e := (.int .i64 x2.fSeq)) (by rfl) (by rfl) (ltN hN rfl) (Opd.tmp 10 (.dptr (e_api_Sample x2))))
      (OpJs.cons (OpJ.loadD tyS3 (by rfl) (by rfl) (ltN hN rfl) (Opd.tmp 11 (.dptr (.int .i64 x2.fSeq))))
      (OpJs.cons (OpJ.move (ltN hN rfl) (Opd.tmp 0 (.d (.list 6 (a0.map e_api_Sample)))))
      (OpJs.cons (OpJ.indexD (el := (e_api_Sample x3)) Try.underlying31 tyS36 (idx_some hx3).1 (get_map e_api_Sample (idx_some hx3).2) (ltN hN rfl) (Opd.tmp 13 (.d (.list 6 (a0.map e_api_Sample)))) (Opd.int .i64 (0)))
      (OpJs.cons (OpJ.fieldD Try.underlying36 (by rfl) (o := 1) (by rfl) tyS3 (by decide) (ds := [(.int .i64 x3.fTick), (.int .i64 x3.fSeq), (.int .i64 x3.fPool), (.int .i64 x3.fIn), (.int .i64 x3.fOut), (.int .i64 x3.fBytes)]) (e := (.int .i64 x3.fSeq)) (by rfl) (by rfl) (ltN hN rfl) (Opd.tmp 14 (.dptr (e_api_Sample x3))))
      (OpJs.cons (OpJ.loadD tyS3 (by rfl) (by rfl) (ltN hN rfl) (Opd.tmp 15 (.dptr (.int .i64 x3.fSeq))))
      (OpJs.cons (OpJ.sub (ltN hN rfl) (Opd.tmp 12 (.d (.int .i64 x2.fSeq))) (Opd.tmp 16 (.d (.int .i64 x3.fSeq))))
      (OpJs.cons (OpJ.add (ltN hN rfl) (Opd.tmp 17 (.d (.int .i64 (w64 (x2.fSeq - x3.fSeq))))) (Opd.int .i64 (1)))
      (OpJs.cons (OpJ.move (ltN hN rfl) (Opd.tmp 0 (.d (.list 6 (a0.map e_api_Sample)))))
      (OpJs.cons (OpJ.val (v' := (.d (.int .i64 (a0.length : Int)))) (by simp) (OpJ.lenD Try.underlying31 (ltN hN rfl) (Opd.tmp 19 (.d (.list 6 (a0.map e_api_Sample))))))
      (OpJs.cons (OpJ.sub (ltN hN rfl) (Opd.tmp 18 (.d (.int .i64 (w64 ((w64 (x2.fSeq - x3.fSeq)) + (1 : Int)))))) (Opd.tmp 20 (.d (.int .i64 (a0.length : Int)))))
      (OpJs.cons (OpJ.assign (ltN hN rfl) (Opd.tmp 21 (.d (.int .i64 (w64 ((w64 ((w64 (x2.fSeq - x3.fSeq)) + (1 : Int))) - (a0.length : Int)))))))
      (OpJs.nil)))))))))))))))))) (by kernel_rfl) (by rfl) (by rfl) ?_
    refine seqQ_n ?_
    refine AWp.ghost (Mat.pat [] [(2, (.d (.int .i64 (w64 ((w64 ((w64 (x2.fSeq - x3.fSeq)) + (1 : Int))) - (a0.length : Int))))))] [] hB (by rfl) (by rfl) (by rfl)) ?_
    refine AWp.ret ?_
    obtain rfl := Option.some.inj h
    exact ⟨.inl rfl, _, _, (Mat.pat [] [(2, (.d (.int .i64 (w64 ((w64 ((w64 (x2.fSeq - x3.fSeq)) + (1 : Int))) - (a0.length : Int))))))] [] hB (by rfl) (by rfl) (by rfl)), [(.d (.int .i64 (w64 ((w64 ((w64 (x2.fSeq - x3.fSeq)) + (1 : Int))) - (a0.length : Int)))))], (Res.tmp (by rfl) (by rfl) Res.nil), rfl, by rfl, by rfl, by rfl⟩

noncomputable def exchangepointref37_Span (a0 : (List api_Sample)) : Option (Int) :=
  (if ((a0.length : Int) == (0 : Int)) = true then
  some (0 : Int)
  else
  (idx a0 (w64 ((a0.length : Int) - (1 : Int)))).bind fun x2 =>
  (idx a0 (0 : Int)).bind fun x3 =>
  some (w64 ((w64 (x2.fPool - x3.fPool)) + (1 : Int))))
set_option maxHeartbeats 4000000 in
set_option maxRecDepth 100000 in
theorem exchangepointref37_Span_ac (a0 : (List api_Sample)) (r : Int) (h : exchangepointref37_Span a0 = some r) : AC Try.prog 23 [(.d (.list 6 (a0.map e_api_Sample)))] [] (.d (.int .i64 r)) [] := by
  refine AC.of_code2 Try.func23 rfl rfl (Nat.le_of_ble_eq_true (by rfl)) fun B hB hN => ?_
  delta exchangepointref37_Span at h
  refine AWp.seq ?_
  refine AWp.region (OpJs.cons (OpJ.assign (ltN hN rfl) (Opd.int .i64 (0)))
  (OpJs.nil)) (by rfl) (by rfl) ?_
  refine seqQ_n ?_
  refine AWp.ghost (Mat.pat [] [(0, (.d (.list 6 (a0.map e_api_Sample))))] [] hB (by rfl) (by rfl) (by rfl)) ?_
  refine AWp.seq ?_
  refine AWp.seq ?_
  refine AWp.region (OpJs.cons (OpJ.move (ltN hN rfl) (Opd.tmp 0 (.d (.list 6 (a0.map e_api_Sample)))))
  (OpJs.cons (OpJ.val (v' := (.d (.int .i64 (a0.length : Int)))) (by simp) (OpJ.lenD Try.underlying31 (ltN hN rfl) (Opd.tmp 3 (.d (.list 6 (a0.map e_api_Sample))))))
  (OpJs.cons (OpJ.eqlI (ltN hN rfl) (Opd.tmp 4 (.d (.int .i64 (a0.length : Int)))) (Opd.int .i64 (0)))
  (OpJs.nil)))) (by rfl) (by rfl) ?_
  refine seqQ_n ?_
  refine AWp.ghost (Mat.pat [] [(0, (.d (.list 6 (a0.map e_api_Sample)))), (5, (.d (.bool ((a0.length : Int) == (0 : Int)))))] [] hB (by rfl) (by rfl) (by rfl)) ?_
  refine AWp.cond (b := ((a0.length : Int) == (0 : Int))) (by rfl) (fun hg1 => ?_) (fun hg1 => ?_)
  · replace h := ite_t hg1 h
    refine AWp.seq ?_
    refine AWp.region (OpJs.cons (OpJ.assign (ltN hN rfl) (Opd.int .i64 (0)))
      (OpJs.nil)) (by rfl) (by rfl) ?_
    refine seqQ_n ?_
    refine AWp.ghost (Mat.pat [] [(2, (.d (.int .i64 (0 : Int))))] [] hB (by rfl) (by rfl) (by rfl)) ?_
    refine AWp.ret ?_
    refine seqQ_r ?_
    obtain rfl := Option.some.inj h
    exact ⟨.inl rfl, _, _, (Mat.pat [] [(2, (.d (.int .i64 (0 : Int))))] [] hB (by rfl) (by rfl) (by rfl)), [(.d (.int .i64 (0 : Int)))], (Res.tmp (by rfl) (by rfl) Res.nil), rfl, by rfl, by rfl, by rfl⟩
  · replace h := ite_f hg1 h
    refine AWp.skip ?_
    refine seqQ_n ?_
    refine AWp.seq ?_
    obtain ⟨x2, hx2, h⟩ := bindS h
    obtain ⟨x3, hx3, h⟩ := bindS h
    refine AWp.draws (by kernel_rfl) (OpJs.cons (OpJ.move (ltN hN rfl) (Opd.tmp 0 (.d (.list 6 (a0.map e_api_Sample)))))
      (OpJs.cons (OpJ.move (ltN hN rfl) (Opd.tmp 0 (.d (.list 6 (a0.map e_api_Sample)))))
      (OpJs.cons (OpJ.val (v' := (.d (.int .i64 (a0.length : Int)))) (by simp) (OpJ.lenD Try.underlying31 (ltN hN rfl) (Opd.tmp 7 (.d (.list 6 (a0.map e_api_Sample))))))
      (OpJs.cons (OpJ.sub (ltN hN rfl) (Opd.tmp 8 (.d (.int .i64 (a0.length : Int)))) (Opd.int .i64 (1)))
      (OpJs.cons (OpJ.indexD (el := (e_api_Sample x2)) Try.underlying31 tyS36 (idx_some hx2).1 (get_map e_api_Sample (idx_some hx2).2) (ltN hN rfl) (Opd.tmp 6 (.d (.list 6 (a0.map e_api_Sample)))) (Opd.tmp 9 (.d (.int .i64 (w64 ((a0.length : Int) - (1 : Int)))))))
      (OpJs.cons (OpJ.fieldD Try.underlying36 (by rfl) (o := 2) (by rfl) tyS3 (by decide) (ds := [(.int .i64 x2.fTick), (.int .i64 x2.fSeq), (.int .i64 x2.fPool), (.int .i64 x2.fIn), (.int .i64 x2.fOut), (.int .i64 x2.fBytes)]) (e := (.int .i64 x2.fPool)) (by rfl) (by rfl) (ltN hN rfl) (Opd.tmp 10 (.dptr (e_api_Sample x2))))
      (OpJs.cons (OpJ.loadD tyS3 (by rfl) (by rfl) (ltN hN rfl) (Opd.tmp 11 (.dptr (.int .i64 x2.fPool))))
      (OpJs.cons (OpJ.move (ltN hN rfl) (Opd.tmp 0 (.d (.list 6 (a0.map e_api_Sample)))))
      (OpJs.cons (OpJ.indexD (el := (e_api_Sample x3)) Try.underlying31 tyS36 (idx_some hx3).1 (get_map e_api_Sample (idx_some hx3).2) (ltN hN rfl) (Opd.tmp 13 (.d (.list 6 (a0.map e_api_Sample)))) (Opd.int .i64 (0)))
      (OpJs.cons (OpJ.fieldD Try.underlying36 (by rfl) (o := 2) (by rfl) tyS3 (by decide) (ds := [(.int .i64 x3.fTick), (.int .i64 x3.fSeq), (.int .i64 x3.fPool), (.int .i64 x3.fIn), (.int .i64 x3.fOut), (.int .i64 x3.fBytes)]) (e := (.int .i64 x3.fPool)) (by rfl) (by rfl) (ltN hN rfl) (Opd.tmp 14 (.dptr (e_api_Sample x3))))
      (OpJs.cons (OpJ.loadD tyS3 (by rfl) (by rfl) (ltN hN rfl) (Opd.tmp 15 (.dptr (.int .i64 x3.fPool))))
      (OpJs.cons (OpJ.sub (ltN hN rfl) (Opd.tmp 12 (.d (.int .i64 x2.fPool))) (Opd.tmp 16 (.d (.int .i64 x3.fPool))))
      (OpJs.cons (OpJ.add (ltN hN rfl) (Opd.tmp 17 (.d (.int .i64 (w64 (x2.fPool - x3.fPool))))) (Opd.int .i64 (1)))
      (OpJs.cons (OpJ.assign (ltN hN rfl) (Opd.tmp 18 (.d (.int .i64 (w64 ((w64 (x2.fPool - x3.fPool)) + (1 : Int)))))))
      (OpJs.nil))))))))))))))) (by kernel_rfl) (by rfl) (by rfl) ?_
    refine seqQ_n ?_
    refine AWp.ghost (Mat.pat [] [(2, (.d (.int .i64 (w64 ((w64 (x2.fPool - x3.fPool)) + (1 : Int))))))] [] hB (by rfl) (by rfl) (by rfl)) ?_
    refine AWp.ret ?_
    obtain rfl := Option.some.inj h
    exact ⟨.inl rfl, _, _, (Mat.pat [] [(2, (.d (.int .i64 (w64 ((w64 (x2.fPool - x3.fPool)) + (1 : Int))))))] [] hB (by rfl) (by rfl) (by rfl)), [(.d (.int .i64 (w64 ((w64 (x2.fPool - x3.fPool)) + (1 : Int)))))], (Res.tmp (by rfl) (by rfl) Res.nil), rfl, by rfl, by rfl, by rfl⟩

noncomputable def exchangepointref37_Merge_L0 (a0 : (List api_Sample)) (a1 : (List api_Sample)) (s8 : Int × Int × (List api_Sample)) : Option (((Unit) ⊕ ((List api_Sample))) ⊕ (Int × Int × (List api_Sample))) :=
  (if ((decide (s8.1 < (a0.length : Int))) || (decide (s8.2.1 < (a1.length : Int)))) = true then
  jn (fun m76 : Bool =>
  (if m76 = true then
  (idx a0 s8.1).bind fun x79 =>
  chk (decide ((s8.2.2 ++ ([x79] : List api_Sample)).length ≤ LIM)) <|
  some (.inr ((w64 (s8.1 + (1 : Int))), s8.2.1, (s8.2.2 ++ ([x79] : List api_Sample))))
  else
  jn (fun m84 : Bool =>
  (if m84 = true then
  (idx a1 s8.2.1).bind fun x87 =>
  chk (decide ((s8.2.2 ++ ([x87] : List api_Sample)).length ≤ LIM)) <|
  some (.inr (s8.1, (w64 (s8.2.1 + (1 : Int))), (s8.2.2 ++ ([x87] : List api_Sample))))
  else
  (idx a0 s8.1).bind fun x89 =>
  (idx a1 s8.2.1).bind fun x90 =>
  (if (!((x89.fTick == x90.fTick) && ((x89.fSeq == x90.fSeq) && ((x89.fPool == x90.fPool) && ((x89.fIn == x90.fIn) && ((x89.fOut == x90.fOut) && ((x89.fBytes == x90.fBytes) && true))))))) = true then
  some (.inl (.inl ()))
  else
  (idx a0 s8.1).bind fun x92 =>
  chk (decide ((s8.2.2 ++ ([x92] : List api_Sample)).length ≤ LIM)) <|
  some (.inr ((w64 (s8.1 + (1 : Int))), (w64 (s8.2.1 + (1 : Int))), (s8.2.2 ++ ([x92] : List api_Sample))))))) (fun j85 =>
  (if (s8.1 == (a0.length : Int)) = true then
  j85 true
  else
  (idx a0 s8.1).bind fun x95 =>
  (idx a1 s8.2.1).bind fun x96 =>
  j85 (decide (x96.fSeq < x95.fSeq)))))) (fun j77 =>
  (if (s8.2.1 == (a1.length : Int)) = true then
  j77 true
  else
  (if (decide (s8.1 < (a0.length : Int))) = true then
  (idx a0 s8.1).bind fun x99 =>
  (idx a1 s8.2.1).bind fun x100 =>
  j77 (decide (x99.fSeq < x100.fSeq))
  else
  j77 false)))
  else
  some (.inl (.inr s8.2.2)))
noncomputable def exchangepointref37_Merge (a0 : (List api_Sample)) (a1 : (List api_Sample)) : Option ((List api_Sample) × Int) :=
  jn (fun m5 : Bool =>
  (if m5 = true then
  some (([] : List api_Sample), (1 : Int))
  else
  (loop (exchangepointref37_Merge_L0 a0 a1) ((0 : Int), (0 : Int), ([] : List api_Sample))).bind fun x101 => match x101 with
  | (.inl _) =>
    some (([] : List api_Sample), (8 : Int))
  | (.inr p70) =>
    (if (decide ((1000 : Int) < (p70.length : Int))) = true then
    some (([] : List api_Sample), (3 : Int))
    else
    (exchangepointref37_Valid p70).bind fun r104 =>
    (if (!r104) = true then
    some (([] : List api_Sample), (35 : Int))
    else
    some (p70, (0 : Int)))))) (fun j6 =>
  (exchangepointref37_Valid a0).bind fun r106 =>
  (if (!r106) = true then
  j6 true
  else
  (exchangepointref37_Valid a1).bind fun r108 =>
  j6 (!r108)))
set_option maxHeartbeats 4000000 in
set_option maxRecDepth 100000 in
theorem exchangepointref37_Merge_ac (a0 : (List api_Sample)) (a1 : (List api_Sample)) (r : (List api_Sample) × Int) (h : exchangepointref37_Merge a0 a1 = some r) : AC Try.prog 24 [(.d (.list 6 (a0.map e_api_Sample))), (.d (.list 6 (a1.map e_api_Sample)))] [] (.tup [(.d (.list 6 (r.1.map e_api_Sample))), (.d (.int .i64 r.2))]) [] := by
  refine AC.of_code2 Try.func24 rfl rfl (Nat.le_of_ble_eq_true (by rfl)) fun B hB hN => ?_
  delta exchangepointref37_Merge at h
  refine AWp.seq ?_
  refine AWp.region (OpJs.cons (OpJ.assign (ltN hN rfl) Opd.nils)
  (OpJs.cons (OpJ.assign (ltN hN rfl) (Opd.int .i64 (0)))
  (OpJs.nil))) (by rfl) (by rfl) ?_
  refine seqQ_n ?_
  refine AWp.ghost (Mat.pat [] [(0, (.d (.list 6 (a0.map e_api_Sample)))), (1, (.d (.list 6 (a1.map e_api_Sample))))] [] hB (by rfl) (by rfl) (by rfl)) ?_
  refine AWp.seq ?_
  refine AWp.seq ?_
  refine AWp.cut h (fun m5 : Bool => ([(0, (.d (.list 6 (a0.map e_api_Sample)))), (1, (.d (.list 6 (a1.map e_api_Sample)))), (16, (.d (.bool m5)))] : EL)) (fun m5 : Bool => ([] : OL)) (fun m5 h E' O' hmat => ?_) (fun j6 hjj6 h => ?_)
  · refine seqQ_n ?_
    refine AWp.ghost hmat ?_
    refine AWp.cond (b := m5) (by rfl) (fun hg7 => ?_) (fun hg7 => ?_)
    · replace h := ite_t hg7 h
      refine AWp.seq ?_
      refine AWp.region (OpJs.cons (OpJ.assign (ltN hN rfl) Opd.nils)
        (OpJs.cons (OpJ.assign (ltN hN rfl) (Opd.int .i64 (1)))
        (OpJs.nil))) (by rfl) (by rfl) ?_
      refine seqQ_n ?_
      refine AWp.ghost (Mat.pat [] [(4, .nils), (5, (.d (.int .i64 (1 : Int))))] [] hB (by rfl) (by rfl) (by rfl)) ?_
      refine AWp.ret ?_
      refine seqQ_r ?_
      obtain rfl := Option.some.inj h
      exact ⟨.inl rfl, _, _, (Mat.pat [] [(4, .nils), (5, (.d (.int .i64 (1 : Int))))] [] hB (by rfl) (by rfl) (by rfl)), [(.d (.list 6 (([] : List api_Sample).map e_api_Sample))), (.d (.int .i64 (1 : Int)))], (Res.tmpC (by rfl) (Co.nils 6) (Res.tmp (by rfl) (by rfl) Res.nil)), rfl, by rfl, by rfl, by rfl⟩
    · replace h := ite_f hg7 h
      refine AWp.skip ?_
      refine seqQ_n ?_
      refine AWp.seq ?_
      refine AWp.region (OpJs.cons (OpJ.assign (ltN hN rfl) Opd.nils)
        (OpJs.nil)) (by rfl) (by rfl) ?_
      refine seqQ_n ?_
      refine AWp.ghost (Mat.pat [] [(0, (.d (.list 6 (a0.map e_api_Sample)))), (1, (.d (.list 6 (a1.map e_api_Sample)))), (6, .nils)] [] hB (by rfl) (by rfl) (by rfl)) ?_
      refine AWp.seq ?_
      refine AWp.region (OpJs.cons (OpJ.assign (ltN hN rfl) (Opd.int .i64 (0)))
        (OpJs.cons (OpJ.assign (ltN hN rfl) (Opd.int .i64 (0)))
        (OpJs.nil))) (by rfl) (by rfl) ?_
      refine seqQ_n ?_
      refine AWp.ghost (Mat.pat [] [(0, (.d (.list 6 (a0.map e_api_Sample)))), (1, (.d (.list 6 (a1.map e_api_Sample)))), (6, .nils), (7, (.d (.int .i64 (0 : Int)))), (8, (.d (.int .i64 (0 : Int))))] [] hB (by rfl) (by rfl) (by rfl)) ?_
      refine AWp.seq ?_
      refine AWp.block ?_
      obtain ⟨x101, hx102, h⟩ := bindS h
      refine AWp.ghost (Mat.trans (Mat.begin (n := 3006) (e := 36) (sz := 6) (k := 6) hB (by decide) (by rfl) (by decide) (by rfl)) (Mat.pat [] ((fun s8 : Int × Int × (List api_Sample) => ([(0, (.d (.list 6 (a0.map e_api_Sample)))), (1, (.d (.list 6 (a1.map e_api_Sample)))), (6, (.sref 3006 6 0 s8.2.2.length)), (7, (.d (.int .i64 s8.1))), (8, (.d (.int .i64 s8.2.1)))] : EL)) ((0 : Int), (0 : Int), ([] : List api_Sample))) ((fun s8 : Int × Int × (List api_Sample) => ([(3006, some (.row 36 6 (s8.2.2.map e_api_Sample)))] : OL)) ((0 : Int), (0 : Int), ([] : List api_Sample))) hB (by rfl) (by rfl) (by rfl))) ?_
      refine AWp.loopS (exchangepointref37_Merge_L0 a0 a1) (fun s8 : Int × Int × (List api_Sample) => ([(0, (.d (.list 6 (a0.map e_api_Sample)))), (1, (.d (.list 6 (a1.map e_api_Sample)))), (6, (.sref 3006 6 0 s8.2.2.length)), (7, (.d (.int .i64 s8.1))), (8, (.d (.int .i64 s8.2.1)))] : EL)) (fun s8 : Int × Int × (List api_Sample) => ([(3006, some (.row 36 6 (s8.2.2.map e_api_Sample)))] : OL)) (fun (x : (Unit) ⊕ ((List api_Sample))) e E' O' => match x with | (.inl _p) => e = .ret ∧ Mat B E' O' ([(4, .nils), (5, (.d (.int .i64 (8 : Int))))] : EL) ([] : OL) | (.inr p70) => e = .exit 0 ∧ Mat B E' O' ([(6, (.sref 3006 6 0 p70.length))] : EL) ([(3006, some (.row 36 6 (p70.map e_api_Sample)))] : OL)) hx102 (fun s8 y h => ?_) (fun e E' O' hR => ?_)
      · unfold exchangepointref37_Merge_L0 at h
        show AWp _ _ _ _ ([(0, (.d (.list 6 (a0.map e_api_Sample)))), (1, (.d (.list 6 (a1.map e_api_Sample)))), (6, (.sref 3006 6 0 s8.2.2.length)), (7, (.d (.int .i64 s8.1))), (8, (.d (.int .i64 s8.2.1)))] : EL) ([(3006, some (.row 36 6 (s8.2.2.map e_api_Sample)))] : OL)
        refine AWp.seq ?_
        refine AWp.seq ?_
        refine AWp.region (OpJs.cons (OpJ.move (ltN hN rfl) (Opd.tmp 7 (.d (.int .i64 s8.1))))
          (OpJs.cons (OpJ.move (ltN hN rfl) (Opd.tmp 0 (.d (.list 6 (a0.map e_api_Sample)))))
          (OpJs.cons (OpJ.val (v' := (.d (.int .i64 (a0.length : Int)))) (by simp) (OpJ.lenD Try.underlying31 (ltN hN rfl) (Opd.tmp 18 (.d (.list 6 (a0.map e_api_Sample))))))
          (OpJs.cons (OpJ.lss (ltN hN rfl) (Opd.tmp 17 (.d (.int .i64 s8.1))) (Opd.tmp 19 (.d (.int .i64 (a0.length : Int)))))
          (OpJs.cons (OpJ.move (ltN hN rfl) (Opd.tmp 20 (.d (.bool (decide (s8.1 < (a0.length : Int)))))))
          (OpJs.cons (OpJ.opt' (v := (.d (.int .i64 s8.2.1))) (OpJ.move (ltN hN rfl) (Opd.tmp 8 (.d (.int .i64 s8.2.1)))) (by rfl) (GuardV.plain _) (ltN hN rfl) (by rfl) (by rfl) (by rfl) (by rfl) (OptL.keep rfl OptL.nil))
          (OpJs.cons (OpJ.opt' (v := (.d (.list 6 (a1.map e_api_Sample)))) (OpJ.move (ltN hN rfl) (Opd.tmp 1 (.d (.list 6 (a1.map e_api_Sample))))) (by rfl) (GuardV.plain _) (ltN hN rfl) (by rfl) (by rfl) (by rfl) (by rfl) (OptL.keep rfl OptL.nil))
          (OpJs.cons (OpJ.opt' (v := (.d (.int .i64 (a1.length : Int)))) (OpJ.val (v' := (.d (.int .i64 (a1.length : Int)))) (by simp) (OpJ.lenD Try.underlying31 (ltN hN rfl) (Opd.tmp 23 (.d (.list 6 (a1.map e_api_Sample)))))) (by rfl) (GuardV.plain _) (ltN hN rfl) (by rfl) (by rfl) (by rfl) (by rfl) (OptL.opt OptL.nil))
          (OpJs.cons (OpJ.opt' (v := (.d (.bool (decide (s8.2.1 < (a1.length : Int)))))) (OpJ.lss (ltN hN rfl) (Opd.tmp 22 (.d (.int .i64 s8.2.1))) (Opd.tmp 24 (.d (.int .i64 (a1.length : Int))))) (by rfl) (GuardV.plain _) (ltN hN rfl) (by rfl) (by rfl) (by rfl) (by rfl) (OptL.opt (OptL.opt OptL.nil)))
          (OpJs.cons (OpJ.pickOr rfl (ltN hN rfl) (Opd.tmp 21 (.d (.bool (decide (s8.1 < (a0.length : Int)))))) (Opd.tmp 25 (.opt ((decide (s8.1 < (a0.length : Int))) == false) (.d (.bool (decide (s8.2.1 < (a1.length : Int))))))))
          (OpJs.nil))))))))))) (by rfl) (by rfl) ?_
        refine seqQ_n ?_
        refine AWp.ghost (Mat.pat [] [(0, (.d (.list 6 (a0.map e_api_Sample)))), (1, (.d (.list 6 (a1.map e_api_Sample)))), (6, (.sref 3006 6 0 s8.2.2.length)), (7, (.d (.int .i64 s8.1))), (8, (.d (.int .i64 s8.2.1))), (26, (.d (.bool ((decide (s8.1 < (a0.length : Int))) || (decide (s8.2.1 < (a1.length : Int)))))))] [(3006, some (.row 36 6 (s8.2.2.map e_api_Sample)))] hB (by rfl) (by rfl) (by rfl)) ?_
        refine AWp.cond (b := ((decide (s8.1 < (a0.length : Int))) || (decide (s8.2.1 < (a1.length : Int))))) (by rfl) (fun hg71 => ?_) (fun hg71 => ?_)
        · replace h := ite_t hg71 h
          refine AWp.skip ?_
          refine seqQ_n ?_
          refine AWp.block ?_
          refine AWp.block ?_
          refine AWp.seq ?_
          refine AWp.cut h (fun m76 : Bool => ([(0, (.d (.list 6 (a0.map e_api_Sample)))), (1, (.d (.list 6 (a1.map e_api_Sample)))), (6, (.sref 3006 6 0 s8.2.2.length)), (7, (.d (.int .i64 s8.1))), (8, (.d (.int .i64 s8.2.1))), (38, (.d (.bool m76)))] : EL)) (fun m76 : Bool => ([(3006, some (.row 36 6 (s8.2.2.map e_api_Sample)))] : OL)) (fun m76 h E' O' hmat => ?_) (fun j77 hjj77 h => ?_)
          · refine seqQ_n ?_
            refine AWp.ghost hmat ?_
            refine AWp.cond (b := m76) (by rfl) (fun hg78 => ?_) (fun hg78 => ?_)
            · replace h := ite_t hg78 h
              refine AWp.seq ?_
              obtain ⟨x79, hx79, h⟩ := bindS h
              obtain ⟨hc80, h⟩ := chk_some h
              refine AWp.region (OpJs.cons (OpJ.move (ltN hN rfl) (Opd.tmp 6 (.sref 3006 6 0 s8.2.2.length)))
                (OpJs.cons (OpJ.move (ltN hN rfl) (Opd.tmp 0 (.d (.list 6 (a0.map e_api_Sample)))))
                (OpJs.cons (OpJ.move (ltN hN rfl) (Opd.tmp 7 (.d (.int .i64 s8.1))))
                (OpJs.cons (OpJ.indexD (el := (e_api_Sample x79)) Try.underlying31 tyS36 (idx_some hx79).1 (get_map e_api_Sample (idx_some hx79).2) (ltN hN rfl) (Opd.tmp 63 (.d (.list 6 (a0.map e_api_Sample)))) (Opd.tmp 64 (.d (.int .i64 s8.1))))
                (OpJs.cons (OpJ.loadD tyS36 (by rfl) (by rfl) (ltN hN rfl) (Opd.tmp 65 (.dptr (e_api_Sample x79))))
                (OpJs.cons (OpJ.buildSlice Try.underlying31 tyS36 tyZD36 (by rfl) (by decide) (by decide) (Opds.cons (Opd.tmp 66 (.d (e_api_Sample x79))) Opds.nil) (by kernel_rfl) (es := ([(e_api_Sample x79)] : List D)) (by rfl) (by rfl) (by kernel_rfl) (by simp) (ltN hN rfl))
                (OpJs.cons (OpJ.append hB Try.underlying31 tyE36 (nm := 1068) (by decide) (es := s8.2.2.map e_api_Sample) (ys := ([x79] : List api_Sample).map e_api_Sample) (es' := (s8.2.2 ++ ([x79] : List api_Sample)).map e_api_Sample) (len := (s8.2.2 ++ ([x79] : List api_Sample)).length) (by simp) (by simp) (map_sz (f := e_api_Sample) (fun _ => rfl)) (by rw [List.length_map]; exact lim_mulN hc80 (by decide)) (by rw [List.length_map]; exact lim_leN hc80) (ltN hN rfl) (by simp) (Opd.tmp 62 (.sref 3006 6 0 s8.2.2.length)) (Opd.tmp 67 (.d (.list 6 (([x79] : List api_Sample).map e_api_Sample)))))
                (OpJs.cons (OpJ.assign (ltN hN rfl) (Opd.tmp 68 (.sref 1068 6 0 ((s8.2.2 ++ ([x79] : List api_Sample)).length))))
                (OpJs.nil))))))))) (by rfl) (by rfl) ?_
              refine seqQ_n ?_
              refine AWp.ghost (Mat.pat [] [(0, (.d (.list 6 (a0.map e_api_Sample)))), (1, (.d (.list 6 (a1.map e_api_Sample)))), (6, (.sref 1068 6 0 ((s8.2.2 ++ ([x79] : List api_Sample)).length))), (7, (.d (.int .i64 s8.1))), (8, (.d (.int .i64 s8.2.1)))] [(1068, some (.row 36 6 ((s8.2.2 ++ ([x79] : List api_Sample)).map e_api_Sample)))] hB (by rfl) (by rfl) (by rfl)) ?_
              refine AWp.region (OpJs.cons (OpJ.move (ltN hN rfl) (Opd.tmp 7 (.d (.int .i64 s8.1))))
                (OpJs.cons (OpJ.add (ltN hN rfl) (Opd.tmp 69 (.d (.int .i64 s8.1))) (Opd.int .i64 (1)))
                (OpJs.cons (OpJ.assign (ltN hN rfl) (Opd.tmp 70 (.d (.int .i64 (w64 (s8.1 + (1 : Int)))))))
                (OpJs.nil)))) (by rfl) (by rfl) ?_
              refine blkQ_n ?_
              refine blkQ_n ?_
              obtain rfl := Option.some.inj h
              exact ⟨rfl, (Mat.trans (Mat.pat [] [(0, (.d (.list 6 (a0.map e_api_Sample)))), (1, (.d (.list 6 (a1.map e_api_Sample)))), (6, (.sref 1068 6 0 ((s8.2.2 ++ ([x79] : List api_Sample)).length))), (7, (.d (.int .i64 (w64 (s8.1 + (1 : Int)))))), (8, (.d (.int .i64 s8.2.1)))] [(1068, some (.row 36 6 ((s8.2.2 ++ ([x79] : List api_Sample)).map e_api_Sample)))] hB (by rfl) (by rfl) (by rfl)) (Mat.pat [(3006, 1068)] ((fun s8 : Int × Int × (List api_Sample) => ([(0, (.d (.list 6 (a0.map e_api_Sample)))), (1, (.d (.list 6 (a1.map e_api_Sample)))), (6, (.sref 3006 6 0 s8.2.2.length)), (7, (.d (.int .i64 s8.1))), (8, (.d (.int .i64 s8.2.1)))] : EL)) ((w64 (s8.1 + (1 : Int))), s8.2.1, (s8.2.2 ++ ([x79] : List api_Sample)))) ((fun s8 : Int × Int × (List api_Sample) => ([(3006, some (.row 36 6 (s8.2.2.map e_api_Sample)))] : OL)) ((w64 (s8.1 + (1 : Int))), s8.2.1, (s8.2.2 ++ ([x79] : List api_Sample)))) hB (by rfl) (by rfl) (by rfl)))⟩
            · replace h := ite_f hg78 h
              refine AWp.seq ?_
              refine AWp.cut h (fun m84 : Bool => ([(0, (.d (.list 6 (a0.map e_api_Sample)))), (1, (.d (.list 6 (a1.map e_api_Sample)))), (6, (.sref 3006 6 0 s8.2.2.length)), (7, (.d (.int .i64 s8.1))), (8, (.d (.int .i64 s8.2.1))), (71, (.d (.bool m84)))] : EL)) (fun m84 : Bool => ([(3006, some (.row 36 6 (s8.2.2.map e_api_Sample)))] : OL)) (fun m84 h E' O' hmat => ?_) (fun j85 hjj85 h => ?_)
              · refine seqQ_n ?_
                refine AWp.ghost hmat ?_
                refine AWp.cond (b := m84) (by rfl) (fun hg86 => ?_) (fun hg86 => ?_)
                · replace h := ite_t hg86 h
                  refine AWp.seq ?_
                  obtain ⟨x87, hx87, h⟩ := bindS h
                  obtain ⟨hc88, h⟩ := chk_some h
                  refine AWp.region (OpJs.cons (OpJ.move (ltN hN rfl) (Opd.tmp 6 (.sref 3006 6 0 s8.2.2.length)))
                    (OpJs.cons (OpJ.move (ltN hN rfl) (Opd.tmp 1 (.d (.list 6 (a1.map e_api_Sample)))))
                    (OpJs.cons (OpJ.move (ltN hN rfl) (Opd.tmp 8 (.d (.int .i64 s8.2.1))))
                    (OpJs.cons (OpJ.indexD (el := (e_api_Sample x87)) Try.underlying31 tyS36 (idx_some hx87).1 (get_map e_api_Sample (idx_some hx87).2) (ltN hN rfl) (Opd.tmp 90 (.d (.list 6 (a1.map e_api_Sample)))) (Opd.tmp 91 (.d (.int .i64 s8.2.1))))
                    (OpJs.cons (OpJ.loadD tyS36 (by rfl) (by rfl) (ltN hN rfl) (Opd.tmp 92 (.dptr (e_api_Sample x87))))
                    (OpJs.cons (OpJ.buildSlice Try.underlying31 tyS36 tyZD36 (by rfl) (by decide) (by decide) (Opds.cons (Opd.tmp 93 (.d (e_api_Sample x87))) Opds.nil) (by kernel_rfl) (es := ([(e_api_Sample x87)] : List D)) (by rfl) (by rfl) (by kernel_rfl) (by simp) (ltN hN rfl))
                    (OpJs.cons (OpJ.append hB Try.underlying31 tyE36 (nm := 1095) (by decide) (es := s8.2.2.map e_api_Sample) (ys := ([x87] : List api_Sample).map e_api_Sample) (es' := (s8.2.2 ++ ([x87] : List api_Sample)).map e_api_Sample) (len := (s8.2.2 ++ ([x87] : List api_Sample)).length) (by simp) (by simp) (map_sz (f := e_api_Sample) (fun _ => rfl)) (by rw [List.length_map]; exact lim_mulN hc88 (by decide)) (by rw [List.length_map]; exact lim_leN hc88) (ltN hN rfl) (by simp) (Opd.tmp 89 (.sref 3006 6 0 s8.2.2.length)) (Opd.tmp 94 (.d (.list 6 (([x87] : List api_Sample).map e_api_Sample)))))
                    (OpJs.cons (OpJ.assign (ltN hN rfl) (Opd.tmp 95 (.sref 1095 6 0 ((s8.2.2 ++ ([x87] : List api_Sample)).length))))
                    (OpJs.nil))))))))) (by rfl) (by rfl) ?_
                  refine seqQ_n ?_
                  refine AWp.ghost (Mat.pat [] [(0, (.d (.list 6 (a0.map e_api_Sample)))), (1, (.d (.list 6 (a1.map e_api_Sample)))), (6, (.sref 1095 6 0 ((s8.2.2 ++ ([x87] : List api_Sample)).length))), (7, (.d (.int .i64 s8.1))), (8, (.d (.int .i64 s8.2.1)))] [(1095, some (.row 36 6 ((s8.2.2 ++ ([x87] : List api_Sample)).map e_api_Sample)))] hB (by rfl) (by rfl) (by rfl)) ?_
                  refine AWp.region (OpJs.cons (OpJ.move (ltN hN rfl) (Opd.tmp 8 (.d (.int .i64 s8.2.1))))
                    (OpJs.cons (OpJ.add (ltN hN rfl) (Opd.tmp 96 (.d (.int .i64 s8.2.1))) (Opd.int .i64 (1)))
                    (OpJs.cons (OpJ.assign (ltN hN rfl) (Opd.tmp 97 (.d (.int .i64 (w64 (s8.2.1 + (1 : Int)))))))
                    (OpJs.nil)))) (by rfl) (by rfl) ?_
                  refine blkQ_n ?_
                  refine blkQ_n ?_
                  obtain rfl := Option.some.inj h
                  exact ⟨rfl, (Mat.trans (Mat.pat [] [(0, (.d (.list 6 (a0.map e_api_Sample)))), (1, (.d (.list 6 (a1.map e_api_Sample)))), (6, (.sref 1095 6 0 ((s8.2.2 ++ ([x87] : List api_Sample)).length))), (7, (.d (.int .i64 s8.1))), (8, (.d (.int .i64 (w64 (s8.2.1 + (1 : Int))))))] [(1095, some (.row 36 6 ((s8.2.2 ++ ([x87] : List api_Sample)).map e_api_Sample)))] hB (by rfl) (by rfl) (by rfl)) (Mat.pat [(3006, 1095)] ((fun s8 : Int × Int × (List api_Sample) => ([(0, (.d (.list 6 (a0.map e_api_Sample)))), (1, (.d (.list 6 (a1.map e_api_Sample)))), (6, (.sref 3006 6 0 s8.2.2.length)), (7, (.d (.int .i64 s8.1))), (8, (.d (.int .i64 s8.2.1)))] : EL)) (s8.1, (w64 (s8.2.1 + (1 : Int))), (s8.2.2 ++ ([x87] : List api_Sample)))) ((fun s8 : Int × Int × (List api_Sample) => ([(3006, some (.row 36 6 (s8.2.2.map e_api_Sample)))] : OL)) (s8.1, (w64 (s8.2.1 + (1 : Int))), (s8.2.2 ++ ([x87] : List api_Sample)))) hB (by rfl) (by rfl) (by rfl)))⟩
                · replace h := ite_f hg86 h
                  refine AWp.seq ?_
                  obtain ⟨x89, hx89, h⟩ := bindS h
                  obtain ⟨x90, hx90, h⟩ := bindS h
                  refine AWp.draws (by kernel_rfl) (OpJs.cons (OpJ.move (ltN hN rfl) (Opd.tmp 0 (.d (.list 6 (a0.map e_api_Sample)))))
                    (OpJs.cons (OpJ.move (ltN hN rfl) (Opd.tmp 7 (.d (.int .i64 s8.1))))
                    (OpJs.cons (OpJ.indexD (el := (e_api_Sample x89)) Try.underlying31 tyS36 (idx_some hx89).1 (get_map e_api_Sample (idx_some hx89).2) (ltN hN rfl) (Opd.tmp 99 (.d (.list 6 (a0.map e_api_Sample)))) (Opd.tmp 100 (.d (.int .i64 s8.1))))
                    (OpJs.cons (OpJ.loadD tyS36 (by rfl) (by rfl) (ltN hN rfl) (Opd.tmp 101 (.dptr (e_api_Sample x89))))
                    (OpJs.cons (OpJ.move (ltN hN rfl) (Opd.tmp 1 (.d (.list 6 (a1.map e_api_Sample)))))
                    (OpJs.cons (OpJ.move (ltN hN rfl) (Opd.tmp 8 (.d (.int .i64 s8.2.1))))
                    (OpJs.cons (OpJ.indexD (el := (e_api_Sample x90)) Try.underlying31 tyS36 (idx_some hx90).1 (get_map e_api_Sample (idx_some hx90).2) (ltN hN rfl) (Opd.tmp 103 (.d (.list 6 (a1.map e_api_Sample)))) (Opd.tmp 104 (.d (.int .i64 s8.2.1))))
                    (OpJs.cons (OpJ.loadD tyS36 (by rfl) (by rfl) (ltN hN rfl) (Opd.tmp 105 (.dptr (e_api_Sample x90))))
                    (OpJs.cons (OpJ.neqD (h := 2) (FitE.st Try.underlying36 rfl held36 (FitF.cons (x := (.int .i64 x89.fTick)) (y := (.int .i64 x90.fTick)) (by decide) rfl tyS3 ⟨rfl, rfl⟩ ⟨rfl, rfl⟩ (FitE.int (h := 0) x89.fTick x90.fTick Try.underlying3) (FitF.cons (x := (.int .i64 x89.fSeq)) (y := (.int .i64 x90.fSeq)) (by decide) rfl tyS3 ⟨rfl, rfl⟩ ⟨rfl, rfl⟩ (FitE.int (h := 0) x89.fSeq x90.fSeq Try.underlying3) (FitF.cons (x := (.int .i64 x89.fPool)) (y := (.int .i64 x90.fPool)) (by decide) rfl tyS3 ⟨rfl, rfl⟩ ⟨rfl, rfl⟩ (FitE.int (h := 0) x89.fPool x90.fPool Try.underlying3) (FitF.cons (x := (.int .i64 x89.fIn)) (y := (.int .i64 x90.fIn)) (by decide) rfl tyS3 ⟨rfl, rfl⟩ ⟨rfl, rfl⟩ (FitE.int (h := 0) x89.fIn x90.fIn Try.underlying3) (FitF.cons (x := (.int .i64 x89.fOut)) (y := (.int .i64 x90.fOut)) (by decide) rfl tyS3 ⟨rfl, rfl⟩ ⟨rfl, rfl⟩ (FitE.int (h := 0) x89.fOut x90.fOut Try.underlying3) (FitF.cons (x := (.int .i64 x89.fBytes)) (y := (.int .i64 x90.fBytes)) (by decide) rfl tyS3 ⟨rfl, rfl⟩ ⟨rfl, rfl⟩ (FitE.int (h := 0) x89.fBytes x90.fBytes Try.underlying3) FitF.nil))))))) eqg36 ⟨rfl, rfl⟩ (by rfl) (ltN hN rfl) (Opd.tmp 102 (.d (e_api_Sample x89))) (Opd.tmp 106 (.d (e_api_Sample x90))))
                    (OpJs.cons (OpJ.assign (ltN hN rfl) (Opd.tmp 107 (.d (.bool (!((x89.fTick == x90.fTick) && ((x89.fSeq == x90.fSeq) && ((x89.fPool == x90.fPool) && ((x89.fIn == x90.fIn) && ((x89.fOut == x90.fOut) && ((x89.fBytes == x90.fBytes) && true)))))))))))
                    (OpJs.nil))))))))))) (by kernel_rfl) (by rfl) (by rfl) ?_
                  refine seqQ_n ?_
                  refine AWp.ghost (Mat.pat [] [(0, (.d (.list 6 (a0.map e_api_Sample)))), (1, (.d (.list 6 (a1.map e_api_Sample)))), (6, (.sref 3006 6 0 s8.2.2.length)), (7, (.d (.int .i64 s8.1))), (8, (.d (.int .i64 s8.2.1))), (98, (.d (.bool (!((x89.fTick == x90.fTick) && ((x89.fSeq == x90.fSeq) && ((x89.fPool == x90.fPool) && ((x89.fIn == x90.fIn) && ((x89.fOut == x90.fOut) && ((x89.fBytes == x90.fBytes) && true))))))))))] [(3006, some (.row 36 6 (s8.2.2.map e_api_Sample)))] hB (by rfl) (by rfl) (by rfl)) ?_
                  refine AWp.cond (b := (!((x89.fTick == x90.fTick) && ((x89.fSeq == x90.fSeq) && ((x89.fPool == x90.fPool) && ((x89.fIn == x90.fIn) && ((x89.fOut == x90.fOut) && ((x89.fBytes == x90.fBytes) && true)))))))) (by rfl) (fun hg91 => ?_) (fun hg91 => ?_)
                  · replace h := ite_t hg91 h
                    refine AWp.seq ?_
                    refine AWp.region (OpJs.cons (OpJ.assign (ltN hN rfl) Opd.nils)
                      (OpJs.cons (OpJ.assign (ltN hN rfl) (Opd.int .i64 (8)))
                      (OpJs.nil))) (by rfl) (by rfl) ?_
                    refine seqQ_n ?_
                    refine AWp.ghost (Mat.pat [] [(4, .nils), (5, (.d (.int .i64 (8 : Int))))] [] hB (by rfl) (by rfl) (by rfl)) ?_
                    refine AWp.ret ?_
                    refine blkQ_r ?_
                    refine blkQ_r ?_
                    obtain rfl := Option.some.inj h
                    exact ⟨(fun hc => by cases hc), rfl, (Mat.pat [] ((fun _ : Unit => ([(4, .nils), (5, (.d (.int .i64 (8 : Int))))] : EL)) ()) ((fun _ : Unit => ([] : OL)) ()) hB (by rfl) (by rfl) (by rfl))⟩
                  · replace h := ite_f hg91 h
                    refine AWp.seq ?_
                    obtain ⟨x92, hx92, h⟩ := bindS h
                    obtain ⟨hc93, h⟩ := chk_some h
                    refine AWp.region (OpJs.cons (OpJ.move (ltN hN rfl) (Opd.tmp 6 (.sref 3006 6 0 s8.2.2.length)))
                      (OpJs.cons (OpJ.move (ltN hN rfl) (Opd.tmp 0 (.d (.list 6 (a0.map e_api_Sample)))))
                      (OpJs.cons (OpJ.move (ltN hN rfl) (Opd.tmp 7 (.d (.int .i64 s8.1))))
                      (OpJs.cons (OpJ.indexD (el := (e_api_Sample x92)) Try.underlying31 tyS36 (idx_some hx92).1 (get_map e_api_Sample (idx_some hx92).2) (ltN hN rfl) (Opd.tmp 28 (.d (.list 6 (a0.map e_api_Sample)))) (Opd.tmp 29 (.d (.int .i64 s8.1))))
                      (OpJs.cons (OpJ.loadD tyS36 (by rfl) (by rfl) (ltN hN rfl) (Opd.tmp 30 (.dptr (e_api_Sample x92))))
                      (OpJs.cons (OpJ.buildSlice Try.underlying31 tyS36 tyZD36 (by rfl) (by decide) (by decide) (Opds.cons (Opd.tmp 31 (.d (e_api_Sample x92))) Opds.nil) (by kernel_rfl) (es := ([(e_api_Sample x92)] : List D)) (by rfl) (by rfl) (by kernel_rfl) (by simp) (ltN hN rfl))
                      (OpJs.cons (OpJ.append hB Try.underlying31 tyE36 (nm := 1033) (by decide) (es := s8.2.2.map e_api_Sample) (ys := ([x92] : List api_Sample).map e_api_Sample) (es' := (s8.2.2 ++ ([x92] : List api_Sample)).map e_api_Sample) (len := (s8.2.2 ++ ([x92] : List api_Sample)).length) (by simp) (by simp) (map_sz (f := e_api_Sample) (fun _ => rfl)) (by rw [List.length_map]; exact lim_mulN hc93 (by decide)) (by rw [List.length_map]; exact lim_leN hc93) (ltN hN rfl) (by simp) (Opd.tmp 27 (.sref 3006 6 0 s8.2.2.length)) (Opd.tmp 32 (.d (.list 6 (([x92] : List api_Sample).map e_api_Sample)))))
                      (OpJs.cons (OpJ.assign (ltN hN rfl) (Opd.tmp 33 (.sref 1033 6 0 ((s8.2.2 ++ ([x92] : List api_Sample)).length))))
                      (OpJs.nil))))))))) (by rfl) (by rfl) ?_
                    refine seqQ_n ?_
                    refine AWp.ghost (Mat.pat [] [(0, (.d (.list 6 (a0.map e_api_Sample)))), (1, (.d (.list 6 (a1.map e_api_Sample)))), (6, (.sref 1033 6 0 ((s8.2.2 ++ ([x92] : List api_Sample)).length))), (7, (.d (.int .i64 s8.1))), (8, (.d (.int .i64 s8.2.1)))] [(1033, some (.row 36 6 ((s8.2.2 ++ ([x92] : List api_Sample)).map e_api_Sample)))] hB (by rfl) (by rfl) (by rfl)) ?_
                    refine AWp.seq ?_
                    refine AWp.region (OpJs.cons (OpJ.move (ltN hN rfl) (Opd.tmp 7 (.d (.int .i64 s8.1))))
                      (OpJs.cons (OpJ.add (ltN hN rfl) (Opd.tmp 34 (.d (.int .i64 s8.1))) (Opd.int .i64 (1)))
                      (OpJs.cons (OpJ.assign (ltN hN rfl) (Opd.tmp 35 (.d (.int .i64 (w64 (s8.1 + (1 : Int)))))))
                      (OpJs.nil)))) (by rfl) (by rfl) ?_
                    refine seqQ_n ?_
                    refine AWp.ghost (Mat.pat [] [(0, (.d (.list 6 (a0.map e_api_Sample)))), (1, (.d (.list 6 (a1.map e_api_Sample)))), (6, (.sref 1033 6 0 ((s8.2.2 ++ ([x92] : List api_Sample)).length))), (7, (.d (.int .i64 (w64 (s8.1 + (1 : Int)))))), (8, (.d (.int .i64 s8.2.1)))] [(1033, some (.row 36 6 ((s8.2.2 ++ ([x92] : List api_Sample)).map e_api_Sample)))] hB (by rfl) (by rfl) (by rfl)) ?_
                    refine AWp.region (OpJs.cons (OpJ.move (ltN hN rfl) (Opd.tmp 8 (.d (.int .i64 s8.2.1))))
                      (OpJs.cons (OpJ.add (ltN hN rfl) (Opd.tmp 36 (.d (.int .i64 s8.2.1))) (Opd.int .i64 (1)))
                      (OpJs.cons (OpJ.assign (ltN hN rfl) (Opd.tmp 37 (.d (.int .i64 (w64 (s8.2.1 + (1 : Int)))))))
                      (OpJs.nil)))) (by rfl) (by rfl) ?_
                    refine blkQ_n ?_
                    refine blkQ_n ?_
                    obtain rfl := Option.some.inj h
                    exact ⟨rfl, (Mat.trans (Mat.pat [] [(0, (.d (.list 6 (a0.map e_api_Sample)))), (1, (.d (.list 6 (a1.map e_api_Sample)))), (6, (.sref 1033 6 0 ((s8.2.2 ++ ([x92] : List api_Sample)).length))), (7, (.d (.int .i64 (w64 (s8.1 + (1 : Int)))))), (8, (.d (.int .i64 (w64 (s8.2.1 + (1 : Int))))))] [(1033, some (.row 36 6 ((s8.2.2 ++ ([x92] : List api_Sample)).map e_api_Sample)))] hB (by rfl) (by rfl) (by rfl)) (Mat.pat [(3006, 1033)] ((fun s8 : Int × Int × (List api_Sample) => ([(0, (.d (.list 6 (a0.map e_api_Sample)))), (1, (.d (.list 6 (a1.map e_api_Sample)))), (6, (.sref 3006 6 0 s8.2.2.length)), (7, (.d (.int .i64 s8.1))), (8, (.d (.int .i64 s8.2.1)))] : EL)) ((w64 (s8.1 + (1 : Int))), (w64 (s8.2.1 + (1 : Int))), (s8.2.2 ++ ([x92] : List api_Sample)))) ((fun s8 : Int × Int × (List api_Sample) => ([(3006, some (.row 36 6 (s8.2.2.map e_api_Sample)))] : OL)) ((w64 (s8.1 + (1 : Int))), (w64 (s8.2.1 + (1 : Int))), (s8.2.2 ++ ([x92] : List api_Sample)))) hB (by rfl) (by rfl) (by rfl)))⟩
              · rcases Bool.eq_false_or_eq_true (s8.1 == (a0.length : Int)) with hg94 | hg94
                · replace h := ite_t hg94 h
                  refine AWp.draws (by kernel_rfl) (OpJs.cons (OpJ.move (ltN hN rfl) (Opd.tmp 7 (.d (.int .i64 s8.1))))
                    (OpJs.cons (OpJ.move (ltN hN rfl) (Opd.tmp 0 (.d (.list 6 (a0.map e_api_Sample)))))
                    (OpJs.cons (OpJ.val (v' := (.d (.int .i64 (a0.length : Int)))) (by simp) (OpJ.lenD Try.underlying31 (ltN hN rfl) (Opd.tmp 73 (.d (.list 6 (a0.map e_api_Sample))))))
                    (OpJs.cons (OpJ.eqlI (ltN hN rfl) (Opd.tmp 72 (.d (.int .i64 s8.1))) (Opd.tmp 74 (.d (.int .i64 (a0.length : Int)))))
                    (OpJs.cons (OpJ.val (v' := .d (.bool true)) (by rw [hg94]) (OpJ.move (ltN hN rfl) (Opd.tmp 75 (.d (.bool (s8.1 == (a0.length : Int)))))))
                    (OpJs.cons (OpJ.skipU (ltN hN rfl) (by rfl))
                    (OpJs.cons (OpJ.skipU (ltN hN rfl) (by rfl))
                    (OpJs.cons (OpJ.skipU (ltN hN rfl) (by rfl))
                    (OpJs.cons (OpJ.skipU (ltN hN rfl) (by rfl))
                    (OpJs.cons (OpJ.skipU (ltN hN rfl) (by rfl))
                    (OpJs.cons (OpJ.skipU (ltN hN rfl) (by rfl))
                    (OpJs.cons (OpJ.skipU (ltN hN rfl) (by rfl))
                    (OpJs.cons (OpJ.skipU (ltN hN rfl) (by rfl))
                    (OpJs.cons (OpJ.skipU (ltN hN rfl) (by rfl))
                    (OpJs.cons (OpJ.skipU (ltN hN rfl) (by rfl))
                    (OpJs.cons (OpJ.skipU (ltN hN rfl) (by rfl))
                    (OpJs.cons (OpJ.pickT (ltN hN rfl) (Opd.tmp 76 (.d (.bool true))) (Opd.bool true))
                    (OpJs.cons (OpJ.assign (ltN hN rfl) (Opd.tmp 88 (.d (.bool true))))
                    (OpJs.nil))))))))))))))))))) (by kernel_rfl) (by rfl) (by rfl) ?_
                  exact hjj85 _ h _ _ (Mat.trans (Mat.pat [] [(0, (.d (.list 6 (a0.map e_api_Sample)))), (1, (.d (.list 6 (a1.map e_api_Sample)))), (6, (.sref 3006 6 0 s8.2.2.length)), (7, (.d (.int .i64 s8.1))), (8, (.d (.int .i64 s8.2.1))), (71, (.d (.bool true)))] [(3006, some (.row 36 6 (s8.2.2.map e_api_Sample)))] hB (by rfl) (by rfl) (by rfl)) (Mat.pat [] ((fun m84 : Bool => ([(0, (.d (.list 6 (a0.map e_api_Sample)))), (1, (.d (.list 6 (a1.map e_api_Sample)))), (6, (.sref 3006 6 0 s8.2.2.length)), (7, (.d (.int .i64 s8.1))), (8, (.d (.int .i64 s8.2.1))), (71, (.d (.bool m84)))] : EL)) true) ((fun m84 : Bool => ([(3006, some (.row 36 6 (s8.2.2.map e_api_Sample)))] : OL)) true) hB (by rfl) (by rfl) (by rfl)))
                · replace h := ite_f hg94 h
                  obtain ⟨x95, hx95, h⟩ := bindS h
                  obtain ⟨x96, hx96, h⟩ := bindS h
                  refine AWp.draws (by kernel_rfl) (OpJs.cons (OpJ.move (ltN hN rfl) (Opd.tmp 7 (.d (.int .i64 s8.1))))
                    (OpJs.cons (OpJ.move (ltN hN rfl) (Opd.tmp 0 (.d (.list 6 (a0.map e_api_Sample)))))
                    (OpJs.cons (OpJ.val (v' := (.d (.int .i64 (a0.length : Int)))) (by simp) (OpJ.lenD Try.underlying31 (ltN hN rfl) (Opd.tmp 73 (.d (.list 6 (a0.map e_api_Sample))))))
                    (OpJs.cons (OpJ.eqlI (ltN hN rfl) (Opd.tmp 72 (.d (.int .i64 s8.1))) (Opd.tmp 74 (.d (.int .i64 (a0.length : Int)))))
                    (OpJs.cons (OpJ.val (v' := .d (.bool false)) (by rw [hg94]) (OpJ.move (ltN hN rfl) (Opd.tmp 75 (.d (.bool (s8.1 == (a0.length : Int)))))))
                    (OpJs.cons (OpJ.guarded (by rfl) (OpJ.move (ltN hN rfl) (Opd.tmp 0 (.d (.list 6 (a0.map e_api_Sample))))))
                    (OpJs.cons (OpJ.guarded (by rfl) (OpJ.move (ltN hN rfl) (Opd.tmp 7 (.d (.int .i64 s8.1)))))
                    (OpJs.cons (OpJ.guarded (by rfl) (OpJ.indexD (el := (e_api_Sample x95)) Try.underlying31 tyS36 (idx_some hx95).1 (get_map e_api_Sample (idx_some hx95).2) (ltN hN rfl) (Opd.tmp 77 (.d (.list 6 (a0.map e_api_Sample)))) (Opd.tmp 78 (.d (.int .i64 s8.1)))))
                    (OpJs.cons (OpJ.guarded (by rfl) (OpJ.fieldD Try.underlying36 (by rfl) (o := 1) (by rfl) tyS3 (by decide) (ds := [(.int .i64 x95.fTick), (.int .i64 x95.fSeq), (.int .i64 x95.fPool), (.int .i64 x95.fIn), (.int .i64 x95.fOut), (.int .i64 x95.fBytes)]) (e := (.int .i64 x95.fSeq)) (by rfl) (by rfl) (ltN hN rfl) (Opd.tmp 79 (.dptr (e_api_Sample x95)))))
                    (OpJs.cons (OpJ.guarded (by rfl) (OpJ.loadD tyS3 (by rfl) (by rfl) (ltN hN rfl) (Opd.tmp 80 (.dptr (.int .i64 x95.fSeq)))))
                    (OpJs.cons (OpJ.guarded (by rfl) (OpJ.move (ltN hN rfl) (Opd.tmp 1 (.d (.list 6 (a1.map e_api_Sample))))))
                    (OpJs.cons (OpJ.guarded (by rfl) (OpJ.move (ltN hN rfl) (Opd.tmp 8 (.d (.int .i64 s8.2.1)))))
                    (OpJs.cons (OpJ.guarded (by rfl) (OpJ.indexD (el := (e_api_Sample x96)) Try.underlying31 tyS36 (idx_some hx96).1 (get_map e_api_Sample (idx_some hx96).2) (ltN hN rfl) (Opd.tmp 82 (.d (.list 6 (a1.map e_api_Sample)))) (Opd.tmp 83 (.d (.int .i64 s8.2.1)))))
                    (OpJs.cons (OpJ.guarded (by rfl) (OpJ.fieldD Try.underlying36 (by rfl) (o := 1) (by rfl) tyS3 (by decide) (ds := [(.int .i64 x96.fTick), (.int .i64 x96.fSeq), (.int .i64 x96.fPool), (.int .i64 x96.fIn), (.int .i64 x96.fOut), (.int .i64 x96.fBytes)]) (e := (.int .i64 x96.fSeq)) (by rfl) (by rfl) (ltN hN rfl) (Opd.tmp 84 (.dptr (e_api_Sample x96)))))
                    (OpJs.cons (OpJ.guarded (by rfl) (OpJ.loadD tyS3 (by rfl) (by rfl) (ltN hN rfl) (Opd.tmp 85 (.dptr (.int .i64 x96.fSeq)))))
                    (OpJs.cons (OpJ.guarded (by rfl) (OpJ.gtr (ltN hN rfl) (Opd.tmp 81 (.d (.int .i64 x95.fSeq))) (Opd.tmp 86 (.d (.int .i64 x96.fSeq)))))
                    (OpJs.cons (OpJ.pickF (ltN hN rfl) (Opd.tmp 76 (.d (.bool false))) (Opd.tmp 87 (.d (.bool (decide (x96.fSeq < x95.fSeq))))))
                    (OpJs.cons (OpJ.assign (ltN hN rfl) (Opd.tmp 88 (.d (.bool (decide (x96.fSeq < x95.fSeq))))))
                    (OpJs.nil))))))))))))))))))) (by kernel_rfl) (by rfl) (by rfl) ?_
                  exact hjj85 _ h _ _ (Mat.trans (Mat.pat [] [(0, (.d (.list 6 (a0.map e_api_Sample)))), (1, (.d (.list 6 (a1.map e_api_Sample)))), (6, (.sref 3006 6 0 s8.2.2.length)), (7, (.d (.int .i64 s8.1))), (8, (.d (.int .i64 s8.2.1))), (71, (.d (.bool (decide (x96.fSeq < x95.fSeq)))))] [(3006, some (.row 36 6 (s8.2.2.map e_api_Sample)))] hB (by rfl) (by rfl) (by rfl)) (Mat.pat [] ((fun m84 : Bool => ([(0, (.d (.list 6 (a0.map e_api_Sample)))), (1, (.d (.list 6 (a1.map e_api_Sample)))), (6, (.sref 3006 6 0 s8.2.2.length)), (7, (.d (.int .i64 s8.1))), (8, (.d (.int .i64 s8.2.1))), (71, (.d (.bool m84)))] : EL)) (decide (x96.fSeq < x95.fSeq))) ((fun m84 : Bool => ([(3006, some (.row 36 6 (s8.2.2.map e_api_Sample)))] : OL)) (decide (x96.fSeq < x95.fSeq))) hB (by rfl) (by rfl) (by rfl)))
          · rcases Bool.eq_false_or_eq_true (s8.2.1 == (a1.length : Int)) with hg97 | hg97
            · replace h := ite_t hg97 h
              refine AWp.draws (by kernel_rfl) (OpJs.cons (OpJ.move (ltN hN rfl) (Opd.tmp 8 (.d (.int .i64 s8.2.1))))
                (OpJs.cons (OpJ.move (ltN hN rfl) (Opd.tmp 1 (.d (.list 6 (a1.map e_api_Sample)))))
                (OpJs.cons (OpJ.val (v' := (.d (.int .i64 (a1.length : Int)))) (by simp) (OpJ.lenD Try.underlying31 (ltN hN rfl) (Opd.tmp 40 (.d (.list 6 (a1.map e_api_Sample))))))
                (OpJs.cons (OpJ.eqlI (ltN hN rfl) (Opd.tmp 39 (.d (.int .i64 s8.2.1))) (Opd.tmp 41 (.d (.int .i64 (a1.length : Int)))))
                (OpJs.cons (OpJ.val (v' := .d (.bool true)) (by rw [hg97]) (OpJ.move (ltN hN rfl) (Opd.tmp 42 (.d (.bool (s8.2.1 == (a1.length : Int)))))))
                (OpJs.cons (OpJ.skipU (ltN hN rfl) (by rfl))
                (OpJs.cons (OpJ.skipU (ltN hN rfl) (by rfl))
                (OpJs.cons (OpJ.skipU (ltN hN rfl) (by rfl))
                (OpJs.cons (OpJ.skipU (ltN hN rfl) (by rfl))
                (OpJs.cons (OpJ.skipU (ltN hN rfl) (by rfl))
                (OpJs.cons (OpJ.skipV (ltN hN rfl) (by rfl))
                (OpJs.cons (OpJ.skipV (ltN hN rfl) (by rfl))
                (OpJs.cons (OpJ.skipV (ltN hN rfl) (by rfl))
                (OpJs.cons (OpJ.skipV (ltN hN rfl) (by rfl))
                (OpJs.cons (OpJ.skipV (ltN hN rfl) (by rfl))
                (OpJs.cons (OpJ.skipV (ltN hN rfl) (by rfl))
                (OpJs.cons (OpJ.skipV (ltN hN rfl) (by rfl))
                (OpJs.cons (OpJ.skipV (ltN hN rfl) (by rfl))
                (OpJs.cons (OpJ.skipV (ltN hN rfl) (by rfl))
                (OpJs.cons (OpJ.skipV (ltN hN rfl) (by rfl))
                (OpJs.cons (OpJ.skipV (ltN hN rfl) (by rfl))
                (OpJs.cons (OpJ.skipU (ltN hN rfl) (by rfl))
                (OpJs.cons (OpJ.pickT (ltN hN rfl) (Opd.tmp 43 (.d (.bool true))) (Opd.bool true))
                (OpJs.cons (OpJ.assign (ltN hN rfl) (Opd.tmp 61 (.d (.bool true))))
                (OpJs.nil))))))))))))))))))))))))) (by kernel_rfl) (by rfl) (by rfl) ?_
              exact hjj77 _ h _ _ (Mat.trans (Mat.pat [] [(0, (.d (.list 6 (a0.map e_api_Sample)))), (1, (.d (.list 6 (a1.map e_api_Sample)))), (6, (.sref 3006 6 0 s8.2.2.length)), (7, (.d (.int .i64 s8.1))), (8, (.d (.int .i64 s8.2.1))), (38, (.d (.bool true)))] [(3006, some (.row 36 6 (s8.2.2.map e_api_Sample)))] hB (by rfl) (by rfl) (by rfl)) (Mat.pat [] ((fun m76 : Bool => ([(0, (.d (.list 6 (a0.map e_api_Sample)))), (1, (.d (.list 6 (a1.map e_api_Sample)))), (6, (.sref 3006 6 0 s8.2.2.length)), (7, (.d (.int .i64 s8.1))), (8, (.d (.int .i64 s8.2.1))), (38, (.d (.bool m76)))] : EL)) true) ((fun m76 : Bool => ([(3006, some (.row 36 6 (s8.2.2.map e_api_Sample)))] : OL)) true) hB (by rfl) (by rfl) (by rfl)))
            · replace h := ite_f hg97 h
              rcases Bool.eq_false_or_eq_true (decide (s8.1 < (a0.length : Int))) with hg98 | hg98
              · replace h := ite_t hg98 h
                obtain ⟨x99, hx99, h⟩ := bindS h
                obtain ⟨x100, hx100, h⟩ := bindS h
                refine AWp.draws (by kernel_rfl) (OpJs.cons (OpJ.move (ltN hN rfl) (Opd.tmp 8 (.d (.int .i64 s8.2.1))))
                  (OpJs.cons (OpJ.move (ltN hN rfl) (Opd.tmp 1 (.d (.list 6 (a1.map e_api_Sample)))))
                  (OpJs.cons (OpJ.val (v' := (.d (.int .i64 (a1.length : Int)))) (by simp) (OpJ.lenD Try.underlying31 (ltN hN rfl) (Opd.tmp 40 (.d (.list 6 (a1.map e_api_Sample))))))
                  (OpJs.cons (OpJ.eqlI (ltN hN rfl) (Opd.tmp 39 (.d (.int .i64 s8.2.1))) (Opd.tmp 41 (.d (.int .i64 (a1.length : Int)))))
                  (OpJs.cons (OpJ.val (v' := .d (.bool false)) (by rw [hg97]) (OpJ.move (ltN hN rfl) (Opd.tmp 42 (.d (.bool (s8.2.1 == (a1.length : Int)))))))
                  (OpJs.cons (OpJ.guarded (by rfl) (OpJ.move (ltN hN rfl) (Opd.tmp 7 (.d (.int .i64 s8.1)))))
                  (OpJs.cons (OpJ.guarded (by rfl) (OpJ.move (ltN hN rfl) (Opd.tmp 0 (.d (.list 6 (a0.map e_api_Sample))))))
                  (OpJs.cons (OpJ.guarded (by rfl) (OpJ.val (v' := (.d (.int .i64 (a0.length : Int)))) (by simp) (OpJ.lenD Try.underlying31 (ltN hN rfl) (Opd.tmp 45 (.d (.list 6 (a0.map e_api_Sample)))))))
                  (OpJs.cons (OpJ.guarded (by rfl) (OpJ.lss (ltN hN rfl) (Opd.tmp 44 (.d (.int .i64 s8.1))) (Opd.tmp 46 (.d (.int .i64 (a0.length : Int))))))
                  (OpJs.cons (OpJ.guarded (by rfl) (OpJ.val (v' := .d (.bool true)) (by rw [hg98]) (OpJ.move (ltN hN rfl) (Opd.tmp 47 (.d (.bool (decide (s8.1 < (a0.length : Int)))))))))
                  (OpJs.cons (OpJ.guarded (by rfl) (OpJ.move (ltN hN rfl) (Opd.tmp 0 (.d (.list 6 (a0.map e_api_Sample))))))
                  (OpJs.cons (OpJ.guarded (by rfl) (OpJ.move (ltN hN rfl) (Opd.tmp 7 (.d (.int .i64 s8.1)))))
                  (OpJs.cons (OpJ.guarded (by rfl) (OpJ.indexD (el := (e_api_Sample x99)) Try.underlying31 tyS36 (idx_some hx99).1 (get_map e_api_Sample (idx_some hx99).2) (ltN hN rfl) (Opd.tmp 49 (.d (.list 6 (a0.map e_api_Sample)))) (Opd.tmp 50 (.d (.int .i64 s8.1)))))
                  (OpJs.cons (OpJ.guarded (by rfl) (OpJ.fieldD Try.underlying36 (by rfl) (o := 1) (by rfl) tyS3 (by decide) (ds := [(.int .i64 x99.fTick), (.int .i64 x99.fSeq), (.int .i64 x99.fPool), (.int .i64 x99.fIn), (.int .i64 x99.fOut), (.int .i64 x99.fBytes)]) (e := (.int .i64 x99.fSeq)) (by rfl) (by rfl) (ltN hN rfl) (Opd.tmp 51 (.dptr (e_api_Sample x99)))))
                  (OpJs.cons (OpJ.guarded (by rfl) (OpJ.loadD tyS3 (by rfl) (by rfl) (ltN hN rfl) (Opd.tmp 52 (.dptr (.int .i64 x99.fSeq)))))
                  (OpJs.cons (OpJ.guarded (by rfl) (OpJ.move (ltN hN rfl) (Opd.tmp 1 (.d (.list 6 (a1.map e_api_Sample))))))
                  (OpJs.cons (OpJ.guarded (by rfl) (OpJ.move (ltN hN rfl) (Opd.tmp 8 (.d (.int .i64 s8.2.1)))))
                  (OpJs.cons (OpJ.guarded (by rfl) (OpJ.indexD (el := (e_api_Sample x100)) Try.underlying31 tyS36 (idx_some hx100).1 (get_map e_api_Sample (idx_some hx100).2) (ltN hN rfl) (Opd.tmp 54 (.d (.list 6 (a1.map e_api_Sample)))) (Opd.tmp 55 (.d (.int .i64 s8.2.1)))))
                  (OpJs.cons (OpJ.guarded (by rfl) (OpJ.fieldD Try.underlying36 (by rfl) (o := 1) (by rfl) tyS3 (by decide) (ds := [(.int .i64 x100.fTick), (.int .i64 x100.fSeq), (.int .i64 x100.fPool), (.int .i64 x100.fIn), (.int .i64 x100.fOut), (.int .i64 x100.fBytes)]) (e := (.int .i64 x100.fSeq)) (by rfl) (by rfl) (ltN hN rfl) (Opd.tmp 56 (.dptr (e_api_Sample x100)))))
                  (OpJs.cons (OpJ.guarded (by rfl) (OpJ.loadD tyS3 (by rfl) (by rfl) (ltN hN rfl) (Opd.tmp 57 (.dptr (.int .i64 x100.fSeq)))))
                  (OpJs.cons (OpJ.guarded (by rfl) (OpJ.lss (ltN hN rfl) (Opd.tmp 53 (.d (.int .i64 x99.fSeq))) (Opd.tmp 58 (.d (.int .i64 x100.fSeq)))))
                  (OpJs.cons (OpJ.guarded (by rfl) (OpJ.pickT (ltN hN rfl) (Opd.tmp 48 (.d (.bool true))) (Opd.tmp 59 (.d (.bool (decide (x99.fSeq < x100.fSeq)))))))
                  (OpJs.cons (OpJ.pickF (ltN hN rfl) (Opd.tmp 43 (.d (.bool false))) (Opd.tmp 60 (.d (.bool (decide (x99.fSeq < x100.fSeq))))))
                  (OpJs.cons (OpJ.assign (ltN hN rfl) (Opd.tmp 61 (.d (.bool (decide (x99.fSeq < x100.fSeq))))))
                  (OpJs.nil))))))))))))))))))))))))) (by kernel_rfl) (by rfl) (by rfl) ?_
                exact hjj77 _ h _ _ (Mat.trans (Mat.pat [] [(0, (.d (.list 6 (a0.map e_api_Sample)))), (1, (.d (.list 6 (a1.map e_api_Sample)))), (6, (.sref 3006 6 0 s8.2.2.length)), (7, (.d (.int .i64 s8.1))), (8, (.d (.int .i64 s8.2.1))), (38, (.d (.bool (decide (x99.fSeq < x100.fSeq)))))] [(3006, some (.row 36 6 (s8.2.2.map e_api_Sample)))] hB (by rfl) (by rfl) (by rfl)) (Mat.pat [] ((fun m76 : Bool => ([(0, (.d (.list 6 (a0.map e_api_Sample)))), (1, (.d (.list 6 (a1.map e_api_Sample)))), (6, (.sref 3006 6 0 s8.2.2.length)), (7, (.d (.int .i64 s8.1))), (8, (.d (.int .i64 s8.2.1))), (38, (.d (.bool m76)))] : EL)) (decide (x99.fSeq < x100.fSeq))) ((fun m76 : Bool => ([(3006, some (.row 36 6 (s8.2.2.map e_api_Sample)))] : OL)) (decide (x99.fSeq < x100.fSeq))) hB (by rfl) (by rfl) (by rfl)))
              · replace h := ite_f hg98 h
                refine AWp.draws (by kernel_rfl) (OpJs.cons (OpJ.move (ltN hN rfl) (Opd.tmp 8 (.d (.int .i64 s8.2.1))))
                  (OpJs.cons (OpJ.move (ltN hN rfl) (Opd.tmp 1 (.d (.list 6 (a1.map e_api_Sample)))))
                  (OpJs.cons (OpJ.val (v' := (.d (.int .i64 (a1.length : Int)))) (by simp) (OpJ.lenD Try.underlying31 (ltN hN rfl) (Opd.tmp 40 (.d (.list 6 (a1.map e_api_Sample))))))
                  (OpJs.cons (OpJ.eqlI (ltN hN rfl) (Opd.tmp 39 (.d (.int .i64 s8.2.1))) (Opd.tmp 41 (.d (.int .i64 (a1.length : Int)))))
                  (OpJs.cons (OpJ.val (v' := .d (.bool false)) (by rw [hg97]) (OpJ.move (ltN hN rfl) (Opd.tmp 42 (.d (.bool (s8.2.1 == (a1.length : Int)))))))
                  (OpJs.cons (OpJ.guarded (by rfl) (OpJ.move (ltN hN rfl) (Opd.tmp 7 (.d (.int .i64 s8.1)))))
                  (OpJs.cons (OpJ.guarded (by rfl) (OpJ.move (ltN hN rfl) (Opd.tmp 0 (.d (.list 6 (a0.map e_api_Sample))))))
                  (OpJs.cons (OpJ.guarded (by rfl) (OpJ.val (v' := (.d (.int .i64 (a0.length : Int)))) (by simp) (OpJ.lenD Try.underlying31 (ltN hN rfl) (Opd.tmp 45 (.d (.list 6 (a0.map e_api_Sample)))))))
                  (OpJs.cons (OpJ.guarded (by rfl) (OpJ.lss (ltN hN rfl) (Opd.tmp 44 (.d (.int .i64 s8.1))) (Opd.tmp 46 (.d (.int .i64 (a0.length : Int))))))
                  (OpJs.cons (OpJ.guarded (by rfl) (OpJ.val (v' := .d (.bool false)) (by rw [hg98]) (OpJ.move (ltN hN rfl) (Opd.tmp 47 (.d (.bool (decide (s8.1 < (a0.length : Int)))))))))
                  (OpJs.cons (OpJ.skipU (ltN hN rfl) (by rfl))
                  (OpJs.cons (OpJ.skipU (ltN hN rfl) (by rfl))
                  (OpJs.cons (OpJ.skipU (ltN hN rfl) (by rfl))
                  (OpJs.cons (OpJ.skipU (ltN hN rfl) (by rfl))
                  (OpJs.cons (OpJ.skipU (ltN hN rfl) (by rfl))
                  (OpJs.cons (OpJ.skipU (ltN hN rfl) (by rfl))
                  (OpJs.cons (OpJ.skipU (ltN hN rfl) (by rfl))
                  (OpJs.cons (OpJ.skipU (ltN hN rfl) (by rfl))
                  (OpJs.cons (OpJ.skipU (ltN hN rfl) (by rfl))
                  (OpJs.cons (OpJ.skipU (ltN hN rfl) (by rfl))
                  (OpJs.cons (OpJ.skipU (ltN hN rfl) (by rfl))
                  (OpJs.cons (OpJ.guarded (by rfl) (OpJ.pickF (ltN hN rfl) (Opd.tmp 48 (.d (.bool false))) (Opd.bool false)))
                  (OpJs.cons (OpJ.pickF (ltN hN rfl) (Opd.tmp 43 (.d (.bool false))) (Opd.tmp 60 (.d (.bool false))))
                  (OpJs.cons (OpJ.assign (ltN hN rfl) (Opd.tmp 61 (.d (.bool false))))
                  (OpJs.nil))))))))))))))))))))))))) (by kernel_rfl) (by rfl) (by rfl) ?_
                exact hjj77 _ h _ _ (Mat.trans (Mat.pat [] [(0, (.d (.list 6 (a0.map e_api_Sample)))), (1, (.d (.list 6 (a1.map e_api_Sample)))), (6, (.sref 3006 6 0 s8.2.2.length)), (7, (.d (.int .i64 s8.1))), (8, (.d (.int .i64 s8.2.1))), (38, (.d (.bool false)))] [(3006, some (.row 36 6 (s8.2.2.map e_api_Sample)))] hB (by rfl) (by rfl) (by rfl)) (Mat.pat [] ((fun m76 : Bool => ([(0, (.d (.list 6 (a0.map e_api_Sample)))), (1, (.d (.list 6 (a1.map e_api_Sample)))), (6, (.sref 3006 6 0 s8.2.2.length)), (7, (.d (.int .i64 s8.1))), (8, (.d (.int .i64 s8.2.1))), (38, (.d (.bool m76)))] : EL)) false) ((fun m76 : Bool => ([(3006, some (.row 36 6 (s8.2.2.map e_api_Sample)))] : OL)) false) hB (by rfl) (by rfl) (by rfl)))
        · replace h := ite_f hg71 h
          refine AWp.exit ?_
          refine seqQ_e ?_
          obtain rfl := Option.some.inj h
          exact ⟨(fun hc => by cases hc), rfl, (Mat.pat [] ((fun p70 : (List api_Sample) => ([(6, (.sref 3006 6 0 p70.length))] : EL)) s8.2.2) ((fun p70 : (List api_Sample) => ([(3006, some (.row 36 6 (p70.map e_api_Sample)))] : OL)) s8.2.2) hB (by rfl) (by rfl) (by rfl))⟩
      · rcases x101 with _ | p70
        · obtain ⟨rfl, hmat⟩ := hR
          refine blkQ_r ?_
          refine seqQ_r ?_
          obtain rfl := Option.some.inj h
          exact ⟨.inl rfl, _, _, (Mat.trans hmat (Mat.pat [] [(4, .nils), (5, (.d (.int .i64 (8 : Int))))] [] hB (by rfl) (by rfl) (by rfl))), [(.d (.list 6 (([] : List api_Sample).map e_api_Sample))), (.d (.int .i64 (8 : Int)))], (Res.tmpC (by rfl) (Co.nils 6) (Res.tmp (by rfl) (by rfl) Res.nil)), rfl, by rfl, by rfl, by rfl⟩
        · obtain ⟨rfl, hmat⟩ := hR
          refine blkQ_hit ?_
          refine seqQ_n ?_
          refine AWp.ghost hmat ?_
          refine AWp.seq ?_
          refine AWp.seq ?_
          refine AWp.region (OpJs.cons (OpJ.move (ltN hN rfl) (Opd.tmp 6 (.sref 3006 6 0 p70.length)))
            (OpJs.cons (OpJ.lenS (obj := (.row 36 6 (p70.map e_api_Sample))) Try.underlying31 (ltN hN rfl) (Opd.tmp 108 (.sref 3006 6 0 p70.length)))
            (OpJs.cons (OpJ.gtr (ltN hN rfl) (Opd.tmp 109 (.d (.int .i64 (p70.length : Int)))) (Opd.int .i64 (1000)))
            (OpJs.nil)))) (by rfl) (by rfl) ?_
          refine seqQ_n ?_
          refine AWp.ghost (Mat.pat [] [(6, (.sref 3006 6 0 p70.length)), (110, (.d (.bool (decide ((1000 : Int) < (p70.length : Int))))))] [(3006, some (.row 36 6 (p70.map e_api_Sample)))] hB (by rfl) (by rfl) (by rfl)) ?_
          refine AWp.cond (b := (decide ((1000 : Int) < (p70.length : Int)))) (by rfl) (fun hg103 => ?_) (fun hg103 => ?_)
          · replace h := ite_t hg103 h
            refine AWp.seq ?_
            refine AWp.region (OpJs.cons (OpJ.assign (ltN hN rfl) Opd.nils)
              (OpJs.cons (OpJ.assign (ltN hN rfl) (Opd.int .i64 (3)))
              (OpJs.nil))) (by rfl) (by rfl) ?_
            refine seqQ_n ?_
            refine AWp.ghost (Mat.pat [] [(4, .nils), (5, (.d (.int .i64 (3 : Int))))] [] hB (by rfl) (by rfl) (by rfl)) ?_
            refine AWp.ret ?_
            refine seqQ_r ?_
            obtain rfl := Option.some.inj h
            exact ⟨.inl rfl, _, _, (Mat.pat [] [(4, .nils), (5, (.d (.int .i64 (3 : Int))))] [] hB (by rfl) (by rfl) (by rfl)), [(.d (.list 6 (([] : List api_Sample).map e_api_Sample))), (.d (.int .i64 (3 : Int)))], (Res.tmpC (by rfl) (Co.nils 6) (Res.tmp (by rfl) (by rfl) Res.nil)), rfl, by rfl, by rfl, by rfl⟩
          · replace h := ite_f hg103 h
            refine AWp.skip ?_
            refine seqQ_n ?_
            refine AWp.seq ?_
            refine AWp.seq ?_
            refine AWp.ghost (Mat.freezeAll (n := 3006) (k := 6) (by rfl) (by rfl) (by first | (simp; done) | (simp; omega))) ?_
            obtain ⟨r104, hr104, h⟩ := bindS h
            refine AWp.region (OpJs.cons (OpJ.move (ltN hN rfl) (Opd.tmp 6 (.d (.list 6 (p70.map e_api_Sample)))))
              (OpJs.cons (OpJ.callFn hB fnOk17 (exchangepointref37_Valid_ac p70 r104 hr104) [] (by kernel_rfl) (ltN hN rfl) (by kernel_rfl) (OpdL.cons (Opd.tmp 111 (.d (.list 6 (p70.map e_api_Sample)))) OpdL.nil))
              (OpJs.cons (OpJ.not (ltN hN rfl) (Opd.tmp 112 (.d (.bool r104))))
              (OpJs.nil)))) (by rfl) (by rfl) ?_
            refine seqQ_n ?_
            refine AWp.ghost (Mat.pat [] [(6, (.d (.list 6 (p70.map e_api_Sample)))), (113, (.d (.bool (!r104))))] [] hB (by rfl) (by rfl) (by rfl)) ?_
            refine AWp.cond (b := (!r104)) (by rfl) (fun hg105 => ?_) (fun hg105 => ?_)
            · replace h := ite_t hg105 h
              refine AWp.seq ?_
              refine AWp.region (OpJs.cons (OpJ.assign (ltN hN rfl) Opd.nils)
                (OpJs.cons (OpJ.assign (ltN hN rfl) (Opd.int .i64 (35)))
                (OpJs.nil))) (by rfl) (by rfl) ?_
              refine seqQ_n ?_
              refine AWp.ghost (Mat.pat [] [(4, .nils), (5, (.d (.int .i64 (35 : Int))))] [] hB (by rfl) (by rfl) (by rfl)) ?_
              refine AWp.ret ?_
              refine seqQ_r ?_
              obtain rfl := Option.some.inj h
              exact ⟨.inl rfl, _, _, (Mat.pat [] [(4, .nils), (5, (.d (.int .i64 (35 : Int))))] [] hB (by rfl) (by rfl) (by rfl)), [(.d (.list 6 (([] : List api_Sample).map e_api_Sample))), (.d (.int .i64 (35 : Int)))], (Res.tmpC (by rfl) (Co.nils 6) (Res.tmp (by rfl) (by rfl) Res.nil)), rfl, by rfl, by rfl, by rfl⟩
            · replace h := ite_f hg105 h
              refine AWp.skip ?_
              refine seqQ_n ?_
              refine AWp.seq ?_
              refine AWp.region (OpJs.cons (OpJ.move (ltN hN rfl) (Opd.tmp 6 (.d (.list 6 (p70.map e_api_Sample)))))
                (OpJs.cons (OpJ.assign (ltN hN rfl) (Opd.tmp 114 (.d (.list 6 (p70.map e_api_Sample)))))
                (OpJs.cons (OpJ.assign (ltN hN rfl) (Opd.int .i64 (0)))
                (OpJs.nil)))) (by rfl) (by rfl) ?_
              refine seqQ_n ?_
              refine AWp.ghost (Mat.pat [] [(4, (.d (.list 6 (p70.map e_api_Sample)))), (5, (.d (.int .i64 (0 : Int))))] [] hB (by rfl) (by rfl) (by rfl)) ?_
              refine AWp.ret ?_
              obtain rfl := Option.some.inj h
              exact ⟨.inl rfl, _, _, (Mat.pat [] [(4, (.d (.list 6 (p70.map e_api_Sample)))), (5, (.d (.int .i64 (0 : Int))))] [] hB (by rfl) (by rfl) (by rfl)), [(.d (.list 6 (p70.map e_api_Sample))), (.d (.int .i64 (0 : Int)))], (Res.tmp (by rfl) (by rfl) (Res.tmp (by rfl) (by rfl) Res.nil)), rfl, by rfl, by rfl, by rfl⟩
  · obtain ⟨r106, hr106, h⟩ := bindS h
    rcases Bool.eq_false_or_eq_true (!r106) with hg107 | hg107
    · replace h := ite_t hg107 h
      refine AWp.region (OpJs.cons (OpJ.move (ltN hN rfl) (Opd.tmp 0 (.d (.list 6 (a0.map e_api_Sample)))))
        (OpJs.cons (OpJ.callFn hB fnOk17 (exchangepointref37_Valid_ac a0 r106 hr106) [] (by kernel_rfl) (ltN hN rfl) (by kernel_rfl) (OpdL.cons (Opd.tmp 9 (.d (.list 6 (a0.map e_api_Sample)))) OpdL.nil))
        (OpJs.cons (OpJ.not (ltN hN rfl) (Opd.tmp 10 (.d (.bool r106))))
        (OpJs.cons (OpJ.val (v' := .d (.bool true)) (by rw [hg107]) (OpJ.move (ltN hN rfl) (Opd.tmp 11 (.d (.bool (!r106))))))
        (OpJs.cons (OpJ.skipU (ltN hN rfl) (by rfl))
        (OpJs.cons (OpJ.skipU (ltN hN rfl) (by rfl))
        (OpJs.cons (OpJ.skipU (ltN hN rfl) (by rfl))
        (OpJs.cons (OpJ.pickT (ltN hN rfl) (Opd.tmp 12 (.d (.bool true))) (Opd.bool true))
        (OpJs.nil))))))))) (by rfl) (by rfl) ?_
      exact hjj6 _ h _ _ (Mat.trans (Mat.pat [] [(0, (.d (.list 6 (a0.map e_api_Sample)))), (1, (.d (.list 6 (a1.map e_api_Sample)))), (16, (.d (.bool true)))] [] hB (by rfl) (by rfl) (by rfl)) (Mat.pat [] ((fun m5 : Bool => ([(0, (.d (.list 6 (a0.map e_api_Sample)))), (1, (.d (.list 6 (a1.map e_api_Sample)))), (16, (.d (.bool m5)))] : EL)) true) ((fun m5 : Bool => ([] : OL)) true) hB (by rfl) (by rfl) (by rfl)))
    · replace h := ite_f hg107 h
      obtain ⟨r108, hr108, h⟩ := bindS h
      refine AWp.region (OpJs.cons (OpJ.move (ltN hN rfl) (Opd.tmp 0 (.d (.list 6 (a0.map e_api_Sample)))))
        (OpJs.cons (OpJ.callFn hB fnOk17 (exchangepointref37_Valid_ac a0 r106 hr106) [] (by kernel_rfl) (ltN hN rfl) (by kernel_rfl) (OpdL.cons (Opd.tmp 9 (.d (.list 6 (a0.map e_api_Sample)))) OpdL.nil))
        (OpJs.cons (OpJ.not (ltN hN rfl) (Opd.tmp 10 (.d (.bool r106))))
        (OpJs.cons (OpJ.val (v' := .d (.bool false)) (by rw [hg107]) (OpJ.move (ltN hN rfl) (Opd.tmp 11 (.d (.bool (!r106))))))
        (OpJs.cons (OpJ.guarded (by rfl) (OpJ.move (ltN hN rfl) (Opd.tmp 1 (.d (.list 6 (a1.map e_api_Sample))))))
        (OpJs.cons (OpJ.guarded (by rfl) (OpJ.callFn hB fnOk17 (exchangepointref37_Valid_ac a1 r108 hr108) [] (by kernel_rfl) (ltN hN rfl) (by kernel_rfl) (OpdL.cons (Opd.tmp 13 (.d (.list 6 (a1.map e_api_Sample)))) OpdL.nil)))
        (OpJs.cons (OpJ.guarded (by rfl) (OpJ.not (ltN hN rfl) (Opd.tmp 14 (.d (.bool r108)))))
        (OpJs.cons (OpJ.pickF (ltN hN rfl) (Opd.tmp 12 (.d (.bool false))) (Opd.tmp 15 (.d (.bool (!r108)))))
        (OpJs.nil))))))))) (by rfl) (by rfl) ?_
      exact hjj6 _ h _ _ (Mat.trans (Mat.pat [] [(0, (.d (.list 6 (a0.map e_api_Sample)))), (1, (.d (.list 6 (a1.map e_api_Sample)))), (16, (.d (.bool (!r108))))] [] hB (by rfl) (by rfl) (by rfl)) (Mat.pat [] ((fun m5 : Bool => ([(0, (.d (.list 6 (a0.map e_api_Sample)))), (1, (.d (.list 6 (a1.map e_api_Sample)))), (16, (.d (.bool m5)))] : EL)) (!r108)) ((fun m5 : Bool => ([] : OL)) (!r108)) hB (by rfl) (by rfl) (by rfl)))


end Go.Proofs.Ytdjdoeengjdmmaa
