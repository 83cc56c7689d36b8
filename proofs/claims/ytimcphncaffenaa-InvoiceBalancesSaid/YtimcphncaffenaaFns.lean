/- Printed by gen.py: the Go functions as plain functions, and that the code does what they say. -/
import Derived.Test.YtimcphncaffenaaChecked
import Derived.Test.YtimcphncaffenaaVcYB
import Derived.Test.YtimcphncaffenaaVcZ
import Derived.KernelRfl
import Derived.Test.YtimcphncaffenaaFnsC
import Derived.Test.YtimcphncaffenaaExt
import Derived.Test.YtimcphncaffenaaVcV
import Derived.Test.YtimcphncaffenaaVcQ
namespace Go.Proofs.Ytimcphncaffenaa
open Go Go.Vc
noncomputable def invoice_Correct_L0 (r4 : api_Invoice × Int) (s6 : Int × (List api_Line)) : Option ((((List api_Line))) ⊕ (Int × (List api_Line))) :=
  (if (decide (s6.1 < (r4.1.fLines.length : Int))) = true then
  (idx r4.1.fLines s6.1).bind fun x15 =>
  (invoice_sums_add_2 s6.2 x15 (1 : Int)).bind fun r16 =>
  some (.inr ((w64 (s6.1 + (1 : Int))), r16.flines))
  else
  some (.inl s6.2))
noncomputable def invoice_Correct_L1 (r1 : api_Invoice × Int) (s19 : Int × (List api_Line)) : Option ((((List api_Line))) ⊕ (Int × (List api_Line))) :=
  (if (decide (s19.1 < (r1.1.fLines.length : Int))) = true then
  (idx r1.1.fLines s19.1).bind fun x28 =>
  (invoice_sums_add_2 s19.2 x28 (-1 : Int)).bind fun r29 =>
  some (.inr ((w64 (s19.1 + (1 : Int))), r29.flines))
  else
  some (.inl s19.2))
noncomputable def invoice_Correct (a0 : (List api_Invoice)) (a1 : api_Member) (a2 : api_Tariff) (a3 : (List api_Series)) : Option (api_Invoice × Int) :=
  (invoice_Sum a0).bind fun r1 =>
  (if (r1.2 != (0 : Int)) = true then
  some ((api_Invoice.mk (0 : Int) (0 : Int) (0 : Int) ([] : List api_Line) (0 : Int)), r1.2)
  else
  (if (a1.fASN != r1.1.fMember) = true then
  some ((api_Invoice.mk (0 : Int) (0 : Int) (0 : Int) ([] : List api_Line) (0 : Int)), (32 : Int))
  else
  (invoice_Make a1 r1.1.fMonth a2 a3).bind fun r4 =>
  (if (r4.2 != (0 : Int)) = true then
  some ((api_Invoice.mk (0 : Int) (0 : Int) (0 : Int) ([] : List api_Line) (0 : Int)), r4.2)
  else
  (loop (invoice_Correct_L0 r4) ((0 : Int), ([] : List api_Line))).bind fun p13 =>
  (loop (invoice_Correct_L1 r1) ((0 : Int), p13)).bind fun p26 =>
  (slices_DeleteFunc p26).bind fun r32 =>
  (if ((r32.length : Int) == (0 : Int)) = true then
  some ((api_Invoice.mk (0 : Int) (0 : Int) (0 : Int) ([] : List api_Line) (0 : Int)), (7 : Int))
  else
  (invoice_sums_invoice_2 r32 r1.1.fMember r1.1.fMonth (w64 (r1.1.fVersion + (1 : Int)))).bind fun r34 =>
  (invoice_consistent r34.1).bind fun r35 =>
  (if (!r35) = true then
  some ((api_Invoice.mk (0 : Int) (0 : Int) (0 : Int) ([] : List api_Line) (0 : Int)), (3 : Int))
  else
  some (r34.1, (0 : Int)))))))
set_option maxHeartbeats 4000000 in
set_option maxRecDepth 100000 in
theorem invoice_Correct_ac (a0 : (List api_Invoice)) (a1 : api_Member) (a2 : api_Tariff) (a3 : (List api_Series)) (r : api_Invoice × Int) (h : invoice_Correct a0 a1 a2 a3 = some r) : AC Try.prog 21 [(.d (.list 5 (a0.map e_api_Invoice))), (.d (e_api_Member a1)), (.d (e_api_Tariff a2)), (.d (.list 4 (a3.map e_api_Series)))] [] (.tup [(.d (e_api_Invoice r.1)), (.d (.int .i64 r.2))]) [] := by
  refine AC.of_code2 Try.func21 rfl rfl (Nat.le_of_ble_eq_true (by rfl)) fun B hB hN => ?_
  have L {d : Nat} (h : Nat.blt d Try.f21.ntmps = true) : d < B.N := ltN hN h
  delta invoice_Correct at h
  refine sr (cg (OpJ.box hB (nm := 1005) (by decide) (by simp) rfl (L rfl) (q 1)) rfl (cg (OpJ.box hB (nm := 1006) (by decide) (by simp) rfl (L rfl) (q 2)) rfl (cg (OpJ.alloc hB tyZ45 (nm := 1008) (by decide) (L rfl)) rfl (c (OpJ.assign (L rfl) (Opd.int .i64 (0))) rfl cn)))) ?_
  refine gh [(0, _), (3, _), (5, _), (6, _), (8, _)] [(1005, some _), (1006, some _), (1008, some _)] hB rfl rfl (by rfl) ?_
  obtain ⟨r1, hr1, h⟩ := bindS h
  refine sr (c (mv hN (q 0)) rfl (cg (OpJ.callFn hB fnOk19 (invoice_Sum_ac a0 r1 hr1) [] (by kernel_rfl) (L rfl) (by kernel_rfl) (OpdL.cons (q 20) OpdL.nil)) rfl (c (mv hN (q 21)) rfl (c (OpJ.extract (by rfl) rfl (L rfl) (q 19)) rfl (c (OpJ.extract (by rfl) rfl (L rfl) (q 19)) rfl (cg (OpJ.alloc hB tyZ45 (nm := 1010) (by decide) (L rfl)) rfl (cg (OpJ.storeB tyS45 (SetAt.here _ _) (by rfl) (by rfl) (by simp) rfl (q 10) (q 22)) rfl (c (OpJ.assign (L rfl) (q 23)) rfl cn)))))))) ?_
  refine gh [(3, _), (5, _), (6, _), (8, _), (10, _), (11, _)] [(1005, some _), (1006, some _), (1008, some _), (1010, some _)] hB rfl rfl (by rfl) ?_
  refine AWp.seq ?_
  refine sr (c (mv hN (q 11)) rfl (c (OpJ.neqI (L rfl) (q 24) (Opd.int .i64 (0))) rfl cn)) ?_
  refine gh [(3, _), (5, _), (6, _), (8, _), (10, _), (11, _), (25, _)] [(1005, some _), (1006, some _), (1008, some _), (1010, some _)] hB rfl rfl (by rfl) ?_
  refine AWp.cond rfl (fun hg2 => ?_) (fun hg2 => ?_)
  · replace h := ite_t hg2 h
    refine sr (c (OpJ.build (places := [(0, 1), (1, 1), (2, 1), (3, 1), (4, 1)]) ⟨Try.underlying45, fun w => by kernel_rfl⟩ tyZS45 Opds.nil (by kernel_rfl) (r := (.st [(i6 0), (i6 0), (i6 0), .nils, (i6 0)])) (by rfl) (L rfl)) rfl (c (mv hN (q 11)) rfl (cg (OpJ.storeB tyS45 (SetAt.here _ _) (by rfl) (by rfl) (by simp) rfl (q 8) (q 26)) rfl (c (OpJ.assign (L rfl) (q 27)) rfl cn)))) ?_
    refine gh [(8, _), (9, _)] [(1008, some _)] hB rfl rfl (by rfl) ?_
    refine AWp.ret ?_
    refine seqQ_r ?_
    obtain rfl := Option.some.inj h
    exact ⟨.inl rfl, _, _, (Mat.trans (Mat.coeP (Ts := []) (Bs := [(1008, some (.box 45 (.d (.st [(.int .i64 0), (.int .i64 0), (.int .i64 0), (.list 3 (([] : List api_Line).map e_api_Line)), (.int .i64 0)]))))]) TwT.nil (TwB.cons (x := (.st [(i6 0), (i6 0), (i6 0), .nils, (i6 0)])) (by rfl) (Tw.leaf ⟨_, (Co.st (CoL.cons (Co.d _) (CoL.cons (Co.d _) (CoL.cons (Co.d _) (CoL.cons (Co.nils 3) (CoL.cons (Co.d _) CoL.nil)))))), rfl⟩) TwB.nil)) (mp [] [(8, (.ptr 1008 0 [])), (9, (i6 r1.2))] [(1008, some (.box 45 (.d (.st [(.int .i64 0), (.int .i64 0), (.int .i64 0), (.list 3 (([] : List api_Line).map e_api_Line)), (.int .i64 0)]))))] hB)), [(.d (.st [(.int .i64 0), (.int .i64 0), (.int .i64 0), (.list 3 (([] : List api_Line).map e_api_Line)), (.int .i64 0)])), (i6 r1.2)], (Res.cell (c := (.d (.st [(.int .i64 0), (.int .i64 0), (.int .i64 0), (.list 3 (([] : List api_Line).map e_api_Line)), (.int .i64 0)]))) (by rfl) (by rfl) tyS45 (by rfl) (by rfl) (by rfl) (Res.tmp (by rfl) (by rfl) Res.nil)), rfl, by rfl, by rfl, by rfl⟩
  · replace h := ite_f hg2 h
    refine AWp.skip ?_
    refine seqQ_n ?_
    refine AWp.seq ?_
    refine sr (c (ov (.ptr 1005 0 [0]) (fp hN Try.underlying24 0 tyS3 _ (q 5))) rfl (c (lb hN 24 _ _ tyS3 (ad _) (q 28)) rfl (c (ov (.ptr 1010 0 [0]) (fp hN Try.underlying45 0 tyS3 _ (q 10))) rfl (c (lb hN 45 _ _ tyS3 (ad _) (q 30)) rfl (c (OpJ.neqI (L rfl) (q 29) (q 31)) rfl cn))))) ?_
    refine gh [(3, _), (5, _), (6, _), (8, _), (10, _), (32, _)] [(1005, some _), (1006, some _), (1008, some _), (1010, some _)] hB rfl rfl (by rfl) ?_
    refine AWp.cond rfl (fun hg3 => ?_) (fun hg3 => ?_)
    · replace h := ite_t hg3 h
      refine sr (c (OpJ.build (places := [(0, 1), (1, 1), (2, 1), (3, 1), (4, 1)]) ⟨Try.underlying45, fun w => by kernel_rfl⟩ tyZS45 Opds.nil (by kernel_rfl) (r := (.st [(i6 0), (i6 0), (i6 0), .nils, (i6 0)])) (by rfl) (L rfl)) rfl (cg (OpJ.storeB tyS45 (SetAt.here _ _) (by rfl) (by rfl) (by simp) rfl (q 8) (q 33)) rfl (c (OpJ.assign (L rfl) (Opd.int .i64 (32))) rfl cn))) ?_
      refine gh [(8, _), (9, _)] [(1008, some _)] hB rfl rfl (by rfl) ?_
      refine AWp.ret ?_
      refine seqQ_r ?_
      obtain rfl := Option.some.inj h
      exact ⟨.inl rfl, _, _, (Mat.trans (Mat.coeP (Ts := []) (Bs := [(1008, some (.box 45 (.d (.st [(.int .i64 0), (.int .i64 0), (.int .i64 0), (.list 3 (([] : List api_Line).map e_api_Line)), (.int .i64 0)]))))]) TwT.nil (TwB.cons (x := (.st [(i6 0), (i6 0), (i6 0), .nils, (i6 0)])) (by rfl) (Tw.leaf ⟨_, (Co.st (CoL.cons (Co.d _) (CoL.cons (Co.d _) (CoL.cons (Co.d _) (CoL.cons (Co.nils 3) (CoL.cons (Co.d _) CoL.nil)))))), rfl⟩) TwB.nil)) (mp [] [(8, (.ptr 1008 0 [])), (9, (i6 (32 : Int)))] [(1008, some (.box 45 (.d (.st [(.int .i64 0), (.int .i64 0), (.int .i64 0), (.list 3 (([] : List api_Line).map e_api_Line)), (.int .i64 0)]))))] hB)), [(.d (.st [(.int .i64 0), (.int .i64 0), (.int .i64 0), (.list 3 (([] : List api_Line).map e_api_Line)), (.int .i64 0)])), (i6 (32 : Int))], (Res.cell (c := (.d (.st [(.int .i64 0), (.int .i64 0), (.int .i64 0), (.list 3 (([] : List api_Line).map e_api_Line)), (.int .i64 0)]))) (by rfl) (by rfl) tyS45 (by rfl) (by rfl) (by rfl) (Res.tmp (by rfl) (by rfl) Res.nil)), rfl, by rfl, by rfl, by rfl⟩
    · replace h := ite_f hg3 h
      refine AWp.skip ?_
      refine seqQ_n ?_
      obtain ⟨r4, hr4, h⟩ := bindS h
      refine sr (c (lb hN 24 _ _ tyS24 (At.here _) (q 5)) rfl (c (ov (.ptr 1010 1 [1]) (fp hN Try.underlying45 1 tyS3 _ (q 10))) rfl (c (lb hN 45 _ _ tyS3 (ad _) (q 36)) rfl (c (lb hN 27 _ _ tyS27 (At.here _) (q 6)) rfl (c (mv hN (q 3)) rfl (cg (OpJ.callFn hB fnOk13 (invoice_Make_ac a1 r1.1.fMonth a2 a3 r4 hr4) [] (by kernel_rfl) (L rfl) (by kernel_rfl) (OpdL.cons (q 35) (OpdL.cons (q 37) (OpdL.cons (q 38) (OpdL.cons (q 39) OpdL.nil))))) rfl (c (mv hN (q 40)) rfl (c (OpJ.extract (by rfl) rfl (L rfl) (q 34)) rfl (c (OpJ.extract (by rfl) rfl (L rfl) (q 34)) rfl (cg (OpJ.alloc hB tyZ45 (nm := 1012) (by decide) (L rfl)) rfl (cg (OpJ.storeB tyS45 (SetAt.here _ _) (by rfl) (by rfl) (by simp) rfl (q 12) (q 41)) rfl (c (OpJ.assign (L rfl) (q 42)) rfl cn)))))))))))) ?_
      refine gh [(8, _), (10, _), (11, _), (12, _)] [(1008, some _), (1010, some _), (1012, some _)] hB rfl rfl (by rfl) ?_
      refine AWp.seq ?_
      refine sr (c (mv hN (q 11)) rfl (c (OpJ.neqI (L rfl) (q 43) (Opd.int .i64 (0))) rfl cn)) ?_
      refine gh [(8, _), (10, _), (11, _), (12, _), (44, _)] [(1008, some _), (1010, some _), (1012, some _)] hB rfl rfl (by rfl) ?_
      refine AWp.cond rfl (fun hg5 => ?_) (fun hg5 => ?_)
      · replace h := ite_t hg5 h
        refine sr (c (OpJ.build (places := [(0, 1), (1, 1), (2, 1), (3, 1), (4, 1)]) ⟨Try.underlying45, fun w => by kernel_rfl⟩ tyZS45 Opds.nil (by kernel_rfl) (r := (.st [(i6 0), (i6 0), (i6 0), .nils, (i6 0)])) (by rfl) (L rfl)) rfl (c (mv hN (q 11)) rfl (cg (OpJ.storeB tyS45 (SetAt.here _ _) (by rfl) (by rfl) (by simp) rfl (q 8) (q 45)) rfl (c (OpJ.assign (L rfl) (q 46)) rfl cn)))) ?_
        refine gh [(8, _), (9, _)] [(1008, some _)] hB rfl rfl (by rfl) ?_
        refine AWp.ret ?_
        refine seqQ_r ?_
        obtain rfl := Option.some.inj h
        exact ⟨.inl rfl, _, _, (Mat.trans (Mat.coeP (Ts := []) (Bs := [(1008, some (.box 45 (.d (.st [(.int .i64 0), (.int .i64 0), (.int .i64 0), (.list 3 (([] : List api_Line).map e_api_Line)), (.int .i64 0)]))))]) TwT.nil (TwB.cons (x := (.st [(i6 0), (i6 0), (i6 0), .nils, (i6 0)])) (by rfl) (Tw.leaf ⟨_, (Co.st (CoL.cons (Co.d _) (CoL.cons (Co.d _) (CoL.cons (Co.d _) (CoL.cons (Co.nils 3) (CoL.cons (Co.d _) CoL.nil)))))), rfl⟩) TwB.nil)) (mp [] [(8, (.ptr 1008 0 [])), (9, (i6 r4.2))] [(1008, some (.box 45 (.d (.st [(.int .i64 0), (.int .i64 0), (.int .i64 0), (.list 3 (([] : List api_Line).map e_api_Line)), (.int .i64 0)]))))] hB)), [(.d (.st [(.int .i64 0), (.int .i64 0), (.int .i64 0), (.list 3 (([] : List api_Line).map e_api_Line)), (.int .i64 0)])), (i6 r4.2)], (Res.cell (c := (.d (.st [(.int .i64 0), (.int .i64 0), (.int .i64 0), (.list 3 (([] : List api_Line).map e_api_Line)), (.int .i64 0)]))) (by rfl) (by rfl) tyS45 (by rfl) (by rfl) (by rfl) (Res.tmp (by rfl) (by rfl) Res.nil)), rfl, by rfl, by rfl, by rfl⟩
      · replace h := ite_f hg5 h
        refine AWp.skip ?_
        refine seqQ_n ?_
        refine sr (cg (OpJ.alloc hB tyZ78 (nm := 1013) (by decide) (L rfl)) rfl cn) ?_
        refine gh [(8, _), (10, _), (12, _), (13, _)] [(1008, some _), (1010, some _), (1012, some _), (1013, some _)] hB rfl rfl (by rfl) ?_
        refine AWp.seq ?_
        refine sr (c (ov (.ptr 1012 3 [3]) (fp hN Try.underlying45 3 tyS43 _ (q 12))) rfl (c (lb hN 45 _ _ tyS43 (ad _) (q 47)) rfl (c (OpJ.val (v' := (i6 (r4.1.fLines.length : Int))) (by simp) (OpJ.lenD Try.underlying43 (L rfl) (q 48))) rfl (c (mv hN (Opd.int .i64 (0))) rfl cn)))) ?_
        refine gh [(8, _), (10, _), (13, _), (48, _), (49, _), (50, _)] [(1008, some _), (1010, some _), (1013, some _)] hB rfl rfl (by rfl) ?_
        refine AWp.block ?_
        obtain ⟨p13, hx18, h⟩ := bindS h
        refine lg (invoice_Correct_L0 r4) (fun s6 : Int × (List api_Line) => ([(8, (.ptr 1008 0 [])), (10, (.ptr 1010 0 [])), (13, (.ptr 1013 0 [])), (48, (qe_api_Line_3 r4.1.fLines)), (49, (i6 (r4.1.fLines.length : Int))), (50, (i6 s6.1))] : EL)) (fun s6 : Int × (List api_Line) => ([(1008, some (.box 45 (.st [(i6 0), (i6 0), (i6 0), .nils, (i6 0)]))), (1010, some (.box 45 (.d (e_api_Invoice r1.1)))), (1013, some (.box 78 (.st [(.sref 13130 3 0 s6.2.length)]))), (13130, some (we_api_Line_51_3 s6.2))] : OL)) (fun (p13 : ((List api_Line))) e E' O' => e = .exit 0 ∧ Mat B E' O' ([(8, (.ptr 1008 0 [])), (10, (.ptr 1010 0 [])), (13, (.ptr 1013 0 []))] : EL) ([(1008, some (.box 45 (.st [(i6 0), (i6 0), (i6 0), .nils, (i6 0)]))), (1010, some (.box 45 (.d (e_api_Invoice r1.1)))), (1013, some (.box 78 (.st [(.sref 13130 3 0 p13.length)]))), (13130, some (we_api_Line_51_3 p13))] : OL)) hx18 (Mat.trans (Mat.beginP (n := 13130) (e := 51) (sz := 3) (Ts := []) (Bs := [(1013, some (.box 78 (.st [(.sref 13130 3 0 0)])))]) hB (by decide) (by rfl) (by decide) TwT.nil (TwB.cons (x := (.st [.nils])) (by rfl) (Tw.st (TwL.cons (Tw.leaf ⟨rfl, rfl⟩) TwL.nil)) TwB.nil)) (mp [] _ _ hB)) (fun s6 y h => ?_) (fun e E' O' hR => ?_)
        · unfold invoice_Correct_L0 at h
          refine sr (c (OpJ.lss (L rfl) (q 50) (q 49)) rfl cn) ?_
          refine gh [(8, _), (10, _), (13, _), (48, _), (49, _), (50, _), (51, _)] [(1008, some _), (1010, some _), (1013, some _), (13130, some _)] hB rfl rfl (by rfl) ?_
          refine AWp.seq ?_
          refine AWp.cond rfl (fun hg14 => ?_) (fun hg14 => ?_)
          · replace h := ite_t hg14 h
            refine AWp.skip ?_
            refine seqQ_n ?_
            refine AWp.seq ?_
            refine AWp.block ?_
            obtain ⟨x15, hx15, h⟩ := bindS h
            refine sr (c (OpJ.indexD Try.underlying43 tyS51 (idx_some hx15).1 (get_map e_api_Line (idx_some hx15).2) (L rfl) (q 48) (q 50)) rfl (c (OpJ.loadD tyS51 (by rfl) (by rfl) (L rfl) (q 52)) rfl (cg (OpJ.alloc hB tyZ51 (nm := 1015) (by decide) (L rfl)) rfl (cg (OpJ.storeB tyS51 (SetAt.here _ _) (by rfl) (by rfl) (by simp) rfl (q 15) (q 53)) rfl cn)))) ?_
            refine gh [(8, _), (10, _), (13, _), (15, _), (48, _), (49, _), (50, _)] [(1008, some _), (1010, some _), (1013, some _), (1015, some _), (13130, some _)] hB rfl rfl (by rfl) ?_
            obtain ⟨r16, hr16, h⟩ := bindS h
            refine AWp.region (oc (lb hN 51 (.d (e_api_Line x15)) (.d (e_api_Line x15)) tyS51 (At.here _) (ot 15 (.ptr 1015 0 [])))
              (oc (OpJ.callFn hB fnOk34 (invoice_sums_add_2_ac s6.2 x15 (1 : Int) r16 hr16) [(0, 1013), (1, 13130), (950000, 100200)] (by kernel_rfl) (L rfl) (by kernel_rfl) (OpdL.cons (ot 13 (.ptr 1013 0 [])) (OpdL.cons (ot 54 (.d (e_api_Line x15))) (OpdL.cons (Opd.int .i64 (1)) OpdL.nil))))
              (OpJs.nil))) (by rfl) (by rfl) ?_
            refine blkQ_n ?_
            refine seqQ_n ?_
            refine AWp.ghost (mp [] [(8, (.ptr 1008 0 [])), (10, (.ptr 1010 0 [])), (13, (.ptr 1013 0 [])), (48, (qe_api_Line_3 r4.1.fLines)), (49, (i6 (r4.1.fLines.length : Int))), (50, (i6 s6.1))] [(1008, some (.box 45 (.st [(i6 0), (i6 0), (i6 0), .nils, (i6 0)]))), (1010, some (.box 45 (.d (e_api_Invoice r1.1)))), (1013, some (.box 78 (.st [(.sref 100200 3 0 r16.flines.length)]))), (100200, some (we_api_Line_51_3 r16.flines))] hB) ?_
            refine rg (c (add6 (L rfl) (q 50) (Opd.int .i64 (1))) rfl (c (mv hN (q 56)) rfl cn)) ?_
            obtain rfl := Option.some.inj h
            exact ⟨rfl, (Mat.trans (mp [] [(8, (.ptr 1008 0 [])), (10, (.ptr 1010 0 [])), (13, (.ptr 1013 0 [])), (48, (qe_api_Line_3 r4.1.fLines)), (49, (i6 (r4.1.fLines.length : Int))), (50, (i6 (w64 (s6.1 + (1 : Int)))))] [(1008, some (.box 45 (.st [(i6 0), (i6 0), (i6 0), .nils, (i6 0)]))), (1010, some (.box 45 (.d (e_api_Invoice r1.1)))), (1013, some (.box 78 (.st [(.sref 100200 3 0 r16.flines.length)]))), (100200, some (we_api_Line_51_3 r16.flines))] hB) (mp [(13130, 100200)] _ _ hB))⟩
          · replace h := ite_f hg14 h
            refine AWp.exit ?_
            refine seqQ_e ?_
            obtain rfl := Option.some.inj h
            exact ⟨(fun hc => by cases hc), rfl, (mp [] _ _ hB)⟩
        · obtain ⟨rfl, hmat⟩ := hR
          refine blkQ_hit ?_
          refine seqQ_n ?_
          refine AWp.ghost hmat ?_
          refine AWp.seq ?_
          refine sr (c (ov (.ptr 1010 3 [3]) (fp hN Try.underlying45 3 tyS43 _ (q 10))) rfl (c (lb hN 45 _ _ tyS43 (ad _) (q 57)) rfl (c (OpJ.val (v' := (i6 (r1.1.fLines.length : Int))) (by simp) (OpJ.lenD Try.underlying43 (L rfl) (q 58))) rfl (c (mv hN (Opd.int .i64 (0))) rfl cn)))) ?_
          refine gh [(8, _), (10, _), (13, _), (58, _), (59, _), (60, _)] [(1008, some _), (1010, some _), (1013, some _), (13130, some _)] hB rfl rfl (by rfl) ?_
          refine AWp.block ?_
          obtain ⟨p26, hx31, h⟩ := bindS h
          refine lg (invoice_Correct_L1 r1) (fun s19 : Int × (List api_Line) => ([(8, (.ptr 1008 0 [])), (10, (.ptr 1010 0 [])), (13, (.ptr 1013 0 [])), (58, (qe_api_Line_3 r1.1.fLines)), (59, (i6 (r1.1.fLines.length : Int))), (60, (i6 s19.1))] : EL)) (fun s19 : Int × (List api_Line) => ([(1008, some (.box 45 (.st [(i6 0), (i6 0), (i6 0), .nils, (i6 0)]))), (1010, some (.box 45 (.d (e_api_Invoice r1.1)))), (1013, some (.box 78 (.st [(.sref 13130 3 0 s19.2.length)]))), (13130, some (we_api_Line_51_3 s19.2))] : OL)) (fun (p26 : ((List api_Line))) e E' O' => e = .exit 2 ∧ Mat B E' O' ([(8, (.ptr 1008 0 [])), (10, (.ptr 1010 0 [])), (13, (.ptr 1013 0 []))] : EL) ([(1008, some (.box 45 (.st [(i6 0), (i6 0), (i6 0), .nils, (i6 0)]))), (1010, some (.box 45 (.d (e_api_Invoice r1.1)))), (1013, some (.box 78 (.st [(.sref 13130 3 0 p26.length)]))), (13130, some (we_api_Line_51_3 p26))] : OL)) hx31 (mp [] _ _ hB) (fun s19 y h => ?_) (fun e E' O' hR => ?_)
          · unfold invoice_Correct_L1 at h
            refine sr (c (OpJ.lss (L rfl) (q 60) (q 59)) rfl cn) ?_
            refine gh [(8, _), (10, _), (13, _), (58, _), (59, _), (60, _), (61, _)] [(1008, some _), (1010, some _), (1013, some _), (13130, some _)] hB rfl rfl (by rfl) ?_
            refine AWp.seq ?_
            refine AWp.cond rfl (fun hg27 => ?_) (fun hg27 => ?_)
            · replace h := ite_t hg27 h
              refine AWp.skip ?_
              refine seqQ_n ?_
              refine AWp.seq ?_
              refine AWp.block ?_
              obtain ⟨x28, hx28, h⟩ := bindS h
              refine sr (c (OpJ.indexD Try.underlying43 tyS51 (idx_some hx28).1 (get_map e_api_Line (idx_some hx28).2) (L rfl) (q 58) (q 60)) rfl (c (OpJ.loadD tyS51 (by rfl) (by rfl) (L rfl) (q 62)) rfl (cg (OpJ.alloc hB tyZ51 (nm := 1017) (by decide) (L rfl)) rfl (cg (OpJ.storeB tyS51 (SetAt.here _ _) (by rfl) (by rfl) (by simp) rfl (q 17) (q 63)) rfl cn)))) ?_
              refine gh [(8, _), (10, _), (13, _), (17, _), (58, _), (59, _), (60, _)] [(1008, some _), (1010, some _), (1013, some _), (1017, some _), (13130, some _)] hB rfl rfl (by rfl) ?_
              obtain ⟨r29, hr29, h⟩ := bindS h
              refine AWp.region (oc (lb hN 51 (.d (e_api_Line x28)) (.d (e_api_Line x28)) tyS51 (At.here _) (ot 17 (.ptr 1017 0 [])))
                (oc (OpJ.callFn hB fnOk34 (invoice_sums_add_2_ac s19.2 x28 (-1 : Int) r29 hr29) [(0, 1013), (1, 13130), (950000, 100300)] (by kernel_rfl) (L rfl) (by kernel_rfl) (OpdL.cons (ot 13 (.ptr 1013 0 [])) (OpdL.cons (ot 64 (.d (e_api_Line x28))) (OpdL.cons (Opd.int .i64 (-1)) OpdL.nil))))
                (OpJs.nil))) (by rfl) (by rfl) ?_
              refine blkQ_n ?_
              refine seqQ_n ?_
              refine AWp.ghost (mp [] [(8, (.ptr 1008 0 [])), (10, (.ptr 1010 0 [])), (13, (.ptr 1013 0 [])), (58, (qe_api_Line_3 r1.1.fLines)), (59, (i6 (r1.1.fLines.length : Int))), (60, (i6 s19.1))] [(1008, some (.box 45 (.st [(i6 0), (i6 0), (i6 0), .nils, (i6 0)]))), (1010, some (.box 45 (.d (e_api_Invoice r1.1)))), (1013, some (.box 78 (.st [(.sref 100300 3 0 r29.flines.length)]))), (100300, some (we_api_Line_51_3 r29.flines))] hB) ?_
              refine rg (c (add6 (L rfl) (q 60) (Opd.int .i64 (1))) rfl (c (mv hN (q 66)) rfl cn)) ?_
              obtain rfl := Option.some.inj h
              exact ⟨rfl, (Mat.trans (mp [] [(8, (.ptr 1008 0 [])), (10, (.ptr 1010 0 [])), (13, (.ptr 1013 0 [])), (58, (qe_api_Line_3 r1.1.fLines)), (59, (i6 (r1.1.fLines.length : Int))), (60, (i6 (w64 (s19.1 + (1 : Int)))))] [(1008, some (.box 45 (.st [(i6 0), (i6 0), (i6 0), .nils, (i6 0)]))), (1010, some (.box 45 (.d (e_api_Invoice r1.1)))), (1013, some (.box 78 (.st [(.sref 100300 3 0 r29.flines.length)]))), (100300, some (we_api_Line_51_3 r29.flines))] hB) (mp [(13130, 100300)] _ _ hB))⟩
            · replace h := ite_f hg27 h
              refine AWp.exit ?_
              refine seqQ_e ?_
              obtain rfl := Option.some.inj h
              exact ⟨(fun hc => by cases hc), rfl, (mp [] _ _ hB)⟩
          · obtain ⟨rfl, hmat⟩ := hR
            refine blkQ_hit ?_
            refine seqQ_n ?_
            refine AWp.ghost hmat ?_
            refine AWp.seq ?_
            obtain ⟨r32, hr32, h⟩ := bindS h
            refine AWp.region (oc (ov (.ptr 1013 0 [0]) (fp hN Try.underlying78 0 tyS43 (.box 78 (.st [(.sref 13130 3 0 p26.length)])) (ot 13 (.ptr 1013 0 []))))
              (oc (lb hN 78 (.st [(.sref 13130 3 0 p26.length)]) (.sref 13130 3 0 p26.length) tyS43 (At.st1 (f := (.sref 13130 3 0 p26.length)) (by rfl) (by rfl) (At.here _) (by first | rfl | omega)) (ot 67 (.ptr 1013 0 [0])))
              (oc (OpJ.callFn hB fnOk42 (slices_DeleteFunc_ac p26 r32 hr32) [(0, 13130)] (by kernel_rfl) (L rfl) (by kernel_rfl) (OpdL.cons (ot 68 (.sref 13130 3 0 p26.length)) (OpdL.cons (Opd.func 43) OpdL.nil)))
              (oc (ov (.ptr 1013 0 [0]) (fp hN Try.underlying78 0 tyS43 (.box 78 (.st [(.sref 13130 3 0 p26.length)])) (ot 13 (.ptr 1013 0 []))))
              (oc (OpJ.storeB (bt := 78) (c := (.st [(.sref 13130 3 0 p26.length)])) (v := (qe_api_Line_3 r32)) (c' := (.st [(qe_api_Line_3 r32)])) tyS43 (SetAt.st1 (f := (.sref 13130 3 0 p26.length)) (by rfl) (by rfl) (SetAt.here _ _) (by rfl) (by rfl) (by first | rfl | omega)) (by rfl) (by rfl) (by simp) rfl (ot 70 (.ptr 1013 0 [0])) (ot 69 (qe_api_Line_3 r32)))
              (OpJs.nil)))))) (by rfl) (by rfl) ?_
            refine seqQ_n ?_
            refine AWp.ghost (mp [] [(8, (.ptr 1008 0 [])), (10, (.ptr 1010 0 [])), (13, (.ptr 1013 0 []))] [(1008, some (.box 45 (.st [(i6 0), (i6 0), (i6 0), .nils, (i6 0)]))), (1010, some (.box 45 (.d (e_api_Invoice r1.1)))), (1013, some (.box 78 (.st [(qe_api_Line_3 r32)])))] hB) ?_
            refine AWp.seq ?_
            refine sr (c (ov (.ptr 1013 0 [0]) (fp hN Try.underlying78 0 tyS43 _ (q 13))) rfl (c (lb hN 78 _ (qe_api_Line_3 r32) tyS43 (At.st1 (f := (qe_api_Line_3 r32)) (by rfl) (by rfl) (At.here _) (by first | rfl | omega)) (q 71)) rfl (c (OpJ.val (v' := (i6 (r32.length : Int))) (by simp) (OpJ.lenD Try.underlying43 (L rfl) (q 72))) rfl (c (OpJ.eqlI (L rfl) (q 73) (Opd.int .i64 (0))) rfl cn)))) ?_
            refine gh [(8, _), (10, _), (13, _), (74, _)] [(1008, some _), (1010, some _), (1013, some _)] hB rfl rfl (by rfl) ?_
            refine AWp.cond rfl (fun hg33 => ?_) (fun hg33 => ?_)
            · replace h := ite_t hg33 h
              refine sr (c (OpJ.build (places := [(0, 1), (1, 1), (2, 1), (3, 1), (4, 1)]) ⟨Try.underlying45, fun w => by kernel_rfl⟩ tyZS45 Opds.nil (by kernel_rfl) (r := (.st [(i6 0), (i6 0), (i6 0), .nils, (i6 0)])) (by rfl) (L rfl)) rfl (cg (OpJ.storeB tyS45 (SetAt.here _ _) (by rfl) (by rfl) (by simp) rfl (q 8) (q 75)) rfl (c (OpJ.assign (L rfl) (Opd.int .i64 (7))) rfl cn))) ?_
              refine gh [(8, _), (9, _)] [(1008, some _)] hB rfl rfl (by rfl) ?_
              refine AWp.ret ?_
              refine seqQ_r ?_
              obtain rfl := Option.some.inj h
              exact ⟨.inl rfl, _, _, (Mat.trans (Mat.coeP (Ts := []) (Bs := [(1008, some (.box 45 (.d (.st [(.int .i64 0), (.int .i64 0), (.int .i64 0), (.list 3 (([] : List api_Line).map e_api_Line)), (.int .i64 0)]))))]) TwT.nil (TwB.cons (x := (.st [(i6 0), (i6 0), (i6 0), .nils, (i6 0)])) (by rfl) (Tw.leaf ⟨_, (Co.st (CoL.cons (Co.d _) (CoL.cons (Co.d _) (CoL.cons (Co.d _) (CoL.cons (Co.nils 3) (CoL.cons (Co.d _) CoL.nil)))))), rfl⟩) TwB.nil)) (mp [] [(8, (.ptr 1008 0 [])), (9, (i6 (7 : Int)))] [(1008, some (.box 45 (.d (.st [(.int .i64 0), (.int .i64 0), (.int .i64 0), (.list 3 (([] : List api_Line).map e_api_Line)), (.int .i64 0)]))))] hB)), [(.d (.st [(.int .i64 0), (.int .i64 0), (.int .i64 0), (.list 3 (([] : List api_Line).map e_api_Line)), (.int .i64 0)])), (i6 (7 : Int))], (Res.cell (c := (.d (.st [(.int .i64 0), (.int .i64 0), (.int .i64 0), (.list 3 (([] : List api_Line).map e_api_Line)), (.int .i64 0)]))) (by rfl) (by rfl) tyS45 (by rfl) (by rfl) (by rfl) (Res.tmp (by rfl) (by rfl) Res.nil)), rfl, by rfl, by rfl, by rfl⟩
            · replace h := ite_f hg33 h
              refine AWp.skip ?_
              refine seqQ_n ?_
              refine AWp.seq ?_
              obtain ⟨r34, hr34, h⟩ := bindS h
              refine AWp.region (oc (ov (.ptr 1010 0 [0]) (fp hN Try.underlying45 0 tyS3 (.box 45 (.d (e_api_Invoice r1.1))) (ot 10 (.ptr 1010 0 []))))
                (oc (lb hN 45 (.d (e_api_Invoice r1.1)) (i6 r1.1.fMember) tyS3 (ad (.int .i64 r1.1.fMember)) (ot 76 (.ptr 1010 0 [0])))
                (oc (ov (.ptr 1010 1 [1]) (fp hN Try.underlying45 1 tyS3 (.box 45 (.d (e_api_Invoice r1.1))) (ot 10 (.ptr 1010 0 []))))
                (oc (lb hN 45 (.d (e_api_Invoice r1.1)) (i6 r1.1.fMonth) tyS3 (ad (.int .i64 r1.1.fMonth)) (ot 78 (.ptr 1010 1 [1])))
                (oc (ov (.ptr 1010 2 [2]) (fp hN Try.underlying45 2 tyS3 (.box 45 (.d (e_api_Invoice r1.1))) (ot 10 (.ptr 1010 0 []))))
                (oc (lb hN 45 (.d (e_api_Invoice r1.1)) (i6 r1.1.fVersion) tyS3 (ad (.int .i64 r1.1.fVersion)) (ot 80 (.ptr 1010 2 [2])))
                (oc (add6 (L rfl) (ot 81 (i6 r1.1.fVersion)) (Opd.int .i64 (1)))
                (oc (OpJ.callFn hB fnOk35 (invoice_sums_invoice_2_ac r32 r1.1.fMember r1.1.fMonth (w64 (r1.1.fVersion + (1 : Int))) r34 hr34) [(0, 1013)] (by kernel_rfl) (L rfl) (by kernel_rfl) (OpdL.cons (ot 13 (.ptr 1013 0 [])) (OpdL.cons (ot 77 (i6 r1.1.fMember)) (OpdL.cons (ot 79 (i6 r1.1.fMonth)) (OpdL.cons (ot 82 (i6 (w64 (r1.1.fVersion + (1 : Int))))) OpdL.nil)))))
                (oc (OpJ.alloc hB tyZ45 (nm := 1018) (by decide) (L rfl))
                (oc (OpJ.storeB (bt := 45) (c := (.st [(i6 0), (i6 0), (i6 0), .nils, (i6 0)])) (v := (.d (e_api_Invoice r34.1))) (c' := (.d (e_api_Invoice r34.1))) tyS45 (SetAt.here _ _) (by rfl) (by rfl) (by simp) rfl (ot 18 (.ptr 1018 0 [])) (ot 83 (.d (e_api_Invoice r34.1))))
                (OpJs.nil))))))))))) (by rfl) (by rfl) ?_
              refine seqQ_n ?_
              refine AWp.ghost (mp [] [(8, (.ptr 1008 0 [])), (18, (.ptr 1018 0 []))] [(1008, some (.box 45 (.st [(i6 0), (i6 0), (i6 0), .nils, (i6 0)]))), (1018, some (.box 45 (.d (e_api_Invoice r34.1))))] hB) ?_
              refine AWp.seq ?_
              obtain ⟨r35, hr35, h⟩ := bindS h
              refine sr (c (lb hN 45 _ _ tyS45 (At.here _) (q 18)) rfl (cg (OpJ.callFn hB fnOk41 (invoice_consistent_ac r34.1 r35 hr35) [] (by kernel_rfl) (L rfl) (by kernel_rfl) (OpdL.cons (q 84) OpdL.nil)) rfl (c (OpJ.not (L rfl) (q 85)) rfl cn))) ?_
              refine gh [(8, _), (18, _), (86, _)] [(1008, some _), (1018, some _)] hB rfl rfl (by rfl) ?_
              refine AWp.cond rfl (fun hg36 => ?_) (fun hg36 => ?_)
              · replace h := ite_t hg36 h
                refine sr (c (OpJ.build (places := [(0, 1), (1, 1), (2, 1), (3, 1), (4, 1)]) ⟨Try.underlying45, fun w => by kernel_rfl⟩ tyZS45 Opds.nil (by kernel_rfl) (r := (.st [(i6 0), (i6 0), (i6 0), .nils, (i6 0)])) (by rfl) (L rfl)) rfl (cg (OpJ.storeB tyS45 (SetAt.here _ _) (by rfl) (by rfl) (by simp) rfl (q 8) (q 87)) rfl (c (OpJ.assign (L rfl) (Opd.int .i64 (3))) rfl cn))) ?_
                refine gh [(8, _), (9, _)] [(1008, some _)] hB rfl rfl (by rfl) ?_
                refine AWp.ret ?_
                refine seqQ_r ?_
                obtain rfl := Option.some.inj h
                exact ⟨.inl rfl, _, _, (Mat.trans (Mat.coeP (Ts := []) (Bs := [(1008, some (.box 45 (.d (.st [(.int .i64 0), (.int .i64 0), (.int .i64 0), (.list 3 (([] : List api_Line).map e_api_Line)), (.int .i64 0)]))))]) TwT.nil (TwB.cons (x := (.st [(i6 0), (i6 0), (i6 0), .nils, (i6 0)])) (by rfl) (Tw.leaf ⟨_, (Co.st (CoL.cons (Co.d _) (CoL.cons (Co.d _) (CoL.cons (Co.d _) (CoL.cons (Co.nils 3) (CoL.cons (Co.d _) CoL.nil)))))), rfl⟩) TwB.nil)) (mp [] [(8, (.ptr 1008 0 [])), (9, (i6 (3 : Int)))] [(1008, some (.box 45 (.d (.st [(.int .i64 0), (.int .i64 0), (.int .i64 0), (.list 3 (([] : List api_Line).map e_api_Line)), (.int .i64 0)]))))] hB)), [(.d (.st [(.int .i64 0), (.int .i64 0), (.int .i64 0), (.list 3 (([] : List api_Line).map e_api_Line)), (.int .i64 0)])), (i6 (3 : Int))], (Res.cell (c := (.d (.st [(.int .i64 0), (.int .i64 0), (.int .i64 0), (.list 3 (([] : List api_Line).map e_api_Line)), (.int .i64 0)]))) (by rfl) (by rfl) tyS45 (by rfl) (by rfl) (by rfl) (Res.tmp (by rfl) (by rfl) Res.nil)), rfl, by rfl, by rfl, by rfl⟩
              · replace h := ite_f hg36 h
                refine AWp.skip ?_
                refine seqQ_n ?_
                refine sr (c (lb hN 45 _ _ tyS45 (At.here _) (q 18)) rfl (cg (OpJ.storeB tyS45 (SetAt.here _ _) (by rfl) (by rfl) (by simp) rfl (q 8) (q 88)) rfl (c (OpJ.assign (L rfl) (Opd.int .i64 (0))) rfl cn))) ?_
                refine gh [(8, _), (9, _)] [(1008, some _)] hB rfl rfl (by rfl) ?_
                refine AWp.ret ?_
                obtain rfl := Option.some.inj h
                exact ⟨.inl rfl, _, _, (kp [(8, _), (9, _)] [(1008, some _)] hB rfl rfl (by rfl)), [(.d (e_api_Invoice r34.1)), (i6 0)], (Res.cell (c := (.d (e_api_Invoice r34.1))) (by rfl) (by rfl) tyS45 (by rfl) (by rfl) (by rfl) (Res.tmp (by rfl) (by rfl) Res.nil)), rfl, by rfl, by rfl, by rfl⟩

noncomputable def invoice_Sum_2_L0 (a0 : (List api_Invoice)) (s2 : Int) : Option (((Unit) ⊕ (Unit)) ⊕ (Int)) :=
  (if (decide (s2 < (a0.length : Int))) = true then
  (idx a0 s2).bind fun x16 =>
  (idx a0 s2).bind fun x17 =>
  (invoice_consistent x17).bind fun r18 =>
  (if (!r18) = true then
  some (.inl (.inl ()))
  else
  some (.inr (w64 (s2 + (1 : Int)))))
  else
  some (.inl (.inr ())))
noncomputable def invoice_Sum_2_L2 (x91 : api_Invoice) (s101 : Int × (List api_Line)) : Option ((((List api_Line))) ⊕ (Int × (List api_Line))) :=
  (if (decide (s101.1 < (x91.fLines.length : Int))) = true then
  (idx x91.fLines s101.1).bind fun x110 =>
  (invoice_sums_add_2 s101.2 x110 (1 : Int)).bind fun r111 =>
  some (.inr ((w64 (s101.1 + (1 : Int))), r111.flines))
  else
  some (.inl s101.2))
noncomputable def invoice_Sum_2_L1 (a0 : (List api_Invoice)) (s22 : Int × (List api_Line)) : Option (((Unit) ⊕ ((List api_Line))) ⊕ (Int × (List api_Line))) :=
  (if (decide (s22.1 < (a0.length : Int))) = true then
  (idx a0 s22.1).bind fun x90 =>
  (idx a0 s22.1).bind fun x91 =>
  jn (fun m98 : Bool =>
  (if m98 = true then
  some (.inl (.inl ()))
  else
  (loop (invoice_Sum_2_L2 x91) ((0 : Int), s22.2)).bind fun p108 =>
  some (.inr ((w64 (s22.1 + (1 : Int))), p108)))) (fun j99 =>
  (if (x91.fVersion != (w64 (s22.1 + (1 : Int)))) = true then
  j99 true
  else
  (idx a0 (0 : Int)).bind fun x115 =>
  (idx a0 (0 : Int)).bind fun x116 =>
  (if (x91.fMember != x116.fMember) = true then
  j99 true
  else
  (idx a0 (0 : Int)).bind fun x118 =>
  (idx a0 (0 : Int)).bind fun x119 =>
  j99 (x91.fMonth != x119.fMonth))))
  else
  some (.inl (.inr s22.2)))
noncomputable def invoice_Sum_2 (a0 : (List api_Invoice)) : Option (api_Invoice × Int) :=
  (if (((a0.length : Int) == (0 : Int)) || (decide ((1000 : Int) < (a0.length : Int)))) = true then
  some ((api_Invoice.mk (0 : Int) (0 : Int) (0 : Int) ([] : List api_Line) (0 : Int)), (1 : Int))
  else
  (loop (invoice_Sum_2_L0 a0) (0 : Int)).bind fun x20 => match x20 with
  | (.inl _) =>
    some ((api_Invoice.mk (0 : Int) (0 : Int) (0 : Int) ([] : List api_Line) (0 : Int)), (1 : Int))
  | (.inr _) =>
    (loop (invoice_Sum_2_L1 a0) ((0 : Int), ([] : List api_Line))).bind fun x120 => match x120 with
    | (.inl _) =>
      some ((api_Invoice.mk (0 : Int) (0 : Int) (0 : Int) ([] : List api_Line) (0 : Int)), (35 : Int))
    | (.inr p88) =>
      (idx a0 (0 : Int)).bind fun x122 =>
      (idx a0 (0 : Int)).bind fun x123 =>
      (idx a0 (0 : Int)).bind fun x124 =>
      (idx a0 (0 : Int)).bind fun x125 =>
      (invoice_sums_invoice p88 x123.fMember x125.fMonth (a0.length : Int)).bind fun r126 =>
      (invoice_consistent r126.1).bind fun r127 =>
      (if (!r127) = true then
      some ((api_Invoice.mk (0 : Int) (0 : Int) (0 : Int) ([] : List api_Line) (0 : Int)), (3 : Int))
      else
      some (r126.1, (0 : Int))))
set_option maxHeartbeats 4000000 in
set_option maxRecDepth 100000 in
theorem invoice_Sum_2_ac (a0 : (List api_Invoice)) (r : api_Invoice × Int) (h : invoice_Sum_2 a0 = some r) : AC Try.prog 19 [(.sref 0 5 0 a0.length)] [(0, (.row 45 5 (a0.map e_api_Invoice)))] (.tup [(.d (e_api_Invoice r.1)), (.d (.int .i64 r.2))]) [(0, some (.row 45 5 (a0.map e_api_Invoice)))] := by
  refine AC.of_code2 Try.func19 rfl rfl (Nat.le_of_ble_eq_true (by rfl)) fun B hB hN => ?_
  have L {d : Nat} (h : Nat.blt d Try.f19.ntmps = true) : d < B.N := ltN hN h
  delta invoice_Sum_2 at h
  refine sr (cg (OpJ.alloc hB tyZ45 (nm := 1002) (by decide) (L rfl)) rfl (c (OpJ.assign (L rfl) (Opd.int .i64 (0))) rfl cn)) ?_
  refine gh [(0, _), (2, _)] [(0, some _), (1002, some _)] hB rfl rfl (by rfl) ?_
  refine AWp.seq ?_
  refine sr (c (mv hN (q 0)) rfl (c (OpJ.lenS Try.underlying53 (L rfl) (q 12)) rfl (c (OpJ.eqlI (L rfl) (q 13) (Opd.int .i64 (0))) rfl (c (mv hN (q 14)) rfl (c (oq hN 15 (mv hN (q 0)) (OptL.keep (by rfl) OptL.nil) (GuardV.plain _)) rfl (c (oq hN 15 (OpJ.lenS Try.underlying53 (L rfl) (q 16)) (OptL.opt OptL.nil) (GuardV.plain _)) rfl (c (oq hN 15 (OpJ.gtr (L rfl) (q 17) (Opd.int .i64 (1000))) (OptL.opt OptL.nil) (GuardV.plain _)) rfl (c (OpJ.pickOr rfl (L rfl) (q 15) (q 18)) rfl cn)))))))) ?_
  refine gh [(0, _), (2, _), (19, _)] [(0, some _), (1002, some _)] hB rfl rfl (by rfl) ?_
  refine AWp.cond rfl (fun hg1 => ?_) (fun hg1 => ?_)
  · replace h := ite_t hg1 h
    refine sr (c (OpJ.build (places := [(0, 1), (1, 1), (2, 1), (3, 1), (4, 1)]) ⟨Try.underlying45, fun w => by kernel_rfl⟩ tyZS45 Opds.nil (by kernel_rfl) (r := (.st [(i6 0), (i6 0), (i6 0), .nils, (i6 0)])) (by rfl) (L rfl)) rfl (cg (OpJ.storeB tyS45 (SetAt.here _ _) (by rfl) (by rfl) (by simp) rfl (q 2) (q 20)) rfl (c (OpJ.assign (L rfl) (Opd.int .i64 (1))) rfl cn))) ?_
    refine gh [(2, _), (3, _)] [(0, some _), (1002, some _)] hB rfl rfl (by rfl) ?_
    refine AWp.ret ?_
    refine seqQ_r ?_
    obtain rfl := Option.some.inj h
    exact ⟨.inl rfl, _, _, (Mat.trans (Mat.coeP (Ts := []) (Bs := [(1002, some (.box 45 (.d (.st [(.int .i64 0), (.int .i64 0), (.int .i64 0), (.list 3 (([] : List api_Line).map e_api_Line)), (.int .i64 0)]))))]) TwT.nil (TwB.cons (x := (.st [(i6 0), (i6 0), (i6 0), .nils, (i6 0)])) (by rfl) (Tw.leaf ⟨_, (Co.st (CoL.cons (Co.d _) (CoL.cons (Co.d _) (CoL.cons (Co.d _) (CoL.cons (Co.nils 3) (CoL.cons (Co.d _) CoL.nil)))))), rfl⟩) TwB.nil)) (mp [] [(2, (.ptr 1002 0 [])), (3, (i6 1))] [(0, some (we_api_Invoice_45_5 a0)), (1002, some (.box 45 (.d (.st [(.int .i64 0), (.int .i64 0), (.int .i64 0), (.list 3 (([] : List api_Line).map e_api_Line)), (.int .i64 0)]))))] hB)), [(.d (.st [(.int .i64 0), (.int .i64 0), (.int .i64 0), (.list 3 (([] : List api_Line).map e_api_Line)), (.int .i64 0)])), (i6 1)], (Res.cell (c := (.d (.st [(.int .i64 0), (.int .i64 0), (.int .i64 0), (.list 3 (([] : List api_Line).map e_api_Line)), (.int .i64 0)]))) (by rfl) (by rfl) tyS45 (by rfl) (by rfl) (by rfl) (Res.tmp (by rfl) (by rfl) Res.nil)), rfl, by rfl, by rfl, by rfl⟩
  · replace h := ite_f hg1 h
    refine AWp.skip ?_
    refine seqQ_n ?_
    refine AWp.seq ?_
    refine sr (c (mv hN (q 0)) rfl (c (OpJ.lenS Try.underlying53 (L rfl) (q 21)) rfl (c (mv hN (Opd.int .i64 (0))) rfl cn))) ?_
    refine gh [(0, _), (2, _), (21, _), (22, _), (23, _)] [(0, some _), (1002, some _)] hB rfl rfl (by rfl) ?_
    refine AWp.block ?_
    obtain ⟨x20, hx21, h⟩ := bindS h
    refine lg (invoice_Sum_2_L0 a0) (fun s2 : Int => ([(0, (.sref 0 5 0 a0.length)), (2, (.ptr 1002 0 [])), (21, (.sref 0 5 0 a0.length)), (22, (i6 (a0.length : Int))), (23, (i6 s2))] : EL)) (fun s2 : Int => ([(0, some (we_api_Invoice_45_5 a0)), (1002, some (.box 45 (.st [(i6 0), (i6 0), (i6 0), .nils, (i6 0)])))] : OL)) (fun (x : (Unit) ⊕ (Unit)) e E' O' => match x with | (.inl _p) => e = .ret ∧ Mat B E' O' ([(2, (.ptr 1002 0 [])), (3, (i6 1))] : EL) ([(0, some (we_api_Invoice_45_5 a0)), (1002, some (.box 45 (.st [(i6 0), (i6 0), (i6 0), .nils, (i6 0)])))] : OL) | (.inr _p) => e = .exit 0 ∧ Mat B E' O' ([(0, (.sref 0 5 0 a0.length)), (2, (.ptr 1002 0 []))] : EL) ([(0, some (we_api_Invoice_45_5 a0)), (1002, some (.box 45 (.st [(i6 0), (i6 0), (i6 0), .nils, (i6 0)])))] : OL)) hx21 (mp [] _ _ hB) (fun s2 y h => ?_) (fun e E' O' hR => ?_)
    · unfold invoice_Sum_2_L0 at h
      refine sr (c (OpJ.lss (L rfl) (q 23) (q 22)) rfl cn) ?_
      refine gh [(0, _), (2, _), (21, _), (22, _), (23, _), (24, _)] [(0, some _), (1002, some _)] hB rfl rfl (by rfl) ?_
      refine AWp.seq ?_
      refine AWp.cond rfl (fun hg15 => ?_) (fun hg15 => ?_)
      · replace h := ite_t hg15 h
        refine AWp.skip ?_
        refine seqQ_n ?_
        refine AWp.seq ?_
        refine AWp.block ?_
        obtain ⟨x16, hx16, h⟩ := bindS h
        obtain ⟨x17, hx17, h⟩ := bindS h
        refine sr (c (OpJ.val (v' := (.ptr 0 (s2.toNat * 5) [s2.toNat])) (by simp) (OpJ.indexS Try.underlying53 tyS45 (idx_some hx16).1 (by have := idx_lt hx16; first | (simpa using this) | ((try simp only [List.length_map] at this); (try simp only [List.length_map]); omega)) (L rfl) (q 21) (q 23))) rfl (c (OpJ.loadR (e := 45) (sz := 5) tyS45 (get_map e_api_Invoice (idx_some hx17).2) (o := 0) (At.here _) (by rfl) (by rfl) (by rfl) (L rfl) (q 25)) rfl (cg (OpJ.alloc hB tyZ45 (nm := 1005) (by decide) (L rfl)) rfl (cg (OpJ.storeB tyS45 (SetAt.here _ _) (by rfl) (by rfl) (by simp) rfl (q 5) (q 26)) rfl cn)))) ?_
        refine gh [(0, _), (2, _), (5, _), (21, _), (22, _), (23, _)] [(0, some _), (1002, some _), (1005, some _)] hB rfl rfl (by rfl) ?_
        obtain ⟨r18, hr18, h⟩ := bindS h
        refine sr (c (lb hN 45 _ _ tyS45 (At.here _) (q 5)) rfl (cg (OpJ.callFn hB fnOk41 (invoice_consistent_ac x17 r18 hr18) [] (by kernel_rfl) (L rfl) (by kernel_rfl) (OpdL.cons (q 27) OpdL.nil)) rfl (c (OpJ.not (L rfl) (q 28)) rfl cn))) ?_
        refine gh [(0, _), (2, _), (21, _), (22, _), (23, _), (29, _)] [(0, some _), (1002, some _)] hB rfl rfl (by rfl) ?_
        refine AWp.cond rfl (fun hg19 => ?_) (fun hg19 => ?_)
        · replace h := ite_t hg19 h
          refine sr (c (OpJ.build (places := [(0, 1), (1, 1), (2, 1), (3, 1), (4, 1)]) ⟨Try.underlying45, fun w => by kernel_rfl⟩ tyZS45 Opds.nil (by kernel_rfl) (r := (.st [(i6 0), (i6 0), (i6 0), .nils, (i6 0)])) (by rfl) (L rfl)) rfl (cg (OpJ.storeB tyS45 (SetAt.here _ _) (by rfl) (by rfl) (by simp) rfl (q 2) (q 30)) rfl (c (OpJ.assign (L rfl) (Opd.int .i64 (1))) rfl cn))) ?_
          refine gh [(2, _), (3, _)] [(0, some _), (1002, some _)] hB rfl rfl (by rfl) ?_
          refine AWp.ret ?_
          refine blkQ_r ?_
          refine seqQ_r ?_
          obtain rfl := Option.some.inj h
          exact ⟨(fun hc => by cases hc), rfl, (mp [] _ _ hB)⟩
        · replace h := ite_f hg19 h
          refine AWp.skip ?_
          refine blkQ_n ?_
          refine seqQ_n ?_
          refine rg (c (add6 (L rfl) (q 23) (Opd.int .i64 (1))) rfl (c (mv hN (q 31)) rfl cn)) ?_
          obtain rfl := Option.some.inj h
          exact ⟨rfl, (Mat.trans (mp [] [(0, (.sref 0 5 0 a0.length)), (2, (.ptr 1002 0 [])), (21, (.sref 0 5 0 a0.length)), (22, (i6 (a0.length : Int))), (23, (i6 (w64 (s2 + (1 : Int)))))] [(0, some (we_api_Invoice_45_5 a0)), (1002, some (.box 45 (.st [(i6 0), (i6 0), (i6 0), .nils, (i6 0)])))] hB) (mp [] _ _ hB))⟩
      · replace h := ite_f hg15 h
        refine AWp.exit ?_
        refine seqQ_e ?_
        obtain rfl := Option.some.inj h
        exact ⟨(fun hc => by cases hc), rfl, (mp [] _ _ hB)⟩
    · rcases x20 with _ | _
      · obtain ⟨rfl, hmat⟩ := hR
        refine blkQ_r ?_
        refine seqQ_r ?_
        obtain rfl := Option.some.inj h
        exact ⟨.inl rfl, _, _, (Mat.trans hmat (Mat.trans (Mat.coeP (Ts := []) (Bs := [(1002, some (.box 45 (.d (.st [(.int .i64 0), (.int .i64 0), (.int .i64 0), (.list 3 (([] : List api_Line).map e_api_Line)), (.int .i64 0)]))))]) TwT.nil (TwB.cons (x := (.st [(i6 0), (i6 0), (i6 0), .nils, (i6 0)])) (by rfl) (Tw.leaf ⟨_, (Co.st (CoL.cons (Co.d _) (CoL.cons (Co.d _) (CoL.cons (Co.d _) (CoL.cons (Co.nils 3) (CoL.cons (Co.d _) CoL.nil)))))), rfl⟩) TwB.nil)) (mp [] [(2, (.ptr 1002 0 [])), (3, (i6 1))] [(0, some (we_api_Invoice_45_5 a0)), (1002, some (.box 45 (.d (.st [(.int .i64 0), (.int .i64 0), (.int .i64 0), (.list 3 (([] : List api_Line).map e_api_Line)), (.int .i64 0)]))))] hB))), [(.d (.st [(.int .i64 0), (.int .i64 0), (.int .i64 0), (.list 3 (([] : List api_Line).map e_api_Line)), (.int .i64 0)])), (i6 1)], (Res.cell (c := (.d (.st [(.int .i64 0), (.int .i64 0), (.int .i64 0), (.list 3 (([] : List api_Line).map e_api_Line)), (.int .i64 0)]))) (by rfl) (by rfl) tyS45 (by rfl) (by rfl) (by rfl) (Res.tmp (by rfl) (by rfl) Res.nil)), rfl, by rfl, by rfl, by rfl⟩
      · obtain ⟨rfl, hmat⟩ := hR
        refine blkQ_hit ?_
        refine seqQ_n ?_
        refine AWp.ghost hmat ?_
        refine sr (cg (OpJ.alloc hB tyZ78 (nm := 1006) (by decide) (L rfl)) rfl cn) ?_
        refine gh [(0, _), (2, _), (6, _)] [(0, some _), (1002, some _), (1006, some _)] hB rfl rfl (by rfl) ?_
        refine AWp.seq ?_
        refine sr (c (mv hN (q 0)) rfl (c (OpJ.lenS Try.underlying53 (L rfl) (q 32)) rfl (c (mv hN (Opd.int .i64 (0))) rfl cn))) ?_
        refine gh [(0, _), (2, _), (6, _), (32, _), (33, _), (34, _)] [(0, some _), (1002, some _), (1006, some _)] hB rfl rfl (by rfl) ?_
        refine AWp.block ?_
        obtain ⟨x120, hx121, h⟩ := bindS h
        refine lg (invoice_Sum_2_L1 a0) (fun s22 : Int × (List api_Line) => ([(0, (.sref 0 5 0 a0.length)), (2, (.ptr 1002 0 [])), (6, (.ptr 1006 0 [])), (32, (.sref 0 5 0 a0.length)), (33, (i6 (a0.length : Int))), (34, (i6 s22.1))] : EL)) (fun s22 : Int × (List api_Line) => ([(0, some (we_api_Invoice_45_5 a0)), (1002, some (.box 45 (.st [(i6 0), (i6 0), (i6 0), .nils, (i6 0)]))), (1006, some (.box 78 (.st [(.sref 13060 3 0 s22.2.length)]))), (13060, some (we_api_Line_51_3 s22.2))] : OL)) (fun (x : (Unit) ⊕ ((List api_Line))) e E' O' => match x with | (.inl _p) => e = .ret ∧ Mat B E' O' ([(2, (.ptr 1002 0 [])), (3, (i6 (35 : Int)))] : EL) ([(0, some (we_api_Invoice_45_5 a0)), (1002, some (.box 45 (.st [(i6 0), (i6 0), (i6 0), .nils, (i6 0)])))] : OL) | (.inr p88) => e = .exit 2 ∧ Mat B E' O' ([(0, (.sref 0 5 0 a0.length)), (2, (.ptr 1002 0 [])), (6, (.ptr 1006 0 []))] : EL) ([(0, some (we_api_Invoice_45_5 a0)), (1002, some (.box 45 (.st [(i6 0), (i6 0), (i6 0), .nils, (i6 0)]))), (1006, some (.box 78 (.st [(.sref 13060 3 0 p88.length)]))), (13060, some (we_api_Line_51_3 p88))] : OL)) hx121 (Mat.trans (Mat.beginP (n := 13060) (e := 51) (sz := 3) (Ts := []) (Bs := [(1006, some (.box 78 (.st [(.sref 13060 3 0 0)])))]) hB (by decide) (by rfl) (by decide) TwT.nil (TwB.cons (x := (.st [.nils])) (by rfl) (Tw.st (TwL.cons (Tw.leaf ⟨rfl, rfl⟩) TwL.nil)) TwB.nil)) (mp [] _ _ hB)) (fun s22 y h => ?_) (fun e E' O' hR => ?_)
        · unfold invoice_Sum_2_L1 at h
          refine sr (c (OpJ.lss (L rfl) (q 34) (q 33)) rfl cn) ?_
          refine gh [(0, _), (2, _), (6, _), (32, _), (33, _), (34, _), (35, _)] [(0, some _), (1002, some _), (1006, some _), (13060, some _)] hB rfl rfl (by rfl) ?_
          refine AWp.seq ?_
          refine AWp.cond rfl (fun hg89 => ?_) (fun hg89 => ?_)
          · replace h := ite_t hg89 h
            refine AWp.skip ?_
            refine seqQ_n ?_
            refine AWp.seq ?_
            refine AWp.block ?_
            obtain ⟨x90, hx90, h⟩ := bindS h
            obtain ⟨x91, hx91, h⟩ := bindS h
            refine sr (c (mv hN (q 34)) rfl (c (OpJ.val (v' := (.ptr 0 (s22.1.toNat * 5) [s22.1.toNat])) (by simp) (OpJ.indexS Try.underlying53 tyS45 (idx_some hx90).1 (by have := idx_lt hx90; first | (simpa using this) | ((try simp only [List.length_map] at this); (try simp only [List.length_map]); omega)) (L rfl) (q 32) (q 34))) rfl (c (OpJ.loadR (e := 45) (sz := 5) tyS45 (get_map e_api_Invoice (idx_some hx91).2) (o := 0) (At.here _) (by rfl) (by rfl) (by rfl) (L rfl) (q 37)) rfl (cg (OpJ.alloc hB tyZ45 (nm := 1008) (by decide) (L rfl)) rfl (c (OpJ.assign (L rfl) (q 36)) rfl (cg (OpJ.storeB tyS45 (SetAt.here _ _) (by rfl) (by rfl) (by simp) rfl (q 8) (q 38)) rfl cn)))))) ?_
            refine gh [(0, _), (2, _), (6, _), (7, _), (8, _), (32, _), (33, _), (34, _)] [(0, some _), (1002, some _), (1006, some _), (1008, some _), (13060, some _)] hB rfl rfl (by rfl) ?_
            refine AWp.seq ?_
            refine AWp.seq ?_
            refine AWp.cut h (fun m98 : Bool => ([(0, (.sref 0 5 0 a0.length)), (2, (.ptr 1002 0 [])), (6, (.ptr 1006 0 [])), (8, (.ptr 1008 0 [])), (32, (.sref 0 5 0 a0.length)), (33, (i6 (a0.length : Int))), (34, (i6 s22.1)), (61, (bo m98))] : EL)) (fun m98 : Bool => ([(0, some (we_api_Invoice_45_5 a0)), (1002, some (.box 45 (.st [(i6 0), (i6 0), (i6 0), .nils, (i6 0)]))), (1006, some (.box 78 (.st [(.sref 13060 3 0 s22.2.length)]))), (1008, some (.box 45 (.d (e_api_Invoice x91)))), (13060, some (we_api_Line_51_3 s22.2))] : OL)) (fun m98 h E' O' hmat => ?_) (fun j99 hjj99 h => ?_)
            · refine seqQ_n ?_
              refine AWp.ghost hmat ?_
              refine AWp.cond rfl (fun hg100 => ?_) (fun hg100 => ?_)
              · replace h := ite_t hg100 h
                refine sr (c (OpJ.build (places := [(0, 1), (1, 1), (2, 1), (3, 1), (4, 1)]) ⟨Try.underlying45, fun w => by kernel_rfl⟩ tyZS45 Opds.nil (by kernel_rfl) (r := (.st [(i6 0), (i6 0), (i6 0), .nils, (i6 0)])) (by rfl) (L rfl)) rfl (cg (OpJ.storeB tyS45 (SetAt.here _ _) (by rfl) (by rfl) (by simp) rfl (q 2) (q 62)) rfl (c (OpJ.assign (L rfl) (Opd.int .i64 (35))) rfl cn))) ?_
                refine gh [(2, _), (3, _)] [(0, some _), (1002, some _)] hB rfl rfl (by rfl) ?_
                refine AWp.ret ?_
                refine seqQ_r ?_
                refine blkQ_r ?_
                refine seqQ_r ?_
                obtain rfl := Option.some.inj h
                exact ⟨(fun hc => by cases hc), rfl, (mp [] _ _ hB)⟩
              · replace h := ite_f hg100 h
                refine AWp.skip ?_
                refine seqQ_n ?_
                refine sr (c (ov (.ptr 1008 3 [3]) (fp hN Try.underlying45 3 tyS43 _ (q 8))) rfl (c (lb hN 45 _ _ tyS43 (ad _) (q 63)) rfl (c (OpJ.val (v' := (i6 (x91.fLines.length : Int))) (by simp) (OpJ.lenD Try.underlying43 (L rfl) (q 64))) rfl (c (mv hN (Opd.int .i64 (0))) rfl cn)))) ?_
                refine gh [(0, _), (2, _), (6, _), (32, _), (33, _), (34, _), (64, _), (65, _), (66, _)] [(0, some _), (1002, some _), (1006, some _), (13060, some _)] hB rfl rfl (by rfl) ?_
                refine AWp.block ?_
                obtain ⟨p108, hx113, h⟩ := bindS h
                refine lg (invoice_Sum_2_L2 x91) (fun s101 : Int × (List api_Line) => ([(0, (.sref 0 5 0 a0.length)), (2, (.ptr 1002 0 [])), (6, (.ptr 1006 0 [])), (32, (.sref 0 5 0 a0.length)), (33, (i6 (a0.length : Int))), (34, (i6 s22.1)), (64, (qe_api_Line_3 x91.fLines)), (65, (i6 (x91.fLines.length : Int))), (66, (i6 s101.1))] : EL)) (fun s101 : Int × (List api_Line) => ([(0, some (we_api_Invoice_45_5 a0)), (1002, some (.box 45 (.st [(i6 0), (i6 0), (i6 0), .nils, (i6 0)]))), (1006, some (.box 78 (.st [(.sref 13060 3 0 s101.2.length)]))), (13060, some (we_api_Line_51_3 s101.2))] : OL)) (fun (p108 : ((List api_Line))) e E' O' => e = .exit 4 ∧ Mat B E' O' ([(0, (.sref 0 5 0 a0.length)), (2, (.ptr 1002 0 [])), (6, (.ptr 1006 0 [])), (32, (.sref 0 5 0 a0.length)), (33, (i6 (a0.length : Int))), (34, (i6 s22.1))] : EL) ([(0, some (we_api_Invoice_45_5 a0)), (1002, some (.box 45 (.st [(i6 0), (i6 0), (i6 0), .nils, (i6 0)]))), (1006, some (.box 78 (.st [(.sref 13060 3 0 p108.length)]))), (13060, some (we_api_Line_51_3 p108))] : OL)) hx113 (mp [] _ _ hB) (fun s101 y h => ?_) (fun e E' O' hR => ?_)
                · unfold invoice_Sum_2_L2 at h
                  refine sr (c (OpJ.lss (L rfl) (q 66) (q 65)) rfl cn) ?_
                  refine gh [(0, _), (2, _), (6, _), (32, _), (33, _), (34, _), (64, _), (65, _), (66, _), (67, _)] [(0, some _), (1002, some _), (1006, some _), (13060, some _)] hB rfl rfl (by rfl) ?_
                  refine AWp.seq ?_
                  refine AWp.cond rfl (fun hg109 => ?_) (fun hg109 => ?_)
                  · replace h := ite_t hg109 h
                    refine AWp.skip ?_
                    refine seqQ_n ?_
                    refine AWp.seq ?_
                    refine AWp.block ?_
                    obtain ⟨x110, hx110, h⟩ := bindS h
                    refine sr (c (OpJ.indexD Try.underlying43 tyS51 (idx_some hx110).1 (get_map e_api_Line (idx_some hx110).2) (L rfl) (q 64) (q 66)) rfl (c (OpJ.loadD tyS51 (by rfl) (by rfl) (L rfl) (q 68)) rfl (cg (OpJ.alloc hB tyZ51 (nm := 1010) (by decide) (L rfl)) rfl (cg (OpJ.storeB tyS51 (SetAt.here _ _) (by rfl) (by rfl) (by simp) rfl (q 10) (q 69)) rfl cn)))) ?_
                    refine gh [(0, _), (2, _), (6, _), (10, _), (32, _), (33, _), (34, _), (64, _), (65, _), (66, _)] [(0, some _), (1002, some _), (1006, some _), (1010, some _), (13060, some _)] hB rfl rfl (by rfl) ?_
                    obtain ⟨r111, hr111, h⟩ := bindS h
                    refine AWp.region (oc (lb hN 51 (.d (e_api_Line x110)) (.d (e_api_Line x110)) tyS51 (At.here _) (ot 10 (.ptr 1010 0 [])))
                      (oc (OpJ.callFn hB fnOk34 (invoice_sums_add_2_ac s101.2 x110 (1 : Int) r111 hr111) [(0, 1006), (1, 13060), (950000, 100100)] (by kernel_rfl) (L rfl) (by kernel_rfl) (OpdL.cons (ot 6 (.ptr 1006 0 [])) (OpdL.cons (ot 70 (.d (e_api_Line x110))) (OpdL.cons (Opd.int .i64 (1)) OpdL.nil))))
                      (OpJs.nil))) (by rfl) (by rfl) ?_
                    refine blkQ_n ?_
                    refine seqQ_n ?_
                    refine AWp.ghost (mp [] [(0, (.sref 0 5 0 a0.length)), (2, (.ptr 1002 0 [])), (6, (.ptr 1006 0 [])), (32, (.sref 0 5 0 a0.length)), (33, (i6 (a0.length : Int))), (34, (i6 s22.1)), (64, (qe_api_Line_3 x91.fLines)), (65, (i6 (x91.fLines.length : Int))), (66, (i6 s101.1))] [(0, some (we_api_Invoice_45_5 a0)), (1002, some (.box 45 (.st [(i6 0), (i6 0), (i6 0), .nils, (i6 0)]))), (1006, some (.box 78 (.st [(.sref 100100 3 0 r111.flines.length)]))), (100100, some (we_api_Line_51_3 r111.flines))] hB) ?_
                    refine rg (c (add6 (L rfl) (q 66) (Opd.int .i64 (1))) rfl (c (mv hN (q 72)) rfl cn)) ?_
                    obtain rfl := Option.some.inj h
                    exact ⟨rfl, (Mat.trans (mp [] [(0, (.sref 0 5 0 a0.length)), (2, (.ptr 1002 0 [])), (6, (.ptr 1006 0 [])), (32, (.sref 0 5 0 a0.length)), (33, (i6 (a0.length : Int))), (34, (i6 s22.1)), (64, (qe_api_Line_3 x91.fLines)), (65, (i6 (x91.fLines.length : Int))), (66, (i6 (w64 (s101.1 + (1 : Int)))))] [(0, some (we_api_Invoice_45_5 a0)), (1002, some (.box 45 (.st [(i6 0), (i6 0), (i6 0), .nils, (i6 0)]))), (1006, some (.box 78 (.st [(.sref 100100 3 0 r111.flines.length)]))), (100100, some (we_api_Line_51_3 r111.flines))] hB) (mp [(13060, 100100)] _ _ hB))⟩
                  · replace h := ite_f hg109 h
                    refine AWp.exit ?_
                    refine seqQ_e ?_
                    obtain rfl := Option.some.inj h
                    exact ⟨(fun hc => by cases hc), rfl, (mp [] _ _ hB)⟩
                · obtain ⟨rfl, hmat⟩ := hR
                  refine blkQ_hit ?_
                  refine blkQ_n ?_
                  refine seqQ_n ?_
                  refine AWp.ghost hmat ?_
                  refine rg (c (add6 (L rfl) (q 34) (Opd.int .i64 (1))) rfl (c (mv hN (q 73)) rfl cn)) ?_
                  obtain rfl := Option.some.inj h
                  exact ⟨rfl, (Mat.trans (mp [] [(0, (.sref 0 5 0 a0.length)), (2, (.ptr 1002 0 [])), (6, (.ptr 1006 0 [])), (32, (.sref 0 5 0 a0.length)), (33, (i6 (a0.length : Int))), (34, (i6 (w64 (s22.1 + (1 : Int)))))] [(0, some (we_api_Invoice_45_5 a0)), (1002, some (.box 45 (.st [(i6 0), (i6 0), (i6 0), .nils, (i6 0)]))), (1006, some (.box 78 (.st [(.sref 13060 3 0 p108.length)]))), (13060, some (we_api_Line_51_3 p108))] hB) (mp [] _ _ hB))⟩
            · rcases Bool.eq_false_or_eq_true (x91.fVersion != (w64 (s22.1 + (1 : Int)))) with hg114 | hg114
              · replace h := ite_t hg114 h
                refine dr (c (ov (.ptr 1008 2 [2]) (fp hN Try.underlying45 2 tyS3 _ (q 8))) rfl (c (lb hN 45 _ _ tyS3 (ad _) (q 39)) rfl (c (mv hN (q 7)) rfl (c (add6 (L rfl) (q 41) (Opd.int .i64 (1))) rfl (c (OpJ.neqI (L rfl) (q 40) (q 42)) rfl (c (OpJ.val (v' := .d (.bool true)) (by rw [hg114]) (mv hN (q 43))) rfl (cg (OpJ.skipU (g := 44) (L rfl) (by rfl)) rfl (cg (OpJ.skipU (g := 44) (L rfl) (by rfl)) rfl (cg (OpJ.skipU (g := 44) (L rfl) (by rfl)) rfl (cg (OpJ.skipU (g := 44) (L rfl) (by rfl)) rfl (cg (OpJ.skipU (g := 44) (L rfl) (by rfl)) rfl (cg (OpJ.skipU (g := 44) (L rfl) (by rfl)) rfl (cg (OpJ.skipU (g := 44) (L rfl) (by rfl)) rfl (c (OpJ.pickT (L rfl) (q 44) (Opd.bool true)) rfl (c (mv hN (q 52)) rfl (cg (OpJ.skipU (g := 53) (L rfl) (by rfl)) rfl (cg (OpJ.skipU (g := 53) (L rfl) (by rfl)) rfl (cg (OpJ.skipU (g := 53) (L rfl) (by rfl)) rfl (cg (OpJ.skipU (g := 53) (L rfl) (by rfl)) rfl (cg (OpJ.skipU (g := 53) (L rfl) (by rfl)) rfl (cg (OpJ.skipU (g := 53) (L rfl) (by rfl)) rfl (cg (OpJ.skipU (g := 53) (L rfl) (by rfl)) rfl (c (OpJ.pickT (L rfl) (q 53) (Opd.bool true)) rfl cn))))))))))))))))))))))) (by kernel_rfl) (by kernel_rfl) ?_
                exact hjj99 _ h _ _ (Mat.trans (mp [] [(0, (.sref 0 5 0 a0.length)), (2, (.ptr 1002 0 [])), (6, (.ptr 1006 0 [])), (8, (.ptr 1008 0 [])), (32, (.sref 0 5 0 a0.length)), (33, (i6 (a0.length : Int))), (34, (i6 s22.1)), (61, (bo true))] [(0, some (we_api_Invoice_45_5 a0)), (1002, some (.box 45 (.st [(i6 0), (i6 0), (i6 0), .nils, (i6 0)]))), (1006, some (.box 78 (.st [(.sref 13060 3 0 s22.2.length)]))), (1008, some (.box 45 (.d (e_api_Invoice x91)))), (13060, some (we_api_Line_51_3 s22.2))] hB) (mp [] _ _ hB))
              · replace h := ite_f hg114 h
                obtain ⟨x115, hx115, h⟩ := bindS h
                obtain ⟨x116, hx116, h⟩ := bindS h
                rcases Bool.eq_false_or_eq_true (x91.fMember != x116.fMember) with hg117 | hg117
                · replace h := ite_t hg117 h
                  refine dr (c (ov (.ptr 1008 2 [2]) (fp hN Try.underlying45 2 tyS3 _ (q 8))) rfl (c (lb hN 45 _ _ tyS3 (ad _) (q 39)) rfl (c (mv hN (q 7)) rfl (c (add6 (L rfl) (q 41) (Opd.int .i64 (1))) rfl (c (OpJ.neqI (L rfl) (q 40) (q 42)) rfl (c (OpJ.val (v' := .d (.bool false)) (by rw [hg114]) (mv hN (q 43))) rfl (c (OpJ.guarded (g := 44) (by rfl) (ov (.ptr 1008 0 [0]) (fp hN Try.underlying45 0 tyS3 _ (q 8)))) rfl (c (OpJ.guarded (g := 44) (by rfl) (lb hN 45 _ _ tyS3 (ad _) (q 45))) rfl (c (OpJ.guarded (g := 44) (by rfl) (mv hN (q 0))) rfl (c (OpJ.guarded (g := 44) (by rfl) (OpJ.val (v' := (.ptr 0 (0 * 5) [0])) (by simp) (OpJ.indexS Try.underlying53 tyS45 (idx_some hx115).1 (by have := idx_lt hx115; first | (simpa using this) | ((try simp only [List.length_map] at this); (try simp only [List.length_map]); omega)) (L rfl) (q 47) (Opd.int .i64 (0))))) rfl (c (OpJ.guarded (g := 44) (by rfl) (ov (.ptr 0 ((0 * 5) + 0) [0, 0]) (fp hN Try.underlying45 0 tyS3 _ (q 48)))) rfl (c (OpJ.guarded (g := 44) (by rfl) (OpJ.loadR (e := 45) (sz := 5) tyS3 (get_map e_api_Invoice (idx_some hx116).2) (o := 0) (ad _) (by rfl) (by rfl) (by rfl) (L rfl) (q 49))) rfl (c (OpJ.guarded (g := 44) (by rfl) (OpJ.neqI (L rfl) (q 46) (q 50))) rfl (c (OpJ.pickF (L rfl) (q 44) (q 51)) rfl (c (OpJ.val (v' := .d (.bool true)) (by rw [hg117]) (mv hN (q 52))) rfl (cg (OpJ.skipU (g := 53) (L rfl) (by rfl)) rfl (cg (OpJ.skipU (g := 53) (L rfl) (by rfl)) rfl (cg (OpJ.skipU (g := 53) (L rfl) (by rfl)) rfl (cg (OpJ.skipU (g := 53) (L rfl) (by rfl)) rfl (cg (OpJ.skipU (g := 53) (L rfl) (by rfl)) rfl (cg (OpJ.skipU (g := 53) (L rfl) (by rfl)) rfl (cg (OpJ.skipU (g := 53) (L rfl) (by rfl)) rfl (c (OpJ.pickT (L rfl) (q 53) (Opd.bool true)) rfl cn))))))))))))))))))))))) (by kernel_rfl) (by kernel_rfl) ?_
                  exact hjj99 _ h _ _ (Mat.trans (mp [] [(0, (.sref 0 5 0 a0.length)), (2, (.ptr 1002 0 [])), (6, (.ptr 1006 0 [])), (8, (.ptr 1008 0 [])), (32, (.sref 0 5 0 a0.length)), (33, (i6 (a0.length : Int))), (34, (i6 s22.1)), (61, (bo true))] [(0, some (we_api_Invoice_45_5 a0)), (1002, some (.box 45 (.st [(i6 0), (i6 0), (i6 0), .nils, (i6 0)]))), (1006, some (.box 78 (.st [(.sref 13060 3 0 s22.2.length)]))), (1008, some (.box 45 (.d (e_api_Invoice x91)))), (13060, some (we_api_Line_51_3 s22.2))] hB) (mp [] _ _ hB))
                · replace h := ite_f hg117 h
                  obtain ⟨x118, hx118, h⟩ := bindS h
                  obtain ⟨x119, hx119, h⟩ := bindS h
                  refine dr (c (ov (.ptr 1008 2 [2]) (fp hN Try.underlying45 2 tyS3 _ (q 8))) rfl (c (lb hN 45 _ _ tyS3 (ad _) (q 39)) rfl (c (mv hN (q 7)) rfl (c (add6 (L rfl) (q 41) (Opd.int .i64 (1))) rfl (c (OpJ.neqI (L rfl) (q 40) (q 42)) rfl (c (OpJ.val (v' := .d (.bool false)) (by rw [hg114]) (mv hN (q 43))) rfl (c (OpJ.guarded (g := 44) (by rfl) (ov (.ptr 1008 0 [0]) (fp hN Try.underlying45 0 tyS3 _ (q 8)))) rfl (c (OpJ.guarded (g := 44) (by rfl) (lb hN 45 _ _ tyS3 (ad _) (q 45))) rfl (c (OpJ.guarded (g := 44) (by rfl) (mv hN (q 0))) rfl (c (OpJ.guarded (g := 44) (by rfl) (OpJ.val (v' := (.ptr 0 (0 * 5) [0])) (by simp) (OpJ.indexS Try.underlying53 tyS45 (idx_some hx115).1 (by have := idx_lt hx115; first | (simpa using this) | ((try simp only [List.length_map] at this); (try simp only [List.length_map]); omega)) (L rfl) (q 47) (Opd.int .i64 (0))))) rfl (c (OpJ.guarded (g := 44) (by rfl) (ov (.ptr 0 ((0 * 5) + 0) [0, 0]) (fp hN Try.underlying45 0 tyS3 _ (q 48)))) rfl (c (OpJ.guarded (g := 44) (by rfl) (OpJ.loadR (e := 45) (sz := 5) tyS3 (get_map e_api_Invoice (idx_some hx116).2) (o := 0) (ad _) (by rfl) (by rfl) (by rfl) (L rfl) (q 49))) rfl (c (OpJ.guarded (g := 44) (by rfl) (OpJ.neqI (L rfl) (q 46) (q 50))) rfl (c (OpJ.pickF (L rfl) (q 44) (q 51)) rfl (c (OpJ.val (v' := .d (.bool false)) (by rw [hg117]) (mv hN (q 52))) rfl (c (OpJ.guarded (g := 53) (by rfl) (ov (.ptr 1008 1 [1]) (fp hN Try.underlying45 1 tyS3 _ (q 8)))) rfl (c (OpJ.guarded (g := 53) (by rfl) (lb hN 45 _ _ tyS3 (ad _) (q 54))) rfl (c (OpJ.guarded (g := 53) (by rfl) (mv hN (q 0))) rfl (c (OpJ.guarded (g := 53) (by rfl) (OpJ.val (v' := (.ptr 0 (0 * 5) [0])) (by simp) (OpJ.indexS Try.underlying53 tyS45 (idx_some hx118).1 (by have := idx_lt hx118; first | (simpa using this) | ((try simp only [List.length_map] at this); (try simp only [List.length_map]); omega)) (L rfl) (q 56) (Opd.int .i64 (0))))) rfl (c (OpJ.guarded (g := 53) (by rfl) (ov (.ptr 0 ((0 * 5) + 1) [0, 1]) (fp hN Try.underlying45 1 tyS3 _ (q 57)))) rfl (c (OpJ.guarded (g := 53) (by rfl) (OpJ.loadR (e := 45) (sz := 5) tyS3 (get_map e_api_Invoice (idx_some hx119).2) (o := 1) (ad _) (by rfl) (by rfl) (by rfl) (L rfl) (q 58))) rfl (c (OpJ.guarded (g := 53) (by rfl) (OpJ.neqI (L rfl) (q 55) (q 59))) rfl (c (OpJ.pickF (L rfl) (q 53) (q 60)) rfl cn))))))))))))))))))))))) (by kernel_rfl) (by kernel_rfl) ?_
                  exact hjj99 _ h _ _ (Mat.trans (mp [] [(0, (.sref 0 5 0 a0.length)), (2, (.ptr 1002 0 [])), (6, (.ptr 1006 0 [])), (8, (.ptr 1008 0 [])), (32, (.sref 0 5 0 a0.length)), (33, (i6 (a0.length : Int))), (34, (i6 s22.1)), (61, (bo (x91.fMonth != x119.fMonth)))] [(0, some (we_api_Invoice_45_5 a0)), (1002, some (.box 45 (.st [(i6 0), (i6 0), (i6 0), .nils, (i6 0)]))), (1006, some (.box 78 (.st [(.sref 13060 3 0 s22.2.length)]))), (1008, some (.box 45 (.d (e_api_Invoice x91)))), (13060, some (we_api_Line_51_3 s22.2))] hB) (mp [] _ _ hB))
          · replace h := ite_f hg89 h
            refine AWp.exit ?_
            refine seqQ_e ?_
            obtain rfl := Option.some.inj h
            exact ⟨(fun hc => by cases hc), rfl, (mp [] _ _ hB)⟩
        · rcases x120 with _ | p88
          · obtain ⟨rfl, hmat⟩ := hR
            refine blkQ_r ?_
            refine seqQ_r ?_
            obtain rfl := Option.some.inj h
            exact ⟨.inl rfl, _, _, (Mat.trans hmat (Mat.trans (Mat.coeP (Ts := []) (Bs := [(1002, some (.box 45 (.d (.st [(.int .i64 0), (.int .i64 0), (.int .i64 0), (.list 3 (([] : List api_Line).map e_api_Line)), (.int .i64 0)]))))]) TwT.nil (TwB.cons (x := (.st [(i6 0), (i6 0), (i6 0), .nils, (i6 0)])) (by rfl) (Tw.leaf ⟨_, (Co.st (CoL.cons (Co.d _) (CoL.cons (Co.d _) (CoL.cons (Co.d _) (CoL.cons (Co.nils 3) (CoL.cons (Co.d _) CoL.nil)))))), rfl⟩) TwB.nil)) (mp [] [(2, (.ptr 1002 0 [])), (3, (i6 (35 : Int)))] [(0, some (we_api_Invoice_45_5 a0)), (1002, some (.box 45 (.d (.st [(.int .i64 0), (.int .i64 0), (.int .i64 0), (.list 3 (([] : List api_Line).map e_api_Line)), (.int .i64 0)]))))] hB))), [(.d (.st [(.int .i64 0), (.int .i64 0), (.int .i64 0), (.list 3 (([] : List api_Line).map e_api_Line)), (.int .i64 0)])), (i6 (35 : Int))], (Res.cell (c := (.d (.st [(.int .i64 0), (.int .i64 0), (.int .i64 0), (.list 3 (([] : List api_Line).map e_api_Line)), (.int .i64 0)]))) (by rfl) (by rfl) tyS45 (by rfl) (by rfl) (by rfl) (Res.tmp (by rfl) (by rfl) Res.nil)), rfl, by rfl, by rfl, by rfl⟩
          · obtain ⟨rfl, hmat⟩ := hR
            refine blkQ_hit ?_
            refine seqQ_n ?_
            refine AWp.ghost hmat ?_
            refine AWp.seq ?_
            obtain ⟨x122, hx122, h⟩ := bindS h
            obtain ⟨x123, hx123, h⟩ := bindS h
            obtain ⟨x124, hx124, h⟩ := bindS h
            obtain ⟨x125, hx125, h⟩ := bindS h
            obtain ⟨r126, hr126, h⟩ := bindS h
            refine AWp.draws (by kernel_rfl) (oc (mv hN (ot 0 (.sref 0 5 0 a0.length)))
              (oc (OpJ.val (v' := (.ptr 0 (0 * 5) [0])) (by simp) (OpJ.indexS Try.underlying53 tyS45 (obj := (we_api_Invoice_45_5 a0)) (idx_some hx122).1 (by have := idx_lt hx122; first | (simpa using this) | ((try simp only [List.length_map] at this); (try simp only [List.length_map]); omega)) (L rfl) (ot 74 (.sref 0 5 0 a0.length)) (Opd.int .i64 (0))))
              (oc (ov (.ptr 0 ((0 * 5) + 0) [0, 0]) (fp hN Try.underlying45 0 tyS3 (we_api_Invoice_45_5 a0) (ot 75 (.ptr 0 (0 * 5) [0]))))
              (oc (OpJ.loadR (e := 45) (sz := 5) (es := a0.map e_api_Invoice) tyS3 (get_map e_api_Invoice (idx_some hx123).2) (o := 0) (v := (.int .i64 x123.fMember)) (ad (.int .i64 x123.fMember)) (by rfl) (by rfl) (by rfl) (L rfl) (ot 76 (.ptr 0 ((0 * 5) + 0) [0, 0])))
              (oc (mv hN (ot 0 (.sref 0 5 0 a0.length)))
              (oc (OpJ.val (v' := (.ptr 0 (0 * 5) [0])) (by simp) (OpJ.indexS Try.underlying53 tyS45 (obj := (we_api_Invoice_45_5 a0)) (idx_some hx124).1 (by have := idx_lt hx124; first | (simpa using this) | ((try simp only [List.length_map] at this); (try simp only [List.length_map]); omega)) (L rfl) (ot 78 (.sref 0 5 0 a0.length)) (Opd.int .i64 (0))))
              (oc (ov (.ptr 0 ((0 * 5) + 1) [0, 1]) (fp hN Try.underlying45 1 tyS3 (we_api_Invoice_45_5 a0) (ot 79 (.ptr 0 (0 * 5) [0]))))
              (oc (OpJ.loadR (e := 45) (sz := 5) (es := a0.map e_api_Invoice) tyS3 (get_map e_api_Invoice (idx_some hx125).2) (o := 1) (v := (.int .i64 x125.fMonth)) (ad (.int .i64 x125.fMonth)) (by rfl) (by rfl) (by rfl) (L rfl) (ot 80 (.ptr 0 ((0 * 5) + 1) [0, 1])))
              (oc (mv hN (ot 0 (.sref 0 5 0 a0.length)))
              (oc (OpJ.lenS (obj := (we_api_Invoice_45_5 a0)) Try.underlying53 (L rfl) (ot 82 (.sref 0 5 0 a0.length)))
              (oc (OpJ.callFn hB fnOk35 (invoice_sums_invoice_ac p88 x123.fMember x125.fMonth (a0.length : Int) r126 hr126) [(0, 1006), (1, 13060)] (by kernel_rfl) (L rfl) (by kernel_rfl) (OpdL.cons (ot 6 (.ptr 1006 0 [])) (OpdL.cons (ot 77 (i6 x123.fMember)) (OpdL.cons (ot 81 (i6 x125.fMonth)) (OpdL.cons (ot 83 (i6 (a0.length : Int))) OpdL.nil)))))
              (oc (OpJ.alloc hB tyZ45 (nm := 1011) (by decide) (L rfl))
              (oc (OpJ.storeB (bt := 45) (c := (.st [(i6 0), (i6 0), (i6 0), .nils, (i6 0)])) (v := (.d (e_api_Invoice r126.1))) (c' := (.d (e_api_Invoice r126.1))) tyS45 (SetAt.here _ _) (by rfl) (by rfl) (by simp) rfl (ot 11 (.ptr 1011 0 [])) (ot 84 (.d (e_api_Invoice r126.1))))
              (OpJs.nil)))))))))))))) (by kernel_rfl) (by rfl) (by rfl) ?_
            refine seqQ_n ?_
            refine AWp.ghost (mp [] [(2, (.ptr 1002 0 [])), (11, (.ptr 1011 0 []))] [(0, some (we_api_Invoice_45_5 a0)), (1002, some (.box 45 (.st [(i6 0), (i6 0), (i6 0), .nils, (i6 0)]))), (1011, some (.box 45 (.d (e_api_Invoice r126.1))))] hB) ?_
            refine AWp.seq ?_
            obtain ⟨r127, hr127, h⟩ := bindS h
            refine sr (c (lb hN 45 _ _ tyS45 (At.here _) (q 11)) rfl (cg (OpJ.callFn hB fnOk41 (invoice_consistent_ac r126.1 r127 hr127) [] (by kernel_rfl) (L rfl) (by kernel_rfl) (OpdL.cons (q 85) OpdL.nil)) rfl (c (OpJ.not (L rfl) (q 86)) rfl cn))) ?_
            refine gh [(2, _), (11, _), (87, _)] [(0, some _), (1002, some _), (1011, some _)] hB rfl rfl (by rfl) ?_
            refine AWp.cond rfl (fun hg128 => ?_) (fun hg128 => ?_)
            · replace h := ite_t hg128 h
              refine sr (c (OpJ.build (places := [(0, 1), (1, 1), (2, 1), (3, 1), (4, 1)]) ⟨Try.underlying45, fun w => by kernel_rfl⟩ tyZS45 Opds.nil (by kernel_rfl) (r := (.st [(i6 0), (i6 0), (i6 0), .nils, (i6 0)])) (by rfl) (L rfl)) rfl (cg (OpJ.storeB tyS45 (SetAt.here _ _) (by rfl) (by rfl) (by simp) rfl (q 2) (q 88)) rfl (c (OpJ.assign (L rfl) (Opd.int .i64 (3))) rfl cn))) ?_
              refine gh [(2, _), (3, _)] [(0, some _), (1002, some _)] hB rfl rfl (by rfl) ?_
              refine AWp.ret ?_
              refine seqQ_r ?_
              obtain rfl := Option.some.inj h
              exact ⟨.inl rfl, _, _, (Mat.trans (Mat.coeP (Ts := []) (Bs := [(1002, some (.box 45 (.d (.st [(.int .i64 0), (.int .i64 0), (.int .i64 0), (.list 3 (([] : List api_Line).map e_api_Line)), (.int .i64 0)]))))]) TwT.nil (TwB.cons (x := (.st [(i6 0), (i6 0), (i6 0), .nils, (i6 0)])) (by rfl) (Tw.leaf ⟨_, (Co.st (CoL.cons (Co.d _) (CoL.cons (Co.d _) (CoL.cons (Co.d _) (CoL.cons (Co.nils 3) (CoL.cons (Co.d _) CoL.nil)))))), rfl⟩) TwB.nil)) (mp [] [(2, (.ptr 1002 0 [])), (3, (i6 (3 : Int)))] [(0, some (we_api_Invoice_45_5 a0)), (1002, some (.box 45 (.d (.st [(.int .i64 0), (.int .i64 0), (.int .i64 0), (.list 3 (([] : List api_Line).map e_api_Line)), (.int .i64 0)]))))] hB)), [(.d (.st [(.int .i64 0), (.int .i64 0), (.int .i64 0), (.list 3 (([] : List api_Line).map e_api_Line)), (.int .i64 0)])), (i6 (3 : Int))], (Res.cell (c := (.d (.st [(.int .i64 0), (.int .i64 0), (.int .i64 0), (.list 3 (([] : List api_Line).map e_api_Line)), (.int .i64 0)]))) (by rfl) (by rfl) tyS45 (by rfl) (by rfl) (by rfl) (Res.tmp (by rfl) (by rfl) Res.nil)), rfl, by rfl, by rfl, by rfl⟩
            · replace h := ite_f hg128 h
              refine AWp.skip ?_
              refine seqQ_n ?_
              refine sr (c (lb hN 45 _ _ tyS45 (At.here _) (q 11)) rfl (cg (OpJ.storeB tyS45 (SetAt.here _ _) (by rfl) (by rfl) (by simp) rfl (q 2) (q 89)) rfl (c (OpJ.assign (L rfl) (Opd.int .i64 (0))) rfl cn))) ?_
              refine gh [(2, _), (3, _)] [(0, some _), (1002, some _)] hB rfl rfl (by rfl) ?_
              refine AWp.ret ?_
              obtain rfl := Option.some.inj h
              exact ⟨.inl rfl, _, _, (kp [(2, _), (3, _)] [(0, some _), (1002, some _)] hB rfl rfl (by rfl)), [(.d (e_api_Invoice r126.1)), (i6 0)], (Res.cell (c := (.d (e_api_Invoice r126.1))) (by rfl) (by rfl) tyS45 (by rfl) (by rfl) (by rfl) (Res.tmp (by rfl) (by rfl) Res.nil)), rfl, by rfl, by rfl, by rfl⟩

noncomputable def invoice_Correct_2_L0 (r4 : api_Invoice × Int) (s6 : Int × (List api_Line)) : Option ((((List api_Line))) ⊕ (Int × (List api_Line))) :=
  (if (decide (s6.1 < (r4.1.fLines.length : Int))) = true then
  (idx r4.1.fLines s6.1).bind fun x15 =>
  (invoice_sums_add_2 s6.2 x15 (1 : Int)).bind fun r16 =>
  some (.inr ((w64 (s6.1 + (1 : Int))), r16.flines))
  else
  some (.inl s6.2))
noncomputable def invoice_Correct_2_L1 (r1 : api_Invoice × Int) (s19 : Int × (List api_Line)) : Option ((((List api_Line))) ⊕ (Int × (List api_Line))) :=
  (if (decide (s19.1 < (r1.1.fLines.length : Int))) = true then
  (idx r1.1.fLines s19.1).bind fun x28 =>
  (invoice_sums_add_2 s19.2 x28 (-1 : Int)).bind fun r29 =>
  some (.inr ((w64 (s19.1 + (1 : Int))), r29.flines))
  else
  some (.inl s19.2))
noncomputable def invoice_Correct_2 (a0 : (List api_Invoice)) (a1 : api_Member) (a2 : api_Tariff) (a3 : (List api_Series)) : Option (api_Invoice × Int) :=
  (invoice_Sum_2 a0).bind fun r1 =>
  (if (r1.2 != (0 : Int)) = true then
  some ((api_Invoice.mk (0 : Int) (0 : Int) (0 : Int) ([] : List api_Line) (0 : Int)), r1.2)
  else
  (if (a1.fASN != r1.1.fMember) = true then
  some ((api_Invoice.mk (0 : Int) (0 : Int) (0 : Int) ([] : List api_Line) (0 : Int)), (32 : Int))
  else
  (invoice_Make a1 r1.1.fMonth a2 a3).bind fun r4 =>
  (if (r4.2 != (0 : Int)) = true then
  some ((api_Invoice.mk (0 : Int) (0 : Int) (0 : Int) ([] : List api_Line) (0 : Int)), r4.2)
  else
  (loop (invoice_Correct_2_L0 r4) ((0 : Int), ([] : List api_Line))).bind fun p13 =>
  (loop (invoice_Correct_2_L1 r1) ((0 : Int), p13)).bind fun p26 =>
  (slices_DeleteFunc p26).bind fun r32 =>
  (if ((r32.length : Int) == (0 : Int)) = true then
  some ((api_Invoice.mk (0 : Int) (0 : Int) (0 : Int) ([] : List api_Line) (0 : Int)), (7 : Int))
  else
  (invoice_sums_invoice_2 r32 r1.1.fMember r1.1.fMonth (w64 (r1.1.fVersion + (1 : Int)))).bind fun r34 =>
  (invoice_consistent r34.1).bind fun r35 =>
  (if (!r35) = true then
  some ((api_Invoice.mk (0 : Int) (0 : Int) (0 : Int) ([] : List api_Line) (0 : Int)), (3 : Int))
  else
  some (r34.1, (0 : Int)))))))
set_option maxHeartbeats 4000000 in
set_option maxRecDepth 100000 in
theorem invoice_Correct_2_ac (a0 : (List api_Invoice)) (a1 : api_Member) (a2 : api_Tariff) (a3 : (List api_Series)) (r : api_Invoice × Int) (h : invoice_Correct_2 a0 a1 a2 a3 = some r) : AC Try.prog 21 [(.sref 0 5 0 a0.length), (.d (e_api_Member a1)), (.d (e_api_Tariff a2)), (.d (.list 4 (a3.map e_api_Series)))] [(0, (.row 45 5 (a0.map e_api_Invoice)))] (.tup [(.d (e_api_Invoice r.1)), (.d (.int .i64 r.2))]) [(0, some (.row 45 5 (a0.map e_api_Invoice)))] := by
  refine AC.of_code2 Try.func21 rfl rfl (Nat.le_of_ble_eq_true (by rfl)) fun B hB hN => ?_
  have L {d : Nat} (h : Nat.blt d Try.f21.ntmps = true) : d < B.N := ltN hN h
  delta invoice_Correct_2 at h
  refine sr (cg (OpJ.box hB (nm := 1005) (by decide) (by simp) rfl (L rfl) (q 1)) rfl (cg (OpJ.box hB (nm := 1006) (by decide) (by simp) rfl (L rfl) (q 2)) rfl (cg (OpJ.alloc hB tyZ45 (nm := 1008) (by decide) (L rfl)) rfl (c (OpJ.assign (L rfl) (Opd.int .i64 (0))) rfl cn)))) ?_
  refine gh [(0, _), (3, _), (5, _), (6, _), (8, _)] [(0, some _), (1005, some _), (1006, some _), (1008, some _)] hB rfl rfl (by rfl) ?_
  refine AWp.seq ?_
  obtain ⟨r1, hr1, h⟩ := bindS h
  refine AWp.region (oc (mv hN (ot 0 (.sref 0 5 0 a0.length)))
  (oc (OpJ.callFn hB fnOk19 (invoice_Sum_2_ac a0 r1 hr1) [(0, 0)] (by kernel_rfl) (L rfl) (by kernel_rfl) (OpdL.cons (ot 20 (.sref 0 5 0 a0.length)) OpdL.nil))
  (oc (mv hN (ot 21 (.tup [(.d (e_api_Invoice r1.1)), (i6 r1.2)])))
  (oc (OpJ.extract (v := (.d (e_api_Invoice r1.1))) (by rfl) rfl (L rfl) (ot 19 (.tup [(.d (e_api_Invoice r1.1)), (i6 r1.2)])))
  (oc (OpJ.extract (v := (i6 r1.2)) (by rfl) rfl (L rfl) (ot 19 (.tup [(.d (e_api_Invoice r1.1)), (i6 r1.2)])))
  (oc (OpJ.alloc hB tyZ45 (nm := 1010) (by decide) (L rfl))
  (oc (OpJ.storeB (bt := 45) (c := (.st [(i6 0), (i6 0), (i6 0), .nils, (i6 0)])) (v := (.d (e_api_Invoice r1.1))) (c' := (.d (e_api_Invoice r1.1))) tyS45 (SetAt.here _ _) (by rfl) (by rfl) (by simp) rfl (ot 10 (.ptr 1010 0 [])) (ot 22 (.d (e_api_Invoice r1.1))))
  (oc (OpJ.assign (L rfl) (ot 23 (i6 r1.2)))
  (OpJs.nil))))))))) (by rfl) (by rfl) ?_
  refine seqQ_n ?_
  refine AWp.ghost (mp [] [(3, (qe_api_Series_4 a3)), (5, (.ptr 1005 0 [])), (6, (.ptr 1006 0 [])), (8, (.ptr 1008 0 [])), (10, (.ptr 1010 0 [])), (11, (i6 r1.2))] [(0, some (we_api_Invoice_45_5 a0)), (1005, some (.box 24 (.d (e_api_Member a1)))), (1006, some (.box 27 (.d (e_api_Tariff a2)))), (1008, some (.box 45 (.st [(i6 0), (i6 0), (i6 0), .nils, (i6 0)]))), (1010, some (.box 45 (.d (e_api_Invoice r1.1))))] hB) ?_
  refine AWp.seq ?_
  refine sr (c (mv hN (q 11)) rfl (c (OpJ.neqI (L rfl) (q 24) (Opd.int .i64 (0))) rfl cn)) ?_
  refine gh [(3, _), (5, _), (6, _), (8, _), (10, _), (11, _), (25, _)] [(0, some _), (1005, some _), (1006, some _), (1008, some _), (1010, some _)] hB rfl rfl (by rfl) ?_
  refine AWp.cond rfl (fun hg2 => ?_) (fun hg2 => ?_)
  · replace h := ite_t hg2 h
    refine sr (c (OpJ.build (places := [(0, 1), (1, 1), (2, 1), (3, 1), (4, 1)]) ⟨Try.underlying45, fun w => by kernel_rfl⟩ tyZS45 Opds.nil (by kernel_rfl) (r := (.st [(i6 0), (i6 0), (i6 0), .nils, (i6 0)])) (by rfl) (L rfl)) rfl (c (mv hN (q 11)) rfl (cg (OpJ.storeB tyS45 (SetAt.here _ _) (by rfl) (by rfl) (by simp) rfl (q 8) (q 26)) rfl (c (OpJ.assign (L rfl) (q 27)) rfl cn)))) ?_
    refine gh [(8, _), (9, _)] [(0, some _), (1008, some _)] hB rfl rfl (by rfl) ?_
    refine AWp.ret ?_
    refine seqQ_r ?_
    obtain rfl := Option.some.inj h
    exact ⟨.inl rfl, _, _, (Mat.trans (Mat.coeP (Ts := []) (Bs := [(1008, some (.box 45 (.d (.st [(.int .i64 0), (.int .i64 0), (.int .i64 0), (.list 3 (([] : List api_Line).map e_api_Line)), (.int .i64 0)]))))]) TwT.nil (TwB.cons (x := (.st [(i6 0), (i6 0), (i6 0), .nils, (i6 0)])) (by rfl) (Tw.leaf ⟨_, (Co.st (CoL.cons (Co.d _) (CoL.cons (Co.d _) (CoL.cons (Co.d _) (CoL.cons (Co.nils 3) (CoL.cons (Co.d _) CoL.nil)))))), rfl⟩) TwB.nil)) (mp [] [(8, (.ptr 1008 0 [])), (9, (i6 r1.2))] [(0, some (we_api_Invoice_45_5 a0)), (1008, some (.box 45 (.d (.st [(.int .i64 0), (.int .i64 0), (.int .i64 0), (.list 3 (([] : List api_Line).map e_api_Line)), (.int .i64 0)]))))] hB)), [(.d (.st [(.int .i64 0), (.int .i64 0), (.int .i64 0), (.list 3 (([] : List api_Line).map e_api_Line)), (.int .i64 0)])), (i6 r1.2)], (Res.cell (c := (.d (.st [(.int .i64 0), (.int .i64 0), (.int .i64 0), (.list 3 (([] : List api_Line).map e_api_Line)), (.int .i64 0)]))) (by rfl) (by rfl) tyS45 (by rfl) (by rfl) (by rfl) (Res.tmp (by rfl) (by rfl) Res.nil)), rfl, by rfl, by rfl, by rfl⟩
  · replace h := ite_f hg2 h
    refine AWp.skip ?_
    refine seqQ_n ?_
    refine AWp.seq ?_
    refine sr (c (ov (.ptr 1005 0 [0]) (fp hN Try.underlying24 0 tyS3 _ (q 5))) rfl (c (lb hN 24 _ _ tyS3 (ad _) (q 28)) rfl (c (ov (.ptr 1010 0 [0]) (fp hN Try.underlying45 0 tyS3 _ (q 10))) rfl (c (lb hN 45 _ _ tyS3 (ad _) (q 30)) rfl (c (OpJ.neqI (L rfl) (q 29) (q 31)) rfl cn))))) ?_
    refine gh [(3, _), (5, _), (6, _), (8, _), (10, _), (32, _)] [(0, some _), (1005, some _), (1006, some _), (1008, some _), (1010, some _)] hB rfl rfl (by rfl) ?_
    refine AWp.cond rfl (fun hg3 => ?_) (fun hg3 => ?_)
    · replace h := ite_t hg3 h
      refine sr (c (OpJ.build (places := [(0, 1), (1, 1), (2, 1), (3, 1), (4, 1)]) ⟨Try.underlying45, fun w => by kernel_rfl⟩ tyZS45 Opds.nil (by kernel_rfl) (r := (.st [(i6 0), (i6 0), (i6 0), .nils, (i6 0)])) (by rfl) (L rfl)) rfl (cg (OpJ.storeB tyS45 (SetAt.here _ _) (by rfl) (by rfl) (by simp) rfl (q 8) (q 33)) rfl (c (OpJ.assign (L rfl) (Opd.int .i64 (32))) rfl cn))) ?_
      refine gh [(8, _), (9, _)] [(0, some _), (1008, some _)] hB rfl rfl (by rfl) ?_
      refine AWp.ret ?_
      refine seqQ_r ?_
      obtain rfl := Option.some.inj h
      exact ⟨.inl rfl, _, _, (Mat.trans (Mat.coeP (Ts := []) (Bs := [(1008, some (.box 45 (.d (.st [(.int .i64 0), (.int .i64 0), (.int .i64 0), (.list 3 (([] : List api_Line).map e_api_Line)), (.int .i64 0)]))))]) TwT.nil (TwB.cons (x := (.st [(i6 0), (i6 0), (i6 0), .nils, (i6 0)])) (by rfl) (Tw.leaf ⟨_, (Co.st (CoL.cons (Co.d _) (CoL.cons (Co.d _) (CoL.cons (Co.d _) (CoL.cons (Co.nils 3) (CoL.cons (Co.d _) CoL.nil)))))), rfl⟩) TwB.nil)) (mp [] [(8, (.ptr 1008 0 [])), (9, (i6 (32 : Int)))] [(0, some (we_api_Invoice_45_5 a0)), (1008, some (.box 45 (.d (.st [(.int .i64 0), (.int .i64 0), (.int .i64 0), (.list 3 (([] : List api_Line).map e_api_Line)), (.int .i64 0)]))))] hB)), [(.d (.st [(.int .i64 0), (.int .i64 0), (.int .i64 0), (.list 3 (([] : List api_Line).map e_api_Line)), (.int .i64 0)])), (i6 (32 : Int))], (Res.cell (c := (.d (.st [(.int .i64 0), (.int .i64 0), (.int .i64 0), (.list 3 (([] : List api_Line).map e_api_Line)), (.int .i64 0)]))) (by rfl) (by rfl) tyS45 (by rfl) (by rfl) (by rfl) (Res.tmp (by rfl) (by rfl) Res.nil)), rfl, by rfl, by rfl, by rfl⟩
    · replace h := ite_f hg3 h
      refine AWp.skip ?_
      refine seqQ_n ?_
      obtain ⟨r4, hr4, h⟩ := bindS h
      refine sr (c (lb hN 24 _ _ tyS24 (At.here _) (q 5)) rfl (c (ov (.ptr 1010 1 [1]) (fp hN Try.underlying45 1 tyS3 _ (q 10))) rfl (c (lb hN 45 _ _ tyS3 (ad _) (q 36)) rfl (c (lb hN 27 _ _ tyS27 (At.here _) (q 6)) rfl (c (mv hN (q 3)) rfl (cg (OpJ.callFn hB fnOk13 (invoice_Make_ac a1 r1.1.fMonth a2 a3 r4 hr4) [] (by kernel_rfl) (L rfl) (by kernel_rfl) (OpdL.cons (q 35) (OpdL.cons (q 37) (OpdL.cons (q 38) (OpdL.cons (q 39) OpdL.nil))))) rfl (c (mv hN (q 40)) rfl (c (OpJ.extract (by rfl) rfl (L rfl) (q 34)) rfl (c (OpJ.extract (by rfl) rfl (L rfl) (q 34)) rfl (cg (OpJ.alloc hB tyZ45 (nm := 1012) (by decide) (L rfl)) rfl (cg (OpJ.storeB tyS45 (SetAt.here _ _) (by rfl) (by rfl) (by simp) rfl (q 12) (q 41)) rfl (c (OpJ.assign (L rfl) (q 42)) rfl cn)))))))))))) ?_
      refine gh [(8, _), (10, _), (11, _), (12, _)] [(0, some _), (1008, some _), (1010, some _), (1012, some _)] hB rfl rfl (by rfl) ?_
      refine AWp.seq ?_
      refine sr (c (mv hN (q 11)) rfl (c (OpJ.neqI (L rfl) (q 43) (Opd.int .i64 (0))) rfl cn)) ?_
      refine gh [(8, _), (10, _), (11, _), (12, _), (44, _)] [(0, some _), (1008, some _), (1010, some _), (1012, some _)] hB rfl rfl (by rfl) ?_
      refine AWp.cond rfl (fun hg5 => ?_) (fun hg5 => ?_)
      · replace h := ite_t hg5 h
        refine sr (c (OpJ.build (places := [(0, 1), (1, 1), (2, 1), (3, 1), (4, 1)]) ⟨Try.underlying45, fun w => by kernel_rfl⟩ tyZS45 Opds.nil (by kernel_rfl) (r := (.st [(i6 0), (i6 0), (i6 0), .nils, (i6 0)])) (by rfl) (L rfl)) rfl (c (mv hN (q 11)) rfl (cg (OpJ.storeB tyS45 (SetAt.here _ _) (by rfl) (by rfl) (by simp) rfl (q 8) (q 45)) rfl (c (OpJ.assign (L rfl) (q 46)) rfl cn)))) ?_
        refine gh [(8, _), (9, _)] [(0, some _), (1008, some _)] hB rfl rfl (by rfl) ?_
        refine AWp.ret ?_
        refine seqQ_r ?_
        obtain rfl := Option.some.inj h
        exact ⟨.inl rfl, _, _, (Mat.trans (Mat.coeP (Ts := []) (Bs := [(1008, some (.box 45 (.d (.st [(.int .i64 0), (.int .i64 0), (.int .i64 0), (.list 3 (([] : List api_Line).map e_api_Line)), (.int .i64 0)]))))]) TwT.nil (TwB.cons (x := (.st [(i6 0), (i6 0), (i6 0), .nils, (i6 0)])) (by rfl) (Tw.leaf ⟨_, (Co.st (CoL.cons (Co.d _) (CoL.cons (Co.d _) (CoL.cons (Co.d _) (CoL.cons (Co.nils 3) (CoL.cons (Co.d _) CoL.nil)))))), rfl⟩) TwB.nil)) (mp [] [(8, (.ptr 1008 0 [])), (9, (i6 r4.2))] [(0, some (we_api_Invoice_45_5 a0)), (1008, some (.box 45 (.d (.st [(.int .i64 0), (.int .i64 0), (.int .i64 0), (.list 3 (([] : List api_Line).map e_api_Line)), (.int .i64 0)]))))] hB)), [(.d (.st [(.int .i64 0), (.int .i64 0), (.int .i64 0), (.list 3 (([] : List api_Line).map e_api_Line)), (.int .i64 0)])), (i6 r4.2)], (Res.cell (c := (.d (.st [(.int .i64 0), (.int .i64 0), (.int .i64 0), (.list 3 (([] : List api_Line).map e_api_Line)), (.int .i64 0)]))) (by rfl) (by rfl) tyS45 (by rfl) (by rfl) (by rfl) (Res.tmp (by rfl) (by rfl) Res.nil)), rfl, by rfl, by rfl, by rfl⟩
      · replace h := ite_f hg5 h
        refine AWp.skip ?_
        refine seqQ_n ?_
        refine sr (cg (OpJ.alloc hB tyZ78 (nm := 1013) (by decide) (L rfl)) rfl cn) ?_
        refine gh [(8, _), (10, _), (12, _), (13, _)] [(0, some _), (1008, some _), (1010, some _), (1012, some _), (1013, some _)] hB rfl rfl (by rfl) ?_
        refine AWp.seq ?_
        refine sr (c (ov (.ptr 1012 3 [3]) (fp hN Try.underlying45 3 tyS43 _ (q 12))) rfl (c (lb hN 45 _ _ tyS43 (ad _) (q 47)) rfl (c (OpJ.val (v' := (i6 (r4.1.fLines.length : Int))) (by simp) (OpJ.lenD Try.underlying43 (L rfl) (q 48))) rfl (c (mv hN (Opd.int .i64 (0))) rfl cn)))) ?_
        refine gh [(8, _), (10, _), (13, _), (48, _), (49, _), (50, _)] [(0, some _), (1008, some _), (1010, some _), (1013, some _)] hB rfl rfl (by rfl) ?_
        refine AWp.block ?_
        obtain ⟨p13, hx18, h⟩ := bindS h
        refine lg (invoice_Correct_2_L0 r4) (fun s6 : Int × (List api_Line) => ([(8, (.ptr 1008 0 [])), (10, (.ptr 1010 0 [])), (13, (.ptr 1013 0 [])), (48, (qe_api_Line_3 r4.1.fLines)), (49, (i6 (r4.1.fLines.length : Int))), (50, (i6 s6.1))] : EL)) (fun s6 : Int × (List api_Line) => ([(0, some (we_api_Invoice_45_5 a0)), (1008, some (.box 45 (.st [(i6 0), (i6 0), (i6 0), .nils, (i6 0)]))), (1010, some (.box 45 (.d (e_api_Invoice r1.1)))), (1013, some (.box 78 (.st [(.sref 13130 3 0 s6.2.length)]))), (13130, some (we_api_Line_51_3 s6.2))] : OL)) (fun (p13 : ((List api_Line))) e E' O' => e = .exit 0 ∧ Mat B E' O' ([(8, (.ptr 1008 0 [])), (10, (.ptr 1010 0 [])), (13, (.ptr 1013 0 []))] : EL) ([(0, some (we_api_Invoice_45_5 a0)), (1008, some (.box 45 (.st [(i6 0), (i6 0), (i6 0), .nils, (i6 0)]))), (1010, some (.box 45 (.d (e_api_Invoice r1.1)))), (1013, some (.box 78 (.st [(.sref 13130 3 0 p13.length)]))), (13130, some (we_api_Line_51_3 p13))] : OL)) hx18 (Mat.trans (Mat.beginP (n := 13130) (e := 51) (sz := 3) (Ts := []) (Bs := [(1013, some (.box 78 (.st [(.sref 13130 3 0 0)])))]) hB (by decide) (by rfl) (by decide) TwT.nil (TwB.cons (x := (.st [.nils])) (by rfl) (Tw.st (TwL.cons (Tw.leaf ⟨rfl, rfl⟩) TwL.nil)) TwB.nil)) (mp [] _ _ hB)) (fun s6 y h => ?_) (fun e E' O' hR => ?_)
        · unfold invoice_Correct_2_L0 at h
          refine sr (c (OpJ.lss (L rfl) (q 50) (q 49)) rfl cn) ?_
          refine gh [(8, _), (10, _), (13, _), (48, _), (49, _), (50, _), (51, _)] [(0, some _), (1008, some _), (1010, some _), (1013, some _), (13130, some _)] hB rfl rfl (by rfl) ?_
          refine AWp.seq ?_
          refine AWp.cond rfl (fun hg14 => ?_) (fun hg14 => ?_)
          · replace h := ite_t hg14 h
            refine AWp.skip ?_
            refine seqQ_n ?_
            refine AWp.seq ?_
            refine AWp.block ?_
            obtain ⟨x15, hx15, h⟩ := bindS h
            refine sr (c (OpJ.indexD Try.underlying43 tyS51 (idx_some hx15).1 (get_map e_api_Line (idx_some hx15).2) (L rfl) (q 48) (q 50)) rfl (c (OpJ.loadD tyS51 (by rfl) (by rfl) (L rfl) (q 52)) rfl (cg (OpJ.alloc hB tyZ51 (nm := 1015) (by decide) (L rfl)) rfl (cg (OpJ.storeB tyS51 (SetAt.here _ _) (by rfl) (by rfl) (by simp) rfl (q 15) (q 53)) rfl cn)))) ?_
            refine gh [(8, _), (10, _), (13, _), (15, _), (48, _), (49, _), (50, _)] [(0, some _), (1008, some _), (1010, some _), (1013, some _), (1015, some _), (13130, some _)] hB rfl rfl (by rfl) ?_
            obtain ⟨r16, hr16, h⟩ := bindS h
            refine AWp.region (oc (lb hN 51 (.d (e_api_Line x15)) (.d (e_api_Line x15)) tyS51 (At.here _) (ot 15 (.ptr 1015 0 [])))
              (oc (OpJ.callFn hB fnOk34 (invoice_sums_add_2_ac s6.2 x15 (1 : Int) r16 hr16) [(0, 1013), (1, 13130), (950000, 100200)] (by kernel_rfl) (L rfl) (by kernel_rfl) (OpdL.cons (ot 13 (.ptr 1013 0 [])) (OpdL.cons (ot 54 (.d (e_api_Line x15))) (OpdL.cons (Opd.int .i64 (1)) OpdL.nil))))
              (OpJs.nil))) (by rfl) (by rfl) ?_
            refine blkQ_n ?_
            refine seqQ_n ?_
            refine AWp.ghost (mp [] [(8, (.ptr 1008 0 [])), (10, (.ptr 1010 0 [])), (13, (.ptr 1013 0 [])), (48, (qe_api_Line_3 r4.1.fLines)), (49, (i6 (r4.1.fLines.length : Int))), (50, (i6 s6.1))] [(0, some (we_api_Invoice_45_5 a0)), (1008, some (.box 45 (.st [(i6 0), (i6 0), (i6 0), .nils, (i6 0)]))), (1010, some (.box 45 (.d (e_api_Invoice r1.1)))), (1013, some (.box 78 (.st [(.sref 100200 3 0 r16.flines.length)]))), (100200, some (we_api_Line_51_3 r16.flines))] hB) ?_
            refine rg (c (add6 (L rfl) (q 50) (Opd.int .i64 (1))) rfl (c (mv hN (q 56)) rfl cn)) ?_
            obtain rfl := Option.some.inj h
            exact ⟨rfl, (Mat.trans (mp [] [(8, (.ptr 1008 0 [])), (10, (.ptr 1010 0 [])), (13, (.ptr 1013 0 [])), (48, (qe_api_Line_3 r4.1.fLines)), (49, (i6 (r4.1.fLines.length : Int))), (50, (i6 (w64 (s6.1 + (1 : Int)))))] [(0, some (we_api_Invoice_45_5 a0)), (1008, some (.box 45 (.st [(i6 0), (i6 0), (i6 0), .nils, (i6 0)]))), (1010, some (.box 45 (.d (e_api_Invoice r1.1)))), (1013, some (.box 78 (.st [(.sref 100200 3 0 r16.flines.length)]))), (100200, some (we_api_Line_51_3 r16.flines))] hB) (mp [(13130, 100200)] _ _ hB))⟩
          · replace h := ite_f hg14 h
            refine AWp.exit ?_
            refine seqQ_e ?_
            obtain rfl := Option.some.inj h
            exact ⟨(fun hc => by cases hc), rfl, (mp [] _ _ hB)⟩
        · obtain ⟨rfl, hmat⟩ := hR
          refine blkQ_hit ?_
          refine seqQ_n ?_
          refine AWp.ghost hmat ?_
          refine AWp.seq ?_
          refine sr (c (ov (.ptr 1010 3 [3]) (fp hN Try.underlying45 3 tyS43 _ (q 10))) rfl (c (lb hN 45 _ _ tyS43 (ad _) (q 57)) rfl (c (OpJ.val (v' := (i6 (r1.1.fLines.length : Int))) (by simp) (OpJ.lenD Try.underlying43 (L rfl) (q 58))) rfl (c (mv hN (Opd.int .i64 (0))) rfl cn)))) ?_
          refine gh [(8, _), (10, _), (13, _), (58, _), (59, _), (60, _)] [(0, some _), (1008, some _), (1010, some _), (1013, some _), (13130, some _)] hB rfl rfl (by rfl) ?_
          refine AWp.block ?_
          obtain ⟨p26, hx31, h⟩ := bindS h
          refine lg (invoice_Correct_2_L1 r1) (fun s19 : Int × (List api_Line) => ([(8, (.ptr 1008 0 [])), (10, (.ptr 1010 0 [])), (13, (.ptr 1013 0 [])), (58, (qe_api_Line_3 r1.1.fLines)), (59, (i6 (r1.1.fLines.length : Int))), (60, (i6 s19.1))] : EL)) (fun s19 : Int × (List api_Line) => ([(0, some (we_api_Invoice_45_5 a0)), (1008, some (.box 45 (.st [(i6 0), (i6 0), (i6 0), .nils, (i6 0)]))), (1010, some (.box 45 (.d (e_api_Invoice r1.1)))), (1013, some (.box 78 (.st [(.sref 13130 3 0 s19.2.length)]))), (13130, some (we_api_Line_51_3 s19.2))] : OL)) (fun (p26 : ((List api_Line))) e E' O' => e = .exit 2 ∧ Mat B E' O' ([(8, (.ptr 1008 0 [])), (10, (.ptr 1010 0 [])), (13, (.ptr 1013 0 []))] : EL) ([(0, some (we_api_Invoice_45_5 a0)), (1008, some (.box 45 (.st [(i6 0), (i6 0), (i6 0), .nils, (i6 0)]))), (1010, some (.box 45 (.d (e_api_Invoice r1.1)))), (1013, some (.box 78 (.st [(.sref 13130 3 0 p26.length)]))), (13130, some (we_api_Line_51_3 p26))] : OL)) hx31 (mp [] _ _ hB) (fun s19 y h => ?_) (fun e E' O' hR => ?_)
          · unfold invoice_Correct_2_L1 at h
            refine sr (c (OpJ.lss (L rfl) (q 60) (q 59)) rfl cn) ?_
            refine gh [(8, _), (10, _), (13, _), (58, _), (59, _), (60, _), (61, _)] [(0, some _), (1008, some _), (1010, some _), (1013, some _), (13130, some _)] hB rfl rfl (by rfl) ?_
            refine AWp.seq ?_
            refine AWp.cond rfl (fun hg27 => ?_) (fun hg27 => ?_)
            · replace h := ite_t hg27 h
              refine AWp.skip ?_
              refine seqQ_n ?_
              refine AWp.seq ?_
              refine AWp.block ?_
              obtain ⟨x28, hx28, h⟩ := bindS h
              refine sr (c (OpJ.indexD Try.underlying43 tyS51 (idx_some hx28).1 (get_map e_api_Line (idx_some hx28).2) (L rfl) (q 58) (q 60)) rfl (c (OpJ.loadD tyS51 (by rfl) (by rfl) (L rfl) (q 62)) rfl (cg (OpJ.alloc hB tyZ51 (nm := 1017) (by decide) (L rfl)) rfl (cg (OpJ.storeB tyS51 (SetAt.here _ _) (by rfl) (by rfl) (by simp) rfl (q 17) (q 63)) rfl cn)))) ?_
              refine gh [(8, _), (10, _), (13, _), (17, _), (58, _), (59, _), (60, _)] [(0, some _), (1008, some _), (1010, some _), (1013, some _), (1017, some _), (13130, some _)] hB rfl rfl (by rfl) ?_
              obtain ⟨r29, hr29, h⟩ := bindS h
              refine AWp.region (oc (lb hN 51 (.d (e_api_Line x28)) (.d (e_api_Line x28)) tyS51 (At.here _) (ot 17 (.ptr 1017 0 [])))
                (oc (OpJ.callFn hB fnOk34 (invoice_sums_add_2_ac s19.2 x28 (-1 : Int) r29 hr29) [(0, 1013), (1, 13130), (950000, 100300)] (by kernel_rfl) (L rfl) (by kernel_rfl) (OpdL.cons (ot 13 (.ptr 1013 0 [])) (OpdL.cons (ot 64 (.d (e_api_Line x28))) (OpdL.cons (Opd.int .i64 (-1)) OpdL.nil))))
                (OpJs.nil))) (by rfl) (by rfl) ?_
              refine blkQ_n ?_
              refine seqQ_n ?_
              refine AWp.ghost (mp [] [(8, (.ptr 1008 0 [])), (10, (.ptr 1010 0 [])), (13, (.ptr 1013 0 [])), (58, (qe_api_Line_3 r1.1.fLines)), (59, (i6 (r1.1.fLines.length : Int))), (60, (i6 s19.1))] [(0, some (we_api_Invoice_45_5 a0)), (1008, some (.box 45 (.st [(i6 0), (i6 0), (i6 0), .nils, (i6 0)]))), (1010, some (.box 45 (.d (e_api_Invoice r1.1)))), (1013, some (.box 78 (.st [(.sref 100300 3 0 r29.flines.length)]))), (100300, some (we_api_Line_51_3 r29.flines))] hB) ?_
              refine rg (c (add6 (L rfl) (q 60) (Opd.int .i64 (1))) rfl (c (mv hN (q 66)) rfl cn)) ?_
              obtain rfl := Option.some.inj h
              exact ⟨rfl, (Mat.trans (mp [] [(8, (.ptr 1008 0 [])), (10, (.ptr 1010 0 [])), (13, (.ptr 1013 0 [])), (58, (qe_api_Line_3 r1.1.fLines)), (59, (i6 (r1.1.fLines.length : Int))), (60, (i6 (w64 (s19.1 + (1 : Int)))))] [(0, some (we_api_Invoice_45_5 a0)), (1008, some (.box 45 (.st [(i6 0), (i6 0), (i6 0), .nils, (i6 0)]))), (1010, some (.box 45 (.d (e_api_Invoice r1.1)))), (1013, some (.box 78 (.st [(.sref 100300 3 0 r29.flines.length)]))), (100300, some (we_api_Line_51_3 r29.flines))] hB) (mp [(13130, 100300)] _ _ hB))⟩
            · replace h := ite_f hg27 h
              refine AWp.exit ?_
              refine seqQ_e ?_
              obtain rfl := Option.some.inj h
              exact ⟨(fun hc => by cases hc), rfl, (mp [] _ _ hB)⟩
          · obtain ⟨rfl, hmat⟩ := hR
            refine blkQ_hit ?_
            refine seqQ_n ?_
            refine AWp.ghost hmat ?_
            refine AWp.seq ?_
            obtain ⟨r32, hr32, h⟩ := bindS h
            refine AWp.region (oc (ov (.ptr 1013 0 [0]) (fp hN Try.underlying78 0 tyS43 (.box 78 (.st [(.sref 13130 3 0 p26.length)])) (ot 13 (.ptr 1013 0 []))))
              (oc (lb hN 78 (.st [(.sref 13130 3 0 p26.length)]) (.sref 13130 3 0 p26.length) tyS43 (At.st1 (f := (.sref 13130 3 0 p26.length)) (by rfl) (by rfl) (At.here _) (by first | rfl | omega)) (ot 67 (.ptr 1013 0 [0])))
              (oc (OpJ.callFn hB fnOk42 (slices_DeleteFunc_ac p26 r32 hr32) [(0, 13130)] (by kernel_rfl) (L rfl) (by kernel_rfl) (OpdL.cons (ot 68 (.sref 13130 3 0 p26.length)) (OpdL.cons (Opd.func 43) OpdL.nil)))
              (oc (ov (.ptr 1013 0 [0]) (fp hN Try.underlying78 0 tyS43 (.box 78 (.st [(.sref 13130 3 0 p26.length)])) (ot 13 (.ptr 1013 0 []))))
              (oc (OpJ.storeB (bt := 78) (c := (.st [(.sref 13130 3 0 p26.length)])) (v := (qe_api_Line_3 r32)) (c' := (.st [(qe_api_Line_3 r32)])) tyS43 (SetAt.st1 (f := (.sref 13130 3 0 p26.length)) (by rfl) (by rfl) (SetAt.here _ _) (by rfl) (by rfl) (by first | rfl | omega)) (by rfl) (by rfl) (by simp) rfl (ot 70 (.ptr 1013 0 [0])) (ot 69 (qe_api_Line_3 r32)))
              (OpJs.nil)))))) (by rfl) (by rfl) ?_
            refine seqQ_n ?_
            refine AWp.ghost (mp [] [(8, (.ptr 1008 0 [])), (10, (.ptr 1010 0 [])), (13, (.ptr 1013 0 []))] [(0, some (we_api_Invoice_45_5 a0)), (1008, some (.box 45 (.st [(i6 0), (i6 0), (i6 0), .nils, (i6 0)]))), (1010, some (.box 45 (.d (e_api_Invoice r1.1)))), (1013, some (.box 78 (.st [(qe_api_Line_3 r32)])))] hB) ?_
            refine AWp.seq ?_
            refine sr (c (ov (.ptr 1013 0 [0]) (fp hN Try.underlying78 0 tyS43 _ (q 13))) rfl (c (lb hN 78 _ (qe_api_Line_3 r32) tyS43 (At.st1 (f := (qe_api_Line_3 r32)) (by rfl) (by rfl) (At.here _) (by first | rfl | omega)) (q 71)) rfl (c (OpJ.val (v' := (i6 (r32.length : Int))) (by simp) (OpJ.lenD Try.underlying43 (L rfl) (q 72))) rfl (c (OpJ.eqlI (L rfl) (q 73) (Opd.int .i64 (0))) rfl cn)))) ?_
            refine gh [(8, _), (10, _), (13, _), (74, _)] [(0, some _), (1008, some _), (1010, some _), (1013, some _)] hB rfl rfl (by rfl) ?_
            refine AWp.cond rfl (fun hg33 => ?_) (fun hg33 => ?_)
            · replace h := ite_t hg33 h
              refine sr (c (OpJ.build (places := [(0, 1), (1, 1), (2, 1), (3, 1), (4, 1)]) ⟨Try.underlying45, fun w => by kernel_rfl⟩ tyZS45 Opds.nil (by kernel_rfl) (r := (.st [(i6 0), (i6 0), (i6 0), .nils, (i6 0)])) (by rfl) (L rfl)) rfl (cg (OpJ.storeB tyS45 (SetAt.here _ _) (by rfl) (by rfl) (by simp) rfl (q 8) (q 75)) rfl (c (OpJ.assign (L rfl) (Opd.int .i64 (7))) rfl cn))) ?_
              refine gh [(8, _), (9, _)] [(0, some _), (1008, some _)] hB rfl rfl (by rfl) ?_
              refine AWp.ret ?_
              refine seqQ_r ?_
              obtain rfl := Option.some.inj h
              exact ⟨.inl rfl, _, _, (Mat.trans (Mat.coeP (Ts := []) (Bs := [(1008, some (.box 45 (.d (.st [(.int .i64 0), (.int .i64 0), (.int .i64 0), (.list 3 (([] : List api_Line).map e_api_Line)), (.int .i64 0)]))))]) TwT.nil (TwB.cons (x := (.st [(i6 0), (i6 0), (i6 0), .nils, (i6 0)])) (by rfl) (Tw.leaf ⟨_, (Co.st (CoL.cons (Co.d _) (CoL.cons (Co.d _) (CoL.cons (Co.d _) (CoL.cons (Co.nils 3) (CoL.cons (Co.d _) CoL.nil)))))), rfl⟩) TwB.nil)) (mp [] [(8, (.ptr 1008 0 [])), (9, (i6 (7 : Int)))] [(0, some (we_api_Invoice_45_5 a0)), (1008, some (.box 45 (.d (.st [(.int .i64 0), (.int .i64 0), (.int .i64 0), (.list 3 (([] : List api_Line).map e_api_Line)), (.int .i64 0)]))))] hB)), [(.d (.st [(.int .i64 0), (.int .i64 0), (.int .i64 0), (.list 3 (([] : List api_Line).map e_api_Line)), (.int .i64 0)])), (i6 (7 : Int))], (Res.cell (c := (.d (.st [(.int .i64 0), (.int .i64 0), (.int .i64 0), (.list 3 (([] : List api_Line).map e_api_Line)), (.int .i64 0)]))) (by rfl) (by rfl) tyS45 (by rfl) (by rfl) (by rfl) (Res.tmp (by rfl) (by rfl) Res.nil)), rfl, by rfl, by rfl, by rfl⟩
            · replace h := ite_f hg33 h
              refine AWp.skip ?_
              refine seqQ_n ?_
              refine AWp.seq ?_
              obtain ⟨r34, hr34, h⟩ := bindS h
              refine AWp.region (oc (ov (.ptr 1010 0 [0]) (fp hN Try.underlying45 0 tyS3 (.box 45 (.d (e_api_Invoice r1.1))) (ot 10 (.ptr 1010 0 []))))
                (oc (lb hN 45 (.d (e_api_Invoice r1.1)) (i6 r1.1.fMember) tyS3 (ad (.int .i64 r1.1.fMember)) (ot 76 (.ptr 1010 0 [0])))
                (oc (ov (.ptr 1010 1 [1]) (fp hN Try.underlying45 1 tyS3 (.box 45 (.d (e_api_Invoice r1.1))) (ot 10 (.ptr 1010 0 []))))
                (oc (lb hN 45 (.d (e_api_Invoice r1.1)) (i6 r1.1.fMonth) tyS3 (ad (.int .i64 r1.1.fMonth)) (ot 78 (.ptr 1010 1 [1])))
                (oc (ov (.ptr 1010 2 [2]) (fp hN Try.underlying45 2 tyS3 (.box 45 (.d (e_api_Invoice r1.1))) (ot 10 (.ptr 1010 0 []))))
                (oc (lb hN 45 (.d (e_api_Invoice r1.1)) (i6 r1.1.fVersion) tyS3 (ad (.int .i64 r1.1.fVersion)) (ot 80 (.ptr 1010 2 [2])))
                (oc (add6 (L rfl) (ot 81 (i6 r1.1.fVersion)) (Opd.int .i64 (1)))
                (oc (OpJ.callFn hB fnOk35 (invoice_sums_invoice_2_ac r32 r1.1.fMember r1.1.fMonth (w64 (r1.1.fVersion + (1 : Int))) r34 hr34) [(0, 1013)] (by kernel_rfl) (L rfl) (by kernel_rfl) (OpdL.cons (ot 13 (.ptr 1013 0 [])) (OpdL.cons (ot 77 (i6 r1.1.fMember)) (OpdL.cons (ot 79 (i6 r1.1.fMonth)) (OpdL.cons (ot 82 (i6 (w64 (r1.1.fVersion + (1 : Int))))) OpdL.nil)))))
                (oc (OpJ.alloc hB tyZ45 (nm := 1018) (by decide) (L rfl))
                (oc (OpJ.storeB (bt := 45) (c := (.st [(i6 0), (i6 0), (i6 0), .nils, (i6 0)])) (v := (.d (e_api_Invoice r34.1))) (c' := (.d (e_api_Invoice r34.1))) tyS45 (SetAt.here _ _) (by rfl) (by rfl) (by simp) rfl (ot 18 (.ptr 1018 0 [])) (ot 83 (.d (e_api_Invoice r34.1))))
                (OpJs.nil))))))))))) (by rfl) (by rfl) ?_
              refine seqQ_n ?_
              refine AWp.ghost (mp [] [(8, (.ptr 1008 0 [])), (18, (.ptr 1018 0 []))] [(0, some (we_api_Invoice_45_5 a0)), (1008, some (.box 45 (.st [(i6 0), (i6 0), (i6 0), .nils, (i6 0)]))), (1018, some (.box 45 (.d (e_api_Invoice r34.1))))] hB) ?_
              refine AWp.seq ?_
              obtain ⟨r35, hr35, h⟩ := bindS h
              refine sr (c (lb hN 45 _ _ tyS45 (At.here _) (q 18)) rfl (cg (OpJ.callFn hB fnOk41 (invoice_consistent_ac r34.1 r35 hr35) [] (by kernel_rfl) (L rfl) (by kernel_rfl) (OpdL.cons (q 84) OpdL.nil)) rfl (c (OpJ.not (L rfl) (q 85)) rfl cn))) ?_
              refine gh [(8, _), (18, _), (86, _)] [(0, some _), (1008, some _), (1018, some _)] hB rfl rfl (by rfl) ?_
              refine AWp.cond rfl (fun hg36 => ?_) (fun hg36 => ?_)
              · replace h := ite_t hg36 h
                refine sr (c (OpJ.build (places := [(0, 1), (1, 1), (2, 1), (3, 1), (4, 1)]) ⟨Try.underlying45, fun w => by kernel_rfl⟩ tyZS45 Opds.nil (by kernel_rfl) (r := (.st [(i6 0), (i6 0), (i6 0), .nils, (i6 0)])) (by rfl) (L rfl)) rfl (cg (OpJ.storeB tyS45 (SetAt.here _ _) (by rfl) (by rfl) (by simp) rfl (q 8) (q 87)) rfl (c (OpJ.assign (L rfl) (Opd.int .i64 (3))) rfl cn))) ?_
                refine gh [(8, _), (9, _)] [(0, some _), (1008, some _)] hB rfl rfl (by rfl) ?_
                refine AWp.ret ?_
                refine seqQ_r ?_
                obtain rfl := Option.some.inj h
                exact ⟨.inl rfl, _, _, (Mat.trans (Mat.coeP (Ts := []) (Bs := [(1008, some (.box 45 (.d (.st [(.int .i64 0), (.int .i64 0), (.int .i64 0), (.list 3 (([] : List api_Line).map e_api_Line)), (.int .i64 0)]))))]) TwT.nil (TwB.cons (x := (.st [(i6 0), (i6 0), (i6 0), .nils, (i6 0)])) (by rfl) (Tw.leaf ⟨_, (Co.st (CoL.cons (Co.d _) (CoL.cons (Co.d _) (CoL.cons (Co.d _) (CoL.cons (Co.nils 3) (CoL.cons (Co.d _) CoL.nil)))))), rfl⟩) TwB.nil)) (mp [] [(8, (.ptr 1008 0 [])), (9, (i6 (3 : Int)))] [(0, some (we_api_Invoice_45_5 a0)), (1008, some (.box 45 (.d (.st [(.int .i64 0), (.int .i64 0), (.int .i64 0), (.list 3 (([] : List api_Line).map e_api_Line)), (.int .i64 0)]))))] hB)), [(.d (.st [(.int .i64 0), (.int .i64 0), (.int .i64 0), (.list 3 (([] : List api_Line).map e_api_Line)), (.int .i64 0)])), (i6 (3 : Int))], (Res.cell (c := (.d (.st [(.int .i64 0), (.int .i64 0), (.int .i64 0), (.list 3 (([] : List api_Line).map e_api_Line)), (.int .i64 0)]))) (by rfl) (by rfl) tyS45 (by rfl) (by rfl) (by rfl) (Res.tmp (by rfl) (by rfl) Res.nil)), rfl, by rfl, by rfl, by rfl⟩
              · replace h := ite_f hg36 h
                refine AWp.skip ?_
                refine seqQ_n ?_
                refine sr (c (lb hN 45 _ _ tyS45 (At.here _) (q 18)) rfl (cg (OpJ.storeB tyS45 (SetAt.here _ _) (by rfl) (by rfl) (by simp) rfl (q 8) (q 88)) rfl (c (OpJ.assign (L rfl) (Opd.int .i64 (0))) rfl cn))) ?_
                refine gh [(8, _), (9, _)] [(0, some _), (1008, some _)] hB rfl rfl (by rfl) ?_
                refine AWp.ret ?_
                obtain rfl := Option.some.inj h
                exact ⟨.inl rfl, _, _, (kp [(8, _), (9, _)] [(0, some _), (1008, some _)] hB rfl rfl (by rfl)), [(.d (e_api_Invoice r34.1)), (i6 0)], (Res.cell (c := (.d (e_api_Invoice r34.1))) (by rfl) (by rfl) tyS45 (by rfl) (by rfl) (by rfl) (Res.tmp (by rfl) (by rfl) Res.nil)), rfl, by rfl, by rfl, by rfl⟩

noncomputable def exchangepointlaw41_InvoiceBalances_L1 (r123 : api_Invoice × Int) (r124 : api_Invoice × Int) (s127 : Int) : Option (((Unit) ⊕ (Unit)) ⊕ (Int)) :=
  (if (decide (s127 < (r123.1.fLines.length : Int))) = true then
  (idx r123.1.fLines s127).bind fun x139 =>
  (idx r124.1.fLines s127).bind fun x140 =>
  (if (!((x139.fPort == x140.fPort) && ((x139.fUsed == x140.fUsed) && ((x139.fAmount == x140.fAmount) && true)))) = true then
  some (.inl (.inl ()))
  else
  some (.inr (w64 (s127 + (1 : Int)))))
  else
  some (.inl (.inr ())))
noncomputable def exchangepointlaw41_InvoiceBalances_L0 (r2 : api_Member × api_Tariff × (List api_Series) × exchangepointmill_Deck) (s12 : (List api_Series) × Int × (List api_Invoice) × exchangepointmill_Deck) : Option (((Bool) ⊕ (Unit)) ⊕ ((List api_Series) × Int × (List api_Invoice) × exchangepointmill_Deck)) :=
  (if (decide ((0 : Int) < s12.2.1)) = true then
  (exchangepointmill_Deck_Next s12.2.2.2 (s12.1.length : Int)).bind fun r104 =>
  (idx s12.1 r104.1).bind fun x105 =>
  (idx s12.1 r104.1).bind fun x106 =>
  (exchangepointmill_Deck_Next r104.2 (w64 ((x106.fIn.length : Int) + (1 : Int)))).bind fun r107 =>
  (exchangepointmill_Deck_Next r107.2 (1099511627776 : Int)).bind fun r108 =>
  (exchangepointmill_Deck_Next r108.2 (1099511627776 : Int)).bind fun r109 =>
  (exchangepointref40_Put x105 r107.1 r108.1 r109.1).bind fun r110 =>
  (if (r110.2 != (0 : Int)) = true then
  some (.inl (.inl false))
  else
  chk (decide (s12.1.length ≤ LIM)) <|
  (idx s12.1 r104.1).bind fun x113 =>
  (idx s12.1 r104.1).bind fun x114 =>
  (invoice_Correct_2 s12.2.2.1 r2.1 r2.2.1 (((s12.1.set r104.1.toNat r110.1).drop 0).take s12.1.length)).bind fun r115 =>
  (if (r115.2 == (3 : Int)) = true then
  (exchangepointlaw41_awake).bind fun r117 =>
  some (.inl (.inl r117))
  else
  (if ((r115.2 != (0 : Int)) && (r115.2 != (7 : Int))) = true then
  some (.inl (.inl false))
  else
  jn (fun m121 : (List api_Invoice) =>
  (invoice_Sum_2 m121).bind fun r123 =>
  (invoice_Make r2.1 (3 : Int) r2.2.1 (((s12.1.set r104.1.toNat r110.1).drop 0).take s12.1.length)).bind fun r124 =>
  (invoice_Correct_2 m121 r2.1 r2.2.1 (((s12.1.set r104.1.toNat r110.1).drop 0).take s12.1.length)).bind fun r125 =>
  (if ((((((r123.2 != (0 : Int)) || (r124.2 != (0 : Int))) || (r125.2 != (7 : Int))) || (r123.1.fTotal != r124.1.fTotal)) || ((r123.1.fLines.length : Int) != (r124.1.fLines.length : Int))) || (r123.1.fVersion != (m121.length : Int))) = true then
  some (.inl (.inl false))
  else
  (loop (exchangepointlaw41_InvoiceBalances_L1 r123 r124) (0 : Int)).bind fun x142 => match x142 with
  | (.inl _) =>
    some (.inl (.inl false))
  | (.inr _) =>
    some (.inr ((((s12.1.set r104.1.toNat r110.1).drop 0).take s12.1.length), (w64 (s12.2.1 - (1 : Int))), m121, r109.2)))) (fun j122 =>
  (if (r115.2 == (0 : Int)) = true then
  chk (decide ((s12.2.2.1 ++ ([r115.1] : List api_Invoice)).length ≤ LIM)) <|
  j122 (s12.2.2.1 ++ ([r115.1] : List api_Invoice))
  else
  j122 s12.2.2.1)))))
  else
  some (.inl (.inr ())))
noncomputable def exchangepointlaw41_InvoiceBalances (a0 : (List Int)) (a1 : Int) : Option (Bool) :=
  (exchangepointmill_New a0).bind fun r1 =>
  (exchangepointlaw41_bills r1).bind fun r2 =>
  (invoice_Make r2.1 (3 : Int) r2.2.1 r2.2.2.1).bind fun r3 =>
  (if (r3.2 != (0 : Int)) = true then
  jn (fun m7 : Bool =>
  some m7) (fun j8 =>
  (if (r3.2 == (3 : Int)) = true then
  (exchangepointlaw41_awake).bind fun r10 =>
  j8 r10
  else
  j8 false))
  else
  (exchangepointmill_Mod a1 (5 : Int)).bind fun r11 =>
  (loop (exchangepointlaw41_InvoiceBalances_L0 r2) (r2.2.2.1, r11, ([r3.1] : List api_Invoice), r2.2.2.2)).bind fun x146 => match x146 with
  | (.inl p101) =>
    some p101
  | (.inr _) =>
    (exchangepointlaw41_awake).bind fun r148 =>
    some r148)
set_option maxHeartbeats 4000000 in
set_option maxRecDepth 100000 in
theorem exchangepointlaw41_InvoiceBalances_ac (a0 : (List Int)) (a1 : Int) (r : Bool) (h : exchangepointlaw41_InvoiceBalances a0 a1 = some r) : AC Try.prog 6 [(.d (.list 1 (a0.map (eI .i64)))), (.d (.int .i64 a1))] [] (.d (.bool r)) [] := by
  refine AC.of_code2 Try.func6 rfl rfl (Nat.le_of_ble_eq_true (by rfl)) fun B hB hN => ?_
  have L {d : Nat} (h : Nat.blt d Try.f6.ntmps = true) : d < B.N := ltN hN h
  delta exchangepointlaw41_InvoiceBalances at h
  refine sr (c (OpJ.assign (L rfl) (Opd.bool false)) rfl cn) ?_
  refine gh [(0, _), (1, _)] [] hB rfl rfl (by rfl) ?_
  refine AWp.seq ?_
  obtain ⟨r1, hr1, h⟩ := bindS h
  refine AWp.region (oc (mv hN (ot 0 (qI_1 a0)))
  (oc (OpJ.callFn hB fnOk9 (exchangepointmill_New_ac a0 r1 hr1) [(1005, 100000)] (by kernel_rfl) (L rfl) (by kernel_rfl) (OpdL.cons (ot 25 (qI_1 a0)) OpdL.nil))
  (oc (OpJ.assign (L rfl) (ot 26 (.ptr 100000 0 [])))
  (OpJs.nil)))) (by rfl) (by rfl) ?_
  refine seqQ_n ?_
  refine AWp.ghost (mp [] [(1, (i6 a1)), (5, (.ptr 100000 0 []))] [(100000, some (.box 72 (.d (e_exchangepointmill_Deck r1))))] hB) ?_
  refine AWp.seq ?_
  obtain ⟨r2, hr2, h⟩ := bindS h
  refine AWp.region (oc (mv hN (ot 5 (.ptr 100000 0 [])))
  (oc (OpJ.callFn hB fnOk8 (exchangepointlaw41_bills_ac r1 r2 hr2) [(0, 100000)] (by kernel_rfl) (L rfl) (by kernel_rfl) (OpdL.cons (ot 28 (.ptr 100000 0 [])) OpdL.nil))
  (oc (mv hN (ot 29 (.tup [(.d (e_api_Member r2.1)), (.d (e_api_Tariff r2.2.1)), (qe_api_Series_4 r2.2.2.1)])))
  (oc (OpJ.extract (v := (.d (e_api_Member r2.1))) (by rfl) rfl (L rfl) (ot 27 (.tup [(.d (e_api_Member r2.1)), (.d (e_api_Tariff r2.2.1)), (qe_api_Series_4 r2.2.2.1)])))
  (oc (OpJ.extract (v := (.d (e_api_Tariff r2.2.1))) (by rfl) rfl (L rfl) (ot 27 (.tup [(.d (e_api_Member r2.1)), (.d (e_api_Tariff r2.2.1)), (qe_api_Series_4 r2.2.2.1)])))
  (oc (OpJ.extract (v := (qe_api_Series_4 r2.2.2.1)) (by rfl) rfl (L rfl) (ot 27 (.tup [(.d (e_api_Member r2.1)), (.d (e_api_Tariff r2.2.1)), (qe_api_Series_4 r2.2.2.1)])))
  (oc (OpJ.alloc hB tyZ24 (nm := 1006) (by decide) (L rfl))
  (oc (OpJ.alloc hB tyZ27 (nm := 1007) (by decide) (L rfl))
  (oc (OpJ.storeB (bt := 24) (c := (.st [(i6 0), (.d (.str ([] : List UInt8))), (.d (.str ([] : List UInt8))), (i6 0), (i6 0), .nils])) (v := (.d (e_api_Member r2.1))) (c' := (.d (e_api_Member r2.1))) tyS24 (SetAt.here _ _) (by rfl) (by rfl) (by simp) rfl (ot 6 (.ptr 1006 0 [])) (ot 30 (.d (e_api_Member r2.1))))
  (oc (OpJ.storeB (bt := 27) (c := (.d (.st [(.int .i64 0), (.int .i64 0), (.int .i64 0)]))) (v := (.d (e_api_Tariff r2.2.1))) (c' := (.d (e_api_Tariff r2.2.1))) tyS27 (SetAt.here _ _) (by rfl) (by rfl) (by simp) rfl (ot 7 (.ptr 1007 0 [])) (ot 31 (.d (e_api_Tariff r2.2.1))))
  (oc (OpJ.assign (L rfl) (ot 32 (qe_api_Series_4 r2.2.2.1)))
  (OpJs.nil)))))))))))) (by rfl) (by rfl) ?_
  refine seqQ_n ?_
  refine AWp.ghost (mp [] [(1, (i6 a1)), (5, (.ptr 100000 0 [])), (6, (.ptr 1006 0 [])), (7, (.ptr 1007 0 [])), (8, (qe_api_Series_4 r2.2.2.1))] [(1006, some (.box 24 (.d (e_api_Member r2.1)))), (1007, some (.box 27 (.d (e_api_Tariff r2.2.1)))), (100000, some (.box 72 (.d (e_exchangepointmill_Deck r2.2.2.2))))] hB) ?_
  obtain ⟨r3, hr3, h⟩ := bindS h
  refine sr (c (lb hN 24 _ _ tyS24 (At.here _) (q 6)) rfl (c (lb hN 27 _ _ tyS27 (At.here _) (q 7)) rfl (c (mv hN (q 8)) rfl (cg (OpJ.callFn hB fnOk13 (invoice_Make_ac r2.1 (3 : Int) r2.2.1 r2.2.2.1 r3 hr3) [] (by kernel_rfl) (L rfl) (by kernel_rfl) (OpdL.cons (q 34) (OpdL.cons (Opd.int .i64 (3)) (OpdL.cons (q 35) (OpdL.cons (q 36) OpdL.nil))))) rfl (c (mv hN (q 37)) rfl (c (OpJ.extract (by rfl) rfl (L rfl) (q 33)) rfl (c (OpJ.extract (by rfl) rfl (L rfl) (q 33)) rfl (cg (OpJ.alloc hB tyZ45 (nm := 1009) (by decide) (L rfl)) rfl (cg (OpJ.storeB tyS45 (SetAt.here _ _) (by rfl) (by rfl) (by simp) rfl (q 9) (q 38)) rfl (c (OpJ.assign (L rfl) (q 39)) rfl cn)))))))))) ?_
  refine gh [(1, _), (5, _), (6, _), (7, _), (8, _), (9, _), (10, _)] [(1006, some _), (1007, some _), (1009, some _), (100000, some _)] hB rfl rfl (by rfl) ?_
  refine AWp.seq ?_
  refine sr (c (mv hN (q 10)) rfl (c (OpJ.neqI (L rfl) (q 40) (Opd.int .i64 (0))) rfl cn)) ?_
  refine gh [(1, _), (5, _), (6, _), (7, _), (8, _), (9, _), (10, _), (41, _)] [(1006, some _), (1007, some _), (1009, some _), (100000, some _)] hB rfl rfl (by rfl) ?_
  refine AWp.cond rfl (fun hg4 => ?_) (fun hg4 => ?_)
  · replace h := ite_t hg4 h
    refine AWp.seq ?_
    refine AWp.cut h (fun m7 : Bool => ([(4, (bo m7))] : EL)) (fun m7 : Bool => ([] : OL)) (fun m7 h E' O' hmat => ?_) (fun j8 hjj8 h => ?_)
    · refine seqQ_n ?_
      refine AWp.ghost hmat ?_
      refine AWp.ret ?_
      refine seqQ_r ?_
      obtain rfl := Option.some.inj h
      exact ⟨.inl rfl, _, _, (kp [(4, _)] [] hB rfl rfl (by rfl)), [(bo m7)], (Res.tmp (by rfl) (by rfl) Res.nil), rfl, by rfl, by rfl, by rfl⟩
    · rcases Bool.eq_false_or_eq_true (r3.2 == (3 : Int)) with hg9 | hg9
      · replace h := ite_t hg9 h
        obtain ⟨r10, hr10, h⟩ := bindS h
        refine rg (c (mv hN (q 10)) rfl (c (OpJ.eqlI (L rfl) (q 42) (Opd.int .i64 (3))) rfl (c (OpJ.val (v' := .d (.bool true)) (by rw [hg9]) (mv hN (q 43))) rfl (cg (OpJ.guarded (g := 44) (by rfl) (OpJ.callFn hB fnOk7 (exchangepointlaw41_awake_ac r10 hr10) [] (by kernel_rfl) (L rfl) (by kernel_rfl) OpdL.nil)) rfl (c (OpJ.pickT (L rfl) (q 44) (q 45)) rfl (c (OpJ.assign (L rfl) (q 46)) rfl cn)))))) ?_
        exact hjj8 _ h _ _ (Mat.trans (mp [] [(4, (bo r10))] [] hB) (mp [] _ _ hB))
      · replace h := ite_f hg9 h
        refine rg (c (mv hN (q 10)) rfl (c (OpJ.eqlI (L rfl) (q 42) (Opd.int .i64 (3))) rfl (c (OpJ.val (v' := .d (.bool false)) (by rw [hg9]) (mv hN (q 43))) rfl (cg (OpJ.skipU (g := 44) (L rfl) (by rfl)) rfl (c (OpJ.pickF (L rfl) (q 44) (Opd.bool false)) rfl (c (OpJ.assign (L rfl) (q 46)) rfl cn)))))) ?_
        exact hjj8 _ h _ _ (Mat.trans (mp [] [(4, (bo false))] [] hB) (mp [] _ _ hB))
  · replace h := ite_f hg4 h
    refine AWp.skip ?_
    refine seqQ_n ?_
    refine sr (c (lb hN 45 _ _ tyS45 (At.here _) (q 9)) rfl (cg (OpJ.buildSliceR Try.underlying53 tyS45 tyZD45 (by rfl) (by decide) (by decide) hB (nm := 1048) (by decide) (len := ([r3.1] : List api_Invoice).length) (by rfl) (Opds.cons (q 47) Opds.nil) (by kernel_rfl) (es := ([r3.1] : List api_Invoice).map e_api_Invoice) (by rfl) (by rfl) (by kernel_rfl) (by simp) (L rfl)) rfl (c (OpJ.assign (L rfl) (q 48)) rfl cn))) ?_
    refine gh [(1, _), (5, _), (6, _), (7, _), (8, _), (11, _)] [(1006, some _), (1007, some _), (1048, some _), (100000, some _)] hB rfl rfl (by rfl) ?_
    refine AWp.seq ?_
    obtain ⟨r11, hr11, h⟩ := bindS h
    refine sr (c (mv hN (q 1)) rfl (cg (OpJ.callFn hB fnOk10 (exchangepointmill_Mod_ac a1 (5 : Int) r11 hr11) [] (by kernel_rfl) (L rfl) (by kernel_rfl) (OpdL.cons (q 49) (OpdL.cons (Opd.int .i64 (5)) OpdL.nil))) rfl (c (OpJ.assign (L rfl) (q 50)) rfl cn))) ?_
    refine gh [(5, _), (6, _), (7, _), (8, _), (11, _), (12, _)] [(1006, some _), (1007, some _), (1048, some _), (100000, some _)] hB rfl rfl (by rfl) ?_
    refine AWp.block ?_
    obtain ⟨x146, hx147, h⟩ := bindS h
    refine lg (exchangepointlaw41_InvoiceBalances_L0 r2) (fun s12 : (List api_Series) × Int × (List api_Invoice) × exchangepointmill_Deck => ([(5, (.ptr 100000 0 [])), (6, (.ptr 1006 0 [])), (7, (.ptr 1007 0 [])), (8, (qe_api_Series_4 s12.1)), (11, (.sref 3011 5 0 s12.2.2.1.length)), (12, (i6 s12.2.1))] : EL)) (fun s12 : (List api_Series) × Int × (List api_Invoice) × exchangepointmill_Deck => ([(1006, some (.box 24 (.d (e_api_Member r2.1)))), (1007, some (.box 27 (.d (e_api_Tariff r2.2.1)))), (3011, some (we_api_Invoice_45_5 s12.2.2.1)), (100000, some (.box 72 (.d (e_exchangepointmill_Deck s12.2.2.2))))] : OL)) (fun (x : (Bool) ⊕ (Unit)) e E' O' => match x with | (.inl p101) => e = .ret ∧ Mat B E' O' ([(4, (bo p101))] : EL) ([] : OL) | (.inr _p) => e = .exit 0 ∧ Mat B E' O' ([] : EL) ([] : OL)) hx147 (mp [(3011, 1048)] _ _ hB) (fun s12 y h => ?_) (fun e E' O' hR => ?_)
    · unfold exchangepointlaw41_InvoiceBalances_L0 at h
      refine AWp.seq ?_
      refine sr (c (mv hN (q 12)) rfl (c (OpJ.gtr (L rfl) (q 51) (Opd.int .i64 (0))) rfl cn)) ?_
      refine gh [(5, _), (6, _), (7, _), (8, _), (11, _), (12, _), (52, _)] [(1006, some _), (1007, some _), (3011, some _), (100000, some _)] hB rfl rfl (by rfl) ?_
      refine AWp.cond rfl (fun hg103 => ?_) (fun hg103 => ?_)
      · replace h := ite_t hg103 h
        refine AWp.skip ?_
        refine seqQ_n ?_
        refine AWp.seq ?_
        refine AWp.block ?_
        refine AWp.seq ?_
        obtain ⟨r104, hr104, h⟩ := bindS h
        refine AWp.region (oc (mv hN (ot 5 (.ptr 100000 0 [])))
          (oc (mv hN (ot 8 (qe_api_Series_4 s12.1)))
          (oc (OpJ.val (v' := (i6 (s12.1.length : Int))) (by simp) (OpJ.lenD Try.underlying25 (L rfl) (ot 56 (qe_api_Series_4 s12.1))))
          (oc (OpJ.callFn hB fnOk17 (exchangepointmill_Deck_Next_ac s12.2.2.2 (s12.1.length : Int) r104 hr104) [(0, 100000)] (by kernel_rfl) (L rfl) (by kernel_rfl) (OpdL.cons (ot 55 (.ptr 100000 0 [])) (OpdL.cons (ot 57 (i6 (s12.1.length : Int))) OpdL.nil)))
          (oc (OpJ.assign (L rfl) (ot 58 (i6 r104.1)))
          (OpJs.nil)))))) (by rfl) (by rfl) ?_
        refine seqQ_n ?_
        refine AWp.ghost (mp [] [(5, (.ptr 100000 0 [])), (6, (.ptr 1006 0 [])), (7, (.ptr 1007 0 [])), (8, (qe_api_Series_4 s12.1)), (11, (.sref 3011 5 0 s12.2.2.1.length)), (12, (i6 s12.2.1)), (13, (i6 r104.1))] [(1006, some (.box 24 (.d (e_api_Member r2.1)))), (1007, some (.box 27 (.d (e_api_Tariff r2.2.1)))), (3011, some (we_api_Invoice_45_5 s12.2.2.1)), (100000, some (.box 72 (.d (e_exchangepointmill_Deck r104.2))))] hB) ?_
        refine AWp.seq ?_
        obtain ⟨x105, hx105, h⟩ := bindS h
        obtain ⟨x106, hx106, h⟩ := bindS h
        obtain ⟨r107, hr107, h⟩ := bindS h
        obtain ⟨r108, hr108, h⟩ := bindS h
        obtain ⟨r109, hr109, h⟩ := bindS h
        obtain ⟨r110, hr110, h⟩ := bindS h
        refine AWp.draws (by kernel_rfl) (oc (mv hN (ot 8 (qe_api_Series_4 s12.1)))
          (oc (mv hN (ot 13 (i6 r104.1)))
          (oc (OpJ.indexD (el := (e_api_Series x105)) Try.underlying25 tyS31 (idx_some hx105).1 (get_map e_api_Series (idx_some hx105).2) (L rfl) (ot 60 (qe_api_Series_4 s12.1)) (ot 61 (i6 r104.1)))
          (oc (OpJ.loadD tyS31 (by rfl) (by rfl) (L rfl) (ot 62 (.dptr (e_api_Series x105))))
          (oc (mv hN (ot 5 (.ptr 100000 0 [])))
          (oc (mv hN (ot 8 (qe_api_Series_4 s12.1)))
          (oc (mv hN (ot 13 (i6 r104.1)))
          (oc (OpJ.indexD (el := (e_api_Series x106)) Try.underlying25 tyS31 (idx_some hx106).1 (get_map e_api_Series (idx_some hx106).2) (L rfl) (ot 65 (qe_api_Series_4 s12.1)) (ot 66 (i6 r104.1)))
          (oc (OpJ.fieldD Try.underlying31 (by rfl) (o := 2) (by rfl) tyS28 (by decide) (ds := [(.int .i64 x106.fPort), (.int .i64 x106.fSeconds), (.list 1 (x106.fIn.map (eI .i64))), (.list 1 (x106.fOut.map (eI .i64)))]) (e := (.list 1 (x106.fIn.map (eI .i64)))) (by rfl) (by rfl) (L rfl) (ot 67 (.dptr (e_api_Series x106))))
          (oc (OpJ.loadD tyS28 (by rfl) (by rfl) (L rfl) (ot 68 (.dptr (.list 1 (x106.fIn.map (eI .i64))))))
          (oc (OpJ.val (v' := (i6 (x106.fIn.length : Int))) (by simp) (OpJ.lenD Try.underlying28 (L rfl) (ot 69 (qI_1 x106.fIn))))
          (oc (add6 (L rfl) (ot 70 (i6 (x106.fIn.length : Int))) (Opd.int .i64 (1)))
          (oc (OpJ.callFn hB fnOk17 (exchangepointmill_Deck_Next_ac r104.2 (w64 ((x106.fIn.length : Int) + (1 : Int))) r107 hr107) [(0, 100000)] (by kernel_rfl) (L rfl) (by kernel_rfl) (OpdL.cons (ot 64 (.ptr 100000 0 [])) (OpdL.cons (ot 71 (i6 (w64 ((x106.fIn.length : Int) + (1 : Int))))) OpdL.nil)))
          (oc (mv hN (ot 5 (.ptr 100000 0 [])))
          (oc (OpJ.callFn hB fnOk17 (exchangepointmill_Deck_Next_ac r107.2 (1099511627776 : Int) r108 hr108) [(0, 100000)] (by kernel_rfl) (L rfl) (by kernel_rfl) (OpdL.cons (ot 73 (.ptr 100000 0 [])) (OpdL.cons (Opd.int .i64 (1099511627776)) OpdL.nil)))
          (oc (mv hN (ot 5 (.ptr 100000 0 [])))
          (oc (OpJ.callFn hB fnOk17 (exchangepointmill_Deck_Next_ac r108.2 (1099511627776 : Int) r109 hr109) [(0, 100000)] (by kernel_rfl) (L rfl) (by kernel_rfl) (OpdL.cons (ot 75 (.ptr 100000 0 [])) (OpdL.cons (Opd.int .i64 (1099511627776)) OpdL.nil)))
          (oc (OpJ.callFn hB fnOk16 (exchangepointref40_Put_ac x105 r107.1 r108.1 r109.1 r110 hr110) [] (by kernel_rfl) (L rfl) (by kernel_rfl) (OpdL.cons (ot 63 (.d (e_api_Series x105))) (OpdL.cons (ot 72 (i6 r107.1)) (OpdL.cons (ot 74 (i6 r108.1)) (OpdL.cons (ot 76 (i6 r109.1)) OpdL.nil)))))
          (oc (mv hN (ot 77 (.tup [(.d (e_api_Series r110.1)), (i6 r110.2)])))
          (oc (OpJ.extract (v := (.d (e_api_Series r110.1))) (by rfl) rfl (L rfl) (ot 59 (.tup [(.d (e_api_Series r110.1)), (i6 r110.2)])))
          (oc (OpJ.extract (v := (i6 r110.2)) (by rfl) rfl (L rfl) (ot 59 (.tup [(.d (e_api_Series r110.1)), (i6 r110.2)])))
          (oc (OpJ.alloc hB tyZ31 (nm := 1014) (by decide) (L rfl))
          (oc (OpJ.storeB (bt := 31) (c := (.st [(i6 0), (i6 0), .nils, .nils])) (v := (.d (e_api_Series r110.1))) (c' := (.d (e_api_Series r110.1))) tyS31 (SetAt.here _ _) (by rfl) (by rfl) (by simp) rfl (ot 14 (.ptr 1014 0 [])) (ot 78 (.d (e_api_Series r110.1))))
          (oc (OpJ.assign (L rfl) (ot 79 (i6 r110.2)))
          (OpJs.nil))))))))))))))))))))))))) (by kernel_rfl) (by rfl) (by rfl) ?_
        refine seqQ_n ?_
        refine AWp.ghost (mp [] [(5, (.ptr 100000 0 [])), (6, (.ptr 1006 0 [])), (7, (.ptr 1007 0 [])), (8, (qe_api_Series_4 s12.1)), (11, (.sref 3011 5 0 s12.2.2.1.length)), (12, (i6 s12.2.1)), (13, (i6 r104.1)), (14, (.ptr 1014 0 [])), (15, (i6 r110.2))] [(1006, some (.box 24 (.d (e_api_Member r2.1)))), (1007, some (.box 27 (.d (e_api_Tariff r2.2.1)))), (1014, some (.box 31 (.d (e_api_Series r110.1)))), (3011, some (we_api_Invoice_45_5 s12.2.2.1)), (100000, some (.box 72 (.d (e_exchangepointmill_Deck r109.2))))] hB) ?_
        refine AWp.seq ?_
        refine sr (c (mv hN (q 15)) rfl (c (OpJ.neqI (L rfl) (q 80) (Opd.int .i64 (0))) rfl cn)) ?_
        refine gh [(5, _), (6, _), (7, _), (8, _), (11, _), (12, _), (13, _), (14, _), (81, _)] [(1006, some _), (1007, some _), (1014, some _), (3011, some _), (100000, some _)] hB rfl rfl (by rfl) ?_
        refine AWp.cond rfl (fun hg111 => ?_) (fun hg111 => ?_)
        · replace h := ite_t hg111 h
          refine sr (c (OpJ.assign (L rfl) (Opd.bool false)) rfl cn) ?_
          refine gh [(4, _)] [] hB rfl rfl (by rfl) ?_
          refine AWp.ret ?_
          refine seqQ_r ?_
          refine blkQ_r ?_
          refine seqQ_r ?_
          obtain rfl := Option.some.inj h
          exact ⟨(fun hc => by cases hc), rfl, (mp [] _ _ hB)⟩
        · replace h := ite_f hg111 h
          refine AWp.skip ?_
          refine seqQ_n ?_
          obtain ⟨hc112, h⟩ := chk_some h
          refine sr (c (mv hN (q 8)) rfl (cg (OpJ.appendN hB Try.underlying25 tyE31 (nm := 1083) (by decide) (ys := s12.1.map e_api_Series) (len := s12.1.length) (by simp) (map_sz (f := e_api_Series) (fun _ => rfl)) (by rw [List.length_map]; exact lim_mulN hc112 (by decide)) (by rw [List.length_map]; exact lim_leN hc112) (L rfl) Opd.nils (q 82)) rfl (c (OpJ.assign (L rfl) (q 83)) rfl cn))) ?_
          refine gh [(5, _), (6, _), (7, _), (11, _), (12, _), (13, _), (14, _), (16, _)] [(1006, some _), (1007, some _), (1014, some _), (1083, some _), (3011, some _), (100000, some _)] hB rfl rfl (by rfl) ?_
          obtain ⟨x113, hx113, h⟩ := bindS h
          obtain ⟨x114, hx114, h⟩ := bindS h
          refine sr (c (mv hN (q 16)) rfl (c (mv hN (q 13)) rfl (c (lb hN 31 _ _ tyS31 (At.here _) (q 14)) rfl (c (OpJ.val (v' := (.ptr 1083 (r104.1.toNat * 4) [r104.1.toNat])) (by simp) (OpJ.indexS Try.underlying25 tyS31 (idx_some hx113).1 (by have := idx_lt hx113; first | (simpa using this) | ((try simp only [List.length_map] at this); (try simp only [List.length_map]); omega)) (L rfl) (q 84) (q 85))) rfl (cg (OpJ.storeR (e := 31) (sz := 4) (es' := (s12.1.set r104.1.toNat r110.1).map e_api_Series) tyS31 (get_map e_api_Series (idx_some hx114).2) (o := 0) (SetAt.here _ _) (by rfl) (map_set _ _ _ _) (by rfl) (by rfl) (q 87) (q 86)) rfl cn))))) ?_
          refine gh [(5, _), (6, _), (7, _), (11, _), (12, _), (16, _)] [(1006, some _), (1007, some _), (1083, some _), (3011, some _), (100000, some _)] hB rfl rfl (by rfl) ?_
          refine AWp.seq ?_
          refine AWp.ghost (Mat.freezeP (n := 1083) (e := 31) (sz := 4) (es := (s12.1.set r104.1.toNat r110.1).map e_api_Series) (Ts := [(16, (qe_api_Series_4 (((s12.1.set r104.1.toNat r110.1).drop 0).take s12.1.length)))]) (Bs := []) (by rfl) (TwT.cons (x := (.sref 1083 4 0 s12.1.length)) (by rfl) (FrzL.cut (fs := (((s12.1.set r104.1.toNat r110.1).drop 0).take s12.1.length).map e_api_Series) (by simp only [List.length_map, List.length_append, List.length_take, List.length_drop, List.length_replicate, List.length_set]; omega) (by first | rw [List.map_drop, List.map_take] | simp [List.map_take, List.map_drop])) TwT.nil) TwB.nil) ?_
          obtain ⟨r115, hr115, h⟩ := bindS h
          refine AWp.region (oc (mv hN (ot 11 (.sref 3011 5 0 s12.2.2.1.length)))
            (oc (lb hN 24 (.d (e_api_Member r2.1)) (.d (e_api_Member r2.1)) tyS24 (At.here _) (ot 6 (.ptr 1006 0 [])))
            (oc (lb hN 27 (.d (e_api_Tariff r2.2.1)) (.d (e_api_Tariff r2.2.1)) tyS27 (At.here _) (ot 7 (.ptr 1007 0 [])))
            (oc (mv hN (ot 16 (qe_api_Series_4 (((s12.1.set r104.1.toNat r110.1).drop 0).take s12.1.length))))
            (oc (OpJ.callFn hB fnOk21 (invoice_Correct_2_ac s12.2.2.1 r2.1 r2.2.1 (((s12.1.set r104.1.toNat r110.1).drop 0).take s12.1.length) r115 hr115) [(0, 3011)] (by kernel_rfl) (L rfl) (by kernel_rfl) (OpdL.cons (ot 89 (.sref 3011 5 0 s12.2.2.1.length)) (OpdL.cons (ot 90 (.d (e_api_Member r2.1))) (OpdL.cons (ot 91 (.d (e_api_Tariff r2.2.1))) (OpdL.cons (ot 92 (qe_api_Series_4 (((s12.1.set r104.1.toNat r110.1).drop 0).take s12.1.length))) OpdL.nil)))))
            (oc (mv hN (ot 93 (.tup [(.d (e_api_Invoice r115.1)), (i6 r115.2)])))
            (oc (OpJ.extract (v := (.d (e_api_Invoice r115.1))) (by rfl) rfl (L rfl) (ot 88 (.tup [(.d (e_api_Invoice r115.1)), (i6 r115.2)])))
            (oc (OpJ.extract (v := (i6 r115.2)) (by rfl) rfl (L rfl) (ot 88 (.tup [(.d (e_api_Invoice r115.1)), (i6 r115.2)])))
            (oc (OpJ.alloc hB tyZ45 (nm := 1017) (by decide) (L rfl))
            (oc (OpJ.storeB (bt := 45) (c := (.st [(i6 0), (i6 0), (i6 0), .nils, (i6 0)])) (v := (.d (e_api_Invoice r115.1))) (c' := (.d (e_api_Invoice r115.1))) tyS45 (SetAt.here _ _) (by rfl) (by rfl) (by simp) rfl (ot 17 (.ptr 1017 0 [])) (ot 94 (.d (e_api_Invoice r115.1))))
            (oc (OpJ.assign (L rfl) (ot 95 (i6 r115.2)))
            (OpJs.nil)))))))))))) (by rfl) (by rfl) ?_
          refine seqQ_n ?_
          refine AWp.ghost (mp [] [(5, (.ptr 100000 0 [])), (6, (.ptr 1006 0 [])), (7, (.ptr 1007 0 [])), (11, (.sref 3011 5 0 s12.2.2.1.length)), (12, (i6 s12.2.1)), (16, (qe_api_Series_4 (((s12.1.set r104.1.toNat r110.1).drop 0).take s12.1.length))), (17, (.ptr 1017 0 [])), (18, (i6 r115.2))] [(1006, some (.box 24 (.d (e_api_Member r2.1)))), (1007, some (.box 27 (.d (e_api_Tariff r2.2.1)))), (1017, some (.box 45 (.d (e_api_Invoice r115.1)))), (3011, some (we_api_Invoice_45_5 s12.2.2.1)), (100000, some (.box 72 (.d (e_exchangepointmill_Deck r109.2))))] hB) ?_
          refine AWp.seq ?_
          refine sr (c (mv hN (q 18)) rfl (c (OpJ.eqlI (L rfl) (q 96) (Opd.int .i64 (3))) rfl cn)) ?_
          refine gh [(5, _), (6, _), (7, _), (11, _), (12, _), (16, _), (17, _), (18, _), (97, _)] [(1006, some _), (1007, some _), (1017, some _), (3011, some _), (100000, some _)] hB rfl rfl (by rfl) ?_
          refine AWp.cond rfl (fun hg116 => ?_) (fun hg116 => ?_)
          · replace h := ite_t hg116 h
            obtain ⟨r117, hr117, h⟩ := bindS h
            refine sr (cg (OpJ.callFn hB fnOk7 (exchangepointlaw41_awake_ac r117 hr117) [] (by kernel_rfl) (L rfl) (by kernel_rfl) OpdL.nil) rfl (c (OpJ.assign (L rfl) (q 98)) rfl cn)) ?_
            refine gh [(4, _)] [] hB rfl rfl (by rfl) ?_
            refine AWp.ret ?_
            refine seqQ_r ?_
            refine blkQ_r ?_
            refine seqQ_r ?_
            obtain rfl := Option.some.inj h
            exact ⟨(fun hc => by cases hc), rfl, (mp [] _ _ hB)⟩
          · replace h := ite_f hg116 h
            refine AWp.skip ?_
            refine seqQ_n ?_
            refine AWp.seq ?_
            refine sr (c (mv hN (q 18)) rfl (c (OpJ.neqI (L rfl) (q 99) (Opd.int .i64 (0))) rfl (c (mv hN (q 100)) rfl (c (oq hN 101 (mv hN (q 18)) (OptL.keep (by rfl) OptL.nil) (GuardV.plain _)) rfl (c (oq hN 101 (OpJ.neqI (L rfl) (q 102) (Opd.int .i64 (7))) (OptL.opt OptL.nil) (GuardV.plain _)) rfl (c (OpJ.pickAnd rfl (L rfl) (q 101) (q 103)) rfl cn)))))) ?_
            refine gh [(5, _), (6, _), (7, _), (11, _), (12, _), (16, _), (17, _), (18, _), (104, _)] [(1006, some _), (1007, some _), (1017, some _), (3011, some _), (100000, some _)] hB rfl rfl (by rfl) ?_
            refine AWp.cond rfl (fun hg118 => ?_) (fun hg118 => ?_)
            · replace h := ite_t hg118 h
              refine sr (c (OpJ.assign (L rfl) (Opd.bool false)) rfl cn) ?_
              refine gh [(4, _)] [] hB rfl rfl (by rfl) ?_
              refine AWp.ret ?_
              refine seqQ_r ?_
              refine blkQ_r ?_
              refine seqQ_r ?_
              obtain rfl := Option.some.inj h
              exact ⟨(fun hc => by cases hc), rfl, (mp [] _ _ hB)⟩
            · replace h := ite_f hg118 h
              refine AWp.skip ?_
              refine seqQ_n ?_
              refine sr (c (mv hN (q 16)) rfl (c (OpJ.assign (L rfl) (q 105)) rfl cn)) ?_
              refine gh [(5, _), (6, _), (7, _), (8, _), (11, _), (12, _), (17, _), (18, _)] [(1006, some _), (1007, some _), (1017, some _), (3011, some _), (100000, some _)] hB rfl rfl (by rfl) ?_
              refine AWp.seq ?_
              refine sr (c (mv hN (q 18)) rfl (c (OpJ.eqlI (L rfl) (q 106) (Opd.int .i64 (0))) rfl cn)) ?_
              refine gh [(5, _), (6, _), (7, _), (8, _), (11, _), (12, _), (17, _), (107, _)] [(1006, some _), (1007, some _), (1017, some _), (3011, some _), (100000, some _)] hB rfl rfl (by rfl) ?_
              refine AWp.cut h (fun m121 : (List api_Invoice) => ([(5, (.ptr 100000 0 [])), (6, (.ptr 1006 0 [])), (7, (.ptr 1007 0 [])), (8, (qe_api_Series_4 (((s12.1.set r104.1.toNat r110.1).drop 0).take s12.1.length))), (11, (.sref 3011 5 0 m121.length)), (12, (i6 s12.2.1))] : EL)) (fun m121 : (List api_Invoice) => ([(1006, some (.box 24 (.d (e_api_Member r2.1)))), (1007, some (.box 27 (.d (e_api_Tariff r2.2.1)))), (3011, some (we_api_Invoice_45_5 m121)), (100000, some (.box 72 (.d (e_exchangepointmill_Deck r109.2))))] : OL)) (fun m121 h E' O' hmat => ?_) (fun j122 hjj122 h => ?_)
              · refine seqQ_n ?_
                refine AWp.ghost hmat ?_
                refine AWp.seq ?_
                obtain ⟨r123, hr123, h⟩ := bindS h
                refine AWp.region (oc (mv hN (ot 11 (.sref 3011 5 0 m121.length)))
                  (oc (OpJ.callFn hB fnOk19 (invoice_Sum_2_ac m121 r123 hr123) [(0, 3011)] (by kernel_rfl) (L rfl) (by kernel_rfl) (OpdL.cons (ot 113 (.sref 3011 5 0 m121.length)) OpdL.nil))
                  (oc (mv hN (ot 114 (.tup [(.d (e_api_Invoice r123.1)), (i6 r123.2)])))
                  (oc (OpJ.extract (v := (.d (e_api_Invoice r123.1))) (by rfl) rfl (L rfl) (ot 112 (.tup [(.d (e_api_Invoice r123.1)), (i6 r123.2)])))
                  (oc (OpJ.extract (v := (i6 r123.2)) (by rfl) rfl (L rfl) (ot 112 (.tup [(.d (e_api_Invoice r123.1)), (i6 r123.2)])))
                  (oc (OpJ.alloc hB tyZ45 (nm := 1019) (by decide) (L rfl))
                  (oc (OpJ.storeB (bt := 45) (c := (.st [(i6 0), (i6 0), (i6 0), .nils, (i6 0)])) (v := (.d (e_api_Invoice r123.1))) (c' := (.d (e_api_Invoice r123.1))) tyS45 (SetAt.here _ _) (by rfl) (by rfl) (by simp) rfl (ot 19 (.ptr 1019 0 [])) (ot 115 (.d (e_api_Invoice r123.1))))
                  (oc (OpJ.assign (L rfl) (ot 116 (i6 r123.2)))
                  (OpJs.nil))))))))) (by rfl) (by rfl) ?_
                refine seqQ_n ?_
                refine AWp.ghost (mp [] [(5, (.ptr 100000 0 [])), (6, (.ptr 1006 0 [])), (7, (.ptr 1007 0 [])), (8, (qe_api_Series_4 (((s12.1.set r104.1.toNat r110.1).drop 0).take s12.1.length))), (11, (.sref 3011 5 0 m121.length)), (12, (i6 s12.2.1)), (15, (i6 r123.2)), (19, (.ptr 1019 0 []))] [(1006, some (.box 24 (.d (e_api_Member r2.1)))), (1007, some (.box 27 (.d (e_api_Tariff r2.2.1)))), (1019, some (.box 45 (.d (e_api_Invoice r123.1)))), (3011, some (we_api_Invoice_45_5 m121)), (100000, some (.box 72 (.d (e_exchangepointmill_Deck r109.2))))] hB) ?_
                obtain ⟨r124, hr124, h⟩ := bindS h
                refine sr (c (lb hN 24 _ _ tyS24 (At.here _) (q 6)) rfl (c (lb hN 27 _ _ tyS27 (At.here _) (q 7)) rfl (c (mv hN (q 8)) rfl (cg (OpJ.callFn hB fnOk13 (invoice_Make_ac r2.1 (3 : Int) r2.2.1 (((s12.1.set r104.1.toNat r110.1).drop 0).take s12.1.length) r124 hr124) [] (by kernel_rfl) (L rfl) (by kernel_rfl) (OpdL.cons (q 118) (OpdL.cons (Opd.int .i64 (3)) (OpdL.cons (q 119) (OpdL.cons (q 120) OpdL.nil))))) rfl (c (mv hN (q 121)) rfl (c (OpJ.extract (by rfl) rfl (L rfl) (q 117)) rfl (c (OpJ.extract (by rfl) rfl (L rfl) (q 117)) rfl (cg (OpJ.alloc hB tyZ45 (nm := 1020) (by decide) (L rfl)) rfl (cg (OpJ.storeB tyS45 (SetAt.here _ _) (by rfl) (by rfl) (by simp) rfl (q 20) (q 122)) rfl (c (OpJ.assign (L rfl) (q 123)) rfl cn)))))))))) ?_
                refine gh [(5, _), (6, _), (7, _), (8, _), (11, _), (12, _), (15, _), (19, _), (20, _), (21, _)] [(1006, some _), (1007, some _), (1019, some _), (1020, some _), (3011, some _), (100000, some _)] hB rfl rfl (by rfl) ?_
                refine AWp.seq ?_
                obtain ⟨r125, hr125, h⟩ := bindS h
                refine AWp.region (oc (mv hN (ot 11 (.sref 3011 5 0 m121.length)))
                  (oc (lb hN 24 (.d (e_api_Member r2.1)) (.d (e_api_Member r2.1)) tyS24 (At.here _) (ot 6 (.ptr 1006 0 [])))
                  (oc (lb hN 27 (.d (e_api_Tariff r2.2.1)) (.d (e_api_Tariff r2.2.1)) tyS27 (At.here _) (ot 7 (.ptr 1007 0 [])))
                  (oc (mv hN (ot 8 (qe_api_Series_4 (((s12.1.set r104.1.toNat r110.1).drop 0).take s12.1.length))))
                  (oc (OpJ.callFn hB fnOk21 (invoice_Correct_2_ac m121 r2.1 r2.2.1 (((s12.1.set r104.1.toNat r110.1).drop 0).take s12.1.length) r125 hr125) [(0, 3011)] (by kernel_rfl) (L rfl) (by kernel_rfl) (OpdL.cons (ot 125 (.sref 3011 5 0 m121.length)) (OpdL.cons (ot 126 (.d (e_api_Member r2.1))) (OpdL.cons (ot 127 (.d (e_api_Tariff r2.2.1))) (OpdL.cons (ot 128 (qe_api_Series_4 (((s12.1.set r104.1.toNat r110.1).drop 0).take s12.1.length))) OpdL.nil)))))
                  (oc (mv hN (ot 129 (.tup [(.d (e_api_Invoice r125.1)), (i6 r125.2)])))
                  (oc (OpJ.extract (v := (.d (e_api_Invoice r125.1))) (by rfl) rfl (L rfl) (ot 124 (.tup [(.d (e_api_Invoice r125.1)), (i6 r125.2)])))
                  (oc (OpJ.extract (v := (i6 r125.2)) (by rfl) rfl (L rfl) (ot 124 (.tup [(.d (e_api_Invoice r125.1)), (i6 r125.2)])))
                  (oc (OpJ.alloc hB tyZ45 (nm := 1022) (by decide) (L rfl))
                  (oc (OpJ.storeB (bt := 45) (c := (.st [(i6 0), (i6 0), (i6 0), .nils, (i6 0)])) (v := (.d (e_api_Invoice r125.1))) (c' := (.d (e_api_Invoice r125.1))) tyS45 (SetAt.here _ _) (by rfl) (by rfl) (by simp) rfl (ot 22 (.ptr 1022 0 [])) (ot 130 (.d (e_api_Invoice r125.1))))
                  (oc (OpJ.assign (L rfl) (ot 131 (i6 r125.2)))
                  (OpJs.nil)))))))))))) (by rfl) (by rfl) ?_
                refine seqQ_n ?_
                refine AWp.ghost (mp [] [(5, (.ptr 100000 0 [])), (6, (.ptr 1006 0 [])), (7, (.ptr 1007 0 [])), (8, (qe_api_Series_4 (((s12.1.set r104.1.toNat r110.1).drop 0).take s12.1.length))), (11, (.sref 3011 5 0 m121.length)), (12, (i6 s12.2.1)), (15, (i6 r123.2)), (19, (.ptr 1019 0 [])), (20, (.ptr 1020 0 [])), (21, (i6 r124.2)), (23, (i6 r125.2))] [(1006, some (.box 24 (.d (e_api_Member r2.1)))), (1007, some (.box 27 (.d (e_api_Tariff r2.2.1)))), (1019, some (.box 45 (.d (e_api_Invoice r123.1)))), (1020, some (.box 45 (.d (e_api_Invoice r124.1)))), (3011, some (we_api_Invoice_45_5 m121)), (100000, some (.box 72 (.d (e_exchangepointmill_Deck r109.2))))] hB) ?_
                refine AWp.seq ?_
                refine sr (c (mv hN (q 15)) rfl (c (OpJ.neqI (L rfl) (q 132) (Opd.int .i64 (0))) rfl (c (mv hN (q 133)) rfl (c (oq hN 134 (mv hN (q 21)) (OptL.keep (by rfl) OptL.nil) (GuardV.plain _)) rfl (c (oq hN 134 (OpJ.neqI (L rfl) (q 135) (Opd.int .i64 (0))) (OptL.opt OptL.nil) (GuardV.plain _)) rfl (c (OpJ.pickOr rfl (L rfl) (q 134) (q 136)) rfl (c (mv hN (q 137)) rfl (c (oq hN 138 (mv hN (q 23)) (OptL.keep (by rfl) OptL.nil) (GuardV.plain _)) rfl (c (oq hN 138 (OpJ.neqI (L rfl) (q 139) (Opd.int .i64 (7))) (OptL.opt OptL.nil) (GuardV.plain _)) rfl (c (OpJ.pickOr rfl (L rfl) (q 138) (q 140)) rfl (c (mv hN (q 141)) rfl (c (oq hN 142 (ov (.ptr 1019 4 [4]) (fp hN Try.underlying45 4 tyS3 _ (q 19))) (OptL.keep (by rfl) OptL.nil) (GuardV.plain _)) rfl (c (oq hN 142 (lb hN 45 _ _ tyS3 (ad _) (q 143)) (OptL.opt OptL.nil) (GuardV.plain _)) rfl (c (oq hN 142 (ov (.ptr 1020 4 [4]) (fp hN Try.underlying45 4 tyS3 _ (q 20))) (OptL.keep (by rfl) OptL.nil) (GuardV.plain _)) rfl (c (oq hN 142 (lb hN 45 _ _ tyS3 (ad _) (q 145)) (OptL.opt OptL.nil) (GuardV.plain _)) rfl (c (oq hN 142 (OpJ.neqI (L rfl) (q 144) (q 146)) (OptL.opt (OptL.opt OptL.nil)) (GuardV.plain _)) rfl (c (OpJ.pickOr rfl (L rfl) (q 142) (q 147)) rfl (c (mv hN (q 148)) rfl (c (oq hN 149 (ov (.ptr 1019 3 [3]) (fp hN Try.underlying45 3 tyS43 _ (q 19))) (OptL.keep (by rfl) OptL.nil) (GuardV.plain _)) rfl (c (oq hN 149 (lb hN 45 _ _ tyS43 (ad _) (q 150)) (OptL.opt OptL.nil) (GuardV.plain _)) rfl (c (oq hN 149 (OpJ.val (v' := (i6 (r123.1.fLines.length : Int))) (by simp) (OpJ.lenD Try.underlying43 (L rfl) (q 151))) (OptL.opt OptL.nil) (GuardV.plain _)) rfl (c (oq hN 149 (ov (.ptr 1020 3 [3]) (fp hN Try.underlying45 3 tyS43 _ (q 20))) (OptL.keep (by rfl) OptL.nil) (GuardV.plain _)) rfl (c (oq hN 149 (lb hN 45 _ _ tyS43 (ad _) (q 153)) (OptL.opt OptL.nil) (GuardV.plain _)) rfl (c (oq hN 149 (OpJ.val (v' := (i6 (r124.1.fLines.length : Int))) (by simp) (OpJ.lenD Try.underlying43 (L rfl) (q 154))) (OptL.opt OptL.nil) (GuardV.plain _)) rfl (c (oq hN 149 (OpJ.neqI (L rfl) (q 152) (q 155)) (OptL.opt (OptL.opt OptL.nil)) (GuardV.plain _)) rfl (c (OpJ.pickOr rfl (L rfl) (q 149) (q 156)) rfl (c (mv hN (q 157)) rfl (c (oq hN 158 (ov (.ptr 1019 2 [2]) (fp hN Try.underlying45 2 tyS3 _ (q 19))) (OptL.keep (by rfl) OptL.nil) (GuardV.plain _)) rfl (c (oq hN 158 (lb hN 45 _ _ tyS3 (ad _) (q 159)) (OptL.opt OptL.nil) (GuardV.plain _)) rfl (c (oq hN 158 (mv hN (q 11)) (OptL.keep (by rfl) OptL.nil) (GuardV.plain _)) rfl (c (oq hN 158 (OpJ.lenS Try.underlying53 (L rfl) (q 161)) (OptL.opt OptL.nil) (GuardV.plain _)) rfl (c (oq hN 158 (OpJ.neqI (L rfl) (q 160) (q 162)) (OptL.opt (OptL.opt OptL.nil)) (GuardV.plain _)) rfl (c (OpJ.pickOr rfl (L rfl) (q 158) (q 163)) rfl cn))))))))))))))))))))))))))))))))) ?_
                refine gh [(5, _), (6, _), (7, _), (8, _), (11, _), (12, _), (19, _), (20, _), (164, _)] [(1006, some _), (1007, some _), (1019, some _), (1020, some _), (3011, some _), (100000, some _)] hB rfl rfl (by rfl) ?_
                refine AWp.cond rfl (fun hg126 => ?_) (fun hg126 => ?_)
                · replace h := ite_t hg126 h
                  refine sr (c (OpJ.assign (L rfl) (Opd.bool false)) rfl cn) ?_
                  refine gh [(4, _)] [] hB rfl rfl (by rfl) ?_
                  refine AWp.ret ?_
                  refine seqQ_r ?_
                  refine blkQ_r ?_
                  refine seqQ_r ?_
                  obtain rfl := Option.some.inj h
                  exact ⟨(fun hc => by cases hc), rfl, (mp [] _ _ hB)⟩
                · replace h := ite_f hg126 h
                  refine AWp.skip ?_
                  refine seqQ_n ?_
                  refine sr (c (ov (.ptr 1019 3 [3]) (fp hN Try.underlying45 3 tyS43 _ (q 19))) rfl (c (lb hN 45 _ _ tyS43 (ad _) (q 165)) rfl (c (OpJ.val (v' := (i6 (r123.1.fLines.length : Int))) (by simp) (OpJ.lenD Try.underlying43 (L rfl) (q 166))) rfl (c (mv hN (Opd.int .i64 (0))) rfl cn)))) ?_
                  refine gh [(5, _), (6, _), (7, _), (8, _), (11, _), (12, _), (19, _), (20, _), (167, _), (168, _)] [(1006, some _), (1007, some _), (1019, some _), (1020, some _), (3011, some _), (100000, some _)] hB rfl rfl (by rfl) ?_
                  refine AWp.block ?_
                  obtain ⟨x142, hx143, h⟩ := bindS h
                  refine lg (exchangepointlaw41_InvoiceBalances_L1 r123 r124) (fun s127 : Int => ([(5, (.ptr 100000 0 [])), (6, (.ptr 1006 0 [])), (7, (.ptr 1007 0 [])), (8, (qe_api_Series_4 (((s12.1.set r104.1.toNat r110.1).drop 0).take s12.1.length))), (11, (.sref 3011 5 0 m121.length)), (12, (i6 s12.2.1)), (19, (.ptr 1019 0 [])), (20, (.ptr 1020 0 [])), (167, (i6 (r123.1.fLines.length : Int))), (168, (i6 s127))] : EL)) (fun s127 : Int => ([(1006, some (.box 24 (.d (e_api_Member r2.1)))), (1007, some (.box 27 (.d (e_api_Tariff r2.2.1)))), (1019, some (.box 45 (.d (e_api_Invoice r123.1)))), (1020, some (.box 45 (.d (e_api_Invoice r124.1)))), (3011, some (we_api_Invoice_45_5 m121)), (100000, some (.box 72 (.d (e_exchangepointmill_Deck r109.2))))] : OL)) (fun (x : (Unit) ⊕ (Unit)) e E' O' => match x with | (.inl _p) => e = .ret ∧ Mat B E' O' ([(4, (bo false))] : EL) ([] : OL) | (.inr _p) => e = .exit 2 ∧ Mat B E' O' ([(5, (.ptr 100000 0 [])), (6, (.ptr 1006 0 [])), (7, (.ptr 1007 0 [])), (8, (qe_api_Series_4 (((s12.1.set r104.1.toNat r110.1).drop 0).take s12.1.length))), (11, (.sref 3011 5 0 m121.length)), (12, (i6 s12.2.1))] : EL) ([(1006, some (.box 24 (.d (e_api_Member r2.1)))), (1007, some (.box 27 (.d (e_api_Tariff r2.2.1)))), (3011, some (we_api_Invoice_45_5 m121)), (100000, some (.box 72 (.d (e_exchangepointmill_Deck r109.2))))] : OL)) hx143 (mp [] _ _ hB) (fun s127 y h => ?_) (fun e E' O' hR => ?_)
                  · unfold exchangepointlaw41_InvoiceBalances_L1 at h
                    refine sr (c (OpJ.lss (L rfl) (q 168) (q 167)) rfl cn) ?_
                    refine gh [(5, _), (6, _), (7, _), (8, _), (11, _), (12, _), (19, _), (20, _), (167, _), (168, _), (169, _)] [(1006, some _), (1007, some _), (1019, some _), (1020, some _), (3011, some _), (100000, some _)] hB rfl rfl (by rfl) ?_
                    refine AWp.seq ?_
                    refine AWp.cond rfl (fun hg138 => ?_) (fun hg138 => ?_)
                    · replace h := ite_t hg138 h
                      refine AWp.skip ?_
                      refine seqQ_n ?_
                      refine AWp.seq ?_
                      refine AWp.block ?_
                      refine sr (c (mv hN (q 168)) rfl (c (OpJ.assign (L rfl) (q 170)) rfl cn)) ?_
                      refine gh [(5, _), (6, _), (7, _), (8, _), (11, _), (12, _), (19, _), (20, _), (24, _), (167, _), (168, _)] [(1006, some _), (1007, some _), (1019, some _), (1020, some _), (3011, some _), (100000, some _)] hB rfl rfl (by rfl) ?_
                      obtain ⟨x139, hx139, h⟩ := bindS h
                      obtain ⟨x140, hx140, h⟩ := bindS h
                      refine sd (c (ov (.ptr 1019 3 [3]) (fp hN Try.underlying45 3 tyS43 _ (q 19))) rfl (c (lb hN 45 _ _ tyS43 (ad _) (q 171)) rfl (c (mv hN (q 24)) rfl (c (OpJ.indexD Try.underlying43 tyS51 (idx_some hx139).1 (get_map e_api_Line (idx_some hx139).2) (L rfl) (q 172) (q 173)) rfl (c (OpJ.loadD tyS51 (by rfl) (by rfl) (L rfl) (q 174)) rfl (c (ov (.ptr 1020 3 [3]) (fp hN Try.underlying45 3 tyS43 _ (q 20))) rfl (c (lb hN 45 _ _ tyS43 (ad _) (q 176)) rfl (c (mv hN (q 24)) rfl (c (OpJ.indexD Try.underlying43 tyS51 (idx_some hx140).1 (get_map e_api_Line (idx_some hx140).2) (L rfl) (q 177) (q 178)) rfl (c (OpJ.loadD tyS51 (by rfl) (by rfl) (L rfl) (q 179)) rfl (c (OpJ.neqD (h := 2) (FitE.st Try.underlying51 rfl held51 (FitF.cons (x := (.int .i64 x139.fPort)) (y := (.int .i64 x140.fPort)) (by decide) rfl tyS3 ⟨rfl, rfl⟩ ⟨rfl, rfl⟩ (FitE.int (h := 0) x139.fPort x140.fPort Try.underlying3) (FitF.cons (x := (.int .i64 x139.fUsed)) (y := (.int .i64 x140.fUsed)) (by decide) rfl tyS3 ⟨rfl, rfl⟩ ⟨rfl, rfl⟩ (FitE.int (h := 0) x139.fUsed x140.fUsed Try.underlying3) (FitF.cons (x := (.int .i64 x139.fAmount)) (y := (.int .i64 x140.fAmount)) (by decide) rfl tyS3 ⟨rfl, rfl⟩ ⟨rfl, rfl⟩ (FitE.int (h := 0) x139.fAmount x140.fAmount Try.underlying3) FitF.nil)))) eqg51 ⟨rfl, rfl⟩ (by rfl) (L rfl) (q 175) (q 180)) rfl cn))))))))))) (by kernel_rfl) (by kernel_rfl) ?_
                      refine gh [(5, _), (6, _), (7, _), (8, _), (11, _), (12, _), (19, _), (20, _), (167, _), (168, _), (181, _)] [(1006, some _), (1007, some _), (1019, some _), (1020, some _), (3011, some _), (100000, some _)] hB rfl rfl (by rfl) ?_
                      refine AWp.cond rfl (fun hg141 => ?_) (fun hg141 => ?_)
                      · replace h := ite_t hg141 h
                        refine sr (c (OpJ.assign (L rfl) (Opd.bool false)) rfl cn) ?_
                        refine gh [(4, _)] [] hB rfl rfl (by rfl) ?_
                        refine AWp.ret ?_
                        refine blkQ_r ?_
                        refine seqQ_r ?_
                        obtain rfl := Option.some.inj h
                        exact ⟨(fun hc => by cases hc), rfl, (mp [] _ _ hB)⟩
                      · replace h := ite_f hg141 h
                        refine AWp.skip ?_
                        refine blkQ_n ?_
                        refine seqQ_n ?_
                        refine rg (c (add6 (L rfl) (q 168) (Opd.int .i64 (1))) rfl (c (mv hN (q 182)) rfl cn)) ?_
                        obtain rfl := Option.some.inj h
                        exact ⟨rfl, (Mat.trans (mp [] [(5, (.ptr 100000 0 [])), (6, (.ptr 1006 0 [])), (7, (.ptr 1007 0 [])), (8, (qe_api_Series_4 (((s12.1.set r104.1.toNat r110.1).drop 0).take s12.1.length))), (11, (.sref 3011 5 0 m121.length)), (12, (i6 s12.2.1)), (19, (.ptr 1019 0 [])), (20, (.ptr 1020 0 [])), (167, (i6 (r123.1.fLines.length : Int))), (168, (i6 (w64 (s127 + (1 : Int)))))] [(1006, some (.box 24 (.d (e_api_Member r2.1)))), (1007, some (.box 27 (.d (e_api_Tariff r2.2.1)))), (1019, some (.box 45 (.d (e_api_Invoice r123.1)))), (1020, some (.box 45 (.d (e_api_Invoice r124.1)))), (3011, some (we_api_Invoice_45_5 m121)), (100000, some (.box 72 (.d (e_exchangepointmill_Deck r109.2))))] hB) (mp [] _ _ hB))⟩
                    · replace h := ite_f hg138 h
                      refine AWp.exit ?_
                      refine seqQ_e ?_
                      obtain rfl := Option.some.inj h
                      exact ⟨(fun hc => by cases hc), rfl, (mp [] _ _ hB)⟩
                  · rcases x142 with _ | _
                    · obtain ⟨rfl, hmat⟩ := hR
                      refine blkQ_r ?_
                      refine blkQ_r ?_
                      refine seqQ_r ?_
                      obtain rfl := Option.some.inj h
                      exact ⟨(fun hc => by cases hc), rfl, (Mat.trans hmat (mp [] _ _ hB))⟩
                    · obtain ⟨rfl, hmat⟩ := hR
                      refine blkQ_hit ?_
                      refine blkQ_n ?_
                      refine seqQ_n ?_
                      refine AWp.ghost hmat ?_
                      refine rg (c (mv hN (q 12)) rfl (c (sub6 (L rfl) (q 53) (Opd.int .i64 (1))) rfl (c (OpJ.assign (L rfl) (q 54)) rfl cn))) ?_
                      obtain rfl := Option.some.inj h
                      exact ⟨rfl, (Mat.trans (mp [] [(5, (.ptr 100000 0 [])), (6, (.ptr 1006 0 [])), (7, (.ptr 1007 0 [])), (8, (qe_api_Series_4 (((s12.1.set r104.1.toNat r110.1).drop 0).take s12.1.length))), (11, (.sref 3011 5 0 m121.length)), (12, (i6 (w64 (s12.2.1 - (1 : Int)))))] [(1006, some (.box 24 (.d (e_api_Member r2.1)))), (1007, some (.box 27 (.d (e_api_Tariff r2.2.1)))), (3011, some (we_api_Invoice_45_5 m121)), (100000, some (.box 72 (.d (e_exchangepointmill_Deck r109.2))))] hB) (mp [] _ _ hB))⟩
              · refine AWp.cond rfl (fun hg144 => ?_) (fun hg144 => ?_)
                · replace h := ite_t hg144 h
                  obtain ⟨hc145, h⟩ := chk_some h
                  refine rg (c (mv hN (q 11)) rfl (c (lb hN 45 _ _ tyS45 (At.here _) (q 17)) rfl (c (OpJ.buildSlice Try.underlying53 tyS45 tyZD45 (by rfl) (by decide) (by decide) (Opds.cons (q 109) Opds.nil) (by kernel_rfl) (es := ([(e_api_Invoice r115.1)] : List D)) (by rfl) (by rfl) (by kernel_rfl) (by simp) (L rfl)) rfl (cg (OpJ.append hB Try.underlying53 tyE45 (nm := 1111) (by decide) (es := s12.2.2.1.map e_api_Invoice) (ys := ([r115.1] : List api_Invoice).map e_api_Invoice) (es' := (s12.2.2.1 ++ ([r115.1] : List api_Invoice)).map e_api_Invoice) (len := (s12.2.2.1 ++ ([r115.1] : List api_Invoice)).length) (by simp) (by simp) (map_sz (f := e_api_Invoice) (fun _ => rfl)) (by rw [List.length_map]; exact lim_mulN hc145 (by decide)) (by rw [List.length_map]; exact lim_leN hc145) (L rfl) (by simp) (q 108) (q 110)) rfl (c (OpJ.assign (L rfl) (q 111)) rfl cn))))) ?_
                  exact hjj122 _ h _ _ (Mat.trans (mp [] [(5, (.ptr 100000 0 [])), (6, (.ptr 1006 0 [])), (7, (.ptr 1007 0 [])), (8, (qe_api_Series_4 (((s12.1.set r104.1.toNat r110.1).drop 0).take s12.1.length))), (11, (.sref 1111 5 0 ((s12.2.2.1 ++ ([r115.1] : List api_Invoice)).length))), (12, (i6 s12.2.1))] [(1006, some (.box 24 (.d (e_api_Member r2.1)))), (1007, some (.box 27 (.d (e_api_Tariff r2.2.1)))), (1111, some (we_api_Invoice_45_5 (s12.2.2.1 ++ ([r115.1] : List api_Invoice)))), (100000, some (.box 72 (.d (e_exchangepointmill_Deck r109.2))))] hB) (mp [(3011, 1111)] _ _ hB))
                · replace h := ite_f hg144 h
                  refine AWp.skip ?_
                  exact hjj122 _ h _ _ (mp [] _ _ hB)
      · replace h := ite_f hg103 h
        refine AWp.exit ?_
        refine seqQ_e ?_
        obtain rfl := Option.some.inj h
        exact ⟨(fun hc => by cases hc), rfl, (mp [] _ _ hB)⟩
    · rcases x146 with p101 | _
      · obtain ⟨rfl, hmat⟩ := hR
        refine blkQ_r ?_
        refine seqQ_r ?_
        obtain rfl := Option.some.inj h
        exact ⟨.inl rfl, _, _, (Mat.trans hmat (mp [] [(4, (bo p101))] [] hB)), [(bo p101)], (Res.tmp (by rfl) (by rfl) Res.nil), rfl, by rfl, by rfl, by rfl⟩
      · obtain ⟨rfl, hmat⟩ := hR
        refine blkQ_hit ?_
        refine seqQ_n ?_
        refine AWp.ghost hmat ?_
        obtain ⟨r148, hr148, h⟩ := bindS h
        refine sr (cg (OpJ.callFn hB fnOk7 (exchangepointlaw41_awake_ac r148 hr148) [] (by kernel_rfl) (L rfl) (by kernel_rfl) OpdL.nil) rfl (c (OpJ.assign (L rfl) (q 183)) rfl cn)) ?_
        refine gh [(4, _)] [] hB rfl rfl (by rfl) ?_
        refine AWp.ret ?_
        obtain rfl := Option.some.inj h
        exact ⟨.inl rfl, _, _, (kp [(4, _)] [] hB rfl rfl (by rfl)), [(bo r148)], (Res.tmp (by rfl) (by rfl) Res.nil), rfl, by rfl, by rfl, by rfl⟩


end Go.Proofs.Ytimcphncaffenaa
